/- Layer 32, plain: the removal of adjacent instructions that undo each other, as a function on lists; an inserted pair does not matter. No program in sight. -/
import Derived.Test.YteonkfdmkgjpaaaImgPure5
namespace Go.Proofs.Yteonkfdmkgjpaaa
set_option linter.unusedVariables false
namespace Pee
open Img
/-- can be removed -/
def rmv (op : Int) : Bool := !(op == 30 || op == 31 || op == 32 || op == 33 || op == 34 || op == 21 || op == 0) && !Isa.isJ op && !Isa.isL op
def cancels (a b : Ins) : Bool := vl a && rmv a.op && decide (inv a = b)
theorem cancels_iff {a b : Ins} : cancels a b = true ↔ vl a = true ∧ rmv a.op = true ∧ inv a = b := by
  unfold cancels
  simp only [Bool.and_eq_true, decide_eq_true_eq, and_assoc]
theorem rmv_inv (op : Int) : rmv (Isa.inv op) = rmv op := by
  rcases Isa.row_range op with ⟨n, rfl⟩ | h
  · revert n; decide
  · rw [Isa.inv_none (by rw [h]; rfl)]
theorem rmv_has {x : Ins} (h : rmv x.op = true) : has x = false := by
  have h2 := h
  unfold rmv at h
  rcases kind x with ⟨a, b, c, d, e, f⟩ | ⟨a, b, c, d, e, f⟩ | ⟨a, b, c, d, e, f⟩ | ⟨a, b, c, d, e, f⟩ | ⟨a, b, c, d, e, f⟩ | ⟨a, b, c, d, e, f⟩
  · rw [a] at h; simp at h
  · rw [b] at h; simp at h
  · unfold isS at c; simp at c; simp [c] at h
  · unfold isE at d; simp at d; simp [d] at h
  · unfold isC at e; simp at e; rcases e with e | e <;> simp [e] at h
  · exact f
theorem pk_rmv {x : Ins} (h : has x = true) : rmv x.op = false := by
  cases hr : rmv x.op with
  | false => rfl
  | true => exact ff (rmv_has hr) h
theorem cancels_has {a b : Ins} (h : has a = true ∨ has b = true) : cancels a b = false := by
  cases hc : cancels a b with
  | false => rfl
  | true =>
    obtain ⟨h1, h2, h3⟩ := cancels_iff.1 hc
    have h4 := rmv_has h2
    have h5 : has b = false := by rw [← h3, has_inv]; exact h4
    rcases h with h | h
    · exact ff h4 h
    · exact ff h5 h
theorem cancels_rmv {a b : Ins} (h : cancels a b = true) : rmv a.op = true ∧ rmv b.op = true := by
  obtain ⟨h1, h2, h3⟩ := cancels_iff.1 h
  exact ⟨h2, by rw [← h3]; unfold inv; rw [rmv_inv]; exact h2⟩

/-- the stack after i instructions, the top first -/
def kr (l : List Ins) : Nat → List Nat
  | 0 => []
  | i + 1 => match kr l i with
    | [] => [i]
    | t :: s => if cancels (at_ l t) (at_ l i) then s else i :: t :: s
theorem kr_nil {l : List Ins} {i : Nat} (h : kr l i = []) : kr l (i + 1) = [i] := by unfold kr; rw [h]
theorem kr_pop {l : List Ins} {i t : Nat} {s : List Nat} (h : kr l i = t :: s) (hc : cancels (at_ l t) (at_ l i) = true) : kr l (i + 1) = s := by unfold kr; rw [h]; simp [hc]
theorem kr_push {l : List Ins} {i t : Nat} {s : List Nat} (h : kr l i = t :: s) (hc : cancels (at_ l t) (at_ l i) = false) : kr l (i + 1) = i :: t :: s := by unfold kr; rw [h]; simp [hc]
/-- no two neighbours cancel -/
def Nf (l : List Ins) : List Nat → Prop
  | [] => True
  | [_] => True
  | t :: u :: s => cancels (at_ l u) (at_ l t) = false ∧ Nf l (u :: s)
theorem Nf.tail {l : List Ins} {t : Nat} {s : List Nat} (h : Nf l (t :: s)) : Nf l s := by
  cases s with
  | nil => trivial
  | cons u s => exact h.2
theorem kr_nf (l : List Ins) : ∀ i, Nf l (kr l i)
  | 0 => trivial
  | i + 1 => by
    have ih := kr_nf l i
    cases h : kr l i with
    | nil => rw [kr_nil h]; trivial
    | cons t s =>
      rw [h] at ih
      cases hc : cancels (at_ l t) (at_ l i) with
      | true => rw [kr_pop h hc]; exact ih.tail
      | false => rw [kr_push h hc]; exact ⟨hc, ih⟩
/-- descending, below a bound -/
def Desc : Nat → List Nat → Prop
  | _, [] => True
  | n, t :: s => t < n ∧ Desc t s
theorem Desc.mono {n m : Nat} (h : n ≤ m) : ∀ {s : List Nat}, Desc n s → Desc m s
  | [], _ => trivial
  | _ :: _, h1 => ⟨Nat.lt_of_lt_of_le h1.1 h, h1.2⟩
theorem kr_desc (l : List Ins) : ∀ i, Desc i (kr l i)
  | 0 => trivial
  | i + 1 => by
    have ih := kr_desc l i
    cases h : kr l i with
    | nil => rw [kr_nil h]; exact ⟨by omega, trivial⟩
    | cons t s =>
      rw [h] at ih
      cases hc : cancels (at_ l t) (at_ l i) with
      | true => rw [kr_pop h hc]; exact ih.2.mono (by have := ih.1; omega)
      | false => rw [kr_push h hc]; exact ⟨by omega, ih⟩
theorem Desc.lt {s : List Nat} : ∀ {n : Nat}, Desc n s → ∀ x ∈ s, x < n := by
  induction s with
  | nil => intro n _ x hx; cases hx
  | cons t s ih =>
    intro n h x hx
    rcases List.mem_cons.1 hx with rfl | hx
    · exact h.1
    · exact Nat.lt_trans (ih h.2 x hx) h.1
theorem Desc.nodup {s : List Nat} : ∀ {n : Nat}, Desc n s → s.Nodup := by
  induction s with
  | nil => intro n _; exact List.nodup_nil
  | cons t s ih =>
    intro n h
    refine List.nodup_cons.2 ⟨fun hm => ?_, ih h.2⟩
    exact absurd (h.2.lt t hm) (Nat.lt_irrefl _)
theorem Desc.len {s : List Nat} : ∀ {n : Nat}, Desc n s → s.length ≤ n := by
  induction s with
  | nil => intro n _; exact Nat.zero_le _
  | cons t s ih =>
    intro n h
    have := ih h.2
    have := h.1
    simp only [List.length_cons]
    omega
/-- what cannot be removed stays -/
theorem kr_stays (l : List Ins) {j : Nat} (hr : rmv (at_ l j).op = false) : ∀ i, j < i → j ∈ kr l i
  | 0, h => by omega
  | i + 1, h => by
    by_cases e : j = i
    · subst e
      cases hk : kr l j with
      | nil => rw [kr_nil hk]; simp
      | cons t s =>
        cases hc : cancels (at_ l t) (at_ l j) with
        | true => exact ff hr (cancels_rmv hc).2
        | false => rw [kr_push hk hc]; simp
    · have ih := kr_stays l hr i (by omega)
      cases hk : kr l i with
      | nil => rw [hk] at ih; cases ih
      | cons t s =>
        rw [hk] at ih
        cases hc : cancels (at_ l t) (at_ l i) with
        | true =>
          rw [kr_pop hk hc]
          rcases List.mem_cons.1 ih with rfl | hm
          · exact ff hr (cancels_rmv hc).1
          · exact hm
        | false => rw [kr_push hk hc]; exact List.mem_cons_of_mem _ ih
def kept (l : List Ins) : List Nat := (kr l l.length).reverse
/-- the new index of an old one: its place among those that stay -/
def posN (K : List Nat) (t : Nat) : Nat := (K.findIdx? (· == t)).getD 0
def posI (K : List Nat) (t : Int) : Int := (posN K t.toNat : Nat)
/-- an instruction with its target sent through f -/
def rt (f : Int → Int) (x : Ins) : Ins := if has x then ret x (f (tg x)) else x
def opt (l : List Ins) : List Ins := (kept l).map fun i => rt (posI (kept l)) (at_ l i)
theorem rt_op (f : Int → Int) (x : Ins) : (rt f x).op = x.op := by unfold rt; split <;> rfl
theorem rt_has (f : Int → Int) (x : Ins) : has (rt f x) = has x := has_op (rt_op f x)
theorem rt_no {f : Int → Int} {x : Ins} (h : has x = false) : rt f x = x := by unfold rt; rw [if_neg (by simp [h])]
theorem rt_yes {f : Int → Int} {x : Ins} (h : has x = true) : rt f x = ret x (f (tg x)) := by unfold rt; rw [if_pos h]
theorem rt_tg {f : Int → Int} {x : Ins} (h : has x = true) : tg (rt f x) = f (tg x) := by rw [rt_yes h, tg_ret _ h]
theorem rt_rt {f g : Int → Int} (x : Ins) : rt f (rt g x) = rt (fun t => f (g t)) x := by
  cases h : has x with
  | false => rw [rt_no h, rt_no h, rt_no h]
  | true => rw [rt_yes (x := rt g x) (by rw [rt_has]; exact h), rt_tg h, rt_yes h, ret_ret, rt_yes h]
theorem rt_congr {f g : Int → Int} {x : Ins} (h : has x = true → f (tg x) = g (tg x)) : rt f x = rt g x := by
  cases hh : has x with
  | false => rw [rt_no hh, rt_no hh]
  | true => rw [rt_yes hh, rt_yes hh, h hh]
theorem rt_id {f : Int → Int} {x : Ins} (h : has x = true → f (tg x) = tg x) : rt f x = x := by
  cases hh : has x with
  | false => rw [rt_no hh]
  | true => rw [rt_yes hh, h hh, ret_tg]
theorem cancels_rt (f g : Int → Int) (a b : Ins) : cancels (rt f a) (rt g b) = cancels a b := by
  cases ha : has a with
  | true => rw [cancels_has (.inl ha), cancels_has (.inl (by rw [rt_has]; exact ha))]
  | false =>
    cases hb : has b with
    | true => rw [cancels_has (.inr hb), cancels_has (.inr (by rw [rt_has]; exact hb))]
    | false => rw [rt_no ha, rt_no hb]

/-- targets behind an insertion of two at k -/
def upI (k : Nat) (t : Int) : Int := if (k : Int) ≤ t then t + 2 else t
def upN (k t : Nat) : Nat := if k ≤ t then t + 2 else t
theorem upI_nat (k t : Nat) : upI k (t : Int) = (upN k t : Int) := by
  unfold upI upN
  by_cases h : k ≤ t
  · rw [if_pos h, if_pos (by omega)]; omega
  · rw [if_neg h, if_neg (by omega)]
theorem upN_inj {k a b : Nat} (h : upN k a = upN k b) : a = b := by unfold upN at h; split at h <;> split at h <;> omega
theorem upN_lt {k a b : Nat} : upN k a < upN k b ↔ a < b := by unfold upN; split <;> split <;> omega
/-- two instructions inserted at k -/
def ins (l : List Ins) (k : Nat) (a b : Ins) : List Ins := (l.take k).map (rt (upI k)) ++ a :: b :: (l.drop k).map (rt (upI k))
theorem ins_length {l : List Ins} {k : Nat} {a b : Ins} (hk : k ≤ l.length) : (ins l k a b).length = l.length + 2 := by
  simp [ins]; omega
theorem ins_at {l : List Ins} {k : Nat} {a b : Ins} (hk : k ≤ l.length) {i : Nat} (hi : i < l.length) : at_ (ins l k a b) (upN k i) = rt (upI k) (at_ l i) := by
  unfold at_ ins upN
  rw [List.getD_eq_getElem?_getD, List.getD_eq_getElem?_getD]
  by_cases h : k ≤ i
  · rw [if_pos h, List.getElem?_append_right (by simp; omega)]
    simp only [List.length_map, List.length_take, Nat.min_eq_left hk]
    rw [show i + 2 - k = (i - k) + 1 + 1 from by omega]
    simp only [List.getElem?_cons_succ, List.getElem?_map, List.getElem?_drop]
    rw [show k + (i - k) = i from by omega, List.getElem?_eq_getElem hi]
    rfl
  · rw [if_neg h, List.getElem?_append_left (by simp; omega)]
    rw [List.getElem?_map, List.getElem?_take_of_lt (by omega), List.getElem?_eq_getElem hi]
    rfl
theorem ins_at0 {l : List Ins} {k : Nat} {a b : Ins} (hk : k ≤ l.length) : at_ (ins l k a b) k = a := by
  unfold at_ ins
  rw [List.getD_eq_getElem?_getD, List.getElem?_append_right (by simp; omega)]
  simp [Nat.min_eq_left hk]
theorem ins_at1 {l : List Ins} {k : Nat} {a b : Ins} (hk : k ≤ l.length) : at_ (ins l k a b) (k + 1) = b := by
  unfold at_ ins
  rw [List.getD_eq_getElem?_getD, List.getElem?_append_right (by simp; omega)]
  simp only [List.length_map, List.length_take, Nat.min_eq_left hk]
  rw [show k + 1 - k = 0 + 1 from by omega]
  rfl
/-- an index is one of the two, or comes from before -/
theorem upN_cases (k i : Nat) : i = k ∨ i = k + 1 ∨ ∃ j, i = upN k j := by
  by_cases h0 : i = k
  · exact .inl h0
  by_cases h1 : i = k + 1
  · exact .inr (.inl h1)
  refine .inr (.inr ?_)
  by_cases h : i < k
  · exact ⟨i, by unfold upN; rw [if_neg (by omega)]⟩
  · exact ⟨i - 2, by unfold upN; rw [if_pos (by omega)]; omega⟩
theorem upN_ne (k j : Nat) : upN k j ≠ k ∧ upN k j ≠ k + 1 := by unfold upN; split <;> omega

/-- stacks that hold the same instructions, those that stay at corresponding places -/
inductive Sim (l : List Ins) (k : Nat) (L : List Ins) : List Nat → List Nat → Prop
  | nil : Sim l k L [] []
  | cons {i j : Nat} {s s' : List Nat} (h : at_ L j = rt (upI k) (at_ l i)) (h2 : rmv (at_ l i).op = false → j = upN k i) (hs : Sim l k L s s') : Sim l k L (i :: s) (j :: s')
theorem kr_before {l : List Ins} {k : Nat} {a b : Ins} (hk : k ≤ l.length) : ∀ i, i ≤ k → kr (ins l k a b) i = kr l i ∧ Sim l k (ins l k a b) (kr l i) (kr l i)
  | 0, _ => ⟨rfl, .nil⟩
  | i + 1, h => by
    obtain ⟨ih, is⟩ := kr_before (a := a) (b := b) hk i (by omega)
    have ui : upN k i = i := by unfold upN; rw [if_neg (by omega)]
    have hi : at_ (ins l k a b) i = rt (upI k) (at_ l i) := by
      have := ins_at (a := a) (b := b) hk (i := i) (by omega)
      rwa [ui] at this
    cases hs : kr l i with
    | nil => rw [hs] at ih; rw [kr_nil ih, kr_nil hs]; exact ⟨rfl, .cons hi (fun _ => ui.symm) .nil⟩
    | cons t s =>
      rw [hs] at ih is
      have ht : t < i := by have := kr_desc l i; rw [hs] at this; exact this.1
      have hc : cancels (at_ (ins l k a b) t) (at_ (ins l k a b) i) = cancels (at_ l t) (at_ l i) := by
        cases is with
        | cons h1 _ _ => rw [h1, hi, cancels_rt]
      cases hcc : cancels (at_ l t) (at_ l i) with
      | true =>
        rw [kr_pop ih (by rw [hc]; exact hcc), kr_pop hs hcc]
        cases is with
        | cons _ _ h3 => exact ⟨rfl, h3⟩
      | false => rw [kr_push ih (by rw [hc]; exact hcc), kr_push hs hcc]; exact ⟨rfl, .cons hi (fun _ => ui.symm) is⟩
/-- behind the pair the stack holds what it held -/
theorem kr_pair {l : List Ins} {k : Nat} {a b : Ins} (hk : k ≤ l.length) (hc : cancels a b = true) : Sim l k (ins l k a b) (kr l k) (kr (ins l k a b) (k + 2)) := by
  obtain ⟨h1, h2⟩ := kr_before (a := a) (b := b) hk k (Nat.le_refl _)
  have e0 := ins_at0 (a := a) (b := b) hk
  have e1 := ins_at1 (a := a) (b := b) hk
  have hn := kr_nf (ins l k a b) k
  obtain ⟨g1, g2, g3⟩ := cancels_iff.1 hc
  cases hs : kr l k with
  | nil =>
    rw [hs] at h1
    rw [kr_pop (kr_nil h1) (by rw [e0, e1]; exact hc)]
    exact .nil
  | cons t s =>
    rw [hs] at h1 h2
    cases hcc : cancels (at_ (ins l k a b) t) a with
    | false =>
      rw [kr_pop (kr_push h1 (by rw [e0]; exact hcc)) (by rw [e0, e1]; exact hc)]
      exact h2
    | true =>
      have h3 := kr_pop h1 (by rw [e0]; exact hcc)
      obtain ⟨f1, f2, f3⟩ := cancels_iff.1 hcc
      have hb : b = at_ (ins l k a b) t := by
        have e := congrArg inv f3
        rw [inv_invI] at e
        exact (e.trans g3).symm
      have h4 : kr (ins l k a b) (k + 2) = (k + 1) :: s := by
        cases s with
        | nil => exact kr_nil h3
        | cons u s =>
          rw [h1] at hn
          have hn1 := hn.1
          rw [← hb] at hn1
          exact kr_push h3 (by rw [e1]; exact hn1)
      rw [h4]
      cases h2 with
      | cons i1 i2 i3 =>
        refine .cons (by rw [e1]; exact hb.trans i1) (fun hr => ?_) i3
        rw [i1, rt_op] at f2
        exact ff hr f2
theorem kr_after {l : List Ins} {k : Nat} {a b : Ins} (hk : k ≤ l.length) (hc : cancels a b = true) : ∀ d, k + d ≤ l.length → Sim l k (ins l k a b) (kr l (k + d)) (kr (ins l k a b) (k + d + 2))
  | 0, _ => kr_pair hk hc
  | d + 1, h => by
    have ih := kr_after (a := a) (b := b) hk hc d (by omega)
    have ui : upN k (k + d) = k + d + 2 := by unfold upN; rw [if_pos (by omega)]
    have hi : at_ (ins l k a b) (k + d + 2) = rt (upI k) (at_ l (k + d)) := by
      have := ins_at (a := a) (b := b) hk (i := k + d) (by omega)
      rwa [ui] at this
    show Sim l k (ins l k a b) (kr l (k + d + 1)) (kr (ins l k a b) (k + d + 2 + 1))
    generalize hS : kr (ins l k a b) (k + d + 2) = S at ih
    cases hs : kr l (k + d) with
    | nil =>
      rw [hs] at ih
      cases ih with
      | nil => rw [kr_nil hs, kr_nil hS]; exact .cons hi (fun _ => ui.symm) .nil
    | cons t s =>
      rw [hs] at ih
      cases ih with
      | cons h1 h2 h3 =>
        rename_i j s'
        have hcc : cancels (at_ (ins l k a b) j) (at_ (ins l k a b) (k + d + 2)) = cancels (at_ l t) (at_ l (k + d)) := by rw [h1, hi, cancels_rt]
        cases hx : cancels (at_ l t) (at_ l (k + d)) with
        | true => rw [kr_pop hs hx, kr_pop hS (by rw [hcc]; exact hx)]; exact h3
        | false => rw [kr_push hs hx, kr_push hS (by rw [hcc]; exact hx)]; exact .cons hi (fun _ => ui.symm) (.cons h1 h2 h3)
theorem kr_sim {l : List Ins} {k : Nat} {a b : Ins} (hk : k ≤ l.length) (hc : cancels a b = true) : Sim l k (ins l k a b) (kr l l.length) (kr (ins l k a b) (ins l k a b).length) := by
  have := kr_after (a := a) (b := b) hk hc (l.length - k) (by omega)
  rw [ins_length hk]
  rwa [show k + (l.length - k) = l.length from by omega] at this
theorem Sim.length {l L : List Ins} {k : Nat} {s s' : List Nat} (h : Sim l k L s s') : s.length = s'.length := by
  induction h with
  | nil => rfl
  | cons _ _ _ ih => simp [ih]
theorem Sim.get {l L : List Ins} {k : Nat} {s s' : List Nat} (h : Sim l k L s s') : ∀ q (h1 : q < s.length) (h2 : q < s'.length), at_ L s'[q] = rt (upI k) (at_ l s[q]) ∧ (rmv (at_ l s[q]).op = false → s'[q] = upN k s[q]) := by
  induction h with
  | nil => intro q h1; simp at h1
  | cons h1 h2 hs ih =>
    intro q g1 g2
    cases q with
    | zero => exact ⟨h1, h2⟩
    | succ q => simp only [List.getElem_cons_succ]; exact ih q _ _
/-- the targets of a list: indices of what stays -/
def Tg (l : List Ins) : Prop := ∀ i, i < l.length → has (at_ l i) = true → ∃ t : Nat, tg (at_ l i) = (t : Int) ∧ t < l.length ∧ has (at_ l t) = true
theorem Tg.of {l : List Ins} (h : Ok l) : Tg l := fun i hi hh => by
  cases hc : isC (at_ l i) with
  | true =>
    obtain ⟨s, e, h1, h2, h3⟩ := h.call hi hc
    exact ⟨s, h1, partner_lt1 h3, (PP.mk' h3).hx⟩
  | false =>
    obtain ⟨p, hp⟩ := (h.fine hi).pair (by rw [pk_iff, hh, hc]; rfl)
    have hq := PP.mk' hp
    exact ⟨p, hq.tx, hq.hj, hq.hy⟩
theorem posN_get {K : List Nat} (hn : K.Nodup) {q : Nat} (hq : q < K.length) : posN K K[q] = q := by
  unfold posN
  have : K.findIdx? (· == K[q]) = some q := by
    rw [List.findIdx?_eq_some_iff_getElem]
    refine ⟨hq, by simp, fun j hj => ?_⟩
    have hjl : j < K.length := by omega
    have := (List.pairwise_iff_getElem.1 hn) j q hjl hq hj
    simpa using this
  rw [this]; rfl
theorem kept_nodup (l : List Ins) : (kept l).Nodup := by
  unfold kept
  exact List.pairwise_reverse.2 ((kr_desc l l.length).nodup.imp Ne.symm)
theorem kept_lt {l : List Ins} {i : Nat} (h : i ∈ kept l) : i < l.length := by
  unfold kept at h
  exact (kr_desc l l.length).lt i (List.mem_reverse.1 h)
theorem kept_stays {l : List Ins} {i : Nat} (hi : i < l.length) (h : rmv (at_ l i).op = false) : i ∈ kept l := by
  unfold kept
  exact List.mem_reverse.2 (kr_stays l h _ hi)
/-- a pair that cancels does not matter -/
theorem opt_ins {l : List Ins} {k : Nat} {a b : Ins} (hk : k ≤ l.length) (hT : Tg l) (hc : cancels a b = true) : opt (ins l k a b) = opt l ∧ (kept (ins l k a b)).length = (kept l).length := by
  have hS := kr_sim hk hc
  have hlen : (kept (ins l k a b)).length = (kept l).length := by
    unfold kept
    rw [List.length_reverse, List.length_reverse, hS.length]
  have hget : ∀ q (h1 : q < (kept l).length) (h2 : q < (kept (ins l k a b)).length), at_ (ins l k a b) (kept (ins l k a b))[q] = rt (upI k) (at_ l (kept l)[q]) ∧ (rmv (at_ l (kept l)[q]).op = false → (kept (ins l k a b))[q] = upN k (kept l)[q]) := by
    intro q h1 h2
    unfold kept at h1 h2 ⊢
    simp only [List.length_reverse] at h1 h2
    simp only [List.getElem_reverse, ← hS.length]
    exact hS.get _ _ _
  refine ⟨?_, hlen⟩
  unfold opt
  apply List.ext_getElem (by simp [hlen])
  intro q h1 h2
  simp only [List.length_map] at h1 h2
  simp only [List.getElem_map]
  rw [(hget q h2 h1).1, rt_rt]
  refine rt_congr fun hh => ?_
  obtain ⟨t, e1, e2, e3⟩ := hT _ (kept_lt (List.getElem_mem h2)) hh
  have hr := pk_rmv e3
  obtain ⟨p, hp, ep⟩ := List.getElem_of_mem (kept_stays e2 hr)
  have g := (hget p hp (by rw [hlen]; exact hp)).2 (by rw [ep]; exact hr)
  rw [ep] at g
  rw [e1, upI_nat]
  unfold posI
  rw [Int.toNat_natCast, Int.toNat_natCast, ← g, posN_get (kept_nodup _) (by rw [hlen]; exact hp)]
  have := posN_get (kept_nodup l) hp
  rw [ep] at this
  rw [this]
/-- no neighbours cancel -/
def Irr (l : List Ins) : Prop := ∀ j, j + 1 < l.length → cancels (at_ l j) (at_ l (j + 1)) = false
theorem kr_irr {l : List Ins} (h : Irr l) : ∀ i, i ≤ l.length → kr l i = (List.range i).reverse
  | 0, _ => rfl
  | i + 1, hi => by
    have ih := kr_irr h i (by omega)
    cases i with
    | zero => exact kr_nil ih
    | succ i =>
      rw [List.range_succ, List.reverse_append] at ih
      rw [kr_push (t := i) (s := (List.range i).reverse) (by simpa using ih) (h i (by omega)), List.range_succ, List.range_succ]
      simp
theorem kept_irr {l : List Ins} (h : Irr l) : kept l = List.range l.length := by
  unfold kept
  rw [kr_irr h _ (Nat.le_refl _), List.reverse_reverse]
theorem posN_range {n t : Nat} (h : t < n) : posN (List.range n) t = t := by
  have := posN_get (K := List.range n) List.nodup_range (q := t) (by simpa using h)
  simpa using this
/-- what has no neighbours that cancel stays as it is -/
theorem opt_irr {l : List Ins} (h : Irr l) (hT : Tg l) : opt l = l := by
  unfold opt
  rw [kept_irr h]
  apply ext_at (by simp)
  intro i hi
  simp at hi
  have e : at_ (List.map (fun i => rt (posI (List.range l.length)) (at_ l i)) (List.range l.length)) i = rt (posI (List.range l.length)) (at_ l i) := by
    conv => lhs; unfold at_
    rw [List.getD_eq_getElem?_getD, List.getElem?_map, List.getElem?_range hi]
    rfl
  rw [e]
  refine rt_id fun hh => ?_
  obtain ⟨t, e1, e2, e3⟩ := hT i hi hh
  rw [e1]
  unfold posI
  rw [Int.toNat_natCast, posN_range e2]
end Pee
end Go.Proofs.Yteonkfdmkgjpaaa
