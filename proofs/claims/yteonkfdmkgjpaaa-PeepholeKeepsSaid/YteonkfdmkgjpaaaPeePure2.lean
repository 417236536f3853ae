/- Layer 32, plain: a pair inserted into a valid image leaves it valid; the optimized image is valid, without neighbours that cancel, and commutes with inversion. No program in sight. -/
import Derived.Test.YteonkfdmkgjpaaaPeePure
namespace Go.Proofs.Yteonkfdmkgjpaaa
set_option linter.unusedVariables false
namespace Pee
open Img
theorem rt_vl {f : Int → Int} {x : Ins} (hv : vl x = true) (h : has x = true → 0 ≤ f (tg x) ∧ f (tg x) < 65536) : vl (rt f x) = true := by
  cases hh : has x with
  | false => rw [rt_no hh]; exact hv
  | true => rw [rt_yes hh]; exact vl_ret hv (h hh).1 (h hh).2
theorem vl_rt {f : Int → Int} {x : Ins} (hv : vl (rt f x) = true) (h : has x = true → 0 ≤ tg x ∧ tg x < 65536) : vl x = true := by
  cases hh : has x with
  | false => rw [rt_no hh] at hv; exact hv
  | true =>
    rw [rt_yes hh] at hv
    have := vl_ret hv (h hh).1 (h hh).2
    rwa [ret_ret, ret_tg] at this
theorem rt_kinds (f : Int → Int) (x : Ins) : isC (rt f x) = isC x ∧ isS (rt f x) = isS x ∧ isE (rt f x) = isE x ∧ pk (rt f x) = pk x ∧ jl (rt f x) = jl x := by
  unfold isC isS isE pk jl
  unfold isS isE
  rw [rt_op]
  exact ⟨rfl, rfl, rfl, rfl, rfl⟩
theorem upI_eq {k p : Nat} {t : Int} (h : upI k t = (upN k p : Int)) : t = (p : Int) := by unfold upI upN at h; split at h <;> split at h <;> omega
theorem upN_bd {k n i : Nat} (h : i < n) : upN k i < n + 2 := by unfold upN; split <;> omega
theorem upN_bd' {k n i : Nat} (hk : k ≤ n) (h : upN k i < n + 2) : i < n := by unfold upN at h; split at h <;> omega
theorem kinds_ops {i t i' t' : Nat} {x y x' y' : Ins} (h1 : x'.op = x.op) (h2 : y'.op = y.op) (h : t' < i' ↔ t < i) : kinds i' t' x' y' = kinds i t x y := by
  unfold kinds isS isE
  rw [h1, h2]
  by_cases hlt : t < i
  · rw [if_pos hlt, if_pos (h.2 hlt)]
  · rw [if_neg hlt, if_neg (fun hh => hlt (h.1 hh))]
section
variable {l : List Ins} {k : Nat} {a b : Ins}
theorem pp_ins (hk : k ≤ l.length) (hn : l.length + 2 ≤ 65536) {i p : Nat} (h : PP l i p) : PP (ins l k a b) (upN k i) (upN k p) := by
  have h1 := h.hi
  have h2 := h.hj
  have e1 := ins_at (a := a) (b := b) hk h1
  have e2 := ins_at (a := a) (b := b) hk h2
  have b1 := upN_bd (k := k) h1
  have b2 := upN_bd (k := k) h2
  refine ⟨by rw [ins_length hk]; exact b1, by rw [ins_length hk]; exact b2, fun e => h.ne (upN_inj e), ?_, ?_, ?_, ?_, ?_, ?_, ?_⟩ <;> (try rw [e1]) <;> (try rw [e2])
  · rw [rt_has]; exact h.hx
  · rw [rt_tg h.hx, h.tx, upI_nat]
  · rw [rt_has]; exact h.hy
  · rw [rt_tg h.hy, h.ty, upI_nat]
  · exact rt_vl h.vx fun _ => by rw [h.tx, upI_nat]; omega
  · exact rt_vl h.vy fun _ => by rw [h.ty, upI_nat]; omega
  · rw [kinds_ops (rt_op _ _) (rt_op _ _) upN_lt]; exact h.kk
/-- an index of an instruction that has a target is none of the two -/
theorem idx_ins (hk : k ≤ l.length) (ha : has a = false) (hb : has b = false) {i' : Nat} (hi : i' < (ins l k a b).length) (hh : has (at_ (ins l k a b) i') = true) : ∃ i, i' = upN k i ∧ i < l.length := by
  rw [ins_length hk] at hi
  rcases upN_cases k i' with e | e | ⟨j, e⟩
  · rw [e, ins_at0 hk] at hh; exact ff ha hh
  · rw [e, ins_at1 hk] at hh; exact ff hb hh
  · rw [e] at hi; exact ⟨j, e, upN_bd' hk hi⟩
theorem pp_of_ins (hk : k ≤ l.length) (hn : l.length ≤ 65536) (ha : has a = false) (hb : has b = false) {i' p' : Nat} (h : PP (ins l k a b) i' p') : ∃ i p, i' = upN k i ∧ p' = upN k p ∧ PP l i p := by
  obtain ⟨i, rfl, hi⟩ := idx_ins hk ha hb h.hi h.hx
  obtain ⟨p, rfl, hp⟩ := idx_ins hk ha hb h.hj h.hy
  have e1 := ins_at (a := a) (b := b) hk hi
  have e2 := ins_at (a := a) (b := b) hk hp
  obtain ⟨a1, a2, a3, a4, a5, a6, a7, a8, a9, a10⟩ := h
  rw [e1] at a4 a5 a8 a10
  rw [e2] at a6 a7 a9 a10
  rw [rt_has] at a4 a6
  rw [rt_tg a4] at a5
  rw [rt_tg a6] at a7
  have t1 := upI_eq a5
  have t2 := upI_eq a7
  refine ⟨i, p, rfl, rfl, hi, hp, fun e => a3 (by rw [e]), a4, t1, a6, t2, vl_rt a8 fun _ => by omega, vl_rt a9 fun _ => by omega, ?_⟩
  rw [kinds_ops (rt_op _ _) (rt_op _ _) upN_lt] at a10
  exact a10
theorem partner_ins (hk : k ≤ l.length) (hn : l.length + 2 ≤ 65536) (ha : has a = false) (hb : has b = false) {i : Nat} : partner (ins l k a b) (upN k i) = (partner l i).map (upN k) := by
  cases hp : partner l i with
  | some p => exact (pp_ins hk hn (PP.mk' hp)).is
  | none =>
    cases hq : partner (ins l k a b) (upN k i) with
    | none => rfl
    | some q =>
      obtain ⟨i2, p, e1, e2, h⟩ := pp_of_ins hk (by omega) ha hb (PP.mk' hq)
      rw [← upN_inj e1] at h
      have := h.is
      rw [hp] at this
      cases this
theorem covers_ins (hk : k ≤ l.length) (hn : l.length + 2 ≤ 65536) (ha : has a = false) (hb : has b = false) {s' m : Nat} : covers (ins l k a b) s' (upN k m) = true ↔ ∃ s, s' = upN k s ∧ covers l s m = true := by
  constructor
  · intro h
    obtain ⟨h1, e', h2, h3, h4⟩ := covers_if.1 h
    obtain ⟨s, e, rfl, rfl, hq⟩ := pp_of_ins hk (by omega) ha hb (PP.mk' h2)
    rw [ins_at hk hq.hi, (rt_kinds _ _).2.1] at h1
    refine ⟨s, rfl, covers_if.2 ⟨h1, e, hq.is, ?_, ?_⟩⟩
    · have : ¬ upN k m < upN k s := by omega
      rw [upN_lt] at this; omega
    · have : ¬ upN k e < upN k m := by omega
      rw [upN_lt] at this; omega
  · rintro ⟨s, rfl, h⟩
    obtain ⟨h1, e, h2, h3, h4⟩ := covers_if.1 h
    have hq := PP.mk' h2
    refine covers_if.2 ⟨by rw [ins_at hk hq.hi, (rt_kinds _ _).2.1]; exact h1, upN k e, (pp_ins hk hn hq).is, ?_, ?_⟩
    · have : ¬ upN k m < upN k s := by rw [upN_lt]; omega
      omega
    · have : ¬ upN k e < upN k m := by rw [upN_lt]; omega
      omega
/-- a pair inserted leaves the image valid -/
theorem ok_ins (h : Ok l) (hk : k ≤ l.length) (hn : l.length + 2 ≤ 65536) (ha : has a = false) (hb : has b = false) (va : vl a = true) (vb : vl b = true) : Ok (ins l k a b) := by
  refine Ok.mk' (by rw [ins_length hk]; exact hn) fun i' hi' => ?_
  have plain : ∀ {i'}, at_ (ins l k a b) i' = a ∨ at_ (ins l k a b) i' = b → Fine (ins l k a b) i' := by
    intro i' e
    have hv : vl (at_ (ins l k a b) i') = true := by rcases e with e | e <;> rw [e] <;> assumption
    have hh : has (at_ (ins l k a b) i') = false := by rcases e with e | e <;> rw [e] <;> assumption
    have hp : pk (at_ (ins l k a b) i') = false := by rw [pk_iff, hh]; rfl
    have hp2 := hp
    unfold pk at hp
    simp only [Bool.or_eq_false_iff] at hp
    obtain ⟨⟨⟨p1, p2⟩, p3⟩, p4⟩ := hp
    exact ⟨hv, fun hc => ff hh (isC_has' hc), fun hk => ff hp2 hk, fun hs => ff p3 hs, fun hj => ff (by unfold jl; rw [p1, p2]; rfl) hj⟩
  rw [ins_length hk] at hi'
  rcases upN_cases k i' with e | e | ⟨i, e⟩
  · exact plain (.inl (by rw [e, ins_at0 hk]))
  · exact plain (.inr (by rw [e, ins_at1 hk]))
  · subst e
    have hi := upN_bd' hk hi'
    have hF := h.fine hi
    have e := ins_at (a := a) (b := b) hk hi
    obtain ⟨k1, k2, k3, k4, k5⟩ := rt_kinds (upI k) (at_ l i)
    constructor
    · rw [e]
      refine rt_vl hF.v fun hh => ?_
      obtain ⟨t, t1, t2, -⟩ := Tg.of h i hi hh
      rw [t1, upI_nat]
      have := upN_bd (k := k) t2
      omega
    · rw [e, k1]
      intro hc
      obtain ⟨s, q, h1, h2, h3⟩ := h.call hi hc
      refine startAt_iff.2 ⟨upN k s, upN k q, by rw [rt_tg (isC_has' hc), h1, upI_nat], by rw [ins_at hk (partner_lt1 h3), (rt_kinds _ _).2.1]; exact h2, (pp_ins hk hn (PP.mk' h3)).is⟩
    · rw [e, k4]
      intro hp
      obtain ⟨p, hp⟩ := hF.pair hp
      exact ⟨_, (pp_ins hk hn (PP.mk' hp)).is⟩
    · rw [e, k2]
      intro hS
      cases hx : nested (ins l k a b) (upN k i) with
      | false => rfl
      | true =>
        obtain ⟨s', h1, h2⟩ := nested_if.1 hx
        obtain ⟨s, rfl, h3⟩ := (covers_ins hk hn ha hb).1 h2
        exact ff (hF.start hS) (nested_if.2 ⟨s, upN_lt.1 h1, h3⟩)
    · rw [e, k5, partner_ins hk hn ha hb]
      intro hj p' hp'
      cases hp : partner l i with
      | none => rw [hp] at hp'; cases hp'
      | some p =>
        rw [hp] at hp'
        have e2 : upN k p = p' := by simpa using hp'
        subst e2
        have hr := h.region_covers.1 (hF.reg hj p hp)
        unfold region
        refine regU_congr fun s _ => ?_
        rw [Bool.eq_iff_iff, covers_ins hk hn ha hb, covers_ins hk hn ha hb]
        exact ⟨fun ⟨t, h1, h2⟩ => ⟨t, h1, by rw [← hr t]; exact h2⟩, fun ⟨t, h1, h2⟩ => ⟨t, h1, by rw [hr t]; exact h2⟩⟩
/-- a pair taken away leaves the image valid -/
theorem ok_of_ins (h : Ok (ins l k a b)) (hk : k ≤ l.length) (ha : has a = false) (hb : has b = false) : Ok l := by
  have hn : l.length + 2 ≤ 65536 := by have := h.n; rwa [ins_length hk] at this
  refine Ok.mk' (by omega) fun i hi => ?_
  have hl : upN k i < (ins l k a b).length := by rw [ins_length hk]; exact upN_bd hi
  have hF := h.fine hl
  have e := ins_at (a := a) (b := b) hk hi
  obtain ⟨k1, k2, k3, k4, k5⟩ := rt_kinds (upI k) (at_ l i)
  have htg : has (at_ l i) = true → ∃ t : Nat, tg (at_ l i) = (t : Int) ∧ t < l.length := by
    intro hh
    obtain ⟨t', t1, t2, t3⟩ := Tg.of h (upN k i) hl (by rw [e, rt_has]; exact hh)
    obtain ⟨t, rfl, t4⟩ := idx_ins hk ha hb t2 t3
    rw [e, rt_tg hh] at t1
    exact ⟨t, upI_eq t1, t4⟩
  have v := hF.v
  have call := hF.call
  have pair := hF.pair
  have start := hF.start
  have reg := hF.reg
  rw [e] at v call pair start reg
  rw [k1] at call
  rw [k4] at pair
  rw [k2] at start
  rw [k5] at reg
  constructor
  · refine vl_rt v fun hh => ?_
    obtain ⟨t, t1, t2⟩ := htg hh
    omega
  · intro hc
    obtain ⟨s', q', h1, h2, h3⟩ := startAt_iff.1 (call hc)
    obtain ⟨s, q, rfl, rfl, hq⟩ := pp_of_ins hk (by omega) ha hb (PP.mk' h3)
    rw [rt_tg (isC_has' hc)] at h1
    rw [ins_at hk hq.hi, (rt_kinds _ _).2.1] at h2
    exact startAt_iff.2 ⟨s, q, upI_eq h1, h2, hq.is⟩
  · intro hp
    obtain ⟨p', hp'⟩ := pair hp
    obtain ⟨i2, p, e1, e2, hq⟩ := pp_of_ins hk (by omega) ha hb (PP.mk' hp')
    rw [upN_inj e1]
    exact ⟨p, hq.is⟩
  · intro hS
    cases hx : nested l i with
    | false => rfl
    | true =>
      obtain ⟨s, h1, h2⟩ := nested_if.1 hx
      exact ff (start hS) (nested_if.2 ⟨upN k s, upN_lt.2 h1, (covers_ins hk hn ha hb).2 ⟨s, rfl, h2⟩⟩)
  · intro hj p hp
    have hq := PP.mk' hp
    have hr := h.region_covers.1 (reg hj (upN k p) (pp_ins hk hn hq).is)
    unfold region
    refine regU_congr fun s _ => ?_
    have := hr (upN k s)
    rw [Bool.eq_iff_iff, covers_ins hk hn ha hb, covers_ins hk hn ha hb] at this
    rw [Bool.eq_iff_iff]
    constructor
    · intro hc
      obtain ⟨s2, e1, h2⟩ := this.1 ⟨s, rfl, hc⟩
      rw [upN_inj e1]; exact h2
    · intro hc
      obtain ⟨s2, e1, h2⟩ := this.2 ⟨s, rfl, hc⟩
      rw [upN_inj e1]; exact h2
end
/-- targets behind a removal of two at k -/
def dnI (k : Nat) (t : Int) : Int := if (k : Int) < t then t - 2 else t
def rm (l : List Ins) (k : Nat) : List Ins := (l.take k ++ l.drop (k + 2)).map (rt (dnI k))
theorem rm_length {l : List Ins} {k : Nat} (h : k + 1 < l.length) : (rm l k).length = l.length - 2 := by simp [rm]; omega
theorem rm_at {l : List Ins} {k i : Nat} (h : k + 1 < l.length) (hi : i < l.length - 2) : at_ (rm l k) i = rt (dnI k) (at_ l (upN k i)) := by
  unfold at_ rm upN
  rw [List.getD_eq_getElem?_getD, List.getD_eq_getElem?_getD, List.getElem?_map]
  by_cases hlt : k ≤ i
  · rw [if_pos hlt, List.getElem?_append_right (by simp; omega)]
    simp only [List.length_take, Nat.min_eq_left (show k ≤ l.length by omega), List.getElem?_drop]
    rw [show k + 2 + (i - k) = i + 2 from by omega, List.getElem?_eq_getElem (by omega)]
    rfl
  · rw [if_neg hlt, List.getElem?_append_left (by simp; omega), List.getElem?_take_of_lt (by omega), List.getElem?_eq_getElem (by omega)]
    rfl
theorem ins_rm {l : List Ins} (h : Ok l) {k : Nat} (hk : k + 1 < l.length) (hc : cancels (at_ l k) (at_ l (k + 1)) = true) : ins (rm l k) k (at_ l k) (at_ l (k + 1)) = l ∧ Ok (rm l k) := by
  have hr := cancels_rmv hc
  have hkl : k ≤ (rm l k).length := by rw [rm_length hk]; omega
  have he : ins (rm l k) k (at_ l k) (at_ l (k + 1)) = l := by
    apply ext_at (by rw [ins_length hkl, rm_length hk]; omega)
    intro i' hi'
    rw [ins_length hkl, rm_length hk] at hi'
    rcases upN_cases k i' with e | e | ⟨i, e⟩
    · rw [e, ins_at0 hkl]
    · rw [e, ins_at1 hkl]
    · subst e
      have hi := upN_bd' (n := l.length - 2) (by omega) hi'
      rw [ins_at hkl (by rw [rm_length hk]; exact hi), rm_at hk hi, rt_rt]
      refine rt_id fun hh => ?_
      obtain ⟨t, t1, t2, t3⟩ := Tg.of h _ (by omega) hh
      have n1 : t ≠ k := fun e => ff (rmv_has hr.1) (e ▸ t3)
      have n2 : t ≠ k + 1 := fun e => ff (rmv_has hr.2) (e ▸ t3)
      rw [t1]
      unfold upI dnI
      by_cases g : k < t
      · rw [if_pos (show (k : Int) < (t : Int) by omega), if_pos (by omega)]; omega
      · rw [if_neg (show ¬ (k : Int) < (t : Int) by omega), if_neg (by omega)]
  refine ⟨he, ?_⟩
  have h' := h
  rw [← he] at h'
  exact ok_of_ins h' hkl (rmv_has hr.1) (rmv_has hr.2)
theorem opt_rm {l : List Ins} (h : Ok l) {k : Nat} (hk : k + 1 < l.length) (hc : cancels (at_ l k) (at_ l (k + 1)) = true) : opt (rm l k) = opt l := by
  obtain ⟨he, ho⟩ := ins_rm h hk hc
  have := (opt_ins (k := k) (by rw [rm_length hk]; omega) (Tg.of ho) hc).1
  rw [he] at this
  exact this.symm
/-- a valid image has no neighbours that cancel, or comes from a shorter one -/
theorem ok_ind {P : List Ins → Prop} (base : ∀ l, Ok l → Irr l → P l) (step : ∀ l k a b, Ok l → k ≤ l.length → l.length + 2 ≤ 65536 → cancels a b = true → Ok (ins l k a b) → P l → P (ins l k a b)) : ∀ n l, l.length ≤ n → Ok l → P l
  | 0, l, hn, h => base l h fun j hj => by omega
  | n + 1, l, hn, h => by
    by_cases hi : Irr l
    · exact base l h hi
    · have : ∃ j, j + 1 < l.length ∧ cancels (at_ l j) (at_ l (j + 1)) = true := by
        refine Classical.byContradiction fun hc => hi fun j hj => ?_
        cases hx : cancels (at_ l j) (at_ l (j + 1)) with
        | false => rfl
        | true => exact absurd ⟨j, hj, hx⟩ hc
      obtain ⟨j, hj, hc⟩ := this
      obtain ⟨he, ho⟩ := ins_rm h hj hc
      have hl := rm_length hj
      have := h.n
      have h2 := step (rm l j) j _ _ ho (by omega) (by omega) hc (by rw [he]; exact h) (ok_ind base step n (rm l j) (by omega) ho)
      rwa [he] at h2
theorem Ok.ind {P : List Ins → Prop} (base : ∀ l, Ok l → Irr l → P l) (step : ∀ l k a b, Ok l → k ≤ l.length → l.length + 2 ≤ 65536 → cancels a b = true → Ok (ins l k a b) → P l → P (ins l k a b)) {l : List Ins} (h : Ok l) : P l :=
  ok_ind base step l.length l (Nat.le_refl _) h
theorem opt_ok {l : List Ins} (h : Ok l) : Ok (opt l) ∧ Irr (opt l) := by
  refine Ok.ind (P := fun l => Ok (opt l) ∧ Irr (opt l)) (fun l h hi => ?_) (fun l k a b h hk hn hc ho ih => ?_) h
  · rw [opt_irr hi (Tg.of h)]; exact ⟨h, hi⟩
  · rw [(opt_ins hk (Tg.of h) hc).1]; exact ih
theorem opt_length (l : List Ins) : (opt l).length = (kept l).length := by simp [opt]
theorem opt_le (l : List Ins) : (opt l).length ≤ l.length := by
  rw [opt_length]
  unfold kept
  rw [List.length_reverse]
  exact (kr_desc l l.length).len
theorem opt_opt {l : List Ins} (h : Ok l) : opt (opt l) = opt l := by
  obtain ⟨h1, h2⟩ := opt_ok h
  exact opt_irr h2 (Tg.of h1)
theorem invert_ins {l : List Ins} {k : Nat} {a b : Ins} (h : Ok l) (hk : k ≤ l.length) (hn : l.length + 2 ≤ 65536) (ha : has a = false) (hb : has b = false) : invert (ins l k a b) = ins (invert l) (l.length - k) (inv b) (inv a) := by
  have hk' : l.length - k ≤ (invert l).length := by rw [inv_length]; omega
  apply ext_at (by rw [inv_length, ins_length hk, ins_length hk', inv_length])
  intro j' hj'
  rw [inv_length, ins_length hk] at hj'
  rw [inv_at _ (by rw [ins_length hk]; exact hj'), ins_length hk]
  rcases upN_cases (l.length - k) j' with e | e | ⟨j, e⟩
  · rw [e, ins_at0 hk', show l.length + 2 - 1 - (l.length - k) = k + 1 from by omega, invAt_no (by rw [ins_at1 hk]; exact hb), ins_at1 hk]
  · rw [e, ins_at1 hk', show l.length + 2 - 1 - (l.length - k + 1) = k from by omega, invAt_no (by rw [ins_at0 hk]; exact ha), ins_at0 hk]
  · subst e
    have hj := upN_bd' (k := l.length - k) (n := l.length) (by omega) hj'
    have hm : ∀ p, p < l.length → l.length + 2 - 1 - upN (l.length - k) p = upN k (l.length - 1 - p) := by
      intro p hp
      unfold upN; split <;> split <;> omega
    rw [hm j hj, ins_at hk' (by rw [inv_length]; exact hj), inv_at _ hj]
    have hi : l.length - 1 - j < l.length := by omega
    generalize l.length - 1 - j = i at hi
    have e := ins_at (a := a) (b := b) hk hi
    cases hh : has (at_ l i) with
    | false => rw [invAt_no (by rw [e, rt_has]; exact hh), invAt_no hh, e, rt_no hh, rt_no (by rw [has_inv]; exact hh)]
    | true =>
      have hmt : Img.mt (ins l k a b) (upN k i) = upI (l.length - k) (Img.mt l i) := by
        unfold Img.mt
        rw [e, (rt_kinds _ _).1, rt_tg hh, ins_length hk]
        have hup : ∀ p : Nat, p < l.length → ((l.length : Int) + 2 - 1 - (upN k p : Int)) = upI (l.length - k) ((l.length : Int) - 1 - p) := by
          intro p hp
          unfold upI upN
          by_cases g : k ≤ p
          · rw [if_pos g, if_neg (by omega)]; omega
          · rw [if_neg g, if_pos (by omega)]; omega
        cases hc : isC (at_ l i) with
        | true =>
          obtain ⟨s, q, h1, h2, h3⟩ := h.call hi hc
          rw [if_pos rfl, if_pos rfl, h1, upI_nat, Int.toNat_natCast, Int.toNat_natCast, partner_ins hk hn ha hb, h3]
          have := hup q (PP.mk' h3).hj
          simpa [num] using this
        | false =>
          obtain ⟨p, hp⟩ := (h.fine hi).pair (by rw [pk_iff, hh, hc]; rfl)
          have hq := PP.mk' hp
          have := hup p hq.hj
          rw [if_neg (by simp), if_neg (by simp), hq.tx, upI_nat]
          simpa using this
      rw [invAt_yes (by rw [e, rt_has]; exact hh), invAt_yes hh, hmt, e, rt_yes hh, inv_ret, ret_ret, rt_yes (by rw [has_op (ret_op _ _), has_inv]; exact hh), tg_ret _ (by rw [has_inv]; exact hh), ret_ret]
theorem cancels_flip {a b : Ins} (h : cancels a b = true) : cancels (inv b) (inv a) = true := by
  obtain ⟨h1, h2, h3⟩ := cancels_iff.1 h
  subst h3
  rw [inv_invI]
  exact h
theorem irr_mirror {l : List Ins} (h : Ok l) (hi : Irr l) : Irr (invert l) := by
  intro j hj
  rw [inv_length] at hj
  rw [inv_at _ (by omega), inv_at _ (by omega)]
  cases hc : cancels (invAt l (l.length - 1 - j)) (invAt l (l.length - 1 - (j + 1))) with
  | false => rfl
  | true =>
    have hr := cancels_rmv hc
    have h1 := rmv_has hr.1
    have h2 := rmv_has hr.2
    rw [(invAt_kinds _ _).1] at h1 h2
    rw [invAt_no h1, invAt_no h2] at hc
    have := cancels_flip hc
    rw [inv_invI, inv_invI] at this
    have h3 := hi (l.length - 1 - (j + 1)) (by omega)
    rw [show l.length - 1 - (j + 1) + 1 = l.length - 1 - j from by omega] at h3
    rw [h3] at this
    cases this
/-- to optimize the inverse is to invert the optimized image -/
theorem opt_mirror {l : List Ins} (h : Ok l) : opt (invert l) = invert (opt l) := by
  refine Ok.ind (P := fun l => opt (invert l) = invert (opt l)) (fun l h hi => ?_) (fun l k a b h hk hn hc ho ih => ?_) h
  · rw [opt_irr hi (Tg.of h), opt_irr (irr_mirror h hi) (Tg.of h.mirror)]
  · have hr := cancels_rmv hc
    rw [invert_ins h hk hn (rmv_has hr.1) (rmv_has hr.2), (opt_ins (by rw [inv_length]; omega) (Tg.of h.mirror) (cancels_flip hc)).1, (opt_ins hk (Tg.of h) hc).1, ih]
/-- the control instructions -/
def ctl (x : Ins) : Bool := has x || x.op == 34 || x.op == 21 || x.op == 0
def ctls (l : List Ins) : List Int := (l.filter ctl).map (·.op)
theorem ctl_rmv {x : Ins} (h : rmv x.op = true) : ctl x = false := by
  unfold ctl
  rw [rmv_has h]
  unfold rmv at h
  simp at h
  simp [h]
theorem ctls_append (a b : List Ins) : ctls (a ++ b) = ctls a ++ ctls b := by simp [ctls]
theorem ctls_rt (f : Int → Int) : ∀ l, ctls (l.map (rt f)) = ctls l
  | [] => rfl
  | x :: l => by
    have ih := ctls_rt f l
    unfold ctls at ih ⊢
    have e : ctl (rt f x) = ctl x := by unfold ctl; rw [rt_has, rt_op]
    simp only [List.map_cons, List.filter_cons, e]
    split
    · simp only [List.map_cons, ih, rt_op]
    · exact ih
theorem ctls_opt {l : List Ins} (h : Ok l) : ctls (opt l) = ctls l := by
  refine Ok.ind (P := fun l => ctls (opt l) = ctls l) (fun l h hi => ?_) (fun l k a b h hk hn hc ho ih => ?_) h
  · rw [opt_irr hi (Tg.of h)]
  · rw [(opt_ins hk (Tg.of h) hc).1, ih]
    have hr := cancels_rmv hc
    unfold ins
    rw [ctls_append, ctls_rt]
    have e : ctls (a :: b :: (l.drop k).map (rt (upI k))) = ctls (l.drop k) := by
      rw [← ctls_rt (upI k) (l.drop k)]
      unfold ctls
      simp only [List.filter_cons, ctl_rmv hr.1, ctl_rmv hr.2]
      simp
    rw [e, ← ctls_append, List.take_append_drop]
/-- the number of starts is told by the control instructions -/
theorem starts_ctls (l : List Ins) : (l.filter isS).length = ((ctls l).filter (· == 32)).length := by
  induction l with
  | nil => rfl
  | cons x l ih =>
    unfold ctls at ih ⊢
    by_cases h : isS x = true
    · have hc : ctl x = true := by
        unfold ctl
        rcases kind x with ⟨a, b, c, d, e, f⟩ | ⟨a, b, c, d, e, f⟩ | ⟨a, b, c, d, e, f⟩ | ⟨a, b, c, d, e, f⟩ | ⟨a, b, c, d, e, f⟩ | ⟨a, b, c, d, e, f⟩
        all_goals first | exact ff c h | (rw [f]; rfl)
      have h2 : (x.op == 32) = true := h
      simp only [List.filter_cons, h, hc, if_pos, List.map_cons, h2, List.length_cons, ih]
    · have h1 : isS x = false := by simpa using h
      have h2 : (x.op == 32) = false := h1
      cases hc : ctl x with
      | true =>
        simp only [List.filter_cons, h1, hc, if_pos, List.map_cons, h2]
        simpa using ih
      | false =>
        simp only [List.filter_cons, h1, hc]
        simpa using ih
/-- targets behind an insertion of m at k -/
def upM (k m : Nat) (t : Int) : Int := if (k : Int) ≤ t then t + m else t
def blk (l : List Ins) (k : Nat) (B : List Ins) : List Ins := (l.take k).map (rt (upM k B.length)) ++ (B ++ (l.drop k).map (rt (upM k B.length)))
def both (c : List Ins) : List Ins := c ++ (c.map inv).reverse
theorem both_length (c : List Ins) : (both c).length = 2 * c.length := by simp [both]; omega
theorem map_no {f : Int → Int} {B : List Ins} (h : ∀ x ∈ B, has x = false) : B.map (rt f) = B := by
  induction B with
  | nil => rfl
  | cons x B ih =>
    rw [List.map_cons, rt_no (h x (List.mem_cons_self ..)), ih fun y hy => h y (List.mem_cons_of_mem _ hy)]
theorem map_up {l : List Ins} {k m q : Nat} (h : ∀ x ∈ l, has x = true → 0 ≤ tg x) (hq : k ≤ q) (hq2 : q ≤ k + m) : (l.map (rt (upM k m))).map (rt (upI q)) = l.map (rt (upM k (m + 2))) := by
  rw [List.map_map]
  apply List.map_congr_left
  intro x hx
  show rt _ (rt _ x) = _
  rw [rt_rt]
  refine rt_congr fun hh => ?_
  have := h x hx hh
  unfold upI upM
  by_cases g : (k : Int) ≤ tg x
  · rw [if_pos g, if_pos g, if_pos (by omega)]; omega
  · rw [if_neg g, if_neg g, if_neg (by omega)]
/-- code followed by its inverse vanishes -/
theorem blk_opt {l : List Ins} (h : Ok l) {k : Nat} (hk : k ≤ l.length) : ∀ c : List Ins, (∀ x ∈ c, cancels x (inv x) = true) → l.length + 2 * c.length ≤ 65536 → Ok (blk l k (both c)) ∧ opt (blk l k (both c)) = opt l := by
  have ht : ∀ x ∈ l, has x = true → 0 ≤ tg x := by
    intro x hx hh
    obtain ⟨i, hi, rfl⟩ := List.getElem_of_mem hx
    have e : at_ l i = l[i] := by unfold at_; rw [List.getD_eq_getElem?_getD, List.getElem?_eq_getElem hi]; rfl
    obtain ⟨t, t1, -⟩ := Tg.of h i hi (by rw [e]; exact hh)
    rw [e] at t1
    omega
  intro c
  induction hm : c.length generalizing c with
  | zero =>
    intro _ _
    have hc : c = [] := List.length_eq_zero_iff.1 hm
    subst hc
    have hid : ∀ s : List Ins, (∀ x ∈ s, x ∈ l) → s.map (rt (upM k 0)) = s := by
      intro s hs
      conv => rhs; rw [← List.map_id s]
      apply List.map_congr_left
      intro x hx
      exact rt_id fun _ => by unfold upM; split <;> simp
    have e : blk l k (both []) = l := by
      show (l.take k).map (rt (upM k 0)) ++ ([] ++ (l.drop k).map (rt (upM k 0))) = l
      rw [hid _ fun x hx => List.mem_of_mem_take hx, hid _ fun x hx => List.mem_of_mem_drop hx, List.nil_append, List.take_append_drop]
    rw [e]
    exact ⟨h, rfl⟩
  | succ m ih =>
    intro hc hn
    obtain ⟨c', x, rfl⟩ : ∃ c' x, c = c' ++ [x] := by
      have hne : c ≠ [] := by intro e; rw [e] at hm; cases hm
      exact ⟨c.dropLast, c.getLast hne, (List.dropLast_concat_getLast hne).symm⟩
    have hl : c'.length = m := by simpa using hm
    obtain ⟨i1, i2⟩ := ih c' hl (fun y hy => hc y (List.mem_append_left _ hy)) (by omega)
    have hx := hc x (List.mem_append_right _ (List.mem_singleton_self _))
    have hr := cancels_rmv hx
    have hno : ∀ y ∈ c', has y = false := fun y hy => rmv_has (cancels_rmv (hc y (List.mem_append_left _ hy))).1
    have hno2 : ∀ y ∈ (c'.map inv).reverse, has y = false := by
      intro y hy
      rw [List.mem_reverse, List.mem_map] at hy
      obtain ⟨z, hz, rfl⟩ := hy
      rw [has_inv]; exact hno z hz
    have hlen : (blk l k (both c')).length = l.length + 2 * m := by
      unfold blk
      simp [both_length, hl]
      omega
    have e : ins (blk l k (both c')) (k + m) x (inv x) = blk l k (both (c' ++ [x])) := by
      have hA : ((l.take k).map (rt (upM k (2 * m))) ++ c').length = k + m := by simp [hl]; omega
      have hsplit : blk l k (both c') = ((l.take k).map (rt (upM k (2 * m))) ++ c') ++ ((c'.map inv).reverse ++ (l.drop k).map (rt (upM k (2 * m)))) := by
        unfold blk
        rw [both_length, hl]
        unfold both
        simp [List.append_assoc]
      unfold ins
      rw [hsplit, ← hA, List.take_left, List.drop_left, List.map_append, List.map_append, map_no hno, map_no hno2, hA, map_up (fun y hy => ht y (List.mem_of_mem_take hy)) (by omega) (by omega), map_up (fun y hy => ht y (List.mem_of_mem_drop hy)) (by omega) (by omega)]
      unfold blk
      rw [both_length, List.length_append, hl, List.length_singleton, show 2 * (m + 1) = 2 * m + 2 from by omega]
      unfold both
      simp [List.append_assoc]
    obtain ⟨g1, g2, g3⟩ := cancels_iff.1 hx
    have hkm : k + m ≤ (blk l k (both c')).length := by omega
    rw [← e]
    refine ⟨ok_ins i1 hkm (by omega) (rmv_has hr.1) (rmv_has hr.2) g1 (by rw [vl_inv]; exact g1), ?_⟩
    rw [(opt_ins hkm (Tg.of i1) hx).1, i2]
end Pee
end Go.Proofs.Yteonkfdmkgjpaaa
