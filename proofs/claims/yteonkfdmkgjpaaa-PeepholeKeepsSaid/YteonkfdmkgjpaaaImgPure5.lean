/- Layer 23, plain: two valid images in sequence; a pair with one instruction struck. -/
import Derived.Test.YteonkfdmkgjpaaaImgPure4
namespace Go.Proofs.Yteonkfdmkgjpaaa
set_option linter.unusedVariables false
namespace Img
/-- an instruction with a shifted target -/
def sh (by_ : Int) (x : Ins) : Ins := if has x then ret x (tg x + by_) else x
def shl (l : List Ins) (by_ : Int) : List Ins := l.map (sh by_)
theorem sh_op (b : Int) (x : Ins) : (sh b x).op = x.op := by unfold sh; split <;> rfl
theorem sh_has (b : Int) (x : Ins) : has (sh b x) = has x := has_op (sh_op b x)
theorem sh_kinds (b : Int) (x : Ins) : isC (sh b x) = isC x ∧ isS (sh b x) = isS x ∧ isE (sh b x) = isE x ∧ pk (sh b x) = pk x ∧ jl (sh b x) = jl x := by
  unfold isC isS isE pk jl
  unfold isS isE
  rw [sh_op]
  exact ⟨rfl, rfl, rfl, rfl, rfl⟩
theorem sh_tg {b : Int} {x : Ins} (h : has x = true) : tg (sh b x) = tg x + b := by unfold sh; rw [if_pos h, tg_ret _ h]
theorem shl_length (l : List Ins) (b : Int) : (shl l b).length = l.length := by simp [shl]
theorem shl_at {l : List Ins} {b : Int} {k : Nat} (h : k < l.length) : at_ (shl l b) k = sh b (at_ l k) := by
  unfold at_ shl
  rw [List.getD_eq_getElem?_getD, List.getD_eq_getElem?_getD, List.getElem?_map, List.getElem?_eq_getElem h]
  rfl
theorem at_left {a c : List Ins} {k : Nat} (h : k < a.length) : at_ (a ++ c) k = at_ a k := by
  unfold at_
  rw [List.getD_eq_getElem?_getD, List.getD_eq_getElem?_getD, List.getElem?_append_left h]
theorem at_right {a c : List Ins} {k : Nat} : at_ (a ++ c) (a.length + k) = at_ c k := by
  unfold at_
  rw [List.getD_eq_getElem?_getD, List.getD_eq_getElem?_getD, List.getElem?_append_right (by omega)]
  congr 2
  omega
/-- a, then b with its targets shifted -/
def join (a b : List Ins) : List Ins := a ++ shl b a.length
theorem join_length (a b : List Ins) : (join a b).length = a.length + b.length := by simp [join, shl_length]
theorem join_left {a b : List Ins} {k : Nat} (h : k < a.length) : at_ (join a b) k = at_ a k := at_left h
theorem join_right {a b : List Ins} {k : Nat} (h : k < b.length) : at_ (join a b) (a.length + k) = sh a.length (at_ b k) := by
  unfold join
  rw [at_right, shl_at h]
theorem PP.left {a b : List Ins} {i p : Nat} (h : PP a i p) : PP (join a b) i p := by
  have h1 := h.hi
  have h2 := h.hj
  refine ⟨by rw [join_length]; omega, by rw [join_length]; omega, h.ne, ?_, ?_, ?_, ?_, ?_, ?_, ?_⟩ <;> (try rw [join_left h1]) <;> (try rw [join_left h2])
  · exact h.hx
  · exact h.tx
  · exact h.hy
  · exact h.ty
  · exact h.vx
  · exact h.vy
  · exact h.kk
theorem sh_vl {x : Ins} {b : Int} (hv : vl x = true) (h : has x = true → 0 ≤ tg x + b ∧ tg x + b < 65536) : vl (sh b x) = true := by
  unfold sh
  split
  · rename_i hh
    exact vl_ret hv (h hh).1 (h hh).2
  · exact hv
theorem PP.right {a b : List Ins} {i p : Nat} (hn : a.length + b.length ≤ 65536) (h : PP b i p) : PP (join a b) (a.length + i) (a.length + p) := by
  have h1 := h.hi
  have h2 := h.hj
  have h3 := h.ne
  refine ⟨by rw [join_length]; omega, by rw [join_length]; omega, by omega, ?_, ?_, ?_, ?_, ?_, ?_, ?_⟩ <;> (try rw [join_right h1]) <;> (try rw [join_right h2])
  · rw [sh_has]; exact h.hx
  · rw [sh_tg h.hx, h.tx]; omega
  · rw [sh_has]; exact h.hy
  · rw [sh_tg h.hy, h.ty]; omega
  · exact sh_vl h.vx fun _ => by rw [h.tx]; omega
  · exact sh_vl h.vy fun _ => by rw [h.ty]; omega
  · have hk := h.kk
    unfold kinds isS isE at hk ⊢
    rw [sh_op, sh_op]
    by_cases hlt : p < i
    · rw [if_pos hlt] at hk; rw [if_pos (by omega)]; exact hk
    · rw [if_neg hlt] at hk; rw [if_neg (by omega)]; exact hk
theorem partner_not_pk {l : List Ins} {i : Nat} (h : pk (at_ l i) = false) : partner l i = none := by
  cases hp : partner l i with
  | none => rfl
  | some p => exact ff h (PP.mk' hp).kinds_of.1
theorem Ok.partner_left {a b : List Ins} (ha : Ok a) {i : Nat} (hi : i < a.length) : partner (join a b) i = partner a i := by
  cases hp : partner a i with
  | some p => exact (PP.mk' hp).left.is
  | none =>
    have := ha.partner_pk hi
    rw [hp] at this
    exact partner_not_pk (by rw [join_left hi, ← this]; rfl)
theorem Ok.partner_right {a b : List Ins} (hb : Ok b) (hn : a.length + b.length ≤ 65536) {i : Nat} (hi : i < b.length) : partner (join a b) (a.length + i) = (partner b i).map fun p => a.length + p := by
  cases hp : partner b i with
  | some p => exact ((PP.mk' hp).right hn).is
  | none =>
    have := hb.partner_pk hi
    rw [hp] at this
    exact partner_not_pk (by rw [join_right hi, (sh_kinds _ _).2.2.2.1, ← this]; rfl)
theorem Ok.covers_left {a b : List Ins} (ha : Ok a) {s k : Nat} (hk : k < a.length) : covers (join a b) s k = covers a s k := by
  by_cases hs : s < a.length
  · rw [Bool.eq_iff_iff, covers_if, covers_if, ha.partner_left hs, join_left hs]
  · have h1 : covers (join a b) s k = false := by
      cases h : covers (join a b) s k with
      | false => rfl
      | true => obtain ⟨_, e, _, h2, _⟩ := covers_if.1 h; omega
    have h2 : covers a s k = false := by
      cases h : covers a s k with
      | false => rfl
      | true => obtain ⟨_, e, _, h2, _⟩ := covers_if.1 h; omega
    rw [h1, h2]
theorem Ok.covers_right {a b : List Ins} (ha : Ok a) (hb : Ok b) (hn : a.length + b.length ≤ 65536) {s k : Nat} (hk : k < b.length) : covers (join a b) s (a.length + k) = true ↔ ∃ t, s = a.length + t ∧ covers b t k = true := by
  rw [covers_if]
  constructor
  · rintro ⟨h1, e, h2, h3, h4⟩
    have hs := partner_lt1 h2
    rw [join_length] at hs
    by_cases hlt : s < a.length
    · rw [ha.partner_left hlt] at h2
      have := (PP.mk' h2).hj
      omega
    · obtain ⟨t, rfl⟩ : ∃ t, s = a.length + t := ⟨s - a.length, by omega⟩
      have ht : t < b.length := by omega
      rw [join_right ht, (sh_kinds _ _).2.1] at h1
      rw [hb.partner_right hn ht] at h2
      cases hp : partner b t with
      | none => rw [hp] at h2; cases h2
      | some q =>
        rw [hp] at h2
        have h2 : a.length + q = e := by simpa using h2
        exact ⟨t, rfl, covers_if.2 ⟨h1, q, hp, by omega, by omega⟩⟩
  · rintro ⟨t, rfl, hc⟩
    obtain ⟨h1, e, h2, h3, h4⟩ := covers_if.1 hc
    have ht := partner_lt1 h2
    refine ⟨by rw [join_right ht, (sh_kinds _ _).2.1]; exact h1, a.length + e, by rw [hb.partner_right hn ht, h2]; rfl, by omega, by omega⟩
theorem Ok.join {a b : List Ins} (ha : Ok a) (hb : Ok b) (hn : a.length + b.length ≤ 65536) : Ok (join a b) := by
  refine Ok.mk' (by rw [join_length]; exact hn) fun i hi => ?_
  rw [join_length] at hi
  by_cases hlt : i < a.length
  · have hF := ha.fine hlt
    have e := join_left (b := b) hlt
    constructor
    · rw [e]; exact hF.v
    · rw [e]
      intro hc
      obtain ⟨s, q, h1, h2, h3⟩ := startAt_iff.1 (hF.call hc)
      have hs := partner_lt1 h3
      exact startAt_iff.2 ⟨s, q, h1, by rw [join_left hs]; exact h2, by rw [ha.partner_left hs]; exact h3⟩
    · rw [e, ha.partner_left hlt]; exact hF.pair
    · rw [e]
      intro hS
      cases hn : nested (Img.join a b) i with
      | false => rfl
      | true =>
        obtain ⟨s, h1, h2⟩ := nested_if.1 hn
        rw [ha.covers_left hlt] at h2
        exact ff (hF.start hS) (nested_if.2 ⟨s, h1, h2⟩)
    · rw [e, ha.partner_left hlt]
      intro hj p hp
      have hr := ha.region_covers.1 (hF.reg hj p hp)
      unfold region
      refine regU_congr fun s _ => ?_
      rw [ha.covers_left hlt, ha.covers_left (PP.mk' hp).hj]
      exact hr s
  · obtain ⟨j, rfl⟩ : ∃ j, i = a.length + j := ⟨i - a.length, by omega⟩
    have hj : j < b.length := by omega
    have hF := hb.fine hj
    have e := join_right (a := a) hj
    obtain ⟨k1, k2, k3, k4, k5⟩ := sh_kinds a.length (at_ b j)
    have htg : has (at_ b j) = true → 0 ≤ tg (at_ b j) ∧ tg (at_ b j) < b.length := by
      intro hh
      cases hc : isC (at_ b j) with
      | true =>
        obtain ⟨s, q, h1, h2, h3⟩ := hb.call hj hc
        have := partner_lt1 h3
        rw [h1]; omega
      | false =>
        obtain ⟨p, hp⟩ := hF.pair (by rw [pk_iff, hh, hc]; rfl)
        have hq := PP.mk' hp
        have := hq.hj
        rw [hq.tx]; omega
    constructor
    · rw [e]; exact sh_vl hF.v fun hh => by have := htg hh; omega
    · rw [e, k1]
      intro hc
      obtain ⟨s, q, h1, h2, h3⟩ := hb.call hj hc
      have hs := partner_lt1 h3
      refine startAt_iff.2 ⟨a.length + s, a.length + q, ?_, by rw [join_right hs, (sh_kinds _ _).2.1]; exact h2, by rw [hb.partner_right hn hs, h3]; rfl⟩
      rw [sh_tg (isC_has' hc), h1]; omega
    · rw [e, k4, hb.partner_right hn hj]
      intro hk
      obtain ⟨p, hp⟩ := hF.pair hk
      exact ⟨a.length + p, by rw [hp]; rfl⟩
    · rw [e, k2]
      intro hS
      cases hne : nested (Img.join a b) (a.length + j) with
      | false => rfl
      | true =>
        obtain ⟨s, h1, h2⟩ := nested_if.1 hne
        obtain ⟨t, rfl, h3⟩ := (ha.covers_right hb hn hj).1 h2
        exact ff (hF.start hS) (nested_if.2 ⟨t, by omega, h3⟩)
    · rw [e, k5, hb.partner_right hn hj]
      intro hjl p' hp'
      cases hp : partner b j with
      | none => rw [hp] at hp'; cases hp'
      | some p =>
        rw [hp] at hp'
        have e2 : a.length + p = p' := by simpa using hp'
        subst e2
        have hr := hb.region_covers.1 (hF.reg hjl p hp)
        unfold region
        refine regU_congr fun s _ => ?_
        rw [Bool.eq_iff_iff, ha.covers_right hb hn hj, ha.covers_right hb hn (PP.mk' hp).hj]
        exact ⟨fun ⟨t, h1, h2⟩ => ⟨t, h1, by rw [← hr t]; exact h2⟩, fun ⟨t, h1, h2⟩ => ⟨t, h1, by rw [hr t]; exact h2⟩⟩
theorem sh_ret {x : Ins} {b t : Int} (h : has x = true) : sh b (ret x t) = ret x (t + b) := by
  unfold sh
  rw [if_pos (by rw [has_op (ret_op x t)]; exact h), tg_ret t h, ret_ret]
/-- the inverse of a sequence is the sequence of the inverses, the other way round -/
theorem Ok.invert_join {a b : List Ins} (ha : Ok a) (hb : Ok b) (hn : a.length + b.length ≤ 65536) : invert (Img.join a b) = invert b ++ shl (invert a) b.length := by
  have hl : (invert b ++ shl (invert a) b.length).length = a.length + b.length := by rw [List.length_append, inv_length, shl_length, inv_length]; omega
  apply ext_at (by rw [inv_length, join_length, hl])
  intro k hk
  rw [inv_length, join_length] at hk
  rw [inv_at _ (by rw [join_length]; exact hk), join_length]
  by_cases hlt : k < b.length
  · rw [at_left (by rw [inv_length]; exact hlt), inv_at _ hlt, show a.length + b.length - 1 - k = a.length + (b.length - 1 - k) from by omega]
    have hj : b.length - 1 - k < b.length := by omega
    generalize b.length - 1 - k = j at hj
    have e := join_right (a := a) hj
    cases hh : has (at_ b j) with
    | false => rw [invAt_no (by rw [e, sh_has]; exact hh), invAt_no hh, e]; unfold sh; rw [if_neg (by simp [hh])]
    | true =>
      have hm : mt (Img.join a b) (a.length + j) = mt b j := by
        unfold mt
        rw [e, (sh_kinds _ _).1, join_length, sh_tg hh]
        cases hc : isC (at_ b j) with
        | true =>
          obtain ⟨s, q, h1, h2, h3⟩ := hb.call hj hc
          have hs := partner_lt1 h3
          rw [if_pos rfl, if_pos rfl, h1, show ((s : Int) + (a.length : Int)).toNat = a.length + s from by omega, Int.toNat_natCast, hb.partner_right hn hs, h3]
          simp [num]
          omega
        | false => rw [if_neg (by simp), if_neg (by simp)]; omega
      rw [invAt_yes (by rw [e, sh_has]; exact hh), invAt_yes hh, hm, e]
      unfold sh
      rw [if_pos hh, inv_ret, ret_ret]
  · obtain ⟨j, rfl⟩ : ∃ j, k = b.length + j := ⟨k - b.length, by omega⟩
    have hja : j < a.length := by omega
    have e0 : at_ (invert b ++ shl (invert a) b.length) (b.length + j) = sh b.length (at_ (invert a) j) := by
      have := at_right (a := invert b) (c := shl (invert a) b.length) (k := j)
      rw [inv_length] at this
      rw [this, shl_at (by rw [inv_length]; exact hja)]
    rw [e0, inv_at _ hja, show a.length + b.length - 1 - (b.length + j) = a.length - 1 - j from by omega]
    have hi : a.length - 1 - j < a.length := by omega
    generalize a.length - 1 - j = i at hi
    have e := join_left (b := b) hi
    cases hh : has (at_ a i) with
    | false => rw [invAt_no (by rw [e]; exact hh), invAt_no hh, e]; unfold sh; rw [if_neg (by simp [has_inv, hh])]
    | true =>
      have hm : mt (Img.join a b) i = mt a i + b.length := by
        unfold mt
        rw [e, join_length]
        cases hc : isC (at_ a i) with
        | true =>
          obtain ⟨s, q, h1, h2, h3⟩ := ha.call hi hc
          have hs := partner_lt1 h3
          rw [if_pos rfl, if_pos rfl, h1, Int.toNat_natCast, ha.partner_left hs]
          omega
        | false => rw [if_neg (by simp), if_neg (by simp)]; omega
      rw [invAt_yes (by rw [e]; exact hh), invAt_yes hh, hm, e, sh_ret (by rw [has_inv]; exact hh)]

/-- l with the instruction i struck -/
def strike (l : List Ins) (i : Nat) : List Ins := l.set i zero
theorem strike_length (l : List Ins) (i : Nat) : (strike l i).length = l.length := by simp [strike]
theorem strike_at {l : List Ins} {i : Nat} (hi : i < l.length) (j : Nat) : at_ (strike l i) j = if j = i then zero else at_ l j := by
  unfold at_ strike
  rw [List.getD_eq_getElem?_getD, List.getD_eq_getElem?_getD, List.getElem?_set]
  by_cases e : i = j
  · rw [if_pos e, if_pos e.symm, if_pos (by omega)]; rfl
  · rw [if_neg e, if_neg (Ne.symm e)]
theorem has_zero : has zero = false := by decide
theorem strike_pp {l : List Ins} {i : Nat} (hi : i < l.length) {j q : Nat} : partner (strike l i) j = some q ↔ partner l j = some q ∧ j ≠ i ∧ q ≠ i := by
  constructor
  · intro h
    have hq := PP.mk' h
    have hj : j ≠ i := by
      rintro rfl
      have := hq.hx
      rw [strike_at hi, if_pos rfl, has_zero] at this
      cases this
    have hqi : q ≠ i := by
      rintro rfl
      have := hq.hy
      rw [strike_at hi, if_pos rfl, has_zero] at this
      cases this
    obtain ⟨a1, a2, a3, a4, a5, a6, a7, a8, a9, a10⟩ := hq
    rw [strike_length] at a1 a2
    simp only [strike_at hi, if_neg hj, if_neg hqi] at a4 a5 a6 a7 a8 a9 a10
    exact ⟨(PP.mk a1 a2 a3 a4 a5 a6 a7 a8 a9 a10).is, hj, hqi⟩
  · rintro ⟨h, hj, hqi⟩
    obtain ⟨a1, a2, a3, a4, a5, a6, a7, a8, a9, a10⟩ := PP.mk' h
    refine PP.is ⟨by rw [strike_length]; exact a1, by rw [strike_length]; exact a2, a3, ?_, ?_, ?_, ?_, ?_, ?_, ?_⟩ <;> simp only [strike_at hi, if_neg hj, if_neg hqi]
    · exact a4
    · exact a5
    · exact a6
    · exact a7
    · exact a8
    · exact a9
    · exact a10
theorem strike_covers {l : List Ins} {i : Nat} (hi : i < l.length) {s k : Nat} : covers (strike l i) s k = true ↔ covers l s k = true ∧ s ≠ i ∧ partner l s ≠ some i := by
  rw [covers_if, covers_if]
  constructor
  · rintro ⟨h1, e, h2, h3, h4⟩
    obtain ⟨h5, h6, h7⟩ := (strike_pp hi).1 h2
    rw [strike_at hi, if_neg h6] at h1
    exact ⟨⟨h1, e, h5, h3, h4⟩, h6, fun h => by rw [h5] at h; injection h with h; exact h7 h⟩
  · rintro ⟨⟨h1, e, h2, h3, h4⟩, h5, h6⟩
    exact ⟨by rw [strike_at hi, if_neg h5]; exact h1, e, (strike_pp hi).2 ⟨h2, h5, fun h => h6 (by rw [← h]; exact h2)⟩, h3, h4⟩
/-- an instruction that has to do with neither of the pair -/
theorem Ok.strike_fine {l : List Ins} (h : Ok l) {i j : Nat} (hi : i < l.length) (hj : j < l.length) (hp : partner l i ≠ some j) (hc : isC (at_ l j) = true → tg (at_ l j) ≠ (i : Int) ∧ ∀ p, partner l i = some p → tg (at_ l j) ≠ (p : Int)) : Fine (strike l i) j := by
  by_cases e : j = i
  · subst e
    have e : at_ (strike l j) j = zero := by rw [strike_at hi, if_pos rfl]
    constructor
    · rw [e]; decide
    · rw [e]; intro h; exact ff (by decide) h
    · rw [e]; intro h; exact ff (by decide) h
    · rw [e]; intro h; exact ff (by decide) h
    · rw [e]; intro h; exact ff (by decide) h
  · have hF := h.fine hj
    have e2 : at_ (strike l i) j = at_ l j := by rw [strike_at hi, if_neg e]
    constructor
    · rw [e2]; exact hF.v
    · rw [e2]
      intro hC
      obtain ⟨s, q, h1, h2, h3⟩ := h.call hj hC
      obtain ⟨c1, c2⟩ := hc hC
      rw [h1] at c1 c2
      have n1 : s ≠ i := by omega
      have n2 : q ≠ i := by
        rintro rfl
        exact c2 s (partner_symm h3) rfl
      exact startAt_iff.2 ⟨s, q, h1, by rw [strike_at hi, if_neg n1]; exact h2, (strike_pp hi).2 ⟨h3, n1, n2⟩⟩
    · rw [e2]
      intro hk
      obtain ⟨p, hq⟩ := hF.pair hk
      exact ⟨p, (strike_pp hi).2 ⟨hq, e, fun h => hp (by rw [← h]; exact partner_symm hq)⟩⟩
    · rw [e2]
      intro hS
      cases hn : nested (strike l i) j with
      | false => rfl
      | true =>
        obtain ⟨s, h1, h2⟩ := nested_if.1 hn
        exact ff (hF.start hS) (nested_if.2 ⟨s, h1, ((strike_covers hi).1 h2).1⟩)
    · rw [e2]
      intro hJ p hq
      obtain ⟨h1, h2, h3⟩ := (strike_pp hi).1 hq
      have hr := h.region_covers.1 (hF.reg hJ p h1)
      unfold region
      refine regU_congr fun s _ => ?_
      rw [Bool.eq_iff_iff, strike_covers hi, strike_covers hi, hr s]
/-- an instruction without a partner, struck: still valid -/
theorem valid_strike {l : List Ins} {mem st : Int} (h : valid l mem st = true) {i : Nat} (hi : i < l.length) (hp : partner l i = none) : check (strike l i) mem st = (-1, 0) := by
  obtain ⟨h1, h2⟩ := valid_iff.1 h
  have h1' : ¬ outside (strike l i) mem st := by rw [outside_len (strike_length l i)]; exact h1
  have hf : ∀ j, j < l.length → fault (strike l i) j = 0 := fun j hj => fine_iff.2 (by
    refine h2.strike_fine hi hj (by rw [hp]; simp) fun hC => ⟨?_, fun p hq => ?_⟩
    · obtain ⟨s, q, e1, e2, e3⟩ := h2.call hj hC
      rw [e1]
      intro e
      have : s = i := by omega
      rw [this, hp] at e3
      cases e3
    · rw [hp] at hq
      cases hq)
  unfold check
  rw [if_neg h1']
  have hall : ∀ (n i' : Nat), i' + n ≤ l.length → firstF (strike l i) n i' = (-1, 0) := by
    intro n
    induction n with
    | zero => intro i' _; rfl
    | succ n ih =>
      intro i' hle
      unfold firstF
      rw [if_neg (by simp [hf i' (by omega)]), ih (i' + 1) (by omega)]
  exact hall _ 0 (by rw [strike_length]; omega)
/-- one of a pair, struck: the first fault is the partner's, or a call's of the procedure -/
theorem spoilt {l : List Ins} {mem st : Int} (h : valid l mem st = true) {i p : Nat} (hi : i < l.length) (hp : partner l i = some p) :
    ∃ k : Nat, check (strike l i) mem st = ((k : Int), 23) ∧ k < l.length ∧ (k = p ∨ (isC (at_ l k) = true ∧ k < p ∧ ((at_ l k).a = (i : Int) ∨ (at_ l k).a = (p : Int)))) := by
  obtain ⟨h1, h2⟩ := valid_iff.1 h
  have hq := PP.mk' hp
  have hpl := hq.hj
  have h1' : ¬ outside (strike l i) mem st := by rw [outside_len (strike_length l i)]; exact h1
  have hC : ∀ {j}, isC (at_ l j) = true → tg (at_ l j) = (at_ l j).a := by
    intro j hC
    rcases kind (at_ l j) with ⟨a, b, c, d, e, f⟩ | ⟨a, b, c, d, e, f⟩ | ⟨a, b, c, d, e, f⟩ | ⟨a, b, c, d, e, f⟩ | ⟨a, b, c, d, e, f⟩ | ⟨a, b, c, d, e, f⟩
    all_goals first | exact ff e hC | (unfold tg Isa.tval; rw [f]; rfl)
  have hbad : fault (strike l i) p = 23 := by
    have e : at_ (strike l i) p = at_ l p := by rw [strike_at hi, if_neg hq.ne]
    have hk := hq.symm.kinds_of.1
    rw [pk_iff] at hk
    simp only [Bool.and_eq_true, Bool.not_eq_true'] at hk
    have hn : partner (strike l i) p = none := by
      cases hx : partner (strike l i) p with
      | none => rfl
      | some q =>
        obtain ⟨g1, g2, g3⟩ := (strike_pp hi).1 hx
        rw [partner_symm hp] at g1
        injection g1 with g1
        exact absurd g1.symm g3
    unfold fault
    rw [e]
    simp only [hq.vy, hk.1, hk.2, hn]
    simp
  have hstep : ∀ j, j < l.length → fault (strike l i) j = 0 ∨ (fault (strike l i) j = 23 ∧ (j = p ∨ (isC (at_ l j) = true ∧ ((at_ l j).a = (i : Int) ∨ (at_ l j).a = (p : Int))))) := by
    intro j hj
    by_cases e : j = p
    · subst e; exact .inr ⟨hbad, .inl rfl⟩
    · by_cases hc : isC (at_ l j) = true ∧ (tg (at_ l j) = (i : Int) ∨ tg (at_ l j) = (p : Int))
      · refine .inr ⟨?_, .inr ⟨hc.1, by rw [← hC hc.1]; exact hc.2⟩⟩
        have hji : j ≠ i := by
          rintro rfl
          have := hq.kinds_of.1
          rw [pk_iff, hc.1] at this
          simp at this
        have e2 : at_ (strike l i) j = at_ l j := by rw [strike_at hi, if_neg hji]
        have hns : startAt (strike l i) (tg (at_ l j)) = false := by
          cases hx : startAt (strike l i) (tg (at_ l j)) with
          | false => rfl
          | true =>
            exfalso
            obtain ⟨s, q, g1, g2, g3⟩ := startAt_iff.1 hx
            obtain ⟨g4, g5, g6⟩ := (strike_pp hi).1 g3
            rcases hc.2 with g | g
            · rw [g1] at g; exact g5 (by omega)
            · rw [g1] at g
              have e3 : s = p := by omega
              rw [e3, partner_symm hp] at g4
              injection g4 with g4
              exact g6 g4.symm
        unfold fault
        rw [e2]
        simp only [(h2.fine hj).v, isC_has' hc.1, hc.1, hns]
        simp
      · left
        refine fine_iff.2 (h2.strike_fine hi hj (by rw [hp]; intro g; injection g with g; exact e g.symm) fun hC' => ?_)
        refine ⟨fun g => hc ⟨hC', .inl g⟩, fun p' hp' g => hc ⟨hC', .inr ?_⟩⟩
        rw [hp] at hp'
        injection hp' with hp'
        rw [hp']; exact g
  have hmin : ∃ k, k ≤ p ∧ fault (strike l i) k = 23 ∧ ∀ j, j < k → fault (strike l i) j = 0 := by
    have : ∀ n, (∀ j, j < n → fault (strike l i) j = 0) ∨ ∃ k, k < n ∧ fault (strike l i) k ≠ 0 ∧ ∀ j, j < k → fault (strike l i) j = 0 := by
      intro n
      induction n with
      | zero => exact .inl fun j h => by omega
      | succ n ih =>
        rcases ih with h | ⟨k, h1, h2, h3⟩
        · by_cases e : fault (strike l i) n = 0
          · refine .inl fun j hj => ?_
            by_cases e2 : j = n
            · rw [e2]; exact e
            · exact h j (by omega)
          · exact .inr ⟨n, by omega, e, h⟩
        · exact .inr ⟨k, by omega, h2, h3⟩
    rcases this (p + 1) with h | ⟨k, g1, g2, g3⟩
    · rw [h p (by omega)] at hbad; cases hbad
    · refine ⟨k, by omega, ?_, g3⟩
      rcases hstep k (by omega) with g | g
      · exact absurd g g2
      · exact g.1
  obtain ⟨k, g1, g2, g3⟩ := hmin
  refine ⟨k, ?_, by omega, ?_⟩
  · unfold check
    rw [if_neg h1']
    have hall : ∀ (n i' : Nat), i' ≤ k → k < i' + n → firstF (strike l i) n i' = ((k : Int), 23) := by
      intro n
      induction n with
      | zero => intro i' _ _; omega
      | succ n ih =>
        intro i' hle hlt
        unfold firstF
        by_cases e : i' = k
        · subst e; rw [if_pos (by rw [g2]; decide), g2]
        · rw [if_neg (by simp [g3 i' (by omega)]), ih (i' + 1) (by omega) (by omega)]
    exact hall _ 0 (by omega) (by rw [strike_length]; omega)
  · rcases hstep k (by omega) with g | ⟨_, g | g⟩
    · rw [g] at g2; cases g2
    · exact .inl g
    · by_cases e : k = p
      · exact .inl e
      · exact .inr ⟨g.1, by omega, g.2⟩
end Img
end Go.Proofs.Yteonkfdmkgjpaaa
