/- Layer 23, plain: the inverse of a valid image is its mirror: valid, its own inverse, partners stay partners, procedures procedures. -/
import Derived.Test.YteonkfdmkgjpaaaImgPure3
namespace Go.Proofs.Yteonkfdmkgjpaaa
set_option linter.unusedVariables false
namespace Img
theorem ext_at {l m : List Ins} (hl : l.length = m.length) (h : ∀ i, i < l.length → at_ l i = at_ m i) : l = m := by
  apply List.ext_getElem hl
  intro i h1 h2
  have := h i h1
  unfold at_ at this
  rw [List.getD_eq_getElem?_getD, List.getD_eq_getElem?_getD, List.getElem?_eq_getElem h1, List.getElem?_eq_getElem h2] at this
  simpa using this
theorem inv_length (l : List Ins) : (invert l).length = l.length := by simp [invert]
theorem inv_at (l : List Ins) {k : Nat} (hk : k < l.length) : at_ (invert l) k = invAt l (l.length - 1 - k) := by
  unfold at_ invert
  rw [List.getD_eq_getElem?_getD, List.getElem?_map, List.getElem?_reverse (by simpa using hk)]
  simp
  rw [List.getElem?_range (by omega)]
  rfl
theorem inv_at' (l : List Ins) {k : Nat} (hk : k < l.length) : at_ (invert l) (l.length - 1 - k) = invAt l k := by
  rw [inv_at l (by omega)]
  congr 1
  omega
theorem op_inv (op : Int) : ((Isa.inv op == 32) = (op == 33)) ∧ ((Isa.inv op == 33) = (op == 32)) ∧ ((Isa.inv op == 30 || Isa.inv op == 31) = (op == 30 || op == 31)) := by
  rcases Isa.row_range op with ⟨n, rfl⟩ | h
  · revert n; decide
  · have hr : ¬ (0 ≤ op ∧ op < 35) := by
      intro h2
      obtain ⟨r, hr, _⟩ := Isa.row_some op h2.1 h2.2
      rw [h] at hr; cases hr
    rw [Isa.inv_none (by rw [h]; rfl)]
    refine ⟨?_, ?_, rfl⟩ <;> (rw [Bool.eq_iff_iff]; simp; omega)
/-- an instruction with another target, inverted -/
theorem ret_op (x : Ins) (t : Int) : (ret x t).op = x.op := rfl
theorem has_op {x y : Ins} (h : y.op = x.op) : has y = has x := by unfold has; rw [h]
theorem tg_ret {x : Ins} (t : Int) (h : has x = true) : tg (ret x t) = t := by
  unfold tg ret Isa.tval Isa.reA Isa.reB
  unfold has at h
  rcases Isa.tgt_cases x.op with e | e | e
  · rw [e] at h; cases h
  · simp [e]
  · simp [e]
theorem ret_tg (x : Ins) : ret x (tg x) = x := by
  unfold ret tg Isa.tval Isa.reA Isa.reB
  cases x with
  | mk op a b c d =>
    simp only []
    rcases Isa.tgt_cases op with e | e | e <;> simp [e]
theorem ret_ret (x : Ins) (t u : Int) : ret (ret x t) u = ret x u := by
  unfold ret Isa.reA Isa.reB
  cases x with
  | mk op a b c d =>
    simp only []
    rcases Isa.tgt_cases op with e | e | e <;> simp [e]
theorem inv_ret (x : Ins) (t : Int) : inv (ret x t) = ret (inv x) t := by
  unfold ret inv Isa.reA Isa.reB
  simp only [Isa.tgt_inv]
theorem inv_invI (x : Ins) : inv (inv x) = x := by
  unfold inv
  simp only [Isa.inv_inv]
theorem has_inv (x : Ins) : has (inv x) = has x := by unfold has inv; simp only [Isa.tgt_inv]
theorem tg_inv (x : Ins) : tg (inv x) = tg x := by unfold tg inv; simp only [Isa.tval_inv]
theorem vl_inv (x : Ins) : vl (inv x) = vl x := by unfold vl inv; simp only [Isa.vld_inv]
theorem tg_vl {x : Ins} (h : vl x = true) (hh : has x = true) : 0 ≤ tg x ∧ tg x < 65536 := by
  unfold vl Isa.vld at h
  simp only [Bool.and_eq_true] at h
  obtain ⟨⟨h1, ⟨⟨h2, h3⟩, h4⟩, h5⟩, h6⟩ := h
  rcases Isa.row_range x.op with ⟨n, hn⟩ | h0
  · have hall : ∀ n : Fin 35, (Isa.tgt (n.val : Int) = none) ∨ (Isa.tgt (n.val : Int) = some 0 ∧ 0 < (Isa.ops (n.val : Int)).length ∧ (Isa.ops (n.val : Int)).getD 0 0 = 116) ∨ (Isa.tgt (n.val : Int) = some 1 ∧ 1 < (Isa.ops (n.val : Int)).length ∧ (Isa.ops (n.val : Int)).getD 1 0 = 116) := by decide
    unfold has at hh
    unfold tg Isa.tval
    rw [hn] at hh h2 h3 ⊢
    rcases hall n with e | ⟨e, hl, ho⟩ | ⟨e, hl, ho⟩
    · rw [e] at hh; cases hh
    · rw [e, if_pos rfl]
      unfold Isa.okAt at h2
      rw [if_pos hl, ho] at h2
      simpa [Isa.fitsB] using h2
    · rw [e, if_neg (by simp), if_pos rfl]
      unfold Isa.okAt at h3
      rw [if_pos hl, ho] at h3
      simpa [Isa.fitsB] using h3
  · rw [h0] at h1; cases h1
theorem vl_ret {x : Ins} (h : vl x = true) {t : Int} (h0 : 0 ≤ t) (h1 : t < 65536) : vl (ret x t) = true := by
  unfold ret Isa.reA Isa.reB vl Isa.vld at *
  simp only [Bool.and_eq_true] at h ⊢
  obtain ⟨⟨g1, ⟨⟨g2, g3⟩, g4⟩, g5⟩, g6⟩ := h
  rcases Isa.row_range x.op with ⟨n, hn⟩ | hr
  · have hall : ∀ n : Fin 35, (Isa.tgt (n.val : Int) = none) ∨
        (Isa.tgt (n.val : Int) = some 0 ∧ 0 < (Isa.ops (n.val : Int)).length ∧ (Isa.ops (n.val : Int)).getD 0 0 = 116 ∧ ¬ ((n.val : Int) = 1 ∨ (n.val : Int) = 2 ∨ (n.val : Int) = 3 ∨ (n.val : Int) = 11) ∧ ¬ (n.val : Int) = 9) ∨
        (Isa.tgt (n.val : Int) = some 1 ∧ 1 < (Isa.ops (n.val : Int)).length ∧ (Isa.ops (n.val : Int)).getD 1 0 = 116 ∧ ¬ ((n.val : Int) = 1 ∨ (n.val : Int) = 2 ∨ (n.val : Int) = 3 ∨ (n.val : Int) = 11) ∧ ¬ (n.val : Int) = 9) := by decide
    rw [hn] at g1 g2 g3 g4 g5 g6 ⊢
    rcases hall n with e | ⟨e, hl, ho, d1, d2⟩ | ⟨e, hl, ho, d1, d2⟩
    · rw [e, if_neg (by simp), if_neg (by simp)]
      exact ⟨⟨g1, ⟨⟨g2, g3⟩, g4⟩, g5⟩, g6⟩
    · rw [e, if_pos rfl, if_neg (by simp)]
      refine ⟨⟨g1, ⟨⟨?_, g3⟩, g4⟩, g5⟩, ?_⟩
      · unfold Isa.okAt; rw [if_pos hl, ho]; simp [Isa.fitsB, h0, h1]
      · unfold Isa.dist; rw [if_neg d1, if_neg d2]
    · rw [e, if_neg (by simp), if_pos rfl]
      refine ⟨⟨g1, ⟨⟨g2, ?_⟩, g4⟩, g5⟩, ?_⟩
      · unfold Isa.okAt; rw [if_pos hl, ho]; simp [Isa.fitsB, h0, h1]
      · unfold Isa.dist; rw [if_neg d1, if_neg d2]
  · rw [hr] at g1; cases g1
/-- the target of the inverted instruction -/
def mt (l : List Ins) (i : Nat) : Int := if isC (at_ l i) then (l.length : Int) - 1 - num (partner l (tg (at_ l i)).toNat) else (l.length : Int) - 1 - tg (at_ l i)
theorem invAt_yes {l : List Ins} {i : Nat} (h : has (at_ l i) = true) : invAt l i = ret (inv (at_ l i)) (mt l i) := by
  unfold invAt mt
  simp only [h, if_true]
  rw [inv_ret]
theorem invAt_no {l : List Ins} {i : Nat} (h : has (at_ l i) = false) : invAt l i = inv (at_ l i) := by
  unfold invAt
  simp [h]
theorem invAt_op (l : List Ins) (i : Nat) : (invAt l i).op = Isa.inv (at_ l i).op := by
  cases h : has (at_ l i)
  · rw [invAt_no h]; rfl
  · rw [invAt_yes h]; rfl
theorem invAt_kinds (l : List Ins) (i : Nat) : has (invAt l i) = has (at_ l i) ∧ isC (invAt l i) = isC (at_ l i) ∧ isS (invAt l i) = isE (at_ l i) ∧ isE (invAt l i) = isS (at_ l i) ∧
    Isa.isJ (invAt l i).op = Isa.isL (at_ l i).op ∧ Isa.isL (invAt l i).op = Isa.isJ (at_ l i).op := by
  have h := invAt_op l i
  obtain ⟨a, b, c⟩ := op_inv (at_ l i).op
  unfold has isC isS isE
  rw [h]
  exact ⟨by rw [Isa.tgt_inv], c, a, b, Isa.isJ_inv _, Isa.isL_inv _⟩
theorem isC_has' {x : Ins} (h : isC x = true) : has x = true := by
  rcases kind x with ⟨a, b, c, d, e, f⟩ | ⟨a, b, c, d, e, f⟩ | ⟨a, b, c, d, e, f⟩ | ⟨a, b, c, d, e, f⟩ | ⟨a, b, c, d, e, f⟩ | ⟨a, b, c, d, e, f⟩
  all_goals first | (rw [h] at e; cases e; done) | (unfold has; rw [f]; rfl)
/-- a call of a valid image refers to a start -/
theorem Ok.call {l : List Ins} (h : Ok l) {i : Nat} (hi : i < l.length) (hc : isC (at_ l i) = true) : ∃ s e : Nat, tg (at_ l i) = (s : Int) ∧ isS (at_ l s) = true ∧ partner l s = some e :=
  startAt_iff.1 ((h.fine hi).call hc)
theorem Ok.mt_lt {l : List Ins} (h : Ok l) {i : Nat} (hi : i < l.length) (hh : has (at_ l i) = true) : ∃ j : Nat, mt l i = (j : Int) ∧ j < l.length := by
  unfold mt
  cases hc : isC (at_ l i) with
  | true =>
    obtain ⟨s, e, ht, -, hp⟩ := h.call hi hc
    rw [if_pos rfl, ht, Int.toNat_natCast, hp]
    have := (PP.mk' hp).hj
    exact ⟨l.length - 1 - e, by simp [num]; omega, by omega⟩
  | false =>
    have hk : pk (at_ l i) = true := by rw [pk_iff, hh, hc]; rfl
    obtain ⟨p, hp⟩ := (h.fine hi).pair hk
    have hq := PP.mk' hp
    have := hq.hj
    rw [if_neg (by simp), hq.tx]
    exact ⟨l.length - 1 - p, by omega, by omega⟩
theorem Ok.tg_mirror {l : List Ins} (_h : Ok l) {i : Nat} (_hi : i < l.length) (hh : has (at_ l i) = true) : tg (invAt l i) = mt l i := by
  rw [invAt_yes hh, tg_ret _ (by rw [has_inv]; exact hh)]
theorem Ok.vl_mirror {l : List Ins} (h : Ok l) {i : Nat} (hi : i < l.length) : vl (invAt l i) = true := by
  have hv := (h.fine hi).v
  cases hh : has (at_ l i) with
  | false => rw [invAt_no hh, vl_inv]; exact hv
  | true =>
    obtain ⟨j, hj, hl⟩ := h.mt_lt hi hh
    have := h.n
    rw [invAt_yes hh]
    exact vl_ret (by rw [vl_inv]; exact hv) (by omega) (by omega)
theorem Ok.mt_pair {l : List Ins} {i p : Nat} (hq : PP l i p) : mt l i = ((l.length - 1 - p : Nat) : Int) := by
  have hc : isC (at_ l i) = false := by
    have := hq.kinds_of.1
    rw [pk_iff] at this
    simp only [Bool.and_eq_true, Bool.not_eq_true'] at this
    exact this.2
  have := hq.hj
  unfold mt
  rw [if_neg (by simp [hc]), hq.tx]
  omega
theorem Ok.pp_mirror {l : List Ins} (h : Ok l) {i p : Nat} (hq : PP l i p) : PP (invert l) (l.length - 1 - i) (l.length - 1 - p) := by
  have h1 := hq.hi
  have h2 := hq.hj
  have h3 := hq.ne
  have e1 := inv_at' l h1
  have e2 := inv_at' l h2
  obtain ⟨a1, a2, a3, a4, a5, a6⟩ := invAt_kinds l i
  obtain ⟨b1, b2, b3, b4, b5, b6⟩ := invAt_kinds l p
  refine ⟨by rw [inv_length]; omega, by rw [inv_length]; omega, by omega, by rw [e1, a1]; exact hq.hx, ?_, by rw [e2, b1]; exact hq.hy, ?_, by rw [e1]; exact h.vl_mirror h1, by rw [e2]; exact h.vl_mirror h2, ?_⟩
  · rw [e1, h.tg_mirror h1 hq.hx, Ok.mt_pair hq]
  · rw [e2, h.tg_mirror h2 hq.hy, Ok.mt_pair hq.symm]
  · rw [e1, e2]
    have hk := hq.kk
    unfold kinds at hk ⊢
    rw [a3, a4, a5, a6, b3, b4, b5, b6]
    by_cases hlt : p < i
    · rw [if_pos hlt] at hk
      rw [if_neg (by omega)]
      cases hJ : Isa.isJ (at_ l i).op <;> cases hL : Isa.isL (at_ l i).op <;> cases hJ' : Isa.isJ (at_ l p).op <;> cases hL' : Isa.isL (at_ l p).op <;> simp [hJ, hL, hJ', hL'] at hk ⊢ <;> (first | exact hk | exact ⟨hk.2, hk.1⟩ | skip)
    · rw [if_neg hlt] at hk
      rw [if_pos (by omega)]
      cases hJ : Isa.isJ (at_ l i).op <;> cases hL : Isa.isL (at_ l i).op <;> cases hJ' : Isa.isJ (at_ l p).op <;> cases hL' : Isa.isL (at_ l p).op <;> simp [hJ, hL, hJ', hL'] at hk ⊢ <;> (first | exact hk | exact ⟨hk.2, hk.1⟩ | skip)
/-- partners stay partners -/
theorem Ok.partner_mirror {l : List Ins} (h : Ok l) {i : Nat} (hi : i < l.length) : partner (invert l) (l.length - 1 - i) = (partner l i).map fun p => l.length - 1 - p := by
  cases hp : partner l i with
  | some p => exact (h.pp_mirror (PP.mk' hp)).is
  | none =>
    have hk := h.partner_pk hi
    rw [hp] at hk
    cases hq : partner (invert l) (l.length - 1 - i) with
    | none => rfl
    | some q =>
      have := (PP.mk' hq).kinds_of.1
      rw [inv_at' l hi] at this
      obtain ⟨a1, a2, a3, a4, a5, a6⟩ := invAt_kinds l i
      rw [pk_iff, a1, a2, ← pk_iff, ← hk] at this
      cases this
theorem Ok.covers_mirror {l : List Ins} (h : Ok l) {e k : Nat} (he : e < l.length) (hk : k < l.length) : covers (invert l) (l.length - 1 - e) (l.length - 1 - k) = true ↔ ∃ s, covers l s k = true ∧ partner l s = some e := by
  rw [covers_if, inv_at' l he, (invAt_kinds l e).2.2.1, h.partner_mirror he]
  constructor
  · rintro ⟨h1, q, h2, h3, h4⟩
    cases hp : partner l e with
    | none => rw [hp] at h2; cases h2
    | some s =>
      rw [hp] at h2
      have h5 : l.length - 1 - s = q := by simpa using h2
      have hq := PP.mk' hp
      have := hq.hj
      refine ⟨s, covers_if.2 ⟨by rw [← hq.kinds_of.2.2.2.2]; exact h1, e, hq.symm.is, by omega, by omega⟩, hq.symm.is⟩
  · rintro ⟨s, hc, hp⟩
    obtain ⟨h1, e', hp', h2, h3⟩ := covers_if.1 hc
    rw [hp] at hp'
    injection hp' with hp'
    subst hp'
    have hq := PP.mk' hp
    have := hq.hi
    refine ⟨by rw [← hq.kinds_of.2.2.2.1]; exact h1, l.length - 1 - s, by rw [hq.symm.is]; rfl, by omega, by omega⟩
theorem Ok.fine_mirror {l : List Ins} (h : Ok l) {i : Nat} (hi : i < l.length) : Fine (invert l) (l.length - 1 - i) := by
  obtain ⟨a1, a2, a3, a4, a5, a6⟩ := invAt_kinds l i
  have e1 := inv_at' l hi
  have hF := h.fine hi
  constructor
  · rw [e1]; exact h.vl_mirror hi
  · rw [e1, a2]
    intro hc
    obtain ⟨s, e, ht, hs, hp⟩ := h.call hi hc
    have hq := PP.mk' hp
    have hl := hq.hj
    have hl2 := hq.hi
    rw [h.tg_mirror hi (isC_has' hc)]
    refine startAt_iff.2 ⟨l.length - 1 - e, l.length - 1 - s, ?_, ?_, (h.pp_mirror hq).symm.is⟩
    · unfold mt
      rw [if_pos hc, ht, Int.toNat_natCast, hp]
      simp [num]; omega
    · rw [inv_at' l hl, (invAt_kinds l e).2.2.1, ← hq.kinds_of.2.2.2.1]; exact hs
  · rw [e1, pk_iff, a1, a2, ← pk_iff]
    intro hk
    obtain ⟨p, hp⟩ := hF.pair hk
    exact ⟨_, (h.pp_mirror (PP.mk' hp)).is⟩
  · rw [e1, a3]
    intro hE
    cases hn : nested (invert l) (l.length - 1 - i) with
    | false => rfl
    | true =>
      exfalso
      obtain ⟨s', h1, h2⟩ := nested_if.1 hn
      have hs' : s' = l.length - 1 - (l.length - 1 - s') := by omega
      rw [hs'] at h2
      obtain ⟨s, hc, hp⟩ := (h.covers_mirror (e := l.length - 1 - s') (by omega) hi).1 h2
      obtain ⟨q, hq⟩ := hF.pair (by simp [pk, hE])
      have hqq := PP.mk' hq
      have hS : isS (at_ l q) = true := by rw [← hqq.kinds_of.2.2.2.2]; exact hE
      have := hqq.symm.order hS
      have hc2 : covers l q i = true := covers_if.2 ⟨hS, i, hqq.symm.is, by omega, by omega⟩
      have hsq := h.disjoint hc hc2
      rw [hsq, hqq.symm.is] at hp
      injection hp with hp
      omega
  · rw [e1]
    intro hj p' hp'
    have hj2 : jl (at_ l i) = true := by
      unfold jl at hj ⊢
      rw [a5, a6, Bool.or_comm] at hj
      exact hj
    rw [h.partner_mirror hi] at hp'
    cases hp : partner l i with
    | none => rw [hp] at hp'; cases hp'
    | some p =>
      rw [hp] at hp'
      have e2 : l.length - 1 - p = p' := by simpa using hp'
      have hq := PP.mk' hp
      have hpl := hq.hj
      have hr := h.region_covers.1 (hF.reg hj2 p hp)
      subst e2
      unfold region
      refine regU_congr fun s' hs' => ?_
      rw [inv_length] at hs'
      have e3 : s' = l.length - 1 - (l.length - 1 - s') := by omega
      rw [e3, Bool.eq_iff_iff, h.covers_mirror (by omega) hi, h.covers_mirror (by omega) hpl]
      exact ⟨fun ⟨s, hc, hx⟩ => ⟨s, by rw [← hr s]; exact hc, hx⟩, fun ⟨s, hc, hx⟩ => ⟨s, by rw [hr s]; exact hc, hx⟩⟩
/-- the inverse of a valid image is valid -/
theorem Ok.mirror {l : List Ins} (h : Ok l) : Ok (invert l) := by
  refine Ok.mk' (by rw [inv_length]; exact h.n) fun i hi => ?_
  rw [inv_length] at hi
  have := h.fine_mirror (i := l.length - 1 - i) (by omega)
  rwa [show l.length - 1 - (l.length - 1 - i) = i from by omega] at this
/-- inversion is an involution -/
theorem Ok.twice {l : List Ins} (h : Ok l) : invert (invert l) = l := by
  apply ext_at (by rw [inv_length, inv_length])
  intro k hk
  rw [inv_length, inv_length] at hk
  rw [inv_at _ (by rw [inv_length]; exact hk), inv_length]
  obtain ⟨a1, a2, a3, a4, a5, a6⟩ := invAt_kinds l k
  have e1 := inv_at' l hk
  cases hh : has (at_ l k) with
  | false =>
    rw [invAt_no (by rw [e1, a1]; exact hh), e1, invAt_no hh, inv_invI]
  | true =>
    rw [invAt_yes (by rw [e1, a1]; exact hh), e1]
    have ht : mt (invert l) (l.length - 1 - k) = tg (at_ l k) := by
      unfold mt
      rw [e1, a2, inv_length, h.tg_mirror hk hh]
      cases hc : isC (at_ l k) with
      | true =>
        obtain ⟨s, e, ht, hs, hp⟩ := h.call hk hc
        have hq := PP.mk' hp
        have hl := hq.hj
        have hl2 := hq.hi
        have em : mt l k = ((l.length - 1 - e : Nat) : Int) := by
          unfold mt
          rw [if_pos hc, ht, Int.toNat_natCast, hp]
          simp [num]; omega
        rw [if_pos rfl, em, Int.toNat_natCast, h.partner_mirror hl, partner_symm hp, ht]
        simp [num]
        omega
      | false =>
        have hk2 : pk (at_ l k) = true := by rw [pk_iff, hh, hc]; rfl
        obtain ⟨p, hp⟩ := (h.fine hk).pair hk2
        have hq := PP.mk' hp
        have hl := hq.hj
        rw [if_neg (by simp), Ok.mt_pair hq, hq.tx]
        omega
    rw [ht, invAt_yes hh, inv_ret, inv_invI, ret_ret, ret_tg]
theorem outside_len {l m : List Ins} {mem st : Int} (h : l.length = m.length) : outside l mem st ↔ outside m mem st := by unfold outside; rw [h]
theorem valid_ok {l : List Ins} {mem st : Int} (h : valid l mem st = true) : Ok l := (valid_iff.1 h).2
theorem valid_mirror {l : List Ins} {mem st : Int} (h : valid l mem st = true) : valid (invert l) mem st = true := by
  obtain ⟨h1, h2⟩ := valid_iff.1 h
  exact valid_iff.2 ⟨by rw [outside_len (inv_length l)]; exact h1, h2.mirror⟩
end Img
end Go.Proofs.Yteonkfdmkgjpaaa
