/- Layer 23, plain: the laws of valid images: pairs, disjoint procedures, mirror, join, a spoilt pair. No program in sight. -/
import Derived.Test.YteonkfdmkgjpaaaImgPure2
namespace Go.Proofs.Yteonkfdmkgjpaaa
set_option linter.unusedVariables false
namespace Img

/-- i and j are partners, told in one row -/
structure PP (l : List Ins) (i j : Nat) : Prop where
  hi : i < l.length
  hj : j < l.length
  ne : j ≠ i
  hx : has (at_ l i) = true
  tx : tg (at_ l i) = (j : Int)
  hy : has (at_ l j) = true
  ty : tg (at_ l j) = (i : Int)
  vx : vl (at_ l i) = true
  vy : vl (at_ l j) = true
  kk : kinds i j (at_ l i) (at_ l j) = true
theorem isP_iff {l : List Ins} {i j : Nat} : isP l i j = true ↔ j ≠ i ∧ has (at_ l i) = true ∧ tg (at_ l i) = (j : Int) ∧ has (at_ l j) = true ∧ tg (at_ l j) = (i : Int) ∧ vl (at_ l i) = true ∧ vl (at_ l j) = true ∧ kinds i j (at_ l i) (at_ l j) = true := by
  unfold isP
  simp only [Bool.and_eq_true, decide_eq_true_eq, beq_iff_eq, and_assoc]
theorem PP.mk' {l : List Ins} {i j : Nat} (h : partner l i = some j) : PP l i j := by
  unfold partner at h
  split at h
  · rename_i hh
    obtain ⟨h1, h2, h3, h4⟩ := hh
    injection h with h
    have e : tg (at_ l i) = (j : Int) := by omega
    rw [e, Int.toNat_natCast] at h4
    obtain ⟨a, b, c, d, e1, f, g, k⟩ := isP_iff.1 h4
    exact ⟨h1, by omega, a, b, c, d, e1, f, g, k⟩
  · cases h
theorem PP.is {l : List Ins} {i j : Nat} (h : PP l i j) : partner l i = some j :=
  partner_yes h.hi h.hj h.tx (isP_iff.2 ⟨h.ne, h.hx, h.tx, h.hy, h.ty, h.vx, h.vy, h.kk⟩)
theorem partner_iff {l : List Ins} {i j : Nat} : partner l i = some j ↔ PP l i j := ⟨PP.mk', PP.is⟩
theorem kinds_symm {i j : Nat} {x y : Ins} (hne : j ≠ i) : kinds i j x y = kinds j i y x := by
  unfold kinds
  by_cases h : j < i
  · rw [if_pos h, if_neg (by omega)]
    cases Isa.isJ x.op <;> cases Isa.isL x.op <;> cases Isa.isJ y.op <;> cases Isa.isL y.op <;> simp
  · rw [if_neg h, if_pos (by omega)]
    cases Isa.isJ x.op <;> cases Isa.isL x.op <;> cases Isa.isJ y.op <;> cases Isa.isL y.op <;> simp
theorem PP.symm {l : List Ins} {i j : Nat} (h : PP l i j) : PP l j i :=
  ⟨h.hj, h.hi, Ne.symm h.ne, h.hy, h.ty, h.hx, h.tx, h.vy, h.vx, by rw [kinds_symm (Ne.symm h.ne)]; exact h.kk⟩
theorem partner_symm {l : List Ins} {i j : Nat} (h : partner l i = some j) : partner l j = some i := (PP.mk' h).symm.is

/-- the kinds of opcodes exclude one another, all of them have a target -/
theorem op_kinds (op : Int) :
    ((Isa.isJ op = true ∧ Isa.isL op = false ∧ (op == 32) = false ∧ (op == 33) = false ∧ (op == 30 || op == 31) = false ∧ (Isa.tgt op).isSome = true) ∨
     (Isa.isJ op = false ∧ Isa.isL op = true ∧ (op == 32) = false ∧ (op == 33) = false ∧ (op == 30 || op == 31) = false ∧ (Isa.tgt op).isSome = true) ∨
     (Isa.isJ op = false ∧ Isa.isL op = false ∧ (op == 32) = true ∧ (op == 33) = false ∧ (op == 30 || op == 31) = false ∧ (Isa.tgt op).isSome = true) ∨
     (Isa.isJ op = false ∧ Isa.isL op = false ∧ (op == 32) = false ∧ (op == 33) = true ∧ (op == 30 || op == 31) = false ∧ (Isa.tgt op).isSome = true) ∨
     (Isa.isJ op = false ∧ Isa.isL op = false ∧ (op == 32) = false ∧ (op == 33) = false ∧ (op == 30 || op == 31) = true ∧ Isa.tgt op = some 0) ∨
     (Isa.isJ op = false ∧ Isa.isL op = false ∧ (op == 32) = false ∧ (op == 33) = false ∧ (op == 30 || op == 31) = false ∧ Isa.tgt op = none)) := by
  rcases Isa.row_range op with ⟨n, rfl⟩ | h
  · revert n; decide
  · have hr : ¬ (0 ≤ op ∧ op < 35) := by
      intro h2
      obtain ⟨r, hr, _⟩ := Isa.row_some op h2.1 h2.2
      rw [h] at hr; cases hr
    have ht : Isa.tgt op = none := by unfold Isa.tgt Isa.ops; rw [h]; rfl
    refine .inr (.inr (.inr (.inr (.inr ⟨?_, ?_, ?_, ?_, ?_, ht⟩)))) <;> simp [Isa.isJ, Isa.isL] <;> omega
inductive Kind (x : Ins) : Prop
  | j (a : Isa.isJ x.op = true) (b : Isa.isL x.op = false) (c : isS x = false) (d : isE x = false) (e : isC x = false) (f : has x = true)
  | l (a : Isa.isJ x.op = false) (b : Isa.isL x.op = true) (c : isS x = false) (d : isE x = false) (e : isC x = false) (f : has x = true)
  | s (a : Isa.isJ x.op = false) (b : Isa.isL x.op = false) (c : isS x = true) (d : isE x = false) (e : isC x = false) (f : has x = true)
  | e (a : Isa.isJ x.op = false) (b : Isa.isL x.op = false) (c : isS x = false) (d : isE x = true) (e : isC x = false) (f : has x = true)
  | c (a : Isa.isJ x.op = false) (b : Isa.isL x.op = false) (c : isS x = false) (d : isE x = false) (e : isC x = true) (f : Isa.tgt x.op = some 0)
  | n (a : Isa.isJ x.op = false) (b : Isa.isL x.op = false) (c : isS x = false) (d : isE x = false) (e : isC x = false) (f : has x = false)
theorem kind (x : Ins) : Kind x := by
  rcases op_kinds x.op with ⟨a, b, c, d, e, f⟩ | ⟨a, b, c, d, e, f⟩ | ⟨a, b, c, d, e, f⟩ | ⟨a, b, c, d, e, f⟩ | ⟨a, b, c, d, e, f⟩ | ⟨a, b, c, d, e, f⟩
  · exact .j a b c d e f
  · exact .l a b c d e f
  · exact .s a b c d e f
  · exact .e a b c d e f
  · exact .c a b c d e f
  · exact .n a b c d e (by unfold has; rw [f]; rfl)
/-- what is paired -/
def pk (x : Ins) : Bool := Isa.isJ x.op || Isa.isL x.op || isS x || isE x
theorem pk_iff (x : Ins) : pk x = (has x && !isC x) := by
  rcases kind x with ⟨a, b, c, d, e, f⟩ | ⟨a, b, c, d, e, f⟩ | ⟨a, b, c, d, e, f⟩ | ⟨a, b, c, d, e, f⟩ | ⟨a, b, c, d, e, f⟩ | ⟨a, b, c, d, e, f⟩ <;> simp [pk, a, b, c, d, e, f]
theorem PP.kinds_of {l : List Ins} {i j : Nat} (h : PP l i j) : pk (at_ l i) = true ∧ Isa.isJ (at_ l i).op = Isa.isL (at_ l j).op ∧ Isa.isL (at_ l i).op = Isa.isJ (at_ l j).op ∧ isS (at_ l i) = isE (at_ l j) ∧ isE (at_ l i) = isS (at_ l j) := by
  have hk := h.kk
  unfold kinds at hk
  unfold pk
  rcases kind (at_ l i) with ⟨a, b, c, d, e, f⟩ | ⟨a, b, c, d, e, f⟩ | ⟨a, b, c, d, e, f⟩ | ⟨a, b, c, d, e, f⟩ | ⟨a, b, c, d, e, f⟩ | ⟨a, b, c, d, e, f⟩ <;>
  rcases kind (at_ l j) with ⟨a', b', c', d', e', f'⟩ | ⟨a', b', c', d', e', f'⟩ | ⟨a', b', c', d', e', f'⟩ | ⟨a', b', c', d', e', f'⟩ | ⟨a', b', c', d', e', f'⟩ | ⟨a', b', c', d', e', f'⟩ <;>
  simp [a, b, c, d, a', b', c', d'] at hk ⊢
theorem PP.order {l : List Ins} {i j : Nat} (h : PP l i j) (hs : isS (at_ l i) = true) : i < j := by
  have hk := h.kk
  have hne := h.ne
  unfold kinds at hk
  rcases kind (at_ l i) with ⟨a, b, c, d, e, f⟩ | ⟨a, b, c, d, e, f⟩ | ⟨a, b, c, d, e, f⟩ | ⟨a, b, c, d, e, f⟩ | ⟨a, b, c, d, e, f⟩ | ⟨a, b, c, d, e, f⟩
  all_goals first | (rw [hs] at c; cases c; done) | skip
  by_cases hlt : j < i
  · rw [if_pos hlt] at hk; simp [a, b, d] at hk
  · omega

theorem ff {P : Prop} {b : Bool} (h : b = false) (h' : b = true) : P := by rw [h] at h'; cases h'
/-- an image without faults -/
structure Ok (l : List Ins) : Prop where
  f : ∀ i, i < l.length → fault l i = 0
  n : l.length ≤ 65536
theorem firstF_all {l : List Ins} : ∀ (n i : Nat), (firstF l n i).2 = 0 ↔ ∀ j, i ≤ j → j < i + n → fault l j = 0
  | 0, i => ⟨fun _ j h1 h2 => by omega, fun _ => rfl⟩
  | n + 1, i => by
    unfold firstF
    by_cases hf : fault l i = 0
    · rw [if_neg (by simp [hf]), firstF_all n (i + 1)]
      constructor
      · intro h j h1 h2
        by_cases e : j = i
        · rw [e]; exact hf
        · exact h j (by omega) (by omega)
      · intro h j h1 h2
        exact h j (by omega) (by omega)
    · rw [if_pos hf]
      constructor
      · intro h; exact absurd h hf
      · intro h; exact absurd (h i (Nat.le_refl _) (by omega)) hf
theorem valid_iff {l : List Ins} {mem st : Int} : valid l mem st = true ↔ ¬ outside l mem st ∧ Ok l := by
  unfold valid check
  by_cases ho : outside l mem st
  · simp [ho]
  · rw [if_neg ho]
    constructor
    · intro h
      have h2 : (firstF l l.length 0).2 = 0 := by simpa using h
      refine ⟨ho, fun i hi => (firstF_all _ _).1 h2 i (Nat.zero_le _) (by omega), ?_⟩
      unfold outside at ho; omega
    · intro h
      have := (firstF_all (l := l) l.length 0).2 fun j _ h2 => h.2.f j (by omega)
      simpa using this

/-- what a fault-free instruction is -/
structure Fine (l : List Ins) (i : Nat) : Prop where
  v : vl (at_ l i) = true
  call : isC (at_ l i) = true → startAt l (tg (at_ l i)) = true
  pair : pk (at_ l i) = true → ∃ p, partner l i = some p
  start : isS (at_ l i) = true → nested l i = false
  reg : jl (at_ l i) = true → ∀ p, partner l i = some p → region l i = region l p
theorem fine_iff {l : List Ins} {i : Nat} : fault l i = 0 ↔ Fine l i := by
  unfold fault
  cases hv : vl (at_ l i) with
  | false => rw [if_pos hv]; exact ⟨fun h => (by cases h), fun h => ff hv h.v⟩
  | true =>
    rw [if_neg (by rw [hv]; simp)]
    have hp := pk_iff (at_ l i)
    rcases kind (at_ l i) with ⟨a, b, c, d, e, f⟩ | ⟨a, b, c, d, e, f⟩ | ⟨a, b, c, d, e, f⟩ | ⟨a, b, c, d, e, f⟩ | ⟨a, b, c, d, e, f⟩ | ⟨a, b, c, d, e, f⟩
    · rw [f, e] at hp
      rw [if_neg (by simp [f]), if_neg (by simp [e])]
      cases hq : partner l i with
      | none => exact ⟨fun h => (by cases h), fun h => (by obtain ⟨p, h⟩ := h.pair hp; rw [hq] at h; cases h)⟩
      | some p =>
        simp only [c, d]
        by_cases hr : region l i = region l p
        · rw [if_neg (by simp), if_neg (by simp [hr])]
          exact ⟨fun _ => ⟨hv, fun h => ff e h, fun _ => ⟨p, hq⟩, fun h => ff c h, fun _ q hq' => (by rw [hq] at hq'; injection hq' with hq'; rw [← hq']; exact hr)⟩, fun _ => rfl⟩
        · rw [if_neg (by simp), if_pos (by simp [hr])]
          exact ⟨fun h => (by cases h), fun h => absurd (h.reg (by simp [jl, a]) p hq) hr⟩
    · rw [f, e] at hp
      rw [if_neg (by simp [f]), if_neg (by simp [e])]
      cases hq : partner l i with
      | none => exact ⟨fun h => (by cases h), fun h => (by obtain ⟨p, h⟩ := h.pair hp; rw [hq] at h; cases h)⟩
      | some p =>
        simp only [c, d]
        by_cases hr : region l i = region l p
        · rw [if_neg (by simp), if_neg (by simp [hr])]
          exact ⟨fun _ => ⟨hv, fun h => ff e h, fun _ => ⟨p, hq⟩, fun h => ff c h, fun _ q hq' => (by rw [hq] at hq'; injection hq' with hq'; rw [← hq']; exact hr)⟩, fun _ => rfl⟩
        · rw [if_neg (by simp), if_pos (by simp [hr])]
          exact ⟨fun h => (by cases h), fun h => absurd (h.reg (by simp [jl, b]) p hq) hr⟩
    · rw [f, e] at hp
      rw [if_neg (by simp [f]), if_neg (by simp [e])]
      cases hq : partner l i with
      | none => exact ⟨fun h => (by cases h), fun h => (by obtain ⟨p, h⟩ := h.pair hp; rw [hq] at h; cases h)⟩
      | some p =>
        simp only [c, d]
        cases hn : nested l i with
        | true => rw [if_pos (by simp)]; exact ⟨fun h => (by cases h), fun h => ff (h.start c) hn⟩
        | false =>
          rw [if_neg (by simp), if_neg (by simp)]
          exact ⟨fun _ => ⟨hv, fun h => ff e h, fun _ => ⟨p, hq⟩, fun _ => hn, fun h => (by simp [jl, a, b] at h)⟩, fun _ => rfl⟩
    · rw [f, e] at hp
      rw [if_neg (by simp [f]), if_neg (by simp [e])]
      cases hq : partner l i with
      | none => exact ⟨fun h => (by cases h), fun h => (by obtain ⟨p, h⟩ := h.pair hp; rw [hq] at h; cases h)⟩
      | some p =>
        simp only [c, d]
        rw [if_neg (by simp), if_neg (by simp)]
        exact ⟨fun _ => ⟨hv, fun h => ff e h, fun _ => ⟨p, hq⟩, fun h => ff c h, fun h => (by simp [jl, a, b] at h)⟩, fun _ => rfl⟩
    · have hh : has (at_ l i) = true := by unfold has; rw [f]; rfl
      rw [hh, e] at hp
      rw [if_neg (by simp [hh]), if_pos (by simp [e])]
      cases hs : startAt l (tg (at_ l i)) with
      | true => rw [if_pos rfl]; exact ⟨fun _ => ⟨hv, fun _ => hs, fun h => ff hp h, fun h => ff c h, fun h => (by simp [jl, a, b] at h)⟩, fun _ => rfl⟩
      | false => rw [if_neg (by simp)]; exact ⟨fun h => (by cases h), fun h => ff hs (h.call e)⟩
    · rw [f, e] at hp
      rw [if_pos (by simp [f])]
      exact ⟨fun _ => ⟨hv, fun h => ff e h, fun h => ff hp h, fun h => ff c h, fun h => (by simp [jl, a, b] at h)⟩, fun _ => rfl⟩
theorem Ok.fine {l : List Ins} (h : Ok l) {i : Nat} (hi : i < l.length) : Fine l i := fine_iff.1 (h.f i hi)
theorem Ok.mk' {l : List Ins} (hn : l.length ≤ 65536) (h : ∀ i, i < l.length → Fine l i) : Ok l := ⟨fun i hi => fine_iff.2 (h i hi), hn⟩
theorem partner_lt1 {l : List Ins} {i j : Nat} (h : partner l i = some j) : i < l.length := (PP.mk' h).hi
/-- in a valid image exactly the paired kinds have a partner -/
theorem Ok.partner_pk {l : List Ins} (h : Ok l) {i : Nat} (hi : i < l.length) : (partner l i).isSome = pk (at_ l i) := by
  cases hp : partner l i with
  | some p => rw [(PP.mk' hp).kinds_of.1]; rfl
  | none =>
    cases hk : pk (at_ l i) with
    | false => rfl
    | true => obtain ⟨p, hq⟩ := (h.fine hi).pair hk; rw [hp] at hq; cases hq

/-- the procedure from s to e contains k -/
theorem covers_if {l : List Ins} {s k : Nat} : covers l s k = true ↔ isS (at_ l s) = true ∧ ∃ e, partner l s = some e ∧ s ≤ k ∧ k ≤ e := by
  unfold covers
  cases hp : partner l s with
  | none => simp
  | some e => simp
theorem regU_cases (l : List Ins) (k : Nat) : ∀ m, (regU l m k = -1 ∧ ∀ j, j < m → covers l j k = false) ∨ ∃ s, s < m ∧ regU l m k = (s : Int) ∧ covers l s k = true
  | 0 => .inl ⟨rfl, fun j h => by omega⟩
  | m + 1 => by
    rw [regU_step]
    cases hc : covers l m k with
    | true => exact .inr ⟨m, by omega, by simp, hc⟩
    | false =>
      rcases regU_cases l k m with ⟨h1, h2⟩ | ⟨s, h1, h2, h3⟩
      · refine .inl ⟨by simpa using h1, fun j hj => ?_⟩
        by_cases e : j = m
        · rw [e]; exact hc
        · exact h2 j (by omega)
      · exact .inr ⟨s, by omega, by simpa using h2, h3⟩
theorem regU_congr {l l' : List Ins} {a b : Nat} : ∀ {m : Nat}, (∀ j, j < m → covers l j a = covers l' j b) → regU l m a = regU l' m b
  | 0, _ => rfl
  | m + 1, h => by rw [regU_step, regU_step, h m (Nat.lt_succ_self m), regU_congr fun j hj => h j (by omega)]
theorem nested_if {l : List Ins} {i : Nat} : nested l i = true ↔ ∃ s, s < i ∧ covers l s i = true := by
  constructor
  · intro h
    unfold nested at h
    rcases regU_cases l i i with ⟨h1, _⟩ | ⟨s, h1, _, h3⟩
    · rw [h1] at h; simp at h
    · exact ⟨s, h1, h3⟩
  · rintro ⟨s, h1, h2⟩
    exact nested_true h1 h2
/-- in a valid image procedures are disjoint -/
theorem Ok.disjoint {l : List Ins} (h : Ok l) {s s' k : Nat} (h1 : covers l s k = true) (h2 : covers l s' k = true) : s = s' := by
  obtain ⟨a, e, p, b, c⟩ := covers_if.1 h1
  obtain ⟨a', e', p', b', c'⟩ := covers_if.1 h2
  have o := (PP.mk' p).order a
  have o' := (PP.mk' p').order a'
  have key : ∀ {s s' e : Nat}, partner l s = some e → isS (at_ l s) = true → isS (at_ l s') = true → s' < l.length → s < s' → s' ≤ e → False := by
    intro s s' e p a a' hl hlt hle
    have hn := (h.fine hl).start a'
    rw [nested_if.2 ⟨s, hlt, covers_if.2 ⟨a, e, p, by omega, hle⟩⟩] at hn
    cases hn
  rcases Nat.lt_trichotomy s s' with hlt | heq | hlt
  · exact (key p a a' (partner_lt1 p') hlt (by omega)).elim
  · exact heq
  · exact (key p' a' a (partner_lt1 p) hlt (by omega)).elim
/-- the region as the one procedure that contains an index -/
theorem Ok.region_covers {l : List Ins} (h : Ok l) {a b : Nat} : region l a = region l b ↔ ∀ s, covers l s a = covers l s b := by
  constructor
  · intro he s
    unfold region at he
    have hs : ∀ {s k}, covers l s k = true → s < l.length := fun hc => by obtain ⟨_, e, p, _⟩ := covers_if.1 hc; exact partner_lt1 p
    rcases regU_cases l a l.length with ⟨h1, h2⟩ | ⟨t, h1, h2, h3⟩ <;> rcases regU_cases l b l.length with ⟨h1', h2'⟩ | ⟨t', h1', h2', h3'⟩
    · cases ha : covers l s a with
      | true => rw [h2 s (hs ha)] at ha; cases ha
      | false => cases hb : covers l s b with
        | true => rw [h2' s (hs hb)] at hb; cases hb
        | false => rfl
    · rw [h1, h2'] at he; omega
    · rw [h1', h2] at he; omega
    · have e : t = t' := by rw [h2, h2'] at he; omega
      subst e
      by_cases e : s = t
      · rw [e, h3, h3']
      · cases ha : covers l s a with
        | true => exact absurd (h.disjoint ha h3) e
        | false => cases hb : covers l s b with
          | true => exact absurd (h.disjoint hb h3') e
          | false => rfl
  · intro hc
    exact regU_congr fun j _ => hc j
theorem Ok.region_eq {l : List Ins} (h : Ok l) {s k : Nat} (hc : covers l s k = true) : region l k = (s : Int) := by
  unfold region
  rcases regU_cases l k l.length with ⟨_, h2⟩ | ⟨t, _, h2, h3⟩
  · obtain ⟨_, e, p, _⟩ := covers_if.1 hc
    rw [h2 s (partner_lt1 p)] at hc; cases hc
  · rw [h2, h.disjoint hc h3]
theorem startAt_iff {l : List Ins} {t : Int} : startAt l t = true ↔ ∃ s e : Nat, t = (s : Int) ∧ isS (at_ l s) = true ∧ partner l s = some e := by
  unfold startAt
  simp only [Bool.and_eq_true, decide_eq_true_eq]
  constructor
  · rintro ⟨⟨⟨h0, h1⟩, h2⟩, h3⟩
    obtain ⟨e, he⟩ := Option.isSome_iff_exists.1 h3
    exact ⟨t.toNat, e, by omega, h2, he⟩
  · rintro ⟨s, e, rfl, h2, h3⟩
    have := partner_lt1 h3
    simp only [Int.toNat_natCast]
    exact ⟨⟨⟨by omega, by omega⟩, h2⟩, by rw [h3]; rfl⟩
end Img
end Go.Proofs.Yteonkfdmkgjpaaa
