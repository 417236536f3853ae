/- Contracts of layer 23: Partner. -/
import Derived.Test.YteonkfdmkgjpaaaIsaW4
import Derived.Test.YteonkfdmkgjpaaaCode
import Derived.Deep.RegionHeld3
import Derived.Deep.DeepCutAuto
import Derived.BigQuiet
import Derived.Deep.QuietTactic
namespace Go.Proofs.Yteonkfdmkgjpaaa
open Go.RowKit
set_option linter.unusedVariables false
set_option linter.unusedSimpArgs false

set_option maxHeartbeats 4000000 in
theorem partner_out (l : List Ins) (A : Option Addr) (cap : Nat) (mem st i : Int) (w : World) (hi : ¬ (0 ≤ i ∧ i < l.length)) :
    Calls Try.prog 27 #[.agg #[.slice A l.length cap, .int .i64 mem, .int .i64 st], .int .i64 i] w fun e w' => e = .returned (.tuple #[.int .i64 0, .bool false]) ∧ Below w.heap.size w w' := by
  by_cases h0 : i < 0
  · go_enter Try.func27, Try.ntmps27
    go_wp2
    go_ret2
    exact ⟨rfl, (Below.refl _ _).alloc (Nat.le_refl _) _⟩
  · have h1 : (l.length : Int) ≤ i := by omega
    go_enter Try.func27, Try.ntmps27
    go_wp2
    go_ret2
    exact ⟨rfl, (Below.refl _ _).alloc (Nat.le_refl _) _⟩

/-- the pair (first, second) has boxes of its own -/
def PRel (l : List Ins) (w : World) (b o cap : Nat) (mem st : Int) (k j g9 : Nat) (s11 s12 : Value) (wx : World) : Prop :=
  ∃ g1 g2 : Nat, s11 = .pointer (some ⟨g1, 0, none⟩) ∧ s12 = .pointer (some ⟨g2, 0, none⟩) ∧ g1 ≠ g2 ∧ g9 < g1 ∧ g9 < g2 ∧
    St w [(g1, 38, #[.int .u8 (Img.at_ l k).op, .int .i64 (Img.at_ l k).a, .int .i64 (Img.at_ l k).b, .int .i64 (Img.at_ l k).c, .int .i64 (Img.at_ l k).d]), (g2, 38, #[.int .u8 (Img.at_ l j).op, .int .i64 (Img.at_ l j).a, .int .i64 (Img.at_ l j).b, .int .i64 (Img.at_ l j).c, .int .i64 (Img.at_ l j).d]), (g9, 38, #[.int .u8 (Img.at_ l j).op, .int .i64 (Img.at_ l j).a, .int .i64 (Img.at_ l j).b, .int .i64 (Img.at_ l j).c, .int .i64 (Img.at_ l j).d]), (w.heap.size + 1, 38, #[.int .u8 (Img.at_ l k).op, .int .i64 (Img.at_ l k).a, .int .i64 (Img.at_ l k).b, .int .i64 (Img.at_ l k).c, .int .i64 (Img.at_ l k).d]), (w.heap.size, 24, #[.slice (some ⟨b, o, none⟩) l.length cap, .int .i64 mem, .int .i64 st])] wx

theorem pRelA {l : List Ins} {w W : World} {b o cap : Nat} {mem st : Int} {k j g9 : Nat} (h : St w [(g9, 38, #[.int .u8 (Img.at_ l j).op, .int .i64 (Img.at_ l j).a, .int .i64 (Img.at_ l j).b, .int .i64 (Img.at_ l j).c, .int .i64 (Img.at_ l j).d]), (w.heap.size + 1, 38, #[.int .u8 (Img.at_ l k).op, .int .i64 (Img.at_ l k).a, .int .i64 (Img.at_ l k).b, .int .i64 (Img.at_ l k).c, .int .i64 (Img.at_ l k).d]), (w.heap.size, 24, #[.slice (some ⟨b, o, none⟩) l.length cap, .int .i64 mem, .int .i64 st])] W) :
    PRel l w b o cap mem st k j g9 (.pointer (some ⟨W.heap.size, 0, none⟩)) (.pointer (some ⟨W.heap.size + 1, 0, none⟩)) ((W.alloc (.cells #[.int .u8 (Img.at_ l k).op, .int .i64 (Img.at_ l k).a, .int .i64 (Img.at_ l k).b, .int .i64 (Img.at_ l k).c, .int .i64 (Img.at_ l k).d] 38)).alloc (.cells #[.int .u8 (Img.at_ l j).op, .int .i64 (Img.at_ l j).a, .int .i64 (Img.at_ l j).b, .int .i64 (Img.at_ l j).c, .int .i64 (Img.at_ l j).d] 38)).drew := by
  have hl := h.b1.lt
  have h2 := ((h.alloc #[.int .u8 (Img.at_ l k).op, .int .i64 (Img.at_ l k).a, .int .i64 (Img.at_ l k).b, .int .i64 (Img.at_ l k).c, .int .i64 (Img.at_ l k).d] 38).alloc #[.int .u8 (Img.at_ l j).op, .int .i64 (Img.at_ l j).a, .int .i64 (Img.at_ l j).b, .int .i64 (Img.at_ l j).c, .int .i64 (Img.at_ l j).d] 38).swap.drew
  simp only [World.size_alloc] at h2
  have hl' : g9 < W.heap.size := hl
  exact ⟨_, _, rfl, rfl, by omega, hl', by omega, h2⟩
theorem pRelB {l : List Ins} {w W : World} {b o cap : Nat} {mem st : Int} {k j g9 : Nat} (h : St w [(g9, 38, #[.int .u8 (Img.at_ l j).op, .int .i64 (Img.at_ l j).a, .int .i64 (Img.at_ l j).b, .int .i64 (Img.at_ l j).c, .int .i64 (Img.at_ l j).d]), (w.heap.size + 1, 38, #[.int .u8 (Img.at_ l k).op, .int .i64 (Img.at_ l k).a, .int .i64 (Img.at_ l k).b, .int .i64 (Img.at_ l k).c, .int .i64 (Img.at_ l k).d]), (w.heap.size, 24, #[.slice (some ⟨b, o, none⟩) l.length cap, .int .i64 mem, .int .i64 st])] W) :
    PRel l w b o cap mem st k j g9 (.pointer (some ⟨W.heap.size + 1, 0, none⟩)) (.pointer (some ⟨W.heap.size, 0, none⟩)) ((W.alloc (.cells #[.int .u8 (Img.at_ l j).op, .int .i64 (Img.at_ l j).a, .int .i64 (Img.at_ l j).b, .int .i64 (Img.at_ l j).c, .int .i64 (Img.at_ l j).d] 38)).alloc (.cells #[.int .u8 (Img.at_ l k).op, .int .i64 (Img.at_ l k).a, .int .i64 (Img.at_ l k).b, .int .i64 (Img.at_ l k).c, .int .i64 (Img.at_ l k).d] 38)).drew := by
  have hl := h.b1.lt
  have h2 := ((h.alloc #[.int .u8 (Img.at_ l j).op, .int .i64 (Img.at_ l j).a, .int .i64 (Img.at_ l j).b, .int .i64 (Img.at_ l j).c, .int .i64 (Img.at_ l j).d] 38).alloc #[.int .u8 (Img.at_ l k).op, .int .i64 (Img.at_ l k).a, .int .i64 (Img.at_ l k).b, .int .i64 (Img.at_ l k).c, .int .i64 (Img.at_ l k).d] 38).drew
  simp only [World.size_alloc] at h2
  have hl' : g9 < W.heap.size := hl
  exact ⟨_, _, rfl, rfl, by omega, by omega, hl', h2⟩

/-- the pair, exchanged -/
def PSw (l : List Ins) (w : World) (b o cap : Nat) (mem st : Int) (k j g9 g1 g2 : Nat) (wx : World) : Prop :=
  St w [(g1, 38, #[.int .u8 (Img.at_ l j).op, .int .i64 (Img.at_ l j).a, .int .i64 (Img.at_ l j).b, .int .i64 (Img.at_ l j).c, .int .i64 (Img.at_ l j).d]), (g2, 38, #[.int .u8 (Img.at_ l k).op, .int .i64 (Img.at_ l k).a, .int .i64 (Img.at_ l k).b, .int .i64 (Img.at_ l k).c, .int .i64 (Img.at_ l k).d]), (g9, 38, #[.int .u8 (Img.at_ l j).op, .int .i64 (Img.at_ l j).a, .int .i64 (Img.at_ l j).b, .int .i64 (Img.at_ l j).c, .int .i64 (Img.at_ l j).d]), (w.heap.size + 1, 38, #[.int .u8 (Img.at_ l k).op, .int .i64 (Img.at_ l k).a, .int .i64 (Img.at_ l k).b, .int .i64 (Img.at_ l k).c, .int .i64 (Img.at_ l k).d]), (w.heap.size, 24, #[.slice (some ⟨b, o, none⟩) l.length cap, .int .i64 mem, .int .i64 st])] wx
theorem pSwA {l : List Ins} {w W : World} {b o cap : Nat} {mem st : Int} {k j g9 g1 g2 : Nat} (hne : g1 ≠ g2) (h1 : g9 < g1) (h2 : g9 < g2) (h9 : w.heap.size + 1 < g9)
    (h : St w [(g1, 38, #[.int .u8 (Img.at_ l k).op, .int .i64 (Img.at_ l k).a, .int .i64 (Img.at_ l k).b, .int .i64 (Img.at_ l k).c, .int .i64 (Img.at_ l k).d]), (g2, 38, #[.int .u8 (Img.at_ l j).op, .int .i64 (Img.at_ l j).a, .int .i64 (Img.at_ l j).b, .int .i64 (Img.at_ l j).c, .int .i64 (Img.at_ l j).d]), (g9, 38, #[.int .u8 (Img.at_ l j).op, .int .i64 (Img.at_ l j).a, .int .i64 (Img.at_ l j).b, .int .i64 (Img.at_ l j).c, .int .i64 (Img.at_ l j).d]), (w.heap.size + 1, 38, #[.int .u8 (Img.at_ l k).op, .int .i64 (Img.at_ l k).a, .int .i64 (Img.at_ l k).b, .int .i64 (Img.at_ l k).c, .int .i64 (Img.at_ l k).d]), (w.heap.size, 24, #[.slice (some ⟨b, o, none⟩) l.length cap, .int .i64 mem, .int .i64 st])] W) :
    PSw l w b o cap mem st k j g9 g1 g2 (set5 (set5 W g1 (.int .u8 (Img.at_ l j).op) (.int .i64 (Img.at_ l j).a) (.int .i64 (Img.at_ l j).b) (.int .i64 (Img.at_ l j).c) (.int .i64 (Img.at_ l j).d)) g2 (.int .u8 (Img.at_ l k).op) (.int .i64 (Img.at_ l k).a) (.int .i64 (Img.at_ l k).b) (.int .i64 (Img.at_ l k).c) (.int .i64 (Img.at_ l k).d)) := by
  have a1 := h.put5 (by omega) (by intro y hy; simp at hy; rcases hy with rfl | rfl | rfl | rfl <;> simp <;> omega) (.int .u8 (Img.at_ l j).op) (.int .i64 (Img.at_ l j).a) (.int .i64 (Img.at_ l j).b) (.int .i64 (Img.at_ l j).c) (.int .i64 (Img.at_ l j).d)
  exact (a1.swap.put5 (by omega) (by intro y hy; simp at hy; rcases hy with rfl | rfl | rfl | rfl <;> simp <;> omega) (.int .u8 (Img.at_ l k).op) (.int .i64 (Img.at_ l k).a) (.int .i64 (Img.at_ l k).b) (.int .i64 (Img.at_ l k).c) (.int .i64 (Img.at_ l k).d)).swap
theorem pSwB {l : List Ins} {w W : World} {b o cap : Nat} {mem st : Int} {k j g9 g1 g2 : Nat} (hne : g1 ≠ g2) (h1 : g9 < g1) (h2 : g9 < g2) (h9 : w.heap.size + 1 < g9)
    (h : St w [(g1, 38, #[.int .u8 (Img.at_ l k).op, .int .i64 (Img.at_ l k).a, .int .i64 (Img.at_ l k).b, .int .i64 (Img.at_ l k).c, .int .i64 (Img.at_ l k).d]), (g2, 38, #[.int .u8 (Img.at_ l j).op, .int .i64 (Img.at_ l j).a, .int .i64 (Img.at_ l j).b, .int .i64 (Img.at_ l j).c, .int .i64 (Img.at_ l j).d]), (g9, 38, #[.int .u8 (Img.at_ l j).op, .int .i64 (Img.at_ l j).a, .int .i64 (Img.at_ l j).b, .int .i64 (Img.at_ l j).c, .int .i64 (Img.at_ l j).d]), (w.heap.size + 1, 38, #[.int .u8 (Img.at_ l k).op, .int .i64 (Img.at_ l k).a, .int .i64 (Img.at_ l k).b, .int .i64 (Img.at_ l k).c, .int .i64 (Img.at_ l k).d]), (w.heap.size, 24, #[.slice (some ⟨b, o, none⟩) l.length cap, .int .i64 mem, .int .i64 st])] W) :
    PSw l w b o cap mem st k j g9 g1 g2 (set5 (set5 W g2 (.int .u8 (Img.at_ l k).op) (.int .i64 (Img.at_ l k).a) (.int .i64 (Img.at_ l k).b) (.int .i64 (Img.at_ l k).c) (.int .i64 (Img.at_ l k).d)) g1 (.int .u8 (Img.at_ l j).op) (.int .i64 (Img.at_ l j).a) (.int .i64 (Img.at_ l j).b) (.int .i64 (Img.at_ l j).c) (.int .i64 (Img.at_ l j).d)) := by
  have a1 := h.swap.put5 (by omega) (by intro y hy; simp at hy; rcases hy with rfl | rfl | rfl | rfl <;> simp <;> omega) (.int .u8 (Img.at_ l k).op) (.int .i64 (Img.at_ l k).a) (.int .i64 (Img.at_ l k).b) (.int .i64 (Img.at_ l k).c) (.int .i64 (Img.at_ l k).d)
  exact a1.swap.put5 (by omega) (by intro y hy; simp at hy; rcases hy with rfl | rfl | rfl | rfl <;> simp <;> omega) (.int .u8 (Img.at_ l j).op) (.int .i64 (Img.at_ l j).a) (.int .i64 (Img.at_ l j).b) (.int .i64 (Img.at_ l j).c) (.int .i64 (Img.at_ l j).d)

set_option maxHeartbeats 8000000 in
set_option maxRecDepth 100000 in
theorem partner_in (l : List Ins) (b o cap : Nat) (mem st : Int) (k : Nat) (w : World) (hk : k < l.length) (hcB : CodeB w b o l) :
    Calls Try.prog 27 #[.agg #[.slice (some ⟨b, o, none⟩) l.length cap, .int .i64 mem, .int .i64 st], .int .i64 k] w fun e w' =>
      e = .returned (.tuple #[.int .i64 (Img.num (Img.partner l k)), .bool (Img.partner l k).isSome]) ∧ Below w.heap.size w w' := by
  have hcell := hcB.2
  have hb := hcB.1
  go_enter Try.func27, Try.ntmps27
  go_upto_region 4 with fail
  have hS := ((St.start w).alloc #[.slice (some ⟨b, o, none⟩) l.length cap, .int .i64 mem, .int .i64 st] 24).alloc #[.int .u8 (Img.at_ l k).op, .int .i64 (Img.at_ l k).a, .int .i64 (Img.at_ l k).b, .int .i64 (Img.at_ l k).c, .int .i64 (Img.at_ l k).d] 38
  simp only [World.size_alloc] at hS
  generalize ((w.alloc (.cells #[.slice (some ⟨b, o, none⟩) l.length cap, .int .i64 mem, .int .i64 st] 24)).alloc (.cells #[.int .u8 (Img.at_ l k).op, .int .i64 (Img.at_ l k).a, .int .i64 (Img.at_ l k).b, .int .i64 (Img.at_ l k).c, .int .i64 (Img.at_ l k).d] 38)) = w3 at *
  clear hcell
  obtain ⟨x0, x1, x2, x3, x4, -⟩ := Blk.cells5 hS.b1
  obtain ⟨i0, i1, i2, -⟩ := Blk.cells3 hS.b2
  have hcell := (CodeB.after hS.1 hcB).2
  cases hhas : Img.has (Img.at_ l k)
  · have hh : (Isa.tgt (Img.at_ l k).op).isSome = false := hhas
    have HN := Lib.hid (show Img.partner l k = none from Img.partner_no (by rintro ⟨-, -, -, h⟩; simp [Img.isP, hhas] at h))
    clear hhas
    go_wp2_with (first | (go_at_call 33; refine (target2_any _ _ _ _ _ _).mono ?_; rintro e wn ⟨rfl, hB⟩; have hS := St.call hB (by assumption); skip))
    go_ret2
    exact ⟨by rw [HN.out]; rfl, hS.1⟩
  have hh : (Isa.tgt (Img.at_ l k).op).isSome = true := hhas
  by_cases ht : ¬ (0 ≤ Img.tg (Img.at_ l k) ∧ Img.tg (Img.at_ l k) < l.length ∧ Img.tg (Img.at_ l k) ≠ k)
  · have HN := Lib.hid (show Img.partner l k = none from Img.partner_no (by
      rintro ⟨-, h1, h2, h⟩
      refine ht ⟨h1, h2, fun e => ?_⟩
      rw [e] at h
      simp [Img.isP] at h))
    have e1 : Isa.tval (Img.at_ l k).op (Img.at_ l k).a (Img.at_ l k).b = Img.tg (Img.at_ l k) := rfl
    generalize Img.tg (Img.at_ l k) = t at *
    clear hhas
    by_cases h1 : t < 0
    · go_wp2_with (first | (go_at_call 33; refine (target2_any _ _ _ _ _ _).mono ?_; rintro e wn ⟨rfl, hB⟩; have hS := St.call hB (by assumption); skip))
      go_ret2
      exact ⟨by rw [HN.out]; rfl, hS.1⟩
    by_cases h2 : (l.length : Int) ≤ t
    · go_wp2_with (first | (go_at_call 33; refine (target2_any _ _ _ _ _ _).mono ?_; rintro e wn ⟨rfl, hB⟩; have hS := St.call hB (by assumption); obtain ⟨i0, i1, i2, -⟩ := Blk.cells3 hS.b2))
      go_ret2
      exact ⟨by rw [HN.out]; rfl, hS.1⟩
    · have h3 : (t == (k : Int)) = true := beq_iff_eq.2 (Classical.byContradiction fun h => ht ⟨by omega, by omega, h⟩)
      go_wp2_with (first | (go_at_call 33; refine (target2_any _ _ _ _ _ _).mono ?_; rintro e wn ⟨rfl, hB⟩; have hS := St.call hB (by assumption); obtain ⟨i0, i1, i2, -⟩ := Blk.cells3 hS.b2))
      go_ret2
      exact ⟨by rw [HN.out]; rfl, hS.1⟩
  obtain ⟨h1, h2, h3⟩ := Classical.not_not.1 ht
  clear ht
  obtain ⟨j, hj⟩ : ∃ j : Nat, Img.tg (Img.at_ l k) = (j : Int) := ⟨(Img.tg (Img.at_ l k)).toNat, by omega⟩
  have hjl : j < l.length := by omega
  have hjk : j ≠ k := fun e => h3 (by rw [hj, e])
  have e1 : Isa.tval (Img.at_ l k).op (Img.at_ l k).a (Img.at_ l k).b = (j : Int) := hj
  have e2 : ((j : Int) == (k : Int)) = false := beq_eq_false_iff_ne.2 (by omega)
  have Hj := Lib.hid hj
  have Hk := Lib.hid hhas
  clear h1 h2 h3 hj hhas
  go_upto_region 8 with (first | (go_at_call 33; refine (target2_any _ _ _ _ _ _).mono ?_; rintro e wn ⟨rfl, hB⟩; have hS := St.call hB (by assumption); obtain ⟨i0, i1, i2, -⟩ := Blk.cells3 hS.b2; have hcell := (CodeB.after hS.1 hcB).2))
  have hS2 := hS.alloc #[.int .u8 (Img.at_ l j).op, .int .i64 (Img.at_ l j).a, .int .i64 (Img.at_ l j).b, .int .i64 (Img.at_ l j).c, .int .i64 (Img.at_ l j).d] 38
  have hlt : w.heap.size + 1 < wn.heap.size := hS.b1.lt
  generalize wn.alloc (.cells #[.int .u8 (Img.at_ l j).op, .int .i64 (Img.at_ l j).a, .int .i64 (Img.at_ l j).b, .int .i64 (Img.at_ l j).c, .int .i64 (Img.at_ l j).d] 38) = w4 at *
  generalize wn.heap.size = g9 at *
  clear hcell x0 x1 x2 x3 x4 i0 i1 i2 hS hB
  obtain ⟨y0, y1, y2, y3, y4, -⟩ := Blk.cells5 hS2.b1
  obtain ⟨x0, x1, x2, x3, x4, -⟩ := Blk.cells5 hS2.b2
  have hPN : Img.isP l k j = false → Img.partner l k = none := Img.partner_not Hj.out
  have HPN := Lib.hid hPN
  clear hPN
  by_cases hc : ¬ (Img.has (Img.at_ l j) = true ∧ Img.tg (Img.at_ l j) = (k : Int) ∧ Img.vl (Img.at_ l k) = true ∧ Img.vl (Img.at_ l j) = true)
  · have HN := Lib.hid (show Img.partner l k = none from HPN.out (by
      cases hq : Img.isP l k j
      · rfl
      · refine absurd ?_ hc
        simp only [Img.isP, Bool.and_eq_true, beq_iff_eq, decide_eq_true_eq] at hq
        exact ⟨hq.1.1.1.1.2, hq.1.1.1.2, hq.1.1.2, hq.1.2⟩))
    have ey : Isa.tval (Img.at_ l j).op (Img.at_ l j).a (Img.at_ l j).b = Img.tg (Img.at_ l j) := rfl
    by_cases a1 : Img.has (Img.at_ l j) = false
    · have hy : (Isa.tgt (Img.at_ l j).op).isSome = false := a1
      go_wp2_with (first | (go_at_call 33; refine (target2_any _ _ _ _ _ _).mono ?_; rintro e wn ⟨rfl, hB⟩; have hS := St.call hB (by assumption); obtain ⟨y0, y1, y2, y3, y4, -⟩ := Blk.cells5 hS.b1; obtain ⟨x0, x1, x2, x3, x4, -⟩ := Blk.cells5 hS.b2) | (go_at_call 30; refine (valid_any _ _ _ _ _ _).mono ?_; rintro e wn ⟨rfl, hB⟩; have hS := St.call hB (by assumption); obtain ⟨y0, y1, y2, y3, y4, -⟩ := Blk.cells5 hS.b1; obtain ⟨x0, x1, x2, x3, x4, -⟩ := Blk.cells5 hS.b2))
      all_goals go_ret2
      all_goals exact ⟨by rw [HN.out]; rfl, (show St w _ _ from by assumption).1⟩
    have hy : (Isa.tgt (Img.at_ l j).op).isSome = true := (Bool.not_eq_false _).mp a1
    by_cases a2 : Img.tg (Img.at_ l j) = (k : Int)
    · have ey' : Isa.tval (Img.at_ l j).op (Img.at_ l j).a (Img.at_ l j).b = (k : Int) := a2
      have q1 : ((k : Int) != (k : Int)) = false := by simp
      by_cases a3 : Img.vl (Img.at_ l k) = false
      · have vx : Isa.vld (Img.at_ l k).op (Img.at_ l k).a (Img.at_ l k).b (Img.at_ l k).c (Img.at_ l k).d = false := a3
        clear ey
        go_wp2_with (first | (go_at_call 33; refine (target2_any _ _ _ _ _ _).mono ?_; rintro e wn ⟨rfl, hB⟩; have hS := St.call hB (by assumption); obtain ⟨y0, y1, y2, y3, y4, -⟩ := Blk.cells5 hS.b1; obtain ⟨x0, x1, x2, x3, x4, -⟩ := Blk.cells5 hS.b2) | (go_at_call 30; refine (valid_any _ _ _ _ _ _).mono ?_; rintro e wn ⟨rfl, hB⟩; have hS := St.call hB (by assumption); obtain ⟨y0, y1, y2, y3, y4, -⟩ := Blk.cells5 hS.b1; obtain ⟨x0, x1, x2, x3, x4, -⟩ := Blk.cells5 hS.b2))
        all_goals go_ret2
        all_goals exact ⟨by rw [HN.out]; rfl, (show St w _ _ from by assumption).1⟩
      · have vx : Isa.vld (Img.at_ l k).op (Img.at_ l k).a (Img.at_ l k).b (Img.at_ l k).c (Img.at_ l k).d = true := (Bool.not_eq_false _).mp a3
        have vy : Isa.vld (Img.at_ l j).op (Img.at_ l j).a (Img.at_ l j).b (Img.at_ l j).c (Img.at_ l j).d = false := by
          cases hv : Isa.vld (Img.at_ l j).op (Img.at_ l j).a (Img.at_ l j).b (Img.at_ l j).c (Img.at_ l j).d
          · rfl
          · exact absurd ⟨hy, a2, (Bool.not_eq_false _).mp a3, hv⟩ hc
        clear ey
        go_wp2_with (first | (go_at_call 33; refine (target2_any _ _ _ _ _ _).mono ?_; rintro e wn ⟨rfl, hB⟩; have hS := St.call hB (by assumption); obtain ⟨y0, y1, y2, y3, y4, -⟩ := Blk.cells5 hS.b1; obtain ⟨x0, x1, x2, x3, x4, -⟩ := Blk.cells5 hS.b2) | (go_at_call 30; refine (valid_any _ _ _ _ _ _).mono ?_; rintro e wn ⟨rfl, hB⟩; have hS := St.call hB (by assumption); obtain ⟨y0, y1, y2, y3, y4, -⟩ := Blk.cells5 hS.b1; obtain ⟨x0, x1, x2, x3, x4, -⟩ := Blk.cells5 hS.b2))
        all_goals go_ret2
        all_goals exact ⟨by rw [HN.out]; rfl, (show St w _ _ from by assumption).1⟩
    · have q1 : (Img.tg (Img.at_ l j) != (k : Int)) = true := by simpa using a2
      go_wp2_with (first | (go_at_call 33; refine (target2_any _ _ _ _ _ _).mono ?_; rintro e wn ⟨rfl, hB⟩; have hS := St.call hB (by assumption); obtain ⟨y0, y1, y2, y3, y4, -⟩ := Blk.cells5 hS.b1; obtain ⟨x0, x1, x2, x3, x4, -⟩ := Blk.cells5 hS.b2) | (go_at_call 30; refine (valid_any _ _ _ _ _ _).mono ?_; rintro e wn ⟨rfl, hB⟩; have hS := St.call hB (by assumption); obtain ⟨y0, y1, y2, y3, y4, -⟩ := Blk.cells5 hS.b1; obtain ⟨x0, x1, x2, x3, x4, -⟩ := Blk.cells5 hS.b2))
      all_goals go_ret2
      all_goals exact ⟨by rw [HN.out]; rfl, (show St w _ _ from by assumption).1⟩
  obtain ⟨a1, a2, a3, a4⟩ := Classical.not_not.1 hc
  have hy : (Isa.tgt (Img.at_ l j).op).isSome = true := a1
  have ey' : Isa.tval (Img.at_ l j).op (Img.at_ l j).a (Img.at_ l j).b = (k : Int) := a2
  have q1 : ((k : Int) != (k : Int)) = false := by simp
  have vx : Isa.vld (Img.at_ l k).op (Img.at_ l k).a (Img.at_ l k).b (Img.at_ l k).c (Img.at_ l k).d = true := a3
  have vy : Isa.vld (Img.at_ l j).op (Img.at_ l j).a (Img.at_ l j).b (Img.at_ l j).c (Img.at_ l j).d = true := a4
  clear hc
  go_upto_region 11 with (first | (go_at_call 33; refine (target2_any _ _ _ _ _ _).mono ?_; rintro e wn ⟨rfl, hB⟩; have hS := St.call hB (by assumption); obtain ⟨y0, y1, y2, y3, y4, -⟩ := Blk.cells5 hS.b1; obtain ⟨x0, x1, x2, x3, x4, -⟩ := Blk.cells5 hS.b2) | (go_at_call 30; refine (valid_any _ _ _ _ _ _).mono ?_; rintro e wn ⟨rfl, hB⟩; have hS := St.call hB (by assumption); obtain ⟨y0, y1, y2, y3, y4, -⟩ := Blk.cells5 hS.b1; obtain ⟨x0, x1, x2, x3, x4, -⟩ := Blk.cells5 hS.b2))
  have hT := (show St w [(g9, 38, #[.int .u8 (Img.at_ l j).op, .int .i64 (Img.at_ l j).a, .int .i64 (Img.at_ l j).b, .int .i64 (Img.at_ l j).c, .int .i64 (Img.at_ l j).d]), (w.heap.size + 1, 38, #[.int .u8 (Img.at_ l k).op, .int .i64 (Img.at_ l k).a, .int .i64 (Img.at_ l k).b, .int .i64 (Img.at_ l k).c, .int .i64 (Img.at_ l k).d]), (w.heap.size, 24, #[.slice (some ⟨b, o, none⟩) l.length cap, .int .i64 mem, .int .i64 st])] _ from by assumption)
  clear hS2 y0 y1 y2 y3 y4 x0 x1 x2 x3 x4
  obtain ⟨y0, y1, y2, y3, y4, -⟩ := Blk.cells5 hT.b1
  obtain ⟨x0, x1, x2, x3, x4, -⟩ := Blk.cells5 hT.b2
  have l1 := hT.b1.lt
  have l2 := hT.b2.lt
  have l3 : w.heap.size < wn.heap.size := Nat.lt_of_succ_lt l2
  have m1 : g9 ≠ wn.heap.size := Nat.ne_of_lt l1
  have m2 : g9 ≠ wn.heap.size + 1 := Nat.ne_of_lt (Nat.lt_succ_of_lt l1)
  have m3 : w.heap.size ≠ wn.heap.size := Nat.ne_of_lt l3
  have m4 : w.heap.size + 1 ≠ wn.heap.size := Nat.ne_of_lt l2
  go_cut [11, 12] (fun s11 s12 wx => PRel l w b o cap mem st k j g9 s11 s12 wx)
  case first =>
    go_region
    all_goals (go_wp2_with fail; go_meet)
    · exact pRelA hT
    · exact pRelB hT
  case rest =>
    obtain ⟨g1, g2, rfl, rfl, hne, hg1, hg2, hR⟩ := hcut
    have HPK := Lib.hid (Img.partner_kinds hk hjl hjk Hj.out Hk.out a1 a2 a3 a4)
    clear hT a1 a2 a3 a4 y0 y1 y2 y3 y4 x0 x1 x2 x3 x4 l1 l2 l3 m1 m2 m3 m4 q1 vx vy hh hy ey' e1
    obtain ⟨f0, f1, f2, f3, f4, ff0, ff1, ff2, ff3, ff4⟩ := Blk.cells5 hR.b1
    obtain ⟨s0, s1, s2, s3, s4, sf0, sf1, sf2, sf3, sf4⟩ := Blk.cells5 hR.b2
    obtain ⟨y0, y1, y2, y3, y4, -⟩ := Blk.cells5 hR.b3
    obtain ⟨x0, x1, x2, x3, x4, -⟩ := Blk.cells5 hR.b4
    by_cases hjk2 : j < k
    · go_upto_region 13 with fail
      go_cut [] (fun wx => PSw l w b o cap mem st k j g9 g1 g2 wx)
      case first =>
        go_region
        all_goals (go_wp2_with fail; go_meet)
        exact St.drew (pSwA hne hg1 hg2 hlt hR)
      case rest =>
        have hR2 : St w [(g1, 38, #[.int .u8 (Img.at_ l j).op, .int .i64 (Img.at_ l j).a, .int .i64 (Img.at_ l j).b, .int .i64 (Img.at_ l j).c, .int .i64 (Img.at_ l j).d]), (g2, 38, #[.int .u8 (Img.at_ l k).op, .int .i64 (Img.at_ l k).a, .int .i64 (Img.at_ l k).b, .int .i64 (Img.at_ l k).c, .int .i64 (Img.at_ l k).d]), (g9, 38, #[.int .u8 (Img.at_ l j).op, .int .i64 (Img.at_ l j).a, .int .i64 (Img.at_ l j).b, .int .i64 (Img.at_ l j).c, .int .i64 (Img.at_ l j).d]), (w.heap.size + 1, 38, #[.int .u8 (Img.at_ l k).op, .int .i64 (Img.at_ l k).a, .int .i64 (Img.at_ l k).b, .int .i64 (Img.at_ l k).c, .int .i64 (Img.at_ l k).d]), (w.heap.size, 24, #[.slice (some ⟨b, o, none⟩) l.length cap, .int .i64 mem, .int .i64 st])] _ := hcut
        clear hR f0 f1 f2 f3 f4 s0 s1 s2 s3 s4 ff0 ff1 ff2 ff3 ff4 sf0 sf1 sf2 sf3 sf4 x0 x1 x2 x3 x4 y0 y1 y2 y3 y4
        obtain ⟨f0, -⟩ := Blk.cells5 hR2.b1
        obtain ⟨s0, -⟩ := Blk.cells5 hR2.b2
        obtain ⟨y0, -⟩ := Blk.cells5 hR2.b3
        obtain ⟨x0, -⟩ := Blk.cells5 hR2.b4
        have hE := Lib.hid hR2.1
        clear hR2 hcut
        go_upto_region 14 with fail
        obtain ⟨wz, hwz⟩ : ∃ wz : World, wz = wc := ⟨_, rfl⟩
        go_cut [13] (fun s13 wx => s13 = .bool ((Isa.isJ (Img.at_ l k).op && Isa.isL (Img.at_ l j).op) || (Isa.isL (Img.at_ l k).op && Isa.isJ (Img.at_ l j).op)) ∧ ∃ n, wx = World.drewN wz n)
        case first =>
          have Hz := Lib.hid hwz
          clear hwz hE hjk2
          have nx := Isa.isJ_isL (Img.at_ l k).op
          have ny := Isa.isJ_isL (Img.at_ l j).op
          cases jx : Isa.isJ (Img.at_ l k).op <;> cases lx : Isa.isL (Img.at_ l k).op <;> cases jy : Isa.isJ (Img.at_ l j).op <;> cases ly : Isa.isL (Img.at_ l j).op
          all_goals first | (exfalso; rw [jx, lx] at nx; simp at nx; done) | (exfalso; rw [jy, ly] at ny; simp at ny; done) | skip
          all_goals clear nx ny
          all_goals (go_quiet ((first | (go_at_call 28; exact quiet_same (isJump_any _ _)) | (go_at_call 29; exact quiet_same (isLanding_any _ _)))))
          all_goals go_wp2_with fail
          all_goals go_meet
          all_goals exact ⟨by rw [jx, lx, jy, ly]; rfl, _, by rw [Hz.out]⟩
        case rest =>
          obtain ⟨hs13, n, hwn⟩ := hcut
          subst hwn
          subst hwz
          subst hs13
          generalize hJ : ((Isa.isJ (Img.at_ l k).op && Isa.isL (Img.at_ l j).op) || (Isa.isL (Img.at_ l k).op && Isa.isJ (Img.at_ l j).op)) = jb
          have hKi : Img.kinds k j (Img.at_ l k) (Img.at_ l j) = (jb || ((Img.at_ l j).op == 32 && (Img.at_ l k).op == 33)) := by
            simp [Img.kinds, Img.isS, Img.isE, hjk2, ← hJ]
          rw [hKi] at HPK
          have HPK2 := Lib.hid HPK.out
          clear HPK hJ hKi hjk2
          cases jb
          · by_cases p1 : (Img.at_ l j).op = 32
            · have o1 : ((Img.at_ l j).op != 32) = false := by simp [p1]
              by_cases p2 : (Img.at_ l k).op = 33
              · have o2 : ((Img.at_ l k).op != 33) = false := by simp [p2]
                have HP := Lib.hid (show Img.partner l k = some j from by rw [HPK2.out]; simp [p1, p2])
                clear p1 p2
                go_wp2
                go_ret2
                exact ⟨by rw [HP.out]; rfl, Below_drewN hE.out _⟩
              · have o2 : ((Img.at_ l k).op != 33) = true := by simp [p2]
                have HP := Lib.hid (show Img.partner l k = none from by rw [HPK2.out]; simp [p2])
                clear p1 p2
                go_wp2
                go_ret2
                exact ⟨by rw [HP.out]; rfl, Below_drewN hE.out _⟩
            · have o1 : ((Img.at_ l j).op != 32) = true := by simp [p1]
              have HP := Lib.hid (show Img.partner l k = none from by rw [HPK2.out]; simp [p1])
              clear p1
              go_wp2
              go_ret2
              exact ⟨by rw [HP.out]; rfl, Below_drewN hE.out _⟩
          · have HP := Lib.hid (show Img.partner l k = some j from by rw [HPK2.out]; simp)
            go_wp2
            go_ret2
            exact ⟨by rw [HP.out]; rfl, Below_drewN hE.out _⟩
    · have hE := Lib.hid hR.1
      clear hR f1 f2 f3 f4 s1 s2 s3 s4 ff0 ff1 ff2 ff3 ff4 sf0 sf1 sf2 sf3 sf4 x1 x2 x3 x4 y1 y2 y3 y4
      go_upto_region 14 with fail
      obtain ⟨wz, hwz⟩ : ∃ wz : World, wz = wc := ⟨_, rfl⟩
      go_cut [13] (fun s13 wx => s13 = .bool ((Isa.isJ (Img.at_ l k).op && Isa.isL (Img.at_ l j).op) || (Isa.isL (Img.at_ l k).op && Isa.isJ (Img.at_ l j).op)) ∧ ∃ n, wx = World.drewN wz n)
      case first =>
        have Hz := Lib.hid hwz
        clear hwz hE hjk2
        have nx := Isa.isJ_isL (Img.at_ l k).op
        have ny := Isa.isJ_isL (Img.at_ l j).op
        cases jx : Isa.isJ (Img.at_ l k).op <;> cases lx : Isa.isL (Img.at_ l k).op <;> cases jy : Isa.isJ (Img.at_ l j).op <;> cases ly : Isa.isL (Img.at_ l j).op
        all_goals first | (exfalso; rw [jx, lx] at nx; simp at nx; done) | (exfalso; rw [jy, ly] at ny; simp at ny; done) | skip
        all_goals clear nx ny
        all_goals (go_quiet ((first | (go_at_call 28; exact quiet_same (isJump_any _ _)) | (go_at_call 29; exact quiet_same (isLanding_any _ _)))))
        all_goals go_wp2_with fail
        all_goals go_meet
        all_goals exact ⟨by rw [jx, lx, jy, ly]; rfl, _, by rw [Hz.out]⟩
      case rest =>
        obtain ⟨hs13, n, hwn⟩ := hcut
        subst hwn
        subst hwz
        subst hs13
        generalize hJ : ((Isa.isJ (Img.at_ l k).op && Isa.isL (Img.at_ l j).op) || (Isa.isL (Img.at_ l k).op && Isa.isJ (Img.at_ l j).op)) = jb
        have hKi : Img.kinds k j (Img.at_ l k) (Img.at_ l j) = (jb || ((Img.at_ l k).op == 32 && (Img.at_ l j).op == 33)) := by
          simp [Img.kinds, Img.isS, Img.isE, hjk2, ← hJ]
        rw [hKi] at HPK
        have HPK2 := Lib.hid HPK.out
        clear HPK hJ hKi hjk2
        cases jb
        · by_cases p1 : (Img.at_ l k).op = 32
          · have o1 : ((Img.at_ l k).op != 32) = false := by simp [p1]
            by_cases p2 : (Img.at_ l j).op = 33
            · have o2 : ((Img.at_ l j).op != 33) = false := by simp [p2]
              have HP := Lib.hid (show Img.partner l k = some j from by rw [HPK2.out]; simp [p1, p2])
              clear p1 p2
              go_wp2
              go_ret2
              exact ⟨by rw [HP.out]; rfl, Below_drewN hE.out _⟩
            · have o2 : ((Img.at_ l j).op != 33) = true := by simp [p2]
              have HP := Lib.hid (show Img.partner l k = none from by rw [HPK2.out]; simp [p2])
              clear p1 p2
              go_wp2
              go_ret2
              exact ⟨by rw [HP.out]; rfl, Below_drewN hE.out _⟩
          · have o1 : ((Img.at_ l k).op != 32) = true := by simp [p1]
            have HP := Lib.hid (show Img.partner l k = none from by rw [HPK2.out]; simp [p1])
            clear p1
            go_wp2
            go_ret2
            exact ⟨by rw [HP.out]; rfl, Below_drewN hE.out _⟩
        · have HP := Lib.hid (show Img.partner l k = some j from by rw [HPK2.out]; simp)
          go_wp2
          go_ret2
          exact ⟨by rw [HP.out]; rfl, Below_drewN hE.out _⟩

theorem partner_any (l : List Ins) (A : Option Addr) (cap : Nat) (mem st i : Int) (w : World) (hc : CodeAt w A l) :
    Calls Try.prog 27 #[.agg #[.slice A l.length cap, .int .i64 mem, .int .i64 st], .int .i64 i] w fun e w' =>
      e = .returned (.tuple #[.int .i64 (Img.num (Img.partnerI l i)), .bool (Img.partnerI l i).isSome]) ∧ Below w.heap.size w w' := by
  unfold Img.partnerI
  by_cases hi : 0 ≤ i ∧ i < l.length
  · rw [if_pos hi]
    obtain ⟨k, rfl⟩ : ∃ k : Nat, i = k := ⟨i.toNat, by omega⟩
    obtain ⟨b, o, rfl, hcB⟩ := hc (by omega)
    exact partner_in l b o cap mem st k w (by omega) hcB
  · rw [if_neg hi]
    exact partner_out l A cap mem st i w hi
end Go.Proofs.Yteonkfdmkgjpaaa
