/- Contracts of the reference of layer 23: Check, Same. -/
import Derived.Test.YteonkfdmkgjpaaaImgR4
import Derived.Deep.RegionHeld3
import Derived.Deep.DeepCutAuto
import Derived.BigQuiet
import Derived.Deep.QuietTactic
namespace Go.Proofs.Yteonkfdmkgjpaaa
open Go.RowKit
set_option linter.unusedVariables false
set_option linter.unusedSimpArgs false

set_option maxHeartbeats 8000000 in
theorem rcheck_out_any (l : List Ins) (A : Option Addr) (cap : Nat) (mem st : Int) (w : World) (h : Img.outside l mem st) :
    Calls Try.prog 22 #[.agg #[.slice A l.length cap, .int .i64 mem, .int .i64 st]] w fun e w' => e = .returned (.tuple #[.int .i64 (-1), .int .i64 2]) ∧ Below w.heap.size w w' := by
  unfold Img.outside at h
  by_cases h1 : 65536 < l.length
  · have o1 : decide ((65536 : Int) < (l.length : Int)) = true := decide_eq_true (by omega)
    go_enter Try.func22, Try.ntmps22
    go_wp2
    go_ret2
    exact ⟨rfl, (Below.refl _ _).alloc (Nat.le_refl _) _⟩
  have o1 : decide ((65536 : Int) < (l.length : Int)) = false := decide_eq_false (by omega)
  by_cases h2 : mem < 0
  · go_enter Try.func22, Try.ntmps22
    go_wp2
    go_ret2
    exact ⟨rfl, (Below.refl _ _).alloc (Nat.le_refl _) _⟩
  by_cases h3 : 16384 < mem
  · go_enter Try.func22, Try.ntmps22
    go_wp2
    go_ret2
    exact ⟨rfl, (Below.refl _ _).alloc (Nat.le_refl _) _⟩
  by_cases h4 : st < 1
  · go_enter Try.func22, Try.ntmps22
    go_wp2
    go_ret2
    exact ⟨rfl, (Below.refl _ _).alloc (Nat.le_refl _) _⟩
  · have h5 : 16384 < st := by omega
    go_enter Try.func22, Try.ntmps22
    go_wp2
    go_ret2
    exact ⟨rfl, (Below.refl _ _).alloc (Nat.le_refl _) _⟩

set_option maxHeartbeats 8000000 in
theorem rcheck_any (l : List Ins) (A : Option Addr) (cap : Nat) (mem st : Int) (w : World) (hok : OpsOk l) (hc : CodeAt w A l) :
    Calls Try.prog 22 #[.agg #[.slice A l.length cap, .int .i64 mem, .int .i64 st]] w fun e w' => e = .returned (.tuple #[.int .i64 (Img.check l mem st).1, .int .i64 (Img.check l mem st).2]) ∧ Below w.heap.size w w' := by
  by_cases ho : Img.outside l mem st
  · rw [Img.check_out ho]
    exact rcheck_out_any l A cap mem st w ho
  have Ho := Lib.hid ho
  have ho2 := ho
  unfold Img.outside at ho2
  have hn0 : l.length ≤ 65536 := by omega
  have h2 : 0 ≤ mem := by omega
  have h3 : mem ≤ 16384 := by omega
  have h4 : 1 ≤ st := by omega
  have h5 : st ≤ 16384 := by omega
  have o1 : decide ((65536 : Int) < (l.length : Int)) = false := decide_eq_false (by omega)
  clear ho ho2
  go_enter Try.func22, Try.ntmps22
  have hS := (St.start w).alloc #[.slice A l.length cap, .int .i64 mem, .int .i64 st] 24
  go_upto_region 3 with fail
  generalize (w.alloc (.cells #[.slice A l.length cap, .int .i64 mem, .int .i64 st] 24)) = w1 at *
  obtain ⟨i0, i1, i2, -⟩ := Blk.cells3 hS.b1
  go_wp2
  obtain ⟨wo, hwo⟩ : ∃ wo : World, wo = w1 := ⟨_, rfl⟩
  go_loopw [4] (fun s wr => ∃ i : Nat, i ≤ l.length ∧ s = .int .i64 i ∧ St w [(w.heap.size, 24, #[.slice A l.length cap, .int .i64 mem, .int .i64 st])] wr ∧ Hid (∀ j, j < i → Img.fault l j = 0)) (fun s _ => l.length - (intOf s).toNat)
  case atStart => exact ⟨0, Nat.zero_le _, rfl, hS, fun j hj => absurd hj (Nat.not_lt_zero _)⟩
  case round =>
    clear hS i0 i1 i2 hwo
    obtain ⟨i, hi, rfl, hS, hn⟩ := hrel
    obtain ⟨i0, i1, i2, -⟩ := Blk.cells3 hS.b1
    by_cases hil : i < l.length
    · obtain ⟨b, o, rfl, hcB⟩ := hc (by omega)
      have HFA := Lib.hid (rfault_any l b o cap i _ hn0 hil hok (CodeB.after hS.1 hcB))
      by_cases hf : Img.fault l i = 0
      · have hnx := Lib.hid (show ∀ j, j < i + 1 → Img.fault l j = 0 from fun j hj => by
          rcases Nat.lt_succ_iff_lt_or_eq.1 hj with h1 | h1
          · exact hn.out j h1
          · rw [h1]; exact hf)
        rw [hf] at HFA
        clear hf hn
        go_wp2_with (first | (go_at_call 46; refine HFA.out.mono ?_; rintro e wn ⟨rfl, hB⟩; have hS3 := St.call hB hS))
        go_roundw
        case rel => exact ⟨i + 1, hil, by go_num, hS3, hnx⟩
        case measure => simp [intOf]; omega
      · have HC := Lib.hid (Img.check_bad Ho.out hil hf hn.out)
        have o2 : (Img.fault l i != 0) = true := by simp [hf]
        clear hf hn
        go_wp2_with (first | (go_at_call 46; refine HFA.out.mono ?_; rintro e wn ⟨rfl, hB⟩; have hS3 := St.call hB hS))
        go_ret2
        exact ⟨by rw [HC.out]; rfl, hS3.1⟩
    · have HC := Lib.hid (Img.check_ok Ho.out (fun j hj => hn.out j (by omega)))
      clear hn
      go_wp2
      go_ret2
      exact ⟨by rw [HC.out]; rfl, hS.1⟩

/-- two images are the same -/
def Img.same (l m : List Ins) (mem st mem' st' : Int) : Bool := decide (mem = mem' ∧ st = st' ∧ l = m)
theorem list_at_ext {l m : List Ins} (hl : l.length = m.length) (h : ∀ i, i < l.length → Img.at_ l i = Img.at_ m i) : l = m := by
  apply List.ext_getElem hl
  intro i h1 h2
  have := h i h1
  unfold Img.at_ at this
  rw [List.getD_eq_getElem?_getD, List.getD_eq_getElem?_getD, List.getElem?_eq_getElem h1, List.getElem?_eq_getElem h2] at this
  simpa using this
def IM2 (A : Option Addr) (n cap : Nat) (mem st : Int) : Array Value := #[.slice A n cap, .int .i64 mem, .int .i64 st]

theorem Ins.ne_cases {x y : Ins} (h : ¬ x = y) : ¬ x.op = y.op ∨ (x.op = y.op ∧ ¬ x.a = y.a) ∨ (x.op = y.op ∧ x.a = y.a ∧ ¬ x.b = y.b) ∨ (x.op = y.op ∧ x.a = y.a ∧ x.b = y.b ∧ ¬ x.c = y.c) ∨ (x.op = y.op ∧ x.a = y.a ∧ x.b = y.b ∧ x.c = y.c ∧ ¬ x.d = y.d) := by
  cases x; cases y
  simp only [Ins.mk.injEq] at h ⊢
  omega
set_option maxHeartbeats 8000000 in
theorem same_any (l m : List Ins) (A A' : Option Addr) (cap cap' : Nat) (mem st mem' st' : Int) (w : World) (hn0 : l.length ≤ 65536) (hc : CodeAt w A l) (hc' : CodeAt w A' m) :
    Calls Try.prog 21 #[.agg #[.slice A l.length cap, .int .i64 mem, .int .i64 st], .agg #[.slice A' m.length cap', .int .i64 mem', .int .i64 st']] w fun e w' => e = .returned (.bool (Img.same l m mem st mem' st')) ∧ Below w.heap.size w w' := by
  have hW := Lib.hid (((Below.refl w.heap.size w).alloc (Nat.le_refl _) (.cells #[.slice A l.length cap, .int .i64 mem, .int .i64 st] 24)).alloc (by simp) (.cells #[.slice A' m.length cap', .int .i64 mem', .int .i64 st'] 24))
  by_cases h1 : mem = mem'
  · have g1 : (mem != mem') = false := by simp [h1]
    by_cases h2 : st = st'
    · have g2 : (st != st') = false := by simp [h2]
      by_cases h3 : l.length = m.length
      · have g3 : ((l.length : Int) != (m.length : Int)) = false := by simp [h3]
        have Hsame := Lib.hid (show Img.same l m mem st mem' st' = decide (l = m) from by simp [Img.same, h1, h2])
        have H3 := Lib.hid h3
        clear h1 h2 h3
        go_enter Try.func21, Try.ntmps21
        have hS := ((St.start w).alloc #[.slice A l.length cap, .int .i64 mem, .int .i64 st] 24).alloc #[.slice A' m.length cap', .int .i64 mem', .int .i64 st'] 24
        simp only [World.size_alloc] at hS
        go_upto_region 3 with fail
        generalize ((w.alloc (.cells #[.slice A l.length cap, .int .i64 mem, .int .i64 st] 24)).alloc (.cells #[.slice A' m.length cap', .int .i64 mem', .int .i64 st'] 24)) = w1 at *
        go_wp2
        obtain ⟨wo, hwo⟩ : ∃ wo : World, wo = w1 := ⟨_, rfl⟩
        go_loopw [5] (fun s wr => ∃ i : Nat, i ≤ l.length ∧ s = .int .i64 i ∧ St w [(w.heap.size + 1, 24, #[.slice A' m.length cap', .int .i64 mem', .int .i64 st']), (w.heap.size, 24, #[.slice A l.length cap, .int .i64 mem, .int .i64 st])] wr ∧ Hid (∀ j, j < i → Img.at_ l j = Img.at_ m j)) (fun s _ => l.length - (intOf s).toNat)
        case atStart => exact ⟨0, Nat.zero_le _, rfl, hS, fun j hj => absurd hj (Nat.not_lt_zero _)⟩
        case round =>
          clear hS hwo hW
          obtain ⟨i, hi, rfl, hS, hn⟩ := hrel
          obtain ⟨i0, -⟩ := Blk.cells3 hS.b2
          obtain ⟨k0, -⟩ := Blk.cells3 hS.b1
          by_cases hil : i < l.length
          · have him : i < m.length := by have := H3.out; omega
            obtain ⟨b, o, rfl, hcB⟩ := hc (by omega)
            obtain ⟨b', o', rfl, hcB'⟩ := hc' (by omega)
            have hcW := CodeB.after hS.1 hcB
            have hcW' := CodeB.after hS.1 hcB'
            have hb := hcW.1
            have hb' := hcW'.1
            obtain ⟨x0, x1, x2, x3, x4⟩ := hcW.2 i hil
            obtain ⟨y0, y1, y2, y3, y4⟩ := hcW'.2 i him
            clear hcW hcW'
            by_cases he : Img.at_ l i = Img.at_ m i
            · have hnx := Lib.hid (show ∀ j, j < i + 1 → Img.at_ l j = Img.at_ m j from fun j hj => by
                rcases Nat.lt_succ_iff_lt_or_eq.1 hj with h1 | h1
                · exact hn.out j h1
                · rw [h1]; exact he)
              rw [← he] at y0 y1 y2 y3 y4
              clear he hn
              go_wp2_with fail
              go_quiet (fail)
              go_wp2
              go_roundw
              case rel => exact ⟨i + 1, hil, by go_num, hS.drewN _, hnx⟩
              case measure => simp [intOf]; omega
            · have hN := Lib.hid (show decide (l = m) = false from decide_eq_false (fun h => he (by rw [h])))
              generalize Img.at_ l i = x at *
              generalize Img.at_ m i = y at *
              have hx := Ins.ne_cases he
              clear he hn
              rcases hx with h | ⟨h, h'⟩ | ⟨h, h2, h'⟩ | ⟨h, h2, h3, h'⟩ | ⟨h, h2, h3, h4, h'⟩
              all_goals go_wp2_with fail
              all_goals go_quiet (fail)
              all_goals go_wp2
              all_goals go_ret
              all_goals exact ⟨by rw [Hsame.out, hN.out]; rfl, (hS.drewN _).1⟩
          · have hY := Lib.hid (show decide (l = m) = true from decide_eq_true (list_at_ext H3.out (fun j hj => hn.out j (by omega))))
            clear hn
            go_wp2
            go_ret
            exact ⟨by rw [Hsame.out, hY.out]; rfl, hS.1⟩
      · have g3 : ((l.length : Int) != (m.length : Int)) = true := by
          have : ¬ (l.length : Int) = (m.length : Int) := by omega
          simp [this]
        have hN := Lib.hid (show Img.same l m mem st mem' st' = false from decide_eq_false (fun h => h3 (by rw [h.2.2])))
        clear h1 h2 h3
        go_enter Try.func21, Try.ntmps21
        go_wp2
        go_ret
        exact ⟨by rw [hN.out]; rfl, hW.out⟩
    · have g2 : (st != st') = true := by simp [h2]
      have hN := Lib.hid (show Img.same l m mem st mem' st' = false from decide_eq_false (fun h => h2 h.2.1))
      clear h1 h2
      go_enter Try.func21, Try.ntmps21
      go_wp2
      go_ret
      exact ⟨by rw [hN.out]; rfl, hW.out⟩
  · have g1 : (mem != mem') = true := by simp [h1]
    have hN := Lib.hid (show Img.same l m mem st mem' st' = false from decide_eq_false (fun h => h1 h.1))
    clear h1
    go_enter Try.func21, Try.ntmps21
    go_wp2
    go_ret
    exact ⟨by rw [hN.out]; rfl, hW.out⟩
end Go.Proofs.Yteonkfdmkgjpaaa
