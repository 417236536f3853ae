/- The walks of the laws of layer 23: ImagePartner. -/
import Derived.Test.YteonkfdmkgjpaaaImgL4
import Derived.Deep.RegionHeld3
import Derived.Deep.DeepCutAuto
import Derived.BigQuiet
import Derived.Deep.QuietTactic
import Derived.BigRegion
import Derived.Deep.CutBlock
namespace Go.Proofs.Yteonkfdmkgjpaaa
open Go.RowKit
set_option linter.unusedVariables false
set_option linter.unusedSimpArgs false
abbrev intsF (A : Option Addr) (ns : List Int) : WF := ⟨fun w => IntsAt w A ns, fun _ _ hB h => IntsAt.after hB h⟩
theorem IntsAt.cell {w : World} {b o : Nat} {ns : List Int} (h : IntsAt w (some ⟨b, o, none⟩) ns) {q : Nat} (hq : q < ns.length) : b < w.heap.size ∧ w.cell? ⟨b, o + q, none⟩ = some (.int .i64 (ns.getD q 0)) := by
  obtain ⟨b', o', e, h1, h2⟩ := h (by omega)
  injection e with e
  injection e with e1 e2
  subst e1 e2
  exact ⟨h1, h2 q hq⟩
theorem IntsAt.some {w : World} {A : Option Addr} {ns : List Int} (h : IntsAt w A ns) (h0 : 0 < ns.length) : ∃ b o, A = some ⟨b, o, none⟩ := by
  obtain ⟨b, o, e, _⟩ := h h0
  exact ⟨b, o, e⟩
namespace Img
theorem procsU_mono (l : List Ins) (j : Nat) : ∀ d, ∃ t, procsU l (j + d) = procsU l j ++ t
  | 0 => ⟨[], by simp⟩
  | d + 1 => by
    obtain ⟨t, ht⟩ := procsU_mono l j d
    exact ⟨t ++ (if (at_ l (j + d)).op = 32 then [((j + d : Nat) : Int)] else []), by rw [show j + (d + 1) = (j + d) + 1 from rfl, procsU_step, ht, List.append_assoc]⟩
theorem procsU_at {l : List Ins} {j : Nat} (hj : j < l.length) (h : (at_ l j).op = 32) : (procsU l j).length < (procsU l l.length).length ∧ (procsU l l.length).getD (procsU l j).length 0 = (j : Int) := by
  obtain ⟨t, ht⟩ := procsU_mono l (j + 1) (l.length - (j + 1))
  rw [show j + 1 + (l.length - (j + 1)) = l.length from by omega, procsU_step, if_pos h] at ht
  rw [ht]
  refine ⟨by simp, ?_⟩
  rw [List.getD_eq_getElem?_getD, List.append_assoc, List.getElem?_append_right (Nat.le_refl _)]
  simp
/-- the first halt below i, or -1 -/
def haltU (l : List Ins) : Nat → Int
  | 0 => -1
  | i + 1 => if haltU l i < 0 ∧ (at_ l i).op = 34 then (i : Int) else haltU l i
theorem haltU_cases (l : List Ins) : ∀ i, (haltU l i = -1 ∧ ∀ j, j < i → (at_ l j).op ≠ 34) ∨ ∃ k : Nat, k < i ∧ haltU l i = (k : Int) ∧ (at_ l k).op = 34 ∧ ∀ j, j < k → (at_ l j).op ≠ 34
  | 0 => .inl ⟨rfl, fun j h => by omega⟩
  | i + 1 => by
    unfold haltU
    rcases haltU_cases l i with ⟨h1, h2⟩ | ⟨k, h1, h2, h3, h4⟩
    · by_cases h : (at_ l i).op = 34
      · rw [if_pos ⟨by omega, h⟩]
        exact .inr ⟨i, by omega, rfl, h, h2⟩
      · rw [if_neg (fun hh => h hh.2)]
        refine .inl ⟨h1, fun j hj => ?_⟩
        by_cases e : j = i
        · rw [e]; exact h
        · exact h2 j (by omega)
    · rw [if_neg (by omega)]
      exact .inr ⟨k, by omega, h2, h3, h4⟩
theorem haltU_all (l : List Ins) : haltU l l.length = haltI l := by
  rcases haltU_cases l l.length with ⟨h1, h2⟩ | ⟨k, h1, h2, h3, h4⟩
  · rw [h1, halt_no h2]
  · rw [h2, halt_at h1 h3 h4]
theorem haltU_le (l : List Ins) (i : Nat) : -1 ≤ haltU l i ∧ haltU l i < i ∨ haltU l i = -1 := by
  rcases haltU_cases l i with ⟨h1, h2⟩ | ⟨k, h1, h2, h3, h4⟩ <;> omega
end Img

set_option maxHeartbeats 8000000 in
set_option maxRecDepth 100000 in
theorem imagePartner_walk (l : List Ins) (A : Option Addr) (cap : Nat) (mem st : Int) (i0 : Int) (w : World) (hA : CodeAt w A l) (hok : InsOk l) (hml : l.length ≤ maxLen) (hi0 : I64 i0) :
    Calls Try.prog 11 #[.agg #[.slice A l.length cap, .int .i64 mem, .int .i64 st], .int .i64 i0] w fun e w' => e = .returned (.bool true) ∧ Below w.heap.size w w' := by
  by_cases h80 : 80 < l.length
  · have HG := Lib.hid (fun wx => imgGreat_any l A cap mem st wx)
    rw [decide_eq_true h80] at HG
    have hS : Sx w [] [codeF A l] w := (Sx.add (f := codeF A l) (hA) (Sx.start (F := []) w (fun _ h => by cases h)))
    have hc : True := trivial
    go_enter Try.func11, Try.ntmps11
    clear h80
    go_wp2_with (first | (go_at_call 18; apply calls_abs (w0 := w); (repeat (first | with_reducible apply Sx.alloc | with_reducible apply Sx.drew | with_reducible apply Sx.drewN | with_reducible exact hS)); intro wx hS2; clear hS; have hS := hS2; clear hS2; (try simp only [World.size_alloc, World.size_drew] at hS); refine (imgAwake_any _).mono ?_; rintro e wn ⟨rfl, hB⟩; replace hS := Sx.call hB hS; clear hB; clear hc; have hc := hS.cellsL; simp only [CellsL, CellsF, Nat.zero_add, Nat.reduceAdd, and_true, true_and] at hc) | (go_at_call 19; apply calls_abs (w0 := w); (repeat (first | with_reducible apply Sx.alloc | with_reducible apply Sx.drew | with_reducible apply Sx.drewN | with_reducible exact hS)); intro wx hS2; clear hS; have hS := hS2; clear hS2; (try simp only [World.size_alloc, World.size_drew] at hS); refine (HG.out _).mono ?_; rintro e wn ⟨rfl, hB⟩; replace hS := Sx.call hB hS; clear hB; clear hc; have hc := hS.cellsL; simp only [CellsL, CellsF, Nat.zero_add, Nat.reduceAdd, and_true, true_and] at hc))
    go_ret
    exact ⟨rfl, hS.below⟩
  have HG := Lib.hid (fun wx => imgGreat_any l A cap mem st wx)
  rw [decide_eq_false h80] at HG
  have hn0 : l.length ≤ 65536 := by omega
  have hPs : ∃ pv bv rv, Hid (∀ wx, CodeAt wx A l → Calls Try.prog 27 #[.agg #[.slice A l.length cap, .int .i64 mem, .int .i64 st], .int .i64 i0] wx fun e w' => e = .returned (.tuple #[.int .i64 pv, .bool bv]) ∧ Below wx.heap.size wx w') ∧
      Hid (∀ wx, CodeAt wx A l → Calls Try.prog 35 #[.slice A l.length cap, .int .i64 i0] wx fun e w' => e = .returned (.int .i64 rv) ∧ Below wx.heap.size wx w') ∧ ((bv = true ∧ rv = pv ∧ 0 ≤ pv) ∨ (bv = false ∧ pv = 0 ∧ rv = -1)) := by
    have H1 := fun wx h => partner_any l A cap mem st i0 wx h
    unfold Img.partnerI at H1
    by_cases hi : 0 ≤ i0 ∧ i0 < l.length
    · obtain ⟨k, rfl⟩ : ∃ k : Nat, i0 = (k : Int) := ⟨i0.toNat, by omega⟩
      have hkl : k < l.length := by omega
      obtain ⟨b, o, rfl⟩ := hA.some (by omega)
      have H2 := fun wx (h : CodeAt wx (some ⟨b, o, none⟩) l) => rpartner_in l b o cap k wx hkl hok.ops (by
        obtain ⟨b', o', e, hc⟩ := h (by omega)
        injection e with e
        injection e with e1 e2
        subst e1 e2
        exact hc)
      rw [if_pos hi, Int.toNat_natCast] at H1
      cases hp : Img.partner l k with
      | some p =>
        rw [hp] at H1 H2
        exact ⟨p, true, p, Lib.hid H1, Lib.hid H2, .inl ⟨rfl, rfl, by omega⟩⟩
      | none =>
        rw [hp] at H1 H2
        exact ⟨0, false, -1, Lib.hid H1, Lib.hid H2, .inr ⟨rfl, rfl, rfl⟩⟩
    · rw [if_neg hi] at H1
      exact ⟨0, false, -1, Lib.hid H1, Lib.hid (fun wx _ => rpartner_out l A cap i0 wx hi), .inr ⟨rfl, rfl, rfl⟩⟩
  obtain ⟨pv, bv, rv, HP, HR, hpr⟩ := hPs
  have HQ := Lib.hid (fun wx h => procs_any l A cap mem st wx hn0 h)
  obtain ⟨hv, hbv, HH, hcase⟩ : ∃ hv hbv, Hid (∀ wx, CodeAt wx A l → Calls Try.prog 36 #[.agg #[.slice A l.length cap, .int .i64 mem, .int .i64 st]] wx fun e w' => e = .returned (.tuple #[.int .i64 hv, .bool hbv]) ∧ Below wx.heap.size wx w') ∧ ((Img.haltU l l.length < 0 ∧ hv = 0 ∧ hbv = false) ∨ (0 ≤ Img.haltU l l.length ∧ hv = Img.haltU l l.length ∧ hbv = true)) := by
    have H := fun wx h => halt_any l A cap mem st wx hn0 h
    rw [← Img.haltU_all] at H
    rcases Img.haltU_cases l l.length with ⟨h1, -⟩ | ⟨k, -, h2, -, -⟩
    · rw [h1] at H ⊢
      exact ⟨0, false, Lib.hid H, .inl ⟨by omega, rfl, rfl⟩⟩
    · rw [h2] at H ⊢
      rw [show max (k : Int) 0 = (k : Int) from by omega, decide_eq_true (by omega)] at H
      exact ⟨k, true, Lib.hid H, .inr ⟨by omega, rfl, rfl⟩⟩
  have hS : Sx w [] [codeF A l] w := (Sx.add (f := codeF A l) (hA) (Sx.start (F := []) w (fun _ h => by cases h)))
  have hc : True := trivial
  have hl8 : l.length ≤ 80 := by omega
  clear h80
  rcases hpr with ⟨rfl, rfl, hp0⟩ | ⟨rfl, rfl, rfl⟩
  all_goals
    go_enter Try.func11, Try.ntmps11
    go_upto_region 12 with (first | (go_at_call 18; apply calls_abs (w0 := w); (repeat (first | with_reducible apply Sx.alloc | with_reducible apply Sx.drew | with_reducible apply Sx.drewN | with_reducible exact hS)); intro wx hS2; clear hS; have hS := hS2; clear hS2; (try simp only [World.size_alloc, World.size_drew] at hS); refine (imgAwake_any _).mono ?_; rintro e wn ⟨rfl, hB⟩; replace hS := Sx.call hB hS; clear hB; clear hc; have hc := hS.cellsL; simp only [CellsL, CellsF, Nat.zero_add, Nat.reduceAdd, and_true, true_and] at hc) | (go_at_call 19; apply calls_abs (w0 := w); (repeat (first | with_reducible apply Sx.alloc | with_reducible apply Sx.drew | with_reducible apply Sx.drewN | with_reducible exact hS)); intro wx hS2; clear hS; have hS := hS2; clear hS2; (try simp only [World.size_alloc, World.size_drew] at hS); refine (HG.out _).mono ?_; rintro e wn ⟨rfl, hB⟩; replace hS := Sx.call hB hS; clear hB; clear hc; have hc := hS.cellsL; simp only [CellsL, CellsF, Nat.zero_add, Nat.reduceAdd, and_true, true_and] at hc) | (go_at_call 27; apply calls_abs (w0 := w); (repeat (first | with_reducible apply Sx.alloc | with_reducible apply Sx.drew | with_reducible apply Sx.drewN | with_reducible exact hS)); intro wx hS2; clear hS; have hS := hS2; clear hS2; (try simp only [World.size_alloc, World.size_drew] at hS); refine (HP.out _ hS.f1).mono ?_; rintro e wn ⟨rfl, hB⟩; replace hS := Sx.call hB hS; clear hB; clear hc; have hc := hS.cellsL; simp only [CellsL, CellsF, Nat.zero_add, Nat.reduceAdd, and_true, true_and] at hc) | (go_at_call 35; apply calls_abs (w0 := w); (repeat (first | with_reducible apply Sx.alloc | with_reducible apply Sx.drew | with_reducible apply Sx.drewN | with_reducible exact hS)); intro wx hS2; clear hS; have hS := hS2; clear hS2; (try simp only [World.size_alloc, World.size_drew] at hS); refine (HR.out _ hS.f1).mono ?_; rintro e wn ⟨rfl, hB⟩; replace hS := Sx.call hB hS; clear hB; clear hc; have hc := hS.cellsL; simp only [CellsL, CellsF, Nat.zero_add, Nat.reduceAdd, and_true, true_and] at hc) | (go_at_call 31; apply calls_abs (w0 := w); (repeat (first | with_reducible apply Sx.alloc | with_reducible apply Sx.drew | with_reducible apply Sx.drewN | with_reducible exact hS)); intro wx hS2; clear hS; have hS := hS2; clear hS2; (try simp only [World.size_alloc, World.size_drew] at hS); refine (HQ.out _ hS.f1).mono ?_; rintro e wn ⟨Aq, cq, rfl, hB, hI⟩; replace hS := Sx.callF (f := intsF Aq (Img.procsU l l.length)) hB (hI) hS; clear hB; clear hc; have hc := hS.cellsL; simp only [CellsL, CellsF, Nat.zero_add, Nat.reduceAdd, and_true, true_and] at hc) | (go_at_call 36; apply calls_abs (w0 := w); (repeat (first | with_reducible apply Sx.alloc | with_reducible apply Sx.drew | with_reducible apply Sx.drewN | with_reducible exact hS)); intro wx hS2; clear hS; have hS := hS2; clear hS2; (try simp only [World.size_alloc, World.size_drew] at hS); refine (HH.out _ hS.f2).mono ?_; rintro e wn ⟨rfl, hB⟩; replace hS := Sx.call hB hS; clear hB; clear hc; have hc := hS.cellsL; simp only [CellsL, CellsF, Nat.zero_add, Nat.reduceAdd, and_true, true_and] at hc))
    go_wp2
    clear HP HR HQ HH HG
    go_loopw [11, 12, 49] (fun s11 s12 s wr => ∃ k : Nat, k ≤ l.length ∧ s = .int .i64 k ∧ s11 = .int .i64 (Img.procsU l k).length ∧ s12 = .int .i64 (Img.haltU l k) ∧ Sx w [(w.heap.size, 24, #[.slice A l.length cap, .int .i64 mem, .int .i64 st])] [intsF Aq (Img.procsU l l.length), codeF A l] wr) (fun _ _ s _ => l.length - (intOf s).toNat)
    case atStart => exact ⟨0, Nat.zero_le _, rfl, rfl, rfl, hS⟩
    case round =>
      clear hS hc
      obtain ⟨k, hk, rfl, rfl, rfl, hS⟩ := hrel
      have hc := hS.cellsL
      simp only [CellsL, CellsF, Nat.zero_add, Nat.reduceAdd, and_true, true_and] at hc
      have hle := Img.procsU_le l k
      have hhl := Img.haltU_le l k
      by_cases hlt : k < l.length
      · obtain ⟨b, o, rfl⟩ := hA.some (by omega)
        obtain ⟨hb, x0, x1, x2, x3, x4⟩ := CodeAt.cells hS.f2 hlt
        have hst := Img.procsU_step l k
        have hst2 : Img.haltU l (k + 1) = if Img.haltU l k < 0 ∧ (Img.at_ l k).op = 34 then (k : Int) else Img.haltU l k := rfl
        by_cases h32 : (Img.at_ l k).op = 32
        · obtain ⟨hq1, hq2⟩ := Img.procsU_at hlt h32
          have o32 : ((Img.at_ l k).op == 32) = true := by rw [h32]; rfl
          have o34 : ((Img.at_ l k).op == 34) = false := by rw [h32]; rfl
          rw [if_pos h32] at hst
          rw [if_neg (by rintro ⟨-, h⟩; rw [h32] at h; cases h)] at hst2
          obtain ⟨bq, oq, rfl⟩ := hS.f1.some (by omega)
          obtain ⟨hbq, y0⟩ := IntsAt.cell hS.f1 hq1
          rw [hq2] at y0
          have HST := Lib.hid hst
          have HST2 := Lib.hid hst2
          clear hst hst2 h32 hq2
          go_wp2
          go_roundw
          case rel => exact ⟨k + 1, hlt, by go_num, by rw [HST.out]; simp, by rw [HST2.out], (hS.alloc _ _).drop⟩
          case measure => simp [intOf] <;> omega
        · have o32 : ((Img.at_ l k).op == 32) = false := beq_eq_false_iff_ne.2 h32
          rw [if_neg h32, List.append_nil] at hst
          have HST := Lib.hid hst
          clear hst h32
          by_cases h34 : (Img.at_ l k).op = 34
          · have o34 : ((Img.at_ l k).op == 34) = true := beq_iff_eq.2 h34
            by_cases hneg : Img.haltU l k < 0
            · rw [if_pos ⟨hneg, h34⟩] at hst2
              have HST2 := Lib.hid hst2
              clear hst2 h34
              go_wp2
              go_roundw
              case rel => exact ⟨k + 1, hlt, by go_num, by rw [HST.out], by rw [HST2.out], (hS.alloc _ _).drop⟩
              case measure => simp [intOf] <;> omega
            · rw [if_neg (fun h => hneg h.1)] at hst2
              have HST2 := Lib.hid hst2
              clear hst2 h34
              go_wp2
              go_roundw
              case rel => exact ⟨k + 1, hlt, by go_num, by rw [HST.out], by rw [HST2.out], (hS.alloc _ _).drop⟩
              case measure => simp [intOf] <;> omega
          · have o34 : ((Img.at_ l k).op == 34) = false := beq_eq_false_iff_ne.2 h34
            rw [if_neg (fun h => h34 h.2)] at hst2
            have HST2 := Lib.hid hst2
            clear hst2 h34
            go_wp2
            go_roundw
            case rel => exact ⟨k + 1, hlt, by go_num, by rw [HST.out], by rw [HST2.out], (hS.alloc _ _).drop⟩
            case measure => simp [intOf] <;> omega
      · obtain rfl : k = l.length := by omega
        clear hlt hk
        rcases hcase with ⟨hneg, rfl, rfl⟩ | ⟨hneg, rfl, rfl⟩
        · have hng : decide (0 ≤ Img.haltU l l.length) = false := decide_eq_false (by omega)
          go_wp2
          go_ret
          exact ⟨rfl, hS.below⟩
        · go_wp2
          go_ret
          exact ⟨rfl, hS.below⟩

end Go.Proofs.Yteonkfdmkgjpaaa
