/- Contracts of the reference of layer 23: Partner. -/
import Derived.Test.YteonkfdmkgjpaaaImgR1
import Derived.Deep.RegionHeld3
import Derived.Deep.DeepCutAuto
import Derived.BigQuiet
import Derived.Deep.QuietTactic
import Derived.BigRegion
namespace Go.Proofs.Yteonkfdmkgjpaaa
open Go.RowKit
set_option linter.unusedVariables false
set_option linter.unusedSimpArgs false

theorem rpartner_out (l : List Ins) (A : Option Addr) (cap : Nat) (i : Int) (w : World) (hi : ¬ (0 ≤ i ∧ i < l.length)) :
    Calls Try.prog 35 #[(.slice A l.length cap), .int .i64 i] w fun e w' => e = .returned (.int .i64 (-1)) ∧ Below w.heap.size w w' := by
  by_cases h0 : i < 0
  · go_enter Try.func35, Try.ntmps35
    go_wp2
    go_ret
    exact ⟨rfl, Below.refl _ _⟩
  · have h1 : (l.length : Int) ≤ i := by omega
    go_enter Try.func35, Try.ntmps35
    go_wp2
    go_ret
    exact ⟨rfl, Below.refl _ _⟩

set_option maxHeartbeats 8000000 in
set_option maxRecDepth 100000 in
theorem rpartner_in (l : List Ins) (b o cap : Nat) (k : Nat) (w : World) (hk : k < l.length) (hok : OpsOk l) (hcB : CodeB w b o l) :
    Calls Try.prog 35 #[(.slice (some ⟨b, o, none⟩) l.length cap), .int .i64 k] w fun e w' => e = .returned (.int .i64 (Img.num1 (Img.partner l k))) ∧ Below w.heap.size w w' := by
  have hcell := hcB.2
  have hb := hcB.1
  have hE := St.start w
  have RTk := Lib.hid (show ∀ wx, Calls Try.prog 48 #[.agg #[.int .u8 (Img.at_ l k).op, .int .i64 (Img.at_ l k).a, .int .i64 (Img.at_ l k).b, .int .i64 (Img.at_ l k).c, .int .i64 (Img.at_ l k).d]] wx fun e w' => e = .returned (.int .i64 (Img.rt (Img.at_ l k))) ∧ Below wx.heap.size wx w' from fun wx => rtgt_any (Img.at_ l k) wx)
  have RVk := Lib.hid (show ∀ wx, Calls Try.prog 55 #[.agg #[.int .u8 (Img.at_ l k).op, .int .i64 (Img.at_ l k).a, .int .i64 (Img.at_ l k).b, .int .i64 (Img.at_ l k).c, .int .i64 (Img.at_ l k).d]] wx fun e w' => e = .returned (.bool (Img.vl (Img.at_ l k))) ∧ Below wx.heap.size wx w' from fun wx => rvl_any (Img.at_ l k) (hok k (by omega)) wx)
  cases vx : Img.vl (Img.at_ l k)
  · have HN := Lib.hid (show Img.partner l k = none from Img.rpartner_none1 vx)
    rw [vx] at RVk
    clear vx hok
    go_enter Try.func35, Try.ntmps35
    go_wp2_with (first | (go_at_call 48; (first | (with_reducible refine (RTk.out _).mono ?_) | (with_reducible refine (RTj.out _).mono ?_)); rintro e wn ⟨rfl, hB⟩; have hE := St.call hB (show St w [] _ from by assumption); (first | have hcell := (CodeB.after hE.1 hcB).2 | skip)) | (go_at_call 55; (first | (with_reducible refine (RVk.out _).mono ?_) | (with_reducible refine (RVj.out _).mono ?_)); rintro e wn ⟨rfl, hB⟩; have hE := St.call hB (show St w [] _ from by assumption); (first | have hcell := (CodeB.after hE.1 hcB).2 | skip)))
    go_ret
    exact ⟨by rw [HN.out]; rfl, (show St w [] _ from by assumption).1⟩
  by_cases ht : Img.rt (Img.at_ l k) < 0 ∨ (l.length : Int) ≤ Img.rt (Img.at_ l k)
  · have HN := Lib.hid (show Img.partner l k = none from Img.rpartner_none2 ht)
    rw [vx] at RVk
    generalize Img.rt (Img.at_ l k) = t at *
    clear vx hok
    rcases ht with ht | ht
    · go_enter Try.func35, Try.ntmps35
      go_wp2_with (first | (go_at_call 48; (first | (with_reducible refine (RTk.out _).mono ?_) | (with_reducible refine (RTj.out _).mono ?_)); rintro e wn ⟨rfl, hB⟩; have hE := St.call hB (show St w [] _ from by assumption); (first | have hcell := (CodeB.after hE.1 hcB).2 | skip)) | (go_at_call 55; (first | (with_reducible refine (RVk.out _).mono ?_) | (with_reducible refine (RVj.out _).mono ?_)); rintro e wn ⟨rfl, hB⟩; have hE := St.call hB (show St w [] _ from by assumption); (first | have hcell := (CodeB.after hE.1 hcB).2 | skip)))
      go_ret
      exact ⟨by rw [HN.out]; rfl, (show St w [] _ from by assumption).1⟩
    · have ht0 : ¬ t < 0 := by omega
      go_enter Try.func35, Try.ntmps35
      go_wp2_with (first | (go_at_call 48; (first | (with_reducible refine (RTk.out _).mono ?_) | (with_reducible refine (RTj.out _).mono ?_)); rintro e wn ⟨rfl, hB⟩; have hE := St.call hB (show St w [] _ from by assumption); (first | have hcell := (CodeB.after hE.1 hcB).2 | skip)) | (go_at_call 55; (first | (with_reducible refine (RVk.out _).mono ?_) | (with_reducible refine (RVj.out _).mono ?_)); rintro e wn ⟨rfl, hB⟩; have hE := St.call hB (show St w [] _ from by assumption); (first | have hcell := (CodeB.after hE.1 hcB).2 | skip)))
      go_ret
      exact ⟨by rw [HN.out]; rfl, (show St w [] _ from by assumption).1⟩
  obtain ⟨j, hj⟩ : ∃ j : Nat, Img.rt (Img.at_ l k) = (j : Int) := ⟨(Img.rt (Img.at_ l k)).toNat, by omega⟩
  have hjl : j < l.length := by omega
  clear ht
  have hx : Img.has (Img.at_ l k) = true ∧ Img.tg (Img.at_ l k) = (j : Int) := by
    cases h : Img.has (Img.at_ l k)
    · unfold Img.rt at hj; rw [h] at hj; simp at hj
    · unfold Img.rt at hj; rw [h, if_pos rfl] at hj; exact ⟨rfl, hj⟩
  have RTj := Lib.hid (show ∀ wx, Calls Try.prog 48 #[.agg #[.int .u8 (Img.at_ l j).op, .int .i64 (Img.at_ l j).a, .int .i64 (Img.at_ l j).b, .int .i64 (Img.at_ l j).c, .int .i64 (Img.at_ l j).d]] wx fun e w' => e = .returned (.int .i64 (Img.rt (Img.at_ l j))) ∧ Below wx.heap.size wx w' from fun wx => rtgt_any (Img.at_ l j) wx)
  have RVj := Lib.hid (show ∀ wx, Calls Try.prog 55 #[.agg #[.int .u8 (Img.at_ l j).op, .int .i64 (Img.at_ l j).a, .int .i64 (Img.at_ l j).b, .int .i64 (Img.at_ l j).c, .int .i64 (Img.at_ l j).d]] wx fun e w' => e = .returned (.bool (Img.vl (Img.at_ l j))) ∧ Below wx.heap.size wx w' from fun wx => rvl_any (Img.at_ l j) (hok j (by omega)) wx)
  cases vy : Img.vl (Img.at_ l j)
  · have HN := Lib.hid (show Img.partner l k = none from Img.partner_not hx.2 (by simp [Img.isP, vy]))
    rw [vx] at RVk
    rw [vy] at RVj
    rw [hj] at RTk
    clear vx vy hj hok hx
    go_enter Try.func35, Try.ntmps35
    go_wp2_with (first | (go_at_call 48; (first | (with_reducible refine (RTk.out _).mono ?_) | (with_reducible refine (RTj.out _).mono ?_)); rintro e wn ⟨rfl, hB⟩; have hE := St.call hB (show St w [] _ from by assumption); (first | have hcell := (CodeB.after hE.1 hcB).2 | skip)) | (go_at_call 55; (first | (with_reducible refine (RVk.out _).mono ?_) | (with_reducible refine (RVj.out _).mono ?_)); rintro e wn ⟨rfl, hB⟩; have hE := St.call hB (show St w [] _ from by assumption); (first | have hcell := (CodeB.after hE.1 hcB).2 | skip)))
    go_ret
    exact ⟨by rw [HN.out]; rfl, (show St w [] _ from by assumption).1⟩
  by_cases hb' : Img.rt (Img.at_ l j) = (k : Int)
  · have HN := Lib.hid (Img.rpartner_some hk hjl hj vx vy hb')
    rw [vx] at RVk
    rw [vy] at RVj
    rw [hj] at RTk
    rw [hb'] at RTj
    clear vx vy hj hok hx hb'
    go_enter Try.func35, Try.ntmps35
    go_upto_region 6 with (first | (go_at_call 48; (first | (with_reducible refine (RTk.out _).mono ?_) | (with_reducible refine (RTj.out _).mono ?_)); rintro e wn ⟨rfl, hB⟩; have hE := St.call hB (show St w [] _ from by assumption); (first | have hcell := (CodeB.after hE.1 hcB).2 | skip)) | (go_at_call 55; (first | (with_reducible refine (RVk.out _).mono ?_) | (with_reducible refine (RVj.out _).mono ?_)); rintro e wn ⟨rfl, hB⟩; have hE := St.call hB (show St w [] _ from by assumption); (first | have hcell := (CodeB.after hE.1 hcB).2 | skip)))
    have hE := (show St w [] _ from by assumption)
    have HcB := CodeB.after hE.1 hcB
    have hcell := HcB.2
    have hb2 := HcB.1
    obtain ⟨wz, hwz⟩ : ∃ wz : World, wz = wn := ⟨_, rfl⟩
    go_cut [6, 7] (fun s6 s7 wx => s6 = .int .u8 (Img.at_ l (min k j)).op ∧ s7 = .int .u8 (Img.at_ l (max k j)).op ∧ ∃ n, wx = World.drewN wz n)
    case first =>
      have Hz := Lib.hid hwz
      clear hwz
      rcases Nat.lt_trichotomy k j with hkj | hkj | hkj
      · have N1 := Lib.hid (Nat.min_eq_left (Nat.le_of_lt hkj))
        have N2 := Lib.hid (Nat.max_eq_right (Nat.le_of_lt hkj))
        have hnk : ¬ j < k := by omega
        have a0 := (hcell k hk).1
        have b0 := (hcell j hjl).1
        clear hcell
        go_region
        all_goals (go_wp2_with fail; go_meet)
        all_goals exact ⟨by rw [N1.out], by rw [N2.out], 1, by rw [Hz.out]; rfl⟩
      · subst hkj
        have N1 := Lib.hid (Nat.min_self k)
        have N2 := Lib.hid (Nat.max_self k)
        have hnk : ¬ k < k := Nat.lt_irrefl k
        have a0 := (hcell k hk).1
        clear hcell
        go_region
        all_goals (go_wp2_with fail; go_meet)
        all_goals exact ⟨by rw [N1.out], by rw [N2.out], 1, by rw [Hz.out]; rfl⟩
      · have N1 := Lib.hid (Nat.min_eq_right (Nat.le_of_lt hkj))
        have N2 := Lib.hid (Nat.max_eq_left (Nat.le_of_lt hkj))
        have hnk : ¬ k < j := by omega
        have a0 := (hcell k hk).1
        have b0 := (hcell j hjl).1
        clear hcell
        go_region
        all_goals (go_wp2_with fail; go_meet)
        all_goals exact ⟨by rw [N1.out], by rw [N2.out], 1, by rw [Hz.out]; rfl⟩
    case rest =>
      obtain ⟨rfl, rfl, n, rfl⟩ := hcut
      subst hwz
      generalize (Img.at_ l (min k j)).op = p at *
      generalize (Img.at_ l (max k j)).op = q at *
      clear hcell
      have hkn : ((k : Int) != (j : Int)) = decide (k ≠ j) := by
        by_cases e : k = j
        · simp [e]
        · have e' : ¬ (k : Int) = (j : Int) := by omega
          simp [e, e']
      have HK := Lib.hid (show ∀ v, Img.rkinds (decide (k ≠ j)) p q = v → Img.partner l k = if v then some j else none from fun v hv => by rw [HN.out, hv])
      generalize decide (k ≠ j) = ne at *
      clear HN
      have hW := Lib.hid (show St w [] _ from hE.drewN n).1
      clear hE
      go_wp2_with (first | (go_at_call 56; refine (rjump_any _ _).mono ?_; rintro e wn2 ⟨rfl, rfl⟩) | (go_at_call 57; refine (rlanding_any _ _).mono ?_; rintro e wn2 ⟨rfl, rfl⟩))
      all_goals go_ret
      all_goals exact ⟨by first | (rw [HK.out true (by simp [Img.rkinds, show Isa.isJ 32 = false from rfl, show Isa.isL 32 = false from rfl, *])]; rfl) | (rw [HK.out false (by simp [Img.rkinds, show Isa.isJ 32 = false from rfl, show Isa.isL 32 = false from rfl, *])]; rfl), hW.out⟩
  · have HN := Lib.hid (show Img.partner l k = none from Img.partner_not hx.2 (by
      cases h : Img.isP l k j
      · rfl
      · refine absurd ?_ hb'
        simp only [Img.isP, Bool.and_eq_true, beq_iff_eq, decide_eq_true_eq] at h
        unfold Img.rt
        rw [h.1.1.1.1.2, if_pos rfl]
        exact h.1.1.1.2))
    have q1 : (Img.rt (Img.at_ l j) != (k : Int)) = true := by simpa using hb'
    rw [vx] at RVk
    rw [vy] at RVj
    rw [hj] at RTk
    generalize Img.rt (Img.at_ l j) = t at *
    clear vx vy hj hok hx hb'
    go_enter Try.func35, Try.ntmps35
    go_wp2_with (first | (go_at_call 48; (first | (with_reducible refine (RTk.out _).mono ?_) | (with_reducible refine (RTj.out _).mono ?_)); rintro e wn ⟨rfl, hB⟩; have hE := St.call hB (show St w [] _ from by assumption); (first | have hcell := (CodeB.after hE.1 hcB).2 | skip)) | (go_at_call 55; (first | (with_reducible refine (RVk.out _).mono ?_) | (with_reducible refine (RVj.out _).mono ?_)); rintro e wn ⟨rfl, hB⟩; have hE := St.call hB (show St w [] _ from by assumption); (first | have hcell := (CodeB.after hE.1 hcB).2 | skip)))
    go_ret
    exact ⟨by rw [HN.out]; rfl, (show St w [] _ from by assumption).1⟩
end Go.Proofs.Yteonkfdmkgjpaaa
