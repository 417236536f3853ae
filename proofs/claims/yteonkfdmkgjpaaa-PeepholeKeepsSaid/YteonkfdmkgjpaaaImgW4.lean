/- Contracts of layer 23: nested, regions, fault, Check. -/
import Derived.Test.YteonkfdmkgjpaaaImgW3
import Derived.Test.YteonkfdmkgjpaaaImgPure2
import Derived.Test.YteonkfdmkgjpaaaCode2
import Derived.Test.YteonkfdmkgjpaaaCode
import Derived.Deep.RegionHeld3
import Derived.Deep.DeepCutAuto
import Derived.BigQuiet
import Derived.Deep.QuietTactic
namespace Go.Proofs.Yteonkfdmkgjpaaa
open Go.RowKit
set_option linter.unusedVariables false
set_option linter.unusedSimpArgs false

set_option maxHeartbeats 8000000 in
theorem fault_any (l : List Ins) (b o cap : Nat) (mem st : Int) (g : Nat) (k : Nat) (w : World) (hn0 : l.length ≤ 65536) (hk : k < l.length) (hcB : CodeB w b o l) (hg : g < w.heap.size)
    (hreg : ∀ i, i < l.length → w.cell? ⟨g, i, none⟩ = some (.int .i64 (Img.region l i))) :
    Calls Try.prog 50 #[.agg #[.slice (some ⟨b, o, none⟩) l.length cap, .int .i64 mem, .int .i64 st], .slice (some ⟨g, 0, none⟩) l.length l.length, .int .i64 k] w fun e w' => e = .returned (.int .i64 (Img.fault l k)) ∧ Below w.heap.size w w' := by
  have hcell := hcB.2
  have hb := hcB.1
  have Hreg := Lib.hid hreg
  clear hreg
  go_enter Try.func50, Try.ntmps50
  go_upto_region 2 with fail
  have hS := ((St.start w).alloc #[.slice (some ⟨b, o, none⟩) l.length cap, .int .i64 mem, .int .i64 st] 24).alloc #[.int .u8 (Img.at_ l k).op, .int .i64 (Img.at_ l k).a, .int .i64 (Img.at_ l k).b, .int .i64 (Img.at_ l k).c, .int .i64 (Img.at_ l k).d] 38
  simp only [World.size_alloc] at hS
  generalize ((w.alloc (.cells #[.slice (some ⟨b, o, none⟩) l.length cap, .int .i64 mem, .int .i64 st] 24)).alloc (.cells #[.int .u8 (Img.at_ l k).op, .int .i64 (Img.at_ l k).a, .int .i64 (Img.at_ l k).b, .int .i64 (Img.at_ l k).c, .int .i64 (Img.at_ l k).d] 38)) = w3 at *
  clear hcell hb
  obtain ⟨x0, x1, x2, x3, x4, -⟩ := Blk.cells5 hS.b1; obtain ⟨i0, i1, i2, -⟩ := Blk.cells3 hS.b2; have hcell := (CodeB.after hS.1 hcB).2
  cases hv : Img.vl (Img.at_ l k)
  · have vx : Isa.vld (Img.at_ l k).op (Img.at_ l k).a (Img.at_ l k).b (Img.at_ l k).c (Img.at_ l k).d = false := hv
    have HV := Lib.hid (show Img.fault l k = 3 from by simp [Img.fault, hv])
    clear hv
    go_wp2_with (first | (go_at_call 30; refine (valid_any _ _ _ _ _ _).mono ?_; rintro e wn ⟨rfl, hB⟩; have hS := St.call hB (show St w _ _ from by assumption); obtain ⟨x0, x1, x2, x3, x4, -⟩ := Blk.cells5 hS.b1; obtain ⟨i0, i1, i2, -⟩ := Blk.cells3 hS.b2; have hcell := (CodeB.after hS.1 hcB).2))
    go_ret
    exact ⟨by rw [HV.out]; rfl, (show St w _ _ from by assumption).1⟩
  have vx : Isa.vld (Img.at_ l k).op (Img.at_ l k).a (Img.at_ l k).b (Img.at_ l k).c (Img.at_ l k).d = true := hv
  cases hh : Img.has (Img.at_ l k)
  · have hx : (Isa.tgt (Img.at_ l k).op).isSome = false := hh
    have HV := Lib.hid (show Img.fault l k = 0 from by simp [Img.fault, hv, hh])
    clear hv hh
    go_wp2_with (first | (go_at_call 30; refine (valid_any _ _ _ _ _ _).mono ?_; rintro e wn ⟨rfl, hB⟩; have hS := St.call hB (show St w _ _ from by assumption); obtain ⟨x0, x1, x2, x3, x4, -⟩ := Blk.cells5 hS.b1; obtain ⟨i0, i1, i2, -⟩ := Blk.cells3 hS.b2; have hcell := (CodeB.after hS.1 hcB).2) | (go_at_call 33; refine (target2_any _ _ _ _ _ _).mono ?_; rintro e wn ⟨rfl, hB⟩; have hS := St.call hB (show St w _ _ from by assumption); obtain ⟨x0, x1, x2, x3, x4, -⟩ := Blk.cells5 hS.b1; obtain ⟨i0, i1, i2, -⟩ := Blk.cells3 hS.b2; have hcell := (CodeB.after hS.1 hcB).2))
    go_ret
    exact ⟨by rw [HV.out]; rfl, (show St w _ _ from by assumption).1⟩
  have hx : (Isa.tgt (Img.at_ l k).op).isSome = true := hh
  have et : Isa.tval (Img.at_ l k).op (Img.at_ l k).a (Img.at_ l k).b = Img.tg (Img.at_ l k) := rfl
  cases hc : Img.isC (Img.at_ l k)
  · have hc30 : ((Img.at_ l k).op == 30) = false := by cases h : (Img.at_ l k).op == 30 <;> simp_all [Img.isC]
    have hc31 : ((Img.at_ l k).op == 31) = false := by cases h : (Img.at_ l k).op == 31 <;> simp_all [Img.isC]
    cases hp : Img.partner l k with
    | none =>
      have HV := Lib.hid (show Img.fault l k = 23 from by simp [Img.fault, hv, hh, hc, hp])
      have HPI := Lib.hid (show ∀ wx, CodeB wx b o l → Calls Try.prog 27 #[.agg #[.slice (some ⟨b, o, none⟩) l.length cap, .int .i64 mem, .int .i64 st], .int .i64 k] wx fun e w' => e = .returned (.tuple #[.int .i64 0, .bool false]) ∧ Below wx.heap.size wx w' from fun wx h => by
        have := partner_in l b o cap mem st k wx hk h
        rw [hp] at this
        exact this)
      clear hv hh hc hp
      go_wp2_with (first | (go_at_call 30; refine (valid_any _ _ _ _ _ _).mono ?_; rintro e wn ⟨rfl, hB⟩; have hS := St.call hB (show St w _ _ from by assumption); obtain ⟨x0, x1, x2, x3, x4, -⟩ := Blk.cells5 hS.b1; obtain ⟨i0, i1, i2, -⟩ := Blk.cells3 hS.b2; have hcell := (CodeB.after hS.1 hcB).2) | (go_at_call 33; refine (target2_any _ _ _ _ _ _).mono ?_; rintro e wn ⟨rfl, hB⟩; have hS := St.call hB (show St w _ _ from by assumption); obtain ⟨x0, x1, x2, x3, x4, -⟩ := Blk.cells5 hS.b1; obtain ⟨i0, i1, i2, -⟩ := Blk.cells3 hS.b2; have hcell := (CodeB.after hS.1 hcB).2) | (go_at_call 27; refine (HPI.out _ (CodeB.after (show St w _ _ from by assumption).1 hcB)).mono ?_; rintro e wn ⟨rfl, hB⟩; have hS := St.call hB (show St w _ _ from by assumption); obtain ⟨x0, x1, x2, x3, x4, -⟩ := Blk.cells5 hS.b1; obtain ⟨i0, i1, i2, -⟩ := Blk.cells3 hS.b2; have hcell := (CodeB.after hS.1 hcB).2))
      go_ret
      exact ⟨by rw [HV.out]; rfl, (show St w _ _ from by assumption).1⟩
    | some pe =>
      have hpl := (Img.partner_lt hp).2
      have HPI := Lib.hid (show ∀ wx, CodeB wx b o l → Calls Try.prog 27 #[.agg #[.slice (some ⟨b, o, none⟩) l.length cap, .int .i64 mem, .int .i64 st], .int .i64 k] wx fun e w' => e = .returned (.tuple #[.int .i64 pe, .bool true]) ∧ Below wx.heap.size wx w' from fun wx h => by
        have := partner_in l b o cap mem st k wx hk h
        rw [hp] at this
        exact this)
      by_cases s1 : (Img.at_ l k).op = 32
      · have o1 : ((Img.at_ l k).op == 32) = true := beq_iff_eq.2 s1
        have o1' : ((Img.at_ l k).op != 32) = false := by simp [s1]
        cases hne : Img.nested l k
        · have HV := Lib.hid (show Img.fault l k = 0 from by simp [Img.fault, hv, hh, hc, hp, hne, Img.isS, s1])
          have HNE := Lib.hid (show ∀ wx, CodeB wx b o l → Calls Try.prog 66 #[.agg #[.slice (some ⟨b, o, none⟩) l.length cap, .int .i64 mem, .int .i64 st], .int .i64 k] wx fun e w' => e = .returned (.bool false) ∧ Below wx.heap.size wx w' from fun wx h => hne ▸ nested_any l b o cap mem st k wx hn0 hk h)
          clear hv hh hc hp s1 hne
          go_wp2_with (first | (go_at_call 30; refine (valid_any _ _ _ _ _ _).mono ?_; rintro e wn ⟨rfl, hB⟩; have hS := St.call hB (show St w _ _ from by assumption); obtain ⟨x0, x1, x2, x3, x4, -⟩ := Blk.cells5 hS.b1; obtain ⟨i0, i1, i2, -⟩ := Blk.cells3 hS.b2; have hcell := (CodeB.after hS.1 hcB).2) | (go_at_call 33; refine (target2_any _ _ _ _ _ _).mono ?_; rintro e wn ⟨rfl, hB⟩; have hS := St.call hB (show St w _ _ from by assumption); obtain ⟨x0, x1, x2, x3, x4, -⟩ := Blk.cells5 hS.b1; obtain ⟨i0, i1, i2, -⟩ := Blk.cells3 hS.b2; have hcell := (CodeB.after hS.1 hcB).2) | (go_at_call 27; refine (HPI.out _ (CodeB.after (show St w _ _ from by assumption).1 hcB)).mono ?_; rintro e wn ⟨rfl, hB⟩; have hS := St.call hB (show St w _ _ from by assumption); obtain ⟨x0, x1, x2, x3, x4, -⟩ := Blk.cells5 hS.b1; obtain ⟨i0, i1, i2, -⟩ := Blk.cells3 hS.b2; have hcell := (CodeB.after hS.1 hcB).2) | (go_at_call 66; refine (HNE.out _ (CodeB.after (show St w _ _ from by assumption).1 hcB)).mono ?_; rintro e wn ⟨rfl, hB⟩; have hS := St.call hB (show St w _ _ from by assumption); obtain ⟨x0, x1, x2, x3, x4, -⟩ := Blk.cells5 hS.b1; obtain ⟨i0, i1, i2, -⟩ := Blk.cells3 hS.b2; have hcell := (CodeB.after hS.1 hcB).2))
          go_quiet (fail)
          go_wp2
          go_ret
          exact ⟨by rw [HV.out]; rfl, Below_drewN (show St w _ _ from by assumption).1 _⟩
        · have HV := Lib.hid (show Img.fault l k = 20 from by simp [Img.fault, hv, hh, hc, hp, hne, Img.isS, s1])
          have HNE := Lib.hid (show ∀ wx, CodeB wx b o l → Calls Try.prog 66 #[.agg #[.slice (some ⟨b, o, none⟩) l.length cap, .int .i64 mem, .int .i64 st], .int .i64 k] wx fun e w' => e = .returned (.bool true) ∧ Below wx.heap.size wx w' from fun wx h => hne ▸ nested_any l b o cap mem st k wx hn0 hk h)
          clear hv hh hc hp s1 hne
          go_wp2_with (first | (go_at_call 30; refine (valid_any _ _ _ _ _ _).mono ?_; rintro e wn ⟨rfl, hB⟩; have hS := St.call hB (show St w _ _ from by assumption); obtain ⟨x0, x1, x2, x3, x4, -⟩ := Blk.cells5 hS.b1; obtain ⟨i0, i1, i2, -⟩ := Blk.cells3 hS.b2; have hcell := (CodeB.after hS.1 hcB).2) | (go_at_call 33; refine (target2_any _ _ _ _ _ _).mono ?_; rintro e wn ⟨rfl, hB⟩; have hS := St.call hB (show St w _ _ from by assumption); obtain ⟨x0, x1, x2, x3, x4, -⟩ := Blk.cells5 hS.b1; obtain ⟨i0, i1, i2, -⟩ := Blk.cells3 hS.b2; have hcell := (CodeB.after hS.1 hcB).2) | (go_at_call 27; refine (HPI.out _ (CodeB.after (show St w _ _ from by assumption).1 hcB)).mono ?_; rintro e wn ⟨rfl, hB⟩; have hS := St.call hB (show St w _ _ from by assumption); obtain ⟨x0, x1, x2, x3, x4, -⟩ := Blk.cells5 hS.b1; obtain ⟨i0, i1, i2, -⟩ := Blk.cells3 hS.b2; have hcell := (CodeB.after hS.1 hcB).2) | (go_at_call 66; refine (HNE.out _ (CodeB.after (show St w _ _ from by assumption).1 hcB)).mono ?_; rintro e wn ⟨rfl, hB⟩; have hS := St.call hB (show St w _ _ from by assumption); obtain ⟨x0, x1, x2, x3, x4, -⟩ := Blk.cells5 hS.b1; obtain ⟨i0, i1, i2, -⟩ := Blk.cells3 hS.b2; have hcell := (CodeB.after hS.1 hcB).2))
          go_ret
          exact ⟨by rw [HV.out]; rfl, (show St w _ _ from by assumption).1⟩
      · have o1 : ((Img.at_ l k).op == 32) = false := beq_eq_false_iff_ne.2 s1
        have o1' : ((Img.at_ l k).op != 32) = true := by simp [s1]
        by_cases s2 : (Img.at_ l k).op = 33
        · have o2 : ((Img.at_ l k).op != 33) = false := by simp [s2]
          have HV := Lib.hid (show Img.fault l k = 0 from by simp [Img.fault, hv, hh, hc, hp, Img.isS, Img.isE, s2])
          clear hv hh hc hp s1 s2
          go_wp2_with (first | (go_at_call 30; refine (valid_any _ _ _ _ _ _).mono ?_; rintro e wn ⟨rfl, hB⟩; have hS := St.call hB (show St w _ _ from by assumption); obtain ⟨x0, x1, x2, x3, x4, -⟩ := Blk.cells5 hS.b1; obtain ⟨i0, i1, i2, -⟩ := Blk.cells3 hS.b2; have hcell := (CodeB.after hS.1 hcB).2) | (go_at_call 33; refine (target2_any _ _ _ _ _ _).mono ?_; rintro e wn ⟨rfl, hB⟩; have hS := St.call hB (show St w _ _ from by assumption); obtain ⟨x0, x1, x2, x3, x4, -⟩ := Blk.cells5 hS.b1; obtain ⟨i0, i1, i2, -⟩ := Blk.cells3 hS.b2; have hcell := (CodeB.after hS.1 hcB).2) | (go_at_call 27; refine (HPI.out _ (CodeB.after (show St w _ _ from by assumption).1 hcB)).mono ?_; rintro e wn ⟨rfl, hB⟩; have hS := St.call hB (show St w _ _ from by assumption); obtain ⟨x0, x1, x2, x3, x4, -⟩ := Blk.cells5 hS.b1; obtain ⟨i0, i1, i2, -⟩ := Blk.cells3 hS.b2; have hcell := (CodeB.after hS.1 hcB).2))
          go_quiet (fail)
          go_wp2
          go_ret
          exact ⟨by rw [HV.out]; rfl, Below_drewN (show St w _ _ from by assumption).1 _⟩
        · have o2 : ((Img.at_ l k).op != 33) = true := by simp [s2]
          have HR := Lib.hid (show ∀ wx, Below w.heap.size w wx → wx.cell? ⟨g, k, none⟩ = some (.int .i64 (Img.region l k)) ∧ wx.cell? ⟨g, pe, none⟩ = some (.int .i64 (Img.region l pe)) from fun wx hB =>
            ⟨(hB.cell (p := ⟨g, k, none⟩) hg).trans (Hreg.out k hk), (hB.cell (p := ⟨g, pe, none⟩) hg).trans (Hreg.out pe hpl)⟩)
          by_cases hr : Img.region l k = Img.region l pe
          · have HV := Lib.hid (show Img.fault l k = 0 from by simp [Img.fault, hv, hh, hc, hp, Img.isS, Img.isE, s1, s2, hr])
            have o3 : (Img.region l k != Img.region l pe) = false := by simp [hr]
            clear hv hh hc hp s1 s2 hr
            go_upto_region 17 with (first | (go_at_call 30; refine (valid_any _ _ _ _ _ _).mono ?_; rintro e wn ⟨rfl, hB⟩; have hS := St.call hB (show St w _ _ from by assumption); obtain ⟨x0, x1, x2, x3, x4, -⟩ := Blk.cells5 hS.b1; obtain ⟨i0, i1, i2, -⟩ := Blk.cells3 hS.b2; have hcell := (CodeB.after hS.1 hcB).2) | (go_at_call 33; refine (target2_any _ _ _ _ _ _).mono ?_; rintro e wn ⟨rfl, hB⟩; have hS := St.call hB (show St w _ _ from by assumption); obtain ⟨x0, x1, x2, x3, x4, -⟩ := Blk.cells5 hS.b1; obtain ⟨i0, i1, i2, -⟩ := Blk.cells3 hS.b2; have hcell := (CodeB.after hS.1 hcB).2) | (go_at_call 27; refine (HPI.out _ (CodeB.after (show St w _ _ from by assumption).1 hcB)).mono ?_; rintro e wn ⟨rfl, hB⟩; have hS := St.call hB (show St w _ _ from by assumption); obtain ⟨x0, x1, x2, x3, x4, -⟩ := Blk.cells5 hS.b1; obtain ⟨i0, i1, i2, -⟩ := Blk.cells3 hS.b2; have hcell := (CodeB.after hS.1 hcB).2))
            obtain ⟨r1, r2⟩ := HR.out _ (show St w _ _ from by assumption).1
            generalize Img.region l k = rk at *
            generalize Img.region l pe = rp at *
            go_quiet (fail)
            go_wp2
            go_ret
            exact ⟨by rw [HV.out]; rfl, Below_drewN (show St w _ _ from by assumption).1 _⟩
          · have HV := Lib.hid (show Img.fault l k = 20 from by simp [Img.fault, hv, hh, hc, hp, Img.isS, Img.isE, s1, s2, hr])
            have o3 : (Img.region l k != Img.region l pe) = true := by simp [hr]
            clear hv hh hc hp s1 s2 hr
            go_upto_region 17 with (first | (go_at_call 30; refine (valid_any _ _ _ _ _ _).mono ?_; rintro e wn ⟨rfl, hB⟩; have hS := St.call hB (show St w _ _ from by assumption); obtain ⟨x0, x1, x2, x3, x4, -⟩ := Blk.cells5 hS.b1; obtain ⟨i0, i1, i2, -⟩ := Blk.cells3 hS.b2; have hcell := (CodeB.after hS.1 hcB).2) | (go_at_call 33; refine (target2_any _ _ _ _ _ _).mono ?_; rintro e wn ⟨rfl, hB⟩; have hS := St.call hB (show St w _ _ from by assumption); obtain ⟨x0, x1, x2, x3, x4, -⟩ := Blk.cells5 hS.b1; obtain ⟨i0, i1, i2, -⟩ := Blk.cells3 hS.b2; have hcell := (CodeB.after hS.1 hcB).2) | (go_at_call 27; refine (HPI.out _ (CodeB.after (show St w _ _ from by assumption).1 hcB)).mono ?_; rintro e wn ⟨rfl, hB⟩; have hS := St.call hB (show St w _ _ from by assumption); obtain ⟨x0, x1, x2, x3, x4, -⟩ := Blk.cells5 hS.b1; obtain ⟨i0, i1, i2, -⟩ := Blk.cells3 hS.b2; have hcell := (CodeB.after hS.1 hcB).2))
            obtain ⟨r1, r2⟩ := HR.out _ (show St w _ _ from by assumption).1
            generalize Img.region l k = rk at *
            generalize Img.region l pe = rp at *
            go_quiet (fail)
            go_wp2
            go_ret
            exact ⟨by rw [HV.out]; rfl, Below_drewN (show St w _ _ from by assumption).1 _⟩
  · have HPI := Lib.hid (show ∀ wx, CodeB wx b o l → Calls Try.prog 27 #[.agg #[.slice (some ⟨b, o, none⟩) l.length cap, .int .i64 mem, .int .i64 st], .int .i64 (Img.tg (Img.at_ l k))] wx fun e w' => e = .returned (.tuple #[.int .i64 (Img.num (Img.partnerI l (Img.tg (Img.at_ l k)))), .bool (Img.partnerI l (Img.tg (Img.at_ l k))).isSome]) ∧ Below wx.heap.size wx w' from fun wx h => partner_any l _ cap mem st _ wx (fun _ => ⟨b, o, rfl, h⟩))
    have hcc : ((Img.at_ l k).op == 30) = true ∨ ((Img.at_ l k).op == 30) = false ∧ ((Img.at_ l k).op == 31) = true := by
      cases h : (Img.at_ l k).op == 30
      · right; simp only [Img.isC, h, Bool.false_or] at hc; exact ⟨rfl, hc⟩
      · left; rfl
    cases hps : (Img.partnerI l (Img.tg (Img.at_ l k))).isSome
    · have HV := Lib.hid (show Img.fault l k = 23 from by
        have : Img.startAt l (Img.tg (Img.at_ l k)) = false := by
          unfold Img.startAt
          unfold Img.partnerI at hps
          split at hps
          · rw [hps]; simp
          · rename_i h
            rw [Bool.eq_false_iff]
            intro hcon
            simp only [Bool.and_eq_true, decide_eq_true_eq] at hcon
            exact h ⟨hcon.1.1.1, hcon.1.1.2⟩
        simp [Img.fault, hv, hh, hc, this])
      generalize Img.num (Img.partnerI l (Img.tg (Img.at_ l k))) = pv at *
      clear hv hh hc
      rcases hcc with o30 | ⟨o30, o31⟩
      · go_wp2_with (first | (go_at_call 30; refine (valid_any _ _ _ _ _ _).mono ?_; rintro e wn ⟨rfl, hB⟩; have hS := St.call hB (show St w _ _ from by assumption); obtain ⟨x0, x1, x2, x3, x4, -⟩ := Blk.cells5 hS.b1; obtain ⟨i0, i1, i2, -⟩ := Blk.cells3 hS.b2; have hcell := (CodeB.after hS.1 hcB).2) | (go_at_call 33; refine (target2_any _ _ _ _ _ _).mono ?_; rintro e wn ⟨rfl, hB⟩; have hS := St.call hB (show St w _ _ from by assumption); obtain ⟨x0, x1, x2, x3, x4, -⟩ := Blk.cells5 hS.b1; obtain ⟨i0, i1, i2, -⟩ := Blk.cells3 hS.b2; have hcell := (CodeB.after hS.1 hcB).2) | (go_at_call 27; refine (HPI.out _ (CodeB.after (show St w _ _ from by assumption).1 hcB)).mono ?_; rintro e wn ⟨rfl, hB⟩; have hS := St.call hB (show St w _ _ from by assumption); obtain ⟨x0, x1, x2, x3, x4, -⟩ := Blk.cells5 hS.b1; obtain ⟨i0, i1, i2, -⟩ := Blk.cells3 hS.b2; have hcell := (CodeB.after hS.1 hcB).2))
        go_ret
        exact ⟨by rw [HV.out]; rfl, (show St w _ _ from by assumption).1⟩
      · go_wp2_with (first | (go_at_call 30; refine (valid_any _ _ _ _ _ _).mono ?_; rintro e wn ⟨rfl, hB⟩; have hS := St.call hB (show St w _ _ from by assumption); obtain ⟨x0, x1, x2, x3, x4, -⟩ := Blk.cells5 hS.b1; obtain ⟨i0, i1, i2, -⟩ := Blk.cells3 hS.b2; have hcell := (CodeB.after hS.1 hcB).2) | (go_at_call 33; refine (target2_any _ _ _ _ _ _).mono ?_; rintro e wn ⟨rfl, hB⟩; have hS := St.call hB (show St w _ _ from by assumption); obtain ⟨x0, x1, x2, x3, x4, -⟩ := Blk.cells5 hS.b1; obtain ⟨i0, i1, i2, -⟩ := Blk.cells3 hS.b2; have hcell := (CodeB.after hS.1 hcB).2) | (go_at_call 27; refine (HPI.out _ (CodeB.after (show St w _ _ from by assumption).1 hcB)).mono ?_; rintro e wn ⟨rfl, hB⟩; have hS := St.call hB (show St w _ _ from by assumption); obtain ⟨x0, x1, x2, x3, x4, -⟩ := Blk.cells5 hS.b1; obtain ⟨i0, i1, i2, -⟩ := Blk.cells3 hS.b2; have hcell := (CodeB.after hS.1 hcB).2))
        go_ret
        exact ⟨by rw [HV.out]; rfl, (show St w _ _ from by assumption).1⟩
    · have hin : 0 ≤ Img.tg (Img.at_ l k) ∧ Img.tg (Img.at_ l k) < l.length := by
        unfold Img.partnerI at hps
        split at hps
        · assumption
        · cases hps
      obtain ⟨j, hj⟩ : ∃ j : Nat, Img.tg (Img.at_ l k) = (j : Int) := ⟨(Img.tg (Img.at_ l k)).toNat, by omega⟩
      have hjl : j < l.length := by omega
      have hps2 : (Img.partner l j).isSome = true := by rw [hj, Img.partnerI_nat hjl] at hps; exact hps
      generalize Img.num (Img.partnerI l (Img.tg (Img.at_ l k))) = pv at *
      by_cases s1 : (Img.at_ l j).op = 32
      · have o1 : ((Img.at_ l j).op != 32) = false := by simp [s1]
        have HV := Lib.hid (show Img.fault l k = 0 from by
          simp [Img.fault, hv, hh, hc, Img.startAt, hj, hjl, Img.isS, s1, hps2])
        rw [hj] at et
        have Hps := Lib.hid hps
        rw [hj] at HPI hps
        clear hv hh hc s1 hj hin hps2
        rcases hcc with o30 | ⟨o30, o31⟩
        · go_wp2_with (first | (go_at_call 30; refine (valid_any _ _ _ _ _ _).mono ?_; rintro e wn ⟨rfl, hB⟩; have hS := St.call hB (show St w _ _ from by assumption); obtain ⟨x0, x1, x2, x3, x4, -⟩ := Blk.cells5 hS.b1; obtain ⟨i0, i1, i2, -⟩ := Blk.cells3 hS.b2; have hcell := (CodeB.after hS.1 hcB).2) | (go_at_call 33; refine (target2_any _ _ _ _ _ _).mono ?_; rintro e wn ⟨rfl, hB⟩; have hS := St.call hB (show St w _ _ from by assumption); obtain ⟨x0, x1, x2, x3, x4, -⟩ := Blk.cells5 hS.b1; obtain ⟨i0, i1, i2, -⟩ := Blk.cells3 hS.b2; have hcell := (CodeB.after hS.1 hcB).2) | (go_at_call 27; refine (HPI.out _ (CodeB.after (show St w _ _ from by assumption).1 hcB)).mono ?_; rintro e wn ⟨rfl, hB⟩; have hS := St.call hB (show St w _ _ from by assumption); obtain ⟨x0, x1, x2, x3, x4, -⟩ := Blk.cells5 hS.b1; obtain ⟨i0, i1, i2, -⟩ := Blk.cells3 hS.b2; have hcell := (CodeB.after hS.1 hcB).2))
          go_ret
          exact ⟨by rw [HV.out]; rfl, (show St w _ _ from by assumption).1⟩
        · go_wp2_with (first | (go_at_call 30; refine (valid_any _ _ _ _ _ _).mono ?_; rintro e wn ⟨rfl, hB⟩; have hS := St.call hB (show St w _ _ from by assumption); obtain ⟨x0, x1, x2, x3, x4, -⟩ := Blk.cells5 hS.b1; obtain ⟨i0, i1, i2, -⟩ := Blk.cells3 hS.b2; have hcell := (CodeB.after hS.1 hcB).2) | (go_at_call 33; refine (target2_any _ _ _ _ _ _).mono ?_; rintro e wn ⟨rfl, hB⟩; have hS := St.call hB (show St w _ _ from by assumption); obtain ⟨x0, x1, x2, x3, x4, -⟩ := Blk.cells5 hS.b1; obtain ⟨i0, i1, i2, -⟩ := Blk.cells3 hS.b2; have hcell := (CodeB.after hS.1 hcB).2) | (go_at_call 27; refine (HPI.out _ (CodeB.after (show St w _ _ from by assumption).1 hcB)).mono ?_; rintro e wn ⟨rfl, hB⟩; have hS := St.call hB (show St w _ _ from by assumption); obtain ⟨x0, x1, x2, x3, x4, -⟩ := Blk.cells5 hS.b1; obtain ⟨i0, i1, i2, -⟩ := Blk.cells3 hS.b2; have hcell := (CodeB.after hS.1 hcB).2))
          go_ret
          exact ⟨by rw [HV.out]; rfl, (show St w _ _ from by assumption).1⟩
      · have o1 : ((Img.at_ l j).op != 32) = true := by simp [s1]
        have HV := Lib.hid (show Img.fault l k = 23 from by
          simp [Img.fault, hv, hh, hc, Img.startAt, hj, Img.isS, s1])
        rw [hj] at et
        have Hps := Lib.hid hps
        rw [hj] at HPI hps
        clear hv hh hc s1 hj hin hps2
        rcases hcc with o30 | ⟨o30, o31⟩
        · go_wp2_with (first | (go_at_call 30; refine (valid_any _ _ _ _ _ _).mono ?_; rintro e wn ⟨rfl, hB⟩; have hS := St.call hB (show St w _ _ from by assumption); obtain ⟨x0, x1, x2, x3, x4, -⟩ := Blk.cells5 hS.b1; obtain ⟨i0, i1, i2, -⟩ := Blk.cells3 hS.b2; have hcell := (CodeB.after hS.1 hcB).2) | (go_at_call 33; refine (target2_any _ _ _ _ _ _).mono ?_; rintro e wn ⟨rfl, hB⟩; have hS := St.call hB (show St w _ _ from by assumption); obtain ⟨x0, x1, x2, x3, x4, -⟩ := Blk.cells5 hS.b1; obtain ⟨i0, i1, i2, -⟩ := Blk.cells3 hS.b2; have hcell := (CodeB.after hS.1 hcB).2) | (go_at_call 27; refine (HPI.out _ (CodeB.after (show St w _ _ from by assumption).1 hcB)).mono ?_; rintro e wn ⟨rfl, hB⟩; have hS := St.call hB (show St w _ _ from by assumption); obtain ⟨x0, x1, x2, x3, x4, -⟩ := Blk.cells5 hS.b1; obtain ⟨i0, i1, i2, -⟩ := Blk.cells3 hS.b2; have hcell := (CodeB.after hS.1 hcB).2))
          go_ret
          exact ⟨by rw [HV.out]; rfl, (show St w _ _ from by assumption).1⟩
        · go_wp2_with (first | (go_at_call 30; refine (valid_any _ _ _ _ _ _).mono ?_; rintro e wn ⟨rfl, hB⟩; have hS := St.call hB (show St w _ _ from by assumption); obtain ⟨x0, x1, x2, x3, x4, -⟩ := Blk.cells5 hS.b1; obtain ⟨i0, i1, i2, -⟩ := Blk.cells3 hS.b2; have hcell := (CodeB.after hS.1 hcB).2) | (go_at_call 33; refine (target2_any _ _ _ _ _ _).mono ?_; rintro e wn ⟨rfl, hB⟩; have hS := St.call hB (show St w _ _ from by assumption); obtain ⟨x0, x1, x2, x3, x4, -⟩ := Blk.cells5 hS.b1; obtain ⟨i0, i1, i2, -⟩ := Blk.cells3 hS.b2; have hcell := (CodeB.after hS.1 hcB).2) | (go_at_call 27; refine (HPI.out _ (CodeB.after (show St w _ _ from by assumption).1 hcB)).mono ?_; rintro e wn ⟨rfl, hB⟩; have hS := St.call hB (show St w _ _ from by assumption); obtain ⟨x0, x1, x2, x3, x4, -⟩ := Blk.cells5 hS.b1; obtain ⟨i0, i1, i2, -⟩ := Blk.cells3 hS.b2; have hcell := (CodeB.after hS.1 hcB).2))
          go_ret
          exact ⟨by rw [HV.out]; rfl, (show St w _ _ from by assumption).1⟩
end Go.Proofs.Yteonkfdmkgjpaaa
