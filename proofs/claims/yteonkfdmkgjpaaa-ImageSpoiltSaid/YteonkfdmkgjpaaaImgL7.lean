/- The walks of the laws of layer 23: ImageSpoilt. -/
import Derived.Test.YteonkfdmkgjpaaaImgL6
import Derived.Test.YteonkfdmkgjpaaaCopy2
import Derived.Deep.RegionHeld3
import Derived.Deep.DeepCutAuto
import Derived.BigQuiet
import Derived.Deep.QuietTactic
import Derived.BigRegion
import Derived.Deep.CutBlock
namespace Go.Proofs.Yteonkfdmkgjpaaa
open Go.RowKit
set_option linter.unusedVariables false
set_option linter.unusedSimpArgs false
theorem check_ex (l : List Ins) (A : Option Addr) (n cap : Nat) (mem st : Int) (hn : l.length = n) (c1 c2 : Int) (h : Img.check l mem st = (c1, c2)) (w : World) (hc : CodeAt w A l) :
    Calls Try.prog 24 #[.agg #[.slice A n cap, .int .i64 mem, .int .i64 st]] w fun e w' => e = .returned (.tuple #[.int .i64 c1, .int .i64 c2]) ∧ Below w.heap.size w w' := by
  subst hn
  have h2 := check_any l A cap mem st w hc
  rw [h] at h2
  exact h2

set_option maxHeartbeats 8000000 in
set_option maxRecDepth 100000 in
theorem imageSpoilt_walk (l : List Ins) (A : Option Addr) (cap : Nat) (mem st : Int) (pick : Int) (w : World) (hA : CodeAt w A l) (hok : InsOk l) (hml : l.length ≤ maxLen) (hpk : U8 pick) :
    Calls Try.prog 8 #[.agg #[.slice A l.length cap, .int .i64 mem, .int .i64 st], .int .u8 pick] w fun e w' => e = .returned (.bool true) ∧ Below w.heap.size w w' := by
  by_cases h80 : 80 < l.length
  · have HG := Lib.hid (fun wx => imgGreat_any l A cap mem st wx)
    rw [decide_eq_true h80] at HG
    have hS : Sx w [] [codeF A l] w := (Sx.add (f := codeF A l) (hA) (Sx.start (F := []) w (fun _ h => by cases h)))
    have hc : True := trivial
    go_enter Try.func8, Try.ntmps8
    clear h80
    go_wp2_with (first | (go_at_call 18; apply calls_abs (w0 := w); (repeat (first | with_reducible apply Sx.alloc | with_reducible apply Sx.drew | with_reducible apply Sx.drewN | with_reducible exact hS)); intro wx hS2; clear hS; have hS := hS2; clear hS2; (try simp only [World.size_alloc, World.size_drew] at hS); refine (imgAwake_any _).mono ?_; rintro e wn ⟨rfl, hB⟩; replace hS := Sx.call hB hS; clear hB; clear hc; have hc := hS.cellsL; simp only [CellsL, CellsF, Nat.zero_add, Nat.reduceAdd, and_true, true_and] at hc) | (go_at_call 19; apply calls_abs (w0 := w); (repeat (first | with_reducible apply Sx.alloc | with_reducible apply Sx.drew | with_reducible apply Sx.drewN | with_reducible exact hS)); intro wx hS2; clear hS; have hS := hS2; clear hS2; (try simp only [World.size_alloc, World.size_drew] at hS); refine (HG.out _).mono ?_; rintro e wn ⟨rfl, hB⟩; replace hS := Sx.call hB hS; clear hB; clear hc; have hc := hS.cellsL; simp only [CellsL, CellsF, Nat.zero_add, Nat.reduceAdd, and_true, true_and] at hc))
    go_ret
    exact ⟨rfl, hS.below⟩
  have HG := Lib.hid (fun wx => imgGreat_any l A cap mem st wx)
  rw [decide_eq_false h80] at HG
  have hn0 : l.length ≤ 65536 := by omega
  by_cases h0 : l.length = 0
  · have hle : ((l.length : Int) == 0) = true := by rw [h0]; rfl
    rw [h0] at hle HG
    have hl0 : l = [] := List.length_eq_zero_iff.1 h0
    subst hl0
    have hS : Sx w [] [codeF A []] w := (Sx.add (f := codeF A []) (hA) (Sx.start (F := []) w (fun _ h => by cases h)))
    have hc : True := trivial
    go_enter Try.func8, Try.ntmps8
    clear h80 hle h0
    go_wp2_with (first | (go_at_call 18; apply calls_abs (w0 := w); (repeat (first | with_reducible apply Sx.alloc | with_reducible apply Sx.drew | with_reducible apply Sx.drewN | with_reducible exact hS)); intro wx hS2; clear hS; have hS := hS2; clear hS2; (try simp only [World.size_alloc, World.size_drew] at hS); refine (imgAwake_any _).mono ?_; rintro e wn ⟨rfl, hB⟩; replace hS := Sx.call hB hS; clear hB; clear hc; have hc := hS.cellsL; simp only [CellsL, CellsF, Nat.zero_add, Nat.reduceAdd, and_true, true_and] at hc) | (go_at_call 19; apply calls_abs (w0 := w); (repeat (first | with_reducible apply Sx.alloc | with_reducible apply Sx.drew | with_reducible apply Sx.drewN | with_reducible exact hS)); intro wx hS2; clear hS; have hS := hS2; clear hS2; (try simp only [World.size_alloc, World.size_drew] at hS); refine (HG.out _).mono ?_; rintro e wn ⟨rfl, hB⟩; replace hS := Sx.call hB hS; clear hB; clear hc; have hc := hS.cellsL; simp only [CellsL, CellsF, Nat.zero_add, Nat.reduceAdd, and_true, true_and] at hc))
    go_ret
    exact ⟨rfl, hS.below⟩
  have hle : ((l.length : Int) == 0) = false := beq_eq_false_iff_ne.2 (by omega)
  cases hv : Img.valid l mem st
  · have HV := Lib.hid (fun wx h => imgValid_any l A cap mem st wx h)
    rw [hv] at HV
    have hS : Sx w [] [codeF A l] w := (Sx.add (f := codeF A l) (hA) (Sx.start (F := []) w (fun _ h => by cases h)))
    have hc : True := trivial
    go_enter Try.func8, Try.ntmps8
    clear h80 hv
    go_wp2_with (first | (go_at_call 18; apply calls_abs (w0 := w); (repeat (first | with_reducible apply Sx.alloc | with_reducible apply Sx.drew | with_reducible apply Sx.drewN | with_reducible exact hS)); intro wx hS2; clear hS; have hS := hS2; clear hS2; (try simp only [World.size_alloc, World.size_drew] at hS); refine (imgAwake_any _).mono ?_; rintro e wn ⟨rfl, hB⟩; replace hS := Sx.call hB hS; clear hB; clear hc; have hc := hS.cellsL; simp only [CellsL, CellsF, Nat.zero_add, Nat.reduceAdd, and_true, true_and] at hc) | (go_at_call 19; apply calls_abs (w0 := w); (repeat (first | with_reducible apply Sx.alloc | with_reducible apply Sx.drew | with_reducible apply Sx.drewN | with_reducible exact hS)); intro wx hS2; clear hS; have hS := hS2; clear hS2; (try simp only [World.size_alloc, World.size_drew] at hS); refine (HG.out _).mono ?_; rintro e wn ⟨rfl, hB⟩; replace hS := Sx.call hB hS; clear hB; clear hc; have hc := hS.cellsL; simp only [CellsL, CellsF, Nat.zero_add, Nat.reduceAdd, and_true, true_and] at hc) | (go_at_call 25; apply calls_abs (w0 := w); (repeat (first | with_reducible apply Sx.alloc | with_reducible apply Sx.drew | with_reducible apply Sx.drewN | with_reducible exact hS)); intro wx hS2; clear hS; have hS := hS2; clear hS2; (try simp only [World.size_alloc, World.size_drew] at hS); refine (HV.out _ hS.f1).mono ?_; rintro e wn ⟨rfl, hB⟩; replace hS := Sx.call hB hS; clear hB; clear hc; have hc := hS.cellsL; simp only [CellsL, CellsF, Nat.zero_add, Nat.reduceAdd, and_true, true_and] at hc))
    go_ret
    exact ⟨rfl, hS.below⟩
  have HV := Lib.hid (fun wx h => imgValid_any l A cap mem st wx h)
  rw [hv] at HV
  obtain ⟨i, hi1⟩ : ∃ i : Nat, pick % (l.length : Int) = (i : Int) := ⟨(pick % (l.length : Int)).toNat, by have := Int.emod_nonneg pick (show (l.length : Int) ≠ 0 by omega); omega⟩
  have hil : i < l.length := by have := Int.emod_lt_of_pos pick (show (0 : Int) < l.length by omega); omega
  have hl8 : l.length ≤ 80 := by omega
  have hlp : (0 : Int) < l.length := by omega
  have hpk0 := hpk.1
  have hpk1 := hpk.2
  obtain ⟨i0, hi, hz0, hz1, hz2⟩ := info_parts info_instr
  have hS : Sx w [] [codeF A l] w := (Sx.add (f := codeF A l) (hA) (Sx.start (F := []) w (fun _ h => by cases h)))
  have hc : True := trivial
  have HA := Lib.hid hA
  cases hp : Img.partner l i
  · have HP := Lib.hid (fun wx h => partner_none_ex l A l.length cap mem st rfl i hil hp wx h)
    have hck := Img.valid_strike hv hil hp
    have HC := Lib.hid (fun A1 c1 wx h => check_ex (Img.strike l i) A1 l.length c1 mem st (Img.strike_length l i) (-1) 0 hck wx h)
    clear h80 hv hp hck h0
    go_enter Try.func8, Try.ntmps8
    go_upto_region 7 with (first | (go_at_call 18; apply calls_abs (w0 := w); (repeat (first | with_reducible apply Sx.alloc | with_reducible apply Sx.drew | with_reducible apply Sx.drewN | with_reducible exact hS)); intro wx hS2; clear hS; have hS := hS2; clear hS2; (try simp only [World.size_alloc, World.size_drew] at hS); refine (imgAwake_any _).mono ?_; rintro e wn ⟨rfl, hB⟩; replace hS := Sx.call hB hS; clear hB; clear hc; have hc := hS.cellsL; simp only [CellsL, CellsF, Nat.zero_add, Nat.reduceAdd, and_true, true_and] at hc) | (go_at_call 19; apply calls_abs (w0 := w); (repeat (first | with_reducible apply Sx.alloc | with_reducible apply Sx.drew | with_reducible apply Sx.drewN | with_reducible exact hS)); intro wx hS2; clear hS; have hS := hS2; clear hS2; (try simp only [World.size_alloc, World.size_drew] at hS); refine (HG.out _).mono ?_; rintro e wn ⟨rfl, hB⟩; replace hS := Sx.call hB hS; clear hB; clear hc; have hc := hS.cellsL; simp only [CellsL, CellsF, Nat.zero_add, Nat.reduceAdd, and_true, true_and] at hc) | (go_at_call 25; apply calls_abs (w0 := w); (repeat (first | with_reducible apply Sx.alloc | with_reducible apply Sx.drew | with_reducible apply Sx.drewN | with_reducible exact hS)); intro wx hS2; clear hS; have hS := hS2; clear hS2; (try simp only [World.size_alloc, World.size_drew] at hS); refine (HV.out _ hS.f1).mono ?_; rintro e wn ⟨rfl, hB⟩; replace hS := Sx.call hB hS; clear hB; clear hc; have hc := hS.cellsL; simp only [CellsL, CellsF, Nat.zero_add, Nat.reduceAdd, and_true, true_and] at hc) | (go_at_call 27; apply calls_abs (w0 := w); (repeat (first | with_reducible apply Sx.alloc | with_reducible apply Sx.drew | with_reducible apply Sx.drewN | with_reducible exact hS)); intro wx hS2; clear hS; have hS := hS2; clear hS2; (try simp only [World.size_alloc, World.size_drew] at hS); refine (HP.out _ hS.f1).mono ?_; rintro e wn ⟨rfl, hB⟩; replace hS := Sx.call hB hS; clear hB; clear hc; have hc := hS.cellsL; simp only [CellsL, CellsF, Nat.zero_add, Nat.reduceAdd, and_true, true_and] at hc))
    apply wp_abs (w0 := w)
    · (repeat (first | with_reducible apply Sx.alloc | with_reducible apply Sx.drew | with_reducible apply Sx.drewN | with_reducible exact hS))
    intro wx hS2; clear hS; have hS := hS2; clear hS2; (try simp only [World.size_alloc, World.size_drew] at hS)
    clear hc; have hc := hS.cellsL; simp only [CellsL, CellsF, Nat.zero_add, Nat.reduceAdd, and_true, true_and] at hc
    obtain ⟨ws, hws⟩ : ∃ ws : World, ws = wx := ⟨_, rfl⟩
    rw [← hws] at hS hc ⊢
    clear hws
    have Hwb := Lib.hid hS.1.1.size
    have HK := Lib.hid (show ∀ wx, Below ws.heap.size ws wx → (wx.cell? ⟨w.heap.size, 0, none⟩ = some (Value.slice A l.length cap) ∧ wx.cell? ⟨w.heap.size, 1, none⟩ = some (Value.int .i64 mem) ∧ wx.cell? ⟨w.heap.size, 2, none⟩ = some (Value.int .i64 st) ∧ Below ws.heap.size ws wx) from fun wx hb => by
      have c := (Sx.call hb hS).cellsL
      simp only [CellsL, CellsF, Nat.zero_add, Nat.reduceAdd, and_true, true_and] at c
      simp [c, hb])
    have HKB := Lib.hid (show ∀ wx, (wx.cell? ⟨w.heap.size, 0, none⟩ = some (Value.slice A l.length cap) ∧ wx.cell? ⟨w.heap.size, 1, none⟩ = some (Value.int .i64 mem) ∧ wx.cell? ⟨w.heap.size, 2, none⟩ = some (Value.int .i64 st) ∧ Below ws.heap.size ws wx) → Below ws.heap.size ws wx from fun wx h => h.2.2.2)
    have hH0 := HK.out _ (Below.refl _ _)
    have HB0 := Lib.hid (Nat.le_refl ws.heap.size)
    have HB1 := Lib.hid (show ws.heap.size ≤ ws.heap.size + 1 by omega)
    have HRd := Lib.hid (show ∀ wx, Below ws.heap.size ws wx → Reads wx ws.heap.size 5 A l.length (codeL l) from fun wx hb => (code_reads hS.f1).below hb)
    have Q1 := Lib.hid (show 0 + l.length ≤ maxLen by unfold maxLen; omega)
    have Q2 := Lib.hid (show (0 + l.length) * 40 ≤ 140737488355328 by omega)
    go_cut [8] (fun s wx => ∃ g A1 c1, s = .pointer (some ⟨g, 0, none⟩) ∧ Sx w ((g, 24, #[.slice A1 l.length c1, .int .i64 mem, .int .i64 st]) :: [(w.heap.size, 24, #[.slice A l.length cap, .int .i64 mem, .int .i64 st])]) (codeF A1 l :: [codeF A l]) wx ∧ CRow wx ws.heap.size (.slice A1 l.length c1) l ∧ ws.heap.size ≤ g)
    case first =>
      go_region_held3 (fun wx => wx.cell? ⟨w.heap.size, 0, none⟩ = some (Value.slice A l.length cap) ∧ wx.cell? ⟨w.heap.size, 1, none⟩ = some (Value.int .i64 mem) ∧ wx.cell? ⟨w.heap.size, 2, none⟩ = some (Value.int .i64 st) ∧ Below ws.heap.size ws wx) ((refine HK.out _ ?_; repeat (first | exact hB1 | exact Below.refl _ _ | with_reducible apply below_drew' | with_reducible apply below_alloc' | with_reducible apply below_set' | exact Nat.le_refl _ | exact HB1.out | exact hB1.size))) (((refine step_append_any _ (by rfl) _ _ _ (by rfl) ws.heap.size 38 i0 (.agg #[.int .u8 0, .int .i64 0, .int .i64 0, .int .i64 0, .int .i64 0]) 5 40 Try.underlying22 hi hz0 hz1 hz2 rfl (by decide) (.slice (some ⟨_, 0, none⟩) 0 0) 0 [] (by rfl) (by first | exact (own_empty (Below.refl _ _) _ _).drew | exact ((own_empty (Below.refl _ _) _ _).alloc _).drew | exact (own_empty1 _ _ _).drew) ws.heap.size A l.length cap (codeL l) (by rfl) (HRd.out _ (by repeat (first | exact hB1 | exact Below.refl _ _ | with_reducible apply below_drew' | with_reducible apply below_alloc' | with_reducible apply below_set' | exact Nat.le_refl _ | exact HB1.out | exact hB1.size))) (codeL_one l) Q1.out Q2.out (Below.size (show Below ws.heap.size ws _ by repeat (first | exact hB1 | exact Below.refl _ _ | with_reducible apply below_drew' | with_reducible apply below_alloc' | with_reducible apply below_set' | exact Nat.le_refl _ | exact HB1.out | exact hB1.size))) ?_); intro v1 w1 hown1 hgrow hat; have hB1 : Below ws.heap.size ws w1 := Below.grown (show Below ws.heap.size ws _ by repeat (first | exact hB1 | exact Below.refl _ _ | with_reducible apply below_drew' | with_reducible apply below_alloc' | with_reducible apply below_set' | exact Nat.le_refl _ | exact HB1.out | exact hB1.size)) hgrow (Below.size (show Below ws.heap.size ws _ by repeat (first | exact hB1 | exact Below.refl _ _ | with_reducible apply below_drew' | with_reducible apply below_alloc' | with_reducible apply below_set' | exact Nat.le_refl _ | exact HB1.out | exact hB1.size))) (by intro k hk; first | (injection hk with hk; rw [← hk]; first | exact Nat.le_refl _ | exact HB1.out | (simp; done)) | skip); obtain ⟨A1, c1, rfl⟩ := own_slice' hown1; (try (have hbx := Blk.grown (g := ws.heap.size) (t := 24) (cs := #[.slice none 0 0, .int .i64 0, .int .i64 0]) ((Blk.new _ _ _).alloc _).drew hgrow (by simp [Value.ownBlock]); obtain ⟨z0, z1, z2, zf0, zf1, zf2⟩ := Blk.cells3 hbx)); (try (have hbx := Blk.grown (g := ws.heap.size + 1) (t := 24) (cs := #[.slice none 0 0, .int .i64 0, .int .i64 0]) (Blk.new1 (w0 := ws) _ _ (by simp)).drew hgrow (by simp [Value.ownBlock]); obtain ⟨z0, z1, z2, zf0, zf1, zf2⟩ := Blk.cells3 hbx))))
      all_goals simp only [Nat.zero_add, List.nil_append] at hown1
      all_goals go_wp2_with fail
      all_goals go_meet
      all_goals first | exact ⟨_, _, _, rfl, own_copy' hS hB1 hbx (Nat.le_refl _) hown1⟩ | exact ⟨_, _, _, rfl, own_copy' hS hB1 hbx HB1.out hown1⟩ | exact ⟨_, _, _, rfl, own_copy3 hS hB1 hown1 _ _⟩
    case rest =>
      obtain ⟨g, A1, c1, rfl, hS2, hown, hwg⟩ := hcut
      clear hS hc HK HKB hH0 HB0 HB1 HRd Q1 Q2
      have hS := hS2
      clear hS2
      have hwb : w.heap.size ≤ ws.heap.size := Hwb.out
      obtain ⟨gr, hgr⟩ : ∃ gr, A1 = some ⟨gr, 0, none⟩ := by
        obtain ⟨hl, ⟨h1, hn⟩ | ⟨g9, cap9, cur, h1, hrest⟩⟩ := hown
        · injection h1 with e1 e2 e3; omega
        · injection h1 with e1 e2 e3; exact ⟨g9, e1⟩
      subst hgr
      have hc := hS.cellsL
      simp only [CellsL, CellsF, Nat.zero_add, Nat.reduceAdd, and_true, true_and] at hc
      obtain ⟨v0, v1, v2, v3, v4, y0, y1, y2, y3, y4, f0, f1, f2, f3, f4⟩ := CRow.cells5 hown hil
      go_upto_region 9 with fail
      have hS9 := CRow.put_all (F' := [codeF (some ⟨gr, 0, none⟩) l]) (F := [codeF A l]) hS hown hwb (by intro y hy; simp only [List.mem_cons, List.not_mem_nil, or_false] at hy; rcases hy with rfl | rfl <;> exact (by decide : (24 : TypeId) ≠ 38)) (by intro f hf W' hB; simp only [List.mem_cons, List.not_mem_nil, or_false] at hf; subst hf; exact CodeAt.after hB hA) hil Img.zero
      refine wp_abs hS9 ?_
      intro wx hS2; clear hS; have hS := hS2; clear hS2; (try simp only [World.size_alloc, World.size_drew] at hS)
      clear hc; have hc := hS.cellsL; simp only [CellsL, CellsF, Nat.zero_add, Nat.reduceAdd, and_true, true_and] at hc
      clear y0 y1 y2 y3 y4 f0 f1 f2 f3 f4 hS9 hown
      go_wp2_with (first | (go_at_call 24; apply calls_abs (w0 := w); (repeat (first | with_reducible apply Sx.alloc | with_reducible apply Sx.drew | with_reducible apply Sx.drewN | with_reducible exact hS)); intro wx hS2; clear hS; have hS := hS2; clear hS2; (try simp only [World.size_alloc, World.size_drew] at hS); refine (HC.out _ _ _ hS.f1).mono ?_; rintro e wn ⟨rfl, hB⟩; replace hS := Sx.call hB hS; clear hB; clear hc; have hc := hS.cellsL; simp only [CellsL, CellsF, Nat.zero_add, Nat.reduceAdd, and_true, true_and] at hc))
      go_ret
      exact ⟨rfl, hS.below⟩
  · rename_i p
    have HP := Lib.hid (fun wx h => partner_some_ex l A l.length cap mem st rfl i p hp wx h)
    obtain ⟨k, hck, hkl, hkk⟩ := Img.spoilt hv hil hp
    have HC := Lib.hid (fun A1 c1 wx h => check_ex (Img.strike l i) A1 l.length c1 mem st (Img.strike_length l i) k 23 hck wx h)
    obtain ⟨b, o, rfl⟩ := hA.some (by omega)
    clear h80 hv hp hck h0
    go_enter Try.func8, Try.ntmps8
    go_upto_region 7 with (first | (go_at_call 18; apply calls_abs (w0 := w); (repeat (first | with_reducible apply Sx.alloc | with_reducible apply Sx.drew | with_reducible apply Sx.drewN | with_reducible exact hS)); intro wx hS2; clear hS; have hS := hS2; clear hS2; (try simp only [World.size_alloc, World.size_drew] at hS); refine (imgAwake_any _).mono ?_; rintro e wn ⟨rfl, hB⟩; replace hS := Sx.call hB hS; clear hB; clear hc; have hc := hS.cellsL; simp only [CellsL, CellsF, Nat.zero_add, Nat.reduceAdd, and_true, true_and] at hc) | (go_at_call 19; apply calls_abs (w0 := w); (repeat (first | with_reducible apply Sx.alloc | with_reducible apply Sx.drew | with_reducible apply Sx.drewN | with_reducible exact hS)); intro wx hS2; clear hS; have hS := hS2; clear hS2; (try simp only [World.size_alloc, World.size_drew] at hS); refine (HG.out _).mono ?_; rintro e wn ⟨rfl, hB⟩; replace hS := Sx.call hB hS; clear hB; clear hc; have hc := hS.cellsL; simp only [CellsL, CellsF, Nat.zero_add, Nat.reduceAdd, and_true, true_and] at hc) | (go_at_call 25; apply calls_abs (w0 := w); (repeat (first | with_reducible apply Sx.alloc | with_reducible apply Sx.drew | with_reducible apply Sx.drewN | with_reducible exact hS)); intro wx hS2; clear hS; have hS := hS2; clear hS2; (try simp only [World.size_alloc, World.size_drew] at hS); refine (HV.out _ hS.f1).mono ?_; rintro e wn ⟨rfl, hB⟩; replace hS := Sx.call hB hS; clear hB; clear hc; have hc := hS.cellsL; simp only [CellsL, CellsF, Nat.zero_add, Nat.reduceAdd, and_true, true_and] at hc) | (go_at_call 27; apply calls_abs (w0 := w); (repeat (first | with_reducible apply Sx.alloc | with_reducible apply Sx.drew | with_reducible apply Sx.drewN | with_reducible exact hS)); intro wx hS2; clear hS; have hS := hS2; clear hS2; (try simp only [World.size_alloc, World.size_drew] at hS); refine (HP.out _ hS.f1).mono ?_; rintro e wn ⟨rfl, hB⟩; replace hS := Sx.call hB hS; clear hB; clear hc; have hc := hS.cellsL; simp only [CellsL, CellsF, Nat.zero_add, Nat.reduceAdd, and_true, true_and] at hc))
    apply wp_abs (w0 := w)
    · (repeat (first | with_reducible apply Sx.alloc | with_reducible apply Sx.drew | with_reducible apply Sx.drewN | with_reducible exact hS))
    intro wx hS2; clear hS; have hS := hS2; clear hS2; (try simp only [World.size_alloc, World.size_drew] at hS)
    clear hc; have hc := hS.cellsL; simp only [CellsL, CellsF, Nat.zero_add, Nat.reduceAdd, and_true, true_and] at hc
    obtain ⟨ws, hws⟩ : ∃ ws : World, ws = wx := ⟨_, rfl⟩
    rw [← hws] at hS hc ⊢
    clear hws
    have Hwb := Lib.hid hS.1.1.size
    have HK := Lib.hid (show ∀ wx, Below ws.heap.size ws wx → (wx.cell? ⟨w.heap.size, 0, none⟩ = some (Value.slice (some ⟨b, o, none⟩) l.length cap) ∧ wx.cell? ⟨w.heap.size, 1, none⟩ = some (Value.int .i64 mem) ∧ wx.cell? ⟨w.heap.size, 2, none⟩ = some (Value.int .i64 st) ∧ Below ws.heap.size ws wx) from fun wx hb => by
      have c := (Sx.call hb hS).cellsL
      simp only [CellsL, CellsF, Nat.zero_add, Nat.reduceAdd, and_true, true_and] at c
      simp [c, hb])
    have HKB := Lib.hid (show ∀ wx, (wx.cell? ⟨w.heap.size, 0, none⟩ = some (Value.slice (some ⟨b, o, none⟩) l.length cap) ∧ wx.cell? ⟨w.heap.size, 1, none⟩ = some (Value.int .i64 mem) ∧ wx.cell? ⟨w.heap.size, 2, none⟩ = some (Value.int .i64 st) ∧ Below ws.heap.size ws wx) → Below ws.heap.size ws wx from fun wx h => h.2.2.2)
    have hH0 := HK.out _ (Below.refl _ _)
    have HB0 := Lib.hid (Nat.le_refl ws.heap.size)
    have HB1 := Lib.hid (show ws.heap.size ≤ ws.heap.size + 1 by omega)
    have HRd := Lib.hid (show ∀ wx, Below ws.heap.size ws wx → Reads wx ws.heap.size 5 (some ⟨b, o, none⟩) l.length (codeL l) from fun wx hb => (code_reads hS.f1).below hb)
    have Q1 := Lib.hid (show 0 + l.length ≤ maxLen by unfold maxLen; omega)
    have Q2 := Lib.hid (show (0 + l.length) * 40 ≤ 140737488355328 by omega)
    go_cut [8] (fun s wx => ∃ g A1 c1, s = .pointer (some ⟨g, 0, none⟩) ∧ Sx w ((g, 24, #[.slice A1 l.length c1, .int .i64 mem, .int .i64 st]) :: [(w.heap.size, 24, #[.slice (some ⟨b, o, none⟩) l.length cap, .int .i64 mem, .int .i64 st])]) (codeF A1 l :: [codeF (some ⟨b, o, none⟩) l]) wx ∧ CRow wx ws.heap.size (.slice A1 l.length c1) l ∧ ws.heap.size ≤ g)
    case first =>
      go_region_held3 (fun wx => wx.cell? ⟨w.heap.size, 0, none⟩ = some (Value.slice (some ⟨b, o, none⟩) l.length cap) ∧ wx.cell? ⟨w.heap.size, 1, none⟩ = some (Value.int .i64 mem) ∧ wx.cell? ⟨w.heap.size, 2, none⟩ = some (Value.int .i64 st) ∧ Below ws.heap.size ws wx) ((refine HK.out _ ?_; repeat (first | exact hB1 | exact Below.refl _ _ | with_reducible apply below_drew' | with_reducible apply below_alloc' | with_reducible apply below_set' | exact Nat.le_refl _ | exact HB1.out | exact hB1.size))) (((refine step_append_any _ (by rfl) _ _ _ (by rfl) ws.heap.size 38 i0 (.agg #[.int .u8 0, .int .i64 0, .int .i64 0, .int .i64 0, .int .i64 0]) 5 40 Try.underlying22 hi hz0 hz1 hz2 rfl (by decide) (.slice (some ⟨_, 0, none⟩) 0 0) 0 [] (by rfl) (by first | exact (own_empty (Below.refl _ _) _ _).drew | exact ((own_empty (Below.refl _ _) _ _).alloc _).drew | exact (own_empty1 _ _ _).drew) ws.heap.size (some ⟨b, o, none⟩) l.length cap (codeL l) (by rfl) (HRd.out _ (by repeat (first | exact hB1 | exact Below.refl _ _ | with_reducible apply below_drew' | with_reducible apply below_alloc' | with_reducible apply below_set' | exact Nat.le_refl _ | exact HB1.out | exact hB1.size))) (codeL_one l) Q1.out Q2.out (Below.size (show Below ws.heap.size ws _ by repeat (first | exact hB1 | exact Below.refl _ _ | with_reducible apply below_drew' | with_reducible apply below_alloc' | with_reducible apply below_set' | exact Nat.le_refl _ | exact HB1.out | exact hB1.size))) ?_); intro v1 w1 hown1 hgrow hat; have hB1 : Below ws.heap.size ws w1 := Below.grown (show Below ws.heap.size ws _ by repeat (first | exact hB1 | exact Below.refl _ _ | with_reducible apply below_drew' | with_reducible apply below_alloc' | with_reducible apply below_set' | exact Nat.le_refl _ | exact HB1.out | exact hB1.size)) hgrow (Below.size (show Below ws.heap.size ws _ by repeat (first | exact hB1 | exact Below.refl _ _ | with_reducible apply below_drew' | with_reducible apply below_alloc' | with_reducible apply below_set' | exact Nat.le_refl _ | exact HB1.out | exact hB1.size))) (by intro k hk; first | (injection hk with hk; rw [← hk]; first | exact Nat.le_refl _ | exact HB1.out | (simp; done)) | skip); obtain ⟨A1, c1, rfl⟩ := own_slice' hown1; (try (have hbx := Blk.grown (g := ws.heap.size) (t := 24) (cs := #[.slice none 0 0, .int .i64 0, .int .i64 0]) ((Blk.new _ _ _).alloc _).drew hgrow (by simp [Value.ownBlock]); obtain ⟨z0, z1, z2, zf0, zf1, zf2⟩ := Blk.cells3 hbx)); (try (have hbx := Blk.grown (g := ws.heap.size + 1) (t := 24) (cs := #[.slice none 0 0, .int .i64 0, .int .i64 0]) (Blk.new1 (w0 := ws) _ _ (by simp)).drew hgrow (by simp [Value.ownBlock]); obtain ⟨z0, z1, z2, zf0, zf1, zf2⟩ := Blk.cells3 hbx))))
      all_goals simp only [Nat.zero_add, List.nil_append] at hown1
      all_goals go_wp2_with fail
      all_goals go_meet
      all_goals first | exact ⟨_, _, _, rfl, own_copy' hS hB1 hbx (Nat.le_refl _) hown1⟩ | exact ⟨_, _, _, rfl, own_copy' hS hB1 hbx HB1.out hown1⟩ | exact ⟨_, _, _, rfl, own_copy3 hS hB1 hown1 _ _⟩
    case rest =>
      obtain ⟨g, A1, c1, rfl, hS2, hown, hwg⟩ := hcut
      clear hS hc HK HKB hH0 HB0 HB1 HRd Q1 Q2
      have hS := hS2
      clear hS2
      have hwb : w.heap.size ≤ ws.heap.size := Hwb.out
      obtain ⟨gr, hgr⟩ : ∃ gr, A1 = some ⟨gr, 0, none⟩ := by
        obtain ⟨hl, ⟨h1, hn⟩ | ⟨g9, cap9, cur, h1, hrest⟩⟩ := hown
        · injection h1 with e1 e2 e3; omega
        · injection h1 with e1 e2 e3; exact ⟨g9, e1⟩
      subst hgr
      have hc := hS.cellsL
      simp only [CellsL, CellsF, Nat.zero_add, Nat.reduceAdd, and_true, true_and] at hc
      obtain ⟨v0, v1, v2, v3, v4, y0, y1, y2, y3, y4, f0, f1, f2, f3, f4⟩ := CRow.cells5 hown hil
      go_upto_region 9 with fail
      have hS9 := CRow.put_all (F' := [codeF (some ⟨gr, 0, none⟩) l]) (F := [codeF (some ⟨b, o, none⟩) l]) hS hown hwb (by intro y hy; simp only [List.mem_cons, List.not_mem_nil, or_false] at hy; rcases hy with rfl | rfl <;> exact (by decide : (24 : TypeId) ≠ 38)) (by intro f hf W' hB; simp only [List.mem_cons, List.not_mem_nil, or_false] at hf; subst hf; exact CodeAt.after hB hA) hil Img.zero
      refine wp_abs hS9 ?_
      intro wx hS2; clear hS; have hS := hS2; clear hS2; (try simp only [World.size_alloc, World.size_drew] at hS)
      clear hc; have hc := hS.cellsL; simp only [CellsL, CellsF, Nat.zero_add, Nat.reduceAdd, and_true, true_and] at hc
      clear y0 y1 y2 y3 y4 f0 f1 f2 f3 f4 hS9 hown
      go_upto_region 14 with (first | (go_at_call 24; apply calls_abs (w0 := w); (repeat (first | with_reducible apply Sx.alloc | with_reducible apply Sx.drew | with_reducible apply Sx.drewN | with_reducible exact hS)); intro wx hS2; clear hS; have hS := hS2; clear hS2; (try simp only [World.size_alloc, World.size_drew] at hS); refine (HC.out _ _ _ hS.f1).mono ?_; rintro e wn ⟨rfl, hB⟩; replace hS := Sx.call hB hS; clear hB; clear hc; have hc := hS.cellsL; simp only [CellsL, CellsF, Nat.zero_add, Nat.reduceAdd, and_true, true_and] at hc))
      obtain ⟨hb, x0, x1, x2, x3, x4⟩ := CodeAt.cells hS.f2 hkl
      rcases hkk with rfl | ⟨hkC, hkp, hka⟩
      · go_wp2
        go_ret
        exact ⟨rfl, hS.below.alloc (Below.size hS.below) _⟩
      · have n1 : ((k : Int) == (p : Int)) = false := beq_eq_false_iff_ne.2 (by omega)
        have hkp2 : (k : Int) < (p : Int) := by omega
        have hcc : ((Img.at_ l k).op == 30) = true ∨ (((Img.at_ l k).op == 30) = false ∧ ((Img.at_ l k).op == 31) = true) := by
          unfold Img.isC at hkC
          cases h : ((Img.at_ l k).op == 30)
          · rw [h] at hkC; exact Or.inr ⟨rfl, hkC⟩
          · exact Or.inl rfl
        have haa : ((Img.at_ l k).a == (i : Int)) = true ∨ (((Img.at_ l k).a == (i : Int)) = false ∧ ((Img.at_ l k).a == (p : Int)) = true) := by
          cases h : ((Img.at_ l k).a == (i : Int))
          · rcases hka with h2 | h2
            · rw [h2] at h; simp at h
            · exact Or.inr ⟨rfl, beq_iff_eq.2 h2⟩
          · exact Or.inl rfl
        clear hkC hka
        rcases hcc with o30 | ⟨o30, o31⟩ <;> rcases haa with a1 | ⟨a1, a2⟩
        all_goals go_wp2
        all_goals go_ret
        all_goals exact ⟨rfl, hS.below.alloc (Below.size hS.below) _⟩

end Go.Proofs.Yteonkfdmkgjpaaa
