/- The walks of the laws of layer 23: ImageInvert. -/
import Derived.Test.YteonkfdmkgjpaaaImgL4
import Derived.Test.YteonkfdmkgjpaaaImgR7
import Derived.Test.YteonkfdmkgjpaaaCopy
import Derived.Deep.RegionHeld3
import Derived.Deep.DeepCutAuto
import Derived.BigQuiet
import Derived.Deep.QuietTactic
import Derived.BigRegion
import Derived.Deep.CutBlock
namespace Go.Proofs.Yteonkfdmkgjpaaa
open Go.RowKit
set_option linter.unusedVariables false
set_option linter.unusedSimpArgs false

set_option maxHeartbeats 8000000 in
set_option maxRecDepth 100000 in
theorem imageInvert_walk (l : List Ins) (A : Option Addr) (cap : Nat) (mem st : Int) (w : World) (hA : CodeAt w A l) (hok : InsOk l) (hml : l.length ≤ maxLen) :
    Calls Try.prog 3 #[.agg #[.slice A l.length cap, .int .i64 mem, .int .i64 st]] w fun e w' => e = .returned (.bool true) ∧ Below w.heap.size w w' := by
  by_cases h80 : 80 < l.length
  · have HG := Lib.hid (fun wx => imgGreat_any l A cap mem st wx)
    rw [decide_eq_true h80] at HG
    have hS : Sx w [] [codeF A l] w := (Sx.add (f := codeF A l) (hA) (Sx.start (F := []) w (fun _ h => by cases h)))
    have hc : True := trivial
    go_enter Try.func3, Try.ntmps3
    clear h80
    go_wp2_with (first | (go_at_call 18; apply calls_abs (w0 := w); (repeat (first | with_reducible apply Sx.alloc | with_reducible apply Sx.drew | with_reducible apply Sx.drewN | with_reducible exact hS)); intro wx hS2; clear hS; have hS := hS2; clear hS2; (try simp only [World.size_alloc, World.size_drew] at hS); refine (imgAwake_any _).mono ?_; rintro e wn ⟨rfl, hB⟩; replace hS := Sx.call hB hS; clear hB; clear hc; have hc := hS.cellsL; simp only [CellsL, CellsF, Nat.zero_add, Nat.reduceAdd, and_true, true_and] at hc) | (go_at_call 19; apply calls_abs (w0 := w); (repeat (first | with_reducible apply Sx.alloc | with_reducible apply Sx.drew | with_reducible apply Sx.drewN | with_reducible exact hS)); intro wx hS2; clear hS; have hS := hS2; clear hS2; (try simp only [World.size_alloc, World.size_drew] at hS); refine (HG.out _).mono ?_; rintro e wn ⟨rfl, hB⟩; replace hS := Sx.call hB hS; clear hB; clear hc; have hc := hS.cellsL; simp only [CellsL, CellsF, Nat.zero_add, Nat.reduceAdd, and_true, true_and] at hc))
    go_ret
    exact ⟨rfl, hS.below⟩
  have HG := Lib.hid (fun wx => imgGreat_any l A cap mem st wx)
  rw [decide_eq_false h80] at HG
  have hn0 : l.length ≤ 65536 := by omega
  have hS : Sx w [] [codeF A l] w := (Sx.add (f := codeF A l) (hA) (Sx.start (F := []) w (fun _ h => by cases h)))
  have hc : True := trivial
  obtain ⟨i0, hi, hz0, hz1, hz2⟩ := info_parts info_instr
  have hl8 : l.length ≤ 80 := by omega
  clear h80
  go_enter Try.func3, Try.ntmps3
  go_upto_region 5 with (first | (go_at_call 18; apply calls_abs (w0 := w); (repeat (first | with_reducible apply Sx.alloc | with_reducible apply Sx.drew | with_reducible apply Sx.drewN | with_reducible exact hS)); intro wx hS2; clear hS; have hS := hS2; clear hS2; (try simp only [World.size_alloc, World.size_drew] at hS); refine (imgAwake_any _).mono ?_; rintro e wn ⟨rfl, hB⟩; replace hS := Sx.call hB hS; clear hB; clear hc; have hc := hS.cellsL; simp only [CellsL, CellsF, Nat.zero_add, Nat.reduceAdd, and_true, true_and] at hc) | (go_at_call 19; apply calls_abs (w0 := w); (repeat (first | with_reducible apply Sx.alloc | with_reducible apply Sx.drew | with_reducible apply Sx.drewN | with_reducible exact hS)); intro wx hS2; clear hS; have hS := hS2; clear hS2; (try simp only [World.size_alloc, World.size_drew] at hS); refine (HG.out _).mono ?_; rintro e wn ⟨rfl, hB⟩; replace hS := Sx.call hB hS; clear hB; clear hc; have hc := hS.cellsL; simp only [CellsL, CellsF, Nat.zero_add, Nat.reduceAdd, and_true, true_and] at hc))
  apply wp_abs (w0 := w)
  · (repeat (first | with_reducible apply Sx.alloc | with_reducible apply Sx.drew | with_reducible apply Sx.drewN | with_reducible exact hS))
  intro wx hS2; clear hS; have hS := hS2; clear hS2; (try simp only [World.size_alloc, World.size_drew] at hS)
  clear hc; have hc := hS.cellsL; simp only [CellsL, CellsF, Nat.zero_add, Nat.reduceAdd, and_true, true_and] at hc
  obtain ⟨ws, hws⟩ : ∃ ws : World, ws = wx := ⟨_, rfl⟩
  rw [← hws] at hS hc ⊢
  clear hws
  have Hwb := Lib.hid hS.1.1.size
  have HK := Lib.hid (show ∀ wx, Below ws.heap.size ws wx → (wx.cell? ⟨w.heap.size, 0, none⟩ = some (Value.slice A l.length cap) ∧ wx.cell? ⟨w.heap.size, 1, none⟩ = some (Value.int .i64 mem) ∧ wx.cell? ⟨w.heap.size, 2, none⟩ = some (Value.int .i64 st) ∧ Below ws.heap.size ws wx) from fun wx hb => by
    have c := (Sx.call hb hS).cellsL
    simp only [CellsL, CellsF, Nat.zero_add, Nat.reduceAdd, and_true, true_and] at c
    simp [c, hb])
  have HKB := Lib.hid (show ∀ wx, (wx.cell? ⟨w.heap.size, 0, none⟩ = some (Value.slice A l.length cap) ∧ wx.cell? ⟨w.heap.size, 1, none⟩ = some (Value.int .i64 mem) ∧ wx.cell? ⟨w.heap.size, 2, none⟩ = some (Value.int .i64 st) ∧ Below ws.heap.size ws wx) → Below ws.heap.size ws wx from fun wx h => h.2.2.2)
  have hH0 := HK.out _ (Below.refl _ _)
  have HB0 := Lib.hid (Nat.le_refl ws.heap.size)
  have HB1 := Lib.hid (show ws.heap.size ≤ ws.heap.size + 1 by omega)
  have HRd := Lib.hid (show ∀ wx, Below ws.heap.size ws wx → Reads wx ws.heap.size 5 A l.length (codeL l) from fun wx hb => (code_reads hS.f1).below hb)
  have Q1 := Lib.hid (show 0 + l.length ≤ maxLen by unfold maxLen; omega)
  have Q2 := Lib.hid (show (0 + l.length) * 40 ≤ 140737488355328 by omega)
  go_cut [3] (fun s wx => ∃ g A1 c1, s = .pointer (some ⟨g, 0, none⟩) ∧ Sx w ((g, 24, #[.slice A1 l.length c1, .int .i64 mem, .int .i64 st]) :: [(w.heap.size, 24, #[.slice A l.length cap, .int .i64 mem, .int .i64 st])]) (codeF A1 l :: [codeF A l]) wx ∧ CRow wx ws.heap.size (.slice A1 l.length c1) l ∧ ws.heap.size ≤ g)
  case first =>
    go_region_held3 (fun wx => wx.cell? ⟨w.heap.size, 0, none⟩ = some (Value.slice A l.length cap) ∧ wx.cell? ⟨w.heap.size, 1, none⟩ = some (Value.int .i64 mem) ∧ wx.cell? ⟨w.heap.size, 2, none⟩ = some (Value.int .i64 st) ∧ Below ws.heap.size ws wx) ((refine HK.out _ ?_; repeat (first | exact hB1 | exact Below.refl _ _ | with_reducible apply below_drew' | with_reducible apply below_alloc' | with_reducible apply below_set' | exact Nat.le_refl _ | exact HB1.out | exact hB1.size))) (((refine step_append_any _ (by rfl) _ _ _ (by rfl) ws.heap.size 38 i0 (.agg #[.int .u8 0, .int .i64 0, .int .i64 0, .int .i64 0, .int .i64 0]) 5 40 Try.underlying22 hi hz0 hz1 hz2 rfl (by decide) (.slice (some ⟨_, 0, none⟩) 0 0) 0 [] (by rfl) (by first | exact (own_empty (Below.refl _ _) _ _).drew | exact ((own_empty (Below.refl _ _) _ _).alloc _).drew | exact (own_empty1 _ _ _).drew) ws.heap.size A l.length cap (codeL l) (by rfl) (HRd.out _ (by repeat (first | exact hB1 | exact Below.refl _ _ | with_reducible apply below_drew' | with_reducible apply below_alloc' | with_reducible apply below_set' | exact Nat.le_refl _ | exact HB1.out | exact hB1.size))) (codeL_one l) Q1.out Q2.out (Below.size (show Below ws.heap.size ws _ by repeat (first | exact hB1 | exact Below.refl _ _ | with_reducible apply below_drew' | with_reducible apply below_alloc' | with_reducible apply below_set' | exact Nat.le_refl _ | exact HB1.out | exact hB1.size))) ?_); intro v1 w1 hown1 hgrow hat; have hB1 : Below ws.heap.size ws w1 := Below.grown (show Below ws.heap.size ws _ by repeat (first | exact hB1 | exact Below.refl _ _ | with_reducible apply below_drew' | with_reducible apply below_alloc' | with_reducible apply below_set' | exact Nat.le_refl _ | exact HB1.out | exact hB1.size)) hgrow (Below.size (show Below ws.heap.size ws _ by repeat (first | exact hB1 | exact Below.refl _ _ | with_reducible apply below_drew' | with_reducible apply below_alloc' | with_reducible apply below_set' | exact Nat.le_refl _ | exact HB1.out | exact hB1.size))) (by intro k hk; first | (injection hk with hk; rw [← hk]; first | exact Nat.le_refl _ | exact HB1.out | (simp; done)) | skip); obtain ⟨A1, c1, rfl⟩ := own_slice' hown1; (try (have hbx := Blk.grown (g := ws.heap.size) (t := 24) (cs := #[.slice none 0 0, .int .i64 0, .int .i64 0]) ((Blk.new _ _ _).alloc _).drew hgrow (by simp [Value.ownBlock]); obtain ⟨z0, z1, z2, zf0, zf1, zf2⟩ := Blk.cells3 hbx)); (try (have hbx := Blk.grown (g := ws.heap.size + 1) (t := 24) (cs := #[.slice none 0 0, .int .i64 0, .int .i64 0]) (Blk.new1 (w0 := ws) _ _ (by simp)).drew hgrow (by simp [Value.ownBlock]); obtain ⟨z0, z1, z2, zf0, zf1, zf2⟩ := Blk.cells3 hbx))))
    all_goals simp only [Nat.zero_add, List.nil_append] at hown1
    all_goals go_wp2_with fail
    all_goals go_meet
    all_goals first | exact ⟨_, _, _, rfl, own_copy' hS hB1 hbx (Nat.le_refl _) hown1⟩ | exact ⟨_, _, _, rfl, own_copy' hS hB1 hbx HB1.out hown1⟩ | exact ⟨_, _, _, rfl, own_copy3 hS hB1 hown1 _ _⟩
  case rest =>
    obtain ⟨g, A1, c1, rfl, hS2, -, -⟩ := hcut
    clear hS hc HK HKB hH0 HB0 HB1 HRd Q1 Q2
    have hS := hS2
    clear hS2
    have hc := hS.cellsL
    simp only [CellsL, CellsF, Nat.zero_add, Nat.reduceAdd, and_true, true_and] at hc
    have HS1 := Lib.hid (fun wx h h' => same_ex l l l.length l.length c1 cap mem st mem st true rfl rfl hn0 (by simp [Img.same]) A1 A wx h h')
    have HC := Lib.hid (fun wx h => rcheck_any l A cap mem st wx hok.ops h)
    cases hv : Img.valid l mem st
    · have hne : ((Img.check l mem st).2 != 0) = true := by unfold Img.valid at hv; simp at hv; simpa using hv
      have hne2 : ((Img.check l mem st).2 == 0) = false := by unfold Img.valid at hv; exact hv
      have HI := Lib.hid (fun wx h => invert_bad l A1 c1 mem st wx h hv)
      have HS2 := Lib.hid (fun wx h h' => same_ex [] [] 0 0 0 0 0 0 0 0 true rfl rfl (by decide) (by decide) none none wx h h')
      have HN := Lib.hid (show ∀ wx, CodeAt wx none [] from fun wx h => by simp at h)
      generalize (Img.check l mem st).1 = k1 at *
      generalize (Img.check l mem st).2 = k2 at *
      clear hv
      have T1 : True := trivial
      have T2 : True := trivial
      go_wp2_with (first | (go_at_call 20; apply calls_abs (w0 := w); (repeat (first | with_reducible apply Sx.alloc | with_reducible apply Sx.drew | with_reducible apply Sx.drewN | with_reducible exact hS)); intro wx hS2; clear hS; have hS := hS2; clear hS2; (try simp only [World.size_alloc, World.size_drew] at hS); refine (HI.out _ hS.f1).mono ?_; rintro e wn ⟨rfl, hB⟩; replace hS := Sx.call hB hS; clear hB; clear hc; have hc := hS.cellsL; simp only [CellsL, CellsF, Nat.zero_add, Nat.reduceAdd, and_true, true_and] at hc) | (go_at_call 21; have _t := T1; clear T1 _t; apply calls_abs (w0 := w); (repeat (first | with_reducible apply Sx.alloc | with_reducible apply Sx.drew | with_reducible apply Sx.drewN | with_reducible exact hS)); intro wx hS2; clear hS; have hS := hS2; clear hS2; (try simp only [World.size_alloc, World.size_drew] at hS); refine (HS1.out _ hS.f1 hS.f2).mono ?_; rintro e wn ⟨rfl, hB⟩; replace hS := Sx.call hB hS; clear hB; clear hc; have hc := hS.cellsL; simp only [CellsL, CellsF, Nat.zero_add, Nat.reduceAdd, and_true, true_and] at hc) | (go_at_call 21; have _t := T2; clear T2 _t; apply calls_abs (w0 := w); (repeat (first | with_reducible apply Sx.alloc | with_reducible apply Sx.drew | with_reducible apply Sx.drewN | with_reducible exact hS)); intro wx hS2; clear hS; have hS := hS2; clear hS2; (try simp only [World.size_alloc, World.size_drew] at hS); refine (HS2.out _ (HN.out _) (HN.out _)).mono ?_; rintro e wn ⟨rfl, hB⟩; replace hS := Sx.call hB hS; clear hB; clear hc; have hc := hS.cellsL; simp only [CellsL, CellsF, Nat.zero_add, Nat.reduceAdd, and_true, true_and] at hc) | (go_at_call 22; apply calls_abs (w0 := w); (repeat (first | with_reducible apply Sx.alloc | with_reducible apply Sx.drew | with_reducible apply Sx.drewN | with_reducible exact hS)); intro wx hS2; clear hS; have hS := hS2; clear hS2; (try simp only [World.size_alloc, World.size_drew] at hS); refine (HC.out _ hS.f2).mono ?_; rintro e wn ⟨rfl, hB⟩; replace hS := Sx.call hB hS; clear hB; clear hc; have hc := hS.cellsL; simp only [CellsL, CellsF, Nat.zero_add, Nat.reduceAdd, and_true, true_and] at hc))
      go_ret
      exact ⟨rfl, hS.below⟩
    · have h2 : (Img.check l mem st).2 = 0 := by unfold Img.valid at hv; simpa using hv
      rw [h2] at HC
      have HI := Lib.hid (fun wx h => invert_good l A1 c1 mem st wx hn0 h hv)
      have HR := Lib.hid (fun wx h => rinvert_any l A cap mem st wx hn0 hok.ops h hv)
      have HS2 := Lib.hid (fun A2 c2 A3 c3 wx h h' => same_ex (Img.invert l) (Img.invert l) l.length l.length c2 c3 mem st mem st true (Img.inv_length l) (Img.inv_length l) (by rw [Img.inv_length]; exact hn0) (by simp [Img.same]) A2 A3 wx h h')
      generalize (Img.check l mem st).1 = k1 at *
      clear hv h2
      have T1 : True := trivial
      have T2 : True := trivial
      go_upto_region 12 with (first | (go_at_call 20; apply calls_abs (w0 := w); (repeat (first | with_reducible apply Sx.alloc | with_reducible apply Sx.drew | with_reducible apply Sx.drewN | with_reducible exact hS)); intro wx hS2; clear hS; have hS := hS2; clear hS2; (try simp only [World.size_alloc, World.size_drew] at hS); refine (HI.out _ hS.f1).mono ?_; rintro e wn ⟨gi, rfl, hB, hCi⟩; replace hS := Sx.callF (f := codeF (some ⟨gi, 0, none⟩) (Img.invert l)) hB (hCi.at_) hS; clear hB; clear hc; have hc := hS.cellsL; simp only [CellsL, CellsF, Nat.zero_add, Nat.reduceAdd, and_true, true_and] at hc) | (go_at_call 21; have _t := T1; clear T1 _t; apply calls_abs (w0 := w); (repeat (first | with_reducible apply Sx.alloc | with_reducible apply Sx.drew | with_reducible apply Sx.drewN | with_reducible exact hS)); intro wx hS2; clear hS; have hS := hS2; clear hS2; (try simp only [World.size_alloc, World.size_drew] at hS); refine (HS1.out _ hS.f2 hS.f3).mono ?_; rintro e wn ⟨rfl, hB⟩; replace hS := Sx.call hB hS; clear hB; clear hc; have hc := hS.cellsL; simp only [CellsL, CellsF, Nat.zero_add, Nat.reduceAdd, and_true, true_and] at hc) | (go_at_call 22; apply calls_abs (w0 := w); (repeat (first | with_reducible apply Sx.alloc | with_reducible apply Sx.drew | with_reducible apply Sx.drewN | with_reducible exact hS)); intro wx hS2; clear hS; have hS := hS2; clear hS2; (try simp only [World.size_alloc, World.size_drew] at hS); refine (HC.out _ hS.f3).mono ?_; rintro e wn ⟨rfl, hB⟩; replace hS := Sx.call hB hS; clear hB; clear hc; have hc := hS.cellsL; simp only [CellsL, CellsF, Nat.zero_add, Nat.reduceAdd, and_true, true_and] at hc))
      go_region_with (first | (go_at_call 23; apply calls_abs (w0 := w); (repeat (first | with_reducible apply Sx.alloc | with_reducible apply Sx.drew | with_reducible apply Sx.drewN | with_reducible exact hS)); intro wx hS2; clear hS; have hS := hS2; clear hS2; (try simp only [World.size_alloc, World.size_drew] at hS); refine (HR.out _ hS.f3).mono ?_; rintro e wn ⟨Ar, cr, rfl, hB, hCr⟩; replace hS := Sx.callF (f := codeF Ar (Img.invert l)) hB (hCr) hS; clear hB; clear hc; have hc := hS.cellsL; simp only [CellsL, CellsF, Nat.zero_add, Nat.reduceAdd, and_true, true_and] at hc) | (go_at_call 21; apply calls_abs (w0 := w); (repeat (first | with_reducible apply Sx.alloc | with_reducible apply Sx.drew | with_reducible apply Sx.drewN | with_reducible exact hS)); intro wx hS2; clear hS; have hS := hS2; clear hS2; (try simp only [World.size_alloc, World.size_drew] at hS); refine (HS2.out _ _ _ _ _ hS.f2 hS.f1).mono ?_; rintro e wn ⟨rfl, hB⟩; replace hS := Sx.call hB hS; clear hB; clear hc; have hc := hS.cellsL; simp only [CellsL, CellsF, Nat.zero_add, Nat.reduceAdd, and_true, true_and] at hc))
      all_goals go_wp2_with fail
      all_goals go_ret
      all_goals exact ⟨rfl, hS.below⟩

end Go.Proofs.Yteonkfdmkgjpaaa
