/- The walks of the laws of layer 23: ImageJoin. -/
import Derived.Test.YteonkfdmkgjpaaaImgL9
import Derived.Test.YteonkfdmkgjpaaaImgL6
import Derived.Deep.RegionHeld3
import Derived.Deep.DeepCutAuto
import Derived.BigQuiet
import Derived.Deep.QuietTactic
import Derived.BigRegion
import Derived.Deep.CutBlock
namespace Go.Proofs.Yteonkfdmkgjpaaa
open Go.RowKit
set_option linter.unusedVariables false
set_option linter.unusedSimpArgs false

theorem codeL_app (a b : List Ins) : codeL (a ++ b) = codeL a ++ codeL b := by
  apply List.ext_getElem?
  intro q
  have ha := codeL_length a
  rw [codeL_at]
  by_cases h : q < a.length * 5
  · rw [List.getElem?_append_left (by omega), codeL_at, if_pos h, if_pos (by simp; omega), Img.at_left (by omega)]
  · rw [List.getElem?_append_right (by omega), codeL_at, ha]
    by_cases h2 : q < (a ++ b).length * 5
    · simp at h2
      rw [if_pos (by simp; omega), if_pos (by omega)]
      have e1 : q / 5 = a.length + (q - a.length * 5) / 5 := by omega
      have e2 : q % 5 = (q - a.length * 5) % 5 := by omega
      rw [e1, e2, Img.at_right]
    · rw [if_neg h2, if_neg (by simp at h2; omega)]
theorem below_call' {ws W W' : World} (h : Below ws.heap.size ws W) (hB : Below W.heap.size W W') : Below ws.heap.size ws W' := h.trans (hB.mono h.size)
theorem shifted_ex (l : List Ins) (A : Option Addr) (cap by_ : Nat) (hn0 : l.length ≤ 65536) (hby : by_ ≤ 65536) (htg : ∀ k, k < l.length → Img.has (Img.at_ l k) = true → 0 ≤ Img.tg (Img.at_ l k) ∧ Img.tg (Img.at_ l k) ≤ 65536) (n : Nat) (hn : l.length = n) (w : World) (hA : CodeAt w A l) :
    Calls Try.prog 26 #[.slice A n cap, .int .i64 by_] w fun e w' => ∃ A' c', e = .returned (.slice A' n c') ∧ Below w.heap.size w w' ∧ CodeAt w' A' (Img.shl l by_) := by
  subst hn
  refine (shifted_any l A cap by_ w hn0 hby htg hA).mono ?_
  rintro e w' ⟨v, rfl, hB, hr⟩
  obtain ⟨A', c', hv, hc⟩ := code_of_own hr
  exact ⟨A', c', by rw [hv, Img.shl_length], hB, hc⟩
theorem ok_tg {l : List Ins} (h : Img.Ok l) : ∀ k, k < l.length → Img.has (Img.at_ l k) = true → 0 ≤ Img.tg (Img.at_ l k) ∧ Img.tg (Img.at_ l k) ≤ 65536 := fun k hk hh => by
  have := Img.tg_vl (h.fine hk).v hh
  omega

theorem CRow.keep {W W' : World} {base n : Nat} {v : Value} {xs : List Value} (h : W.ownsRow base 38 5 v n xs) (hB : Below W.heap.size W W') : W'.ownsRow base 38 5 v n xs := by
  refine h.kept (row := none) ⟨hB.os, hB.tape, hB.output, hB.size, fun k hk _ => hB.block k hk⟩ ?_
  cases v.ownBlock
  · exact .inl rfl
  · exact .inr (by simp)
theorem CRow.rd {W : World} {A : Option Addr} {l : List Ins} {n : Nat} {b : Int} (h : CodeAt W A (Img.shl l b)) (hn : l.length = n) : Reads W W.heap.size 5 A n (codeL (Img.shl l b)) := by
  have := code_reads h
  rw [Img.shl_length, hn] at this
  exact this
theorem CRow.rdB {ws W : World} {A : Option Addr} {l : List Ins} {n : Nat} (h : CodeAt ws A l) (hn : l.length = n) (hb : Below ws.heap.size ws W) : Reads W ws.heap.size 5 A n (codeL l) := by
  have := (code_reads h).below hb
  rw [hn] at this
  exact this
theorem join_copy {w ws w1 : World} {L : List (Nat × TypeId × Array Value)} {F : List WF} {g c n : Nat} {A : Option Addr} {m s z0 z1 z2 : Value} {l : List Ins} (hS : Sx w L F ws) (hB : Below ws.heap.size ws w1) (hbx : Blk w1 g 24 #[z0, z1, z2]) (hg : ws.heap.size ≤ g) (hn : l.length = n)
    (hown : w1.ownsRow ws.heap.size 38 5 (.slice A n c) n (codeL l)) : Sx w ((g, 24, #[.slice A n c, m, s]) :: L) (codeF A l :: F) (set3 w1 g (.slice A n c) m s) := by
  subst hn
  exact (own_copy' hS hB hbx hg hown).1
theorem join_copy3 {w ws w1 : World} {L : List (Nat × TypeId × Array Value)} {F : List WF} {c n : Nat} {A : Option Addr} {l : List Ins} (hS : Sx w L F ws) (hB : Below ws.heap.size ws w1) (hn : l.length = n)
    (hown : w1.ownsRow ws.heap.size 38 5 (.slice A n c) n (codeL l)) (cs : Array Value) (t : TypeId) : Sx w ((w1.heap.size, t, cs) :: L) (codeF A l :: F) (w1.alloc (.cells cs t)) := by
  subst hn
  exact (own_copy3 hS hB hown cs t).1

set_option maxHeartbeats 16000000 in
set_option maxRecDepth 100000 in
theorem imageJoin_walk (l : List Ins) (A : Option Addr) (cap : Nat) (mem st : Int) (l' : List Ins) (A' : Option Addr) (cap' : Nat) (mem' st' : Int) (w : World) (hA : CodeAt w A l) (hok : InsOk l) (hml : l.length ≤ maxLen) (hA' : CodeAt w A' l') (hok' : InsOk l') (hml' : l'.length ≤ maxLen) :
    Calls Try.prog 6 #[.agg #[.slice A l.length cap, .int .i64 mem, .int .i64 st], .agg #[.slice A' l'.length cap', .int .i64 mem', .int .i64 st']] w fun e w' => e = .returned (.bool true) ∧ Below w.heap.size w w' := by
  have hl9 : l.length ≤ 9223372036854775807 := by unfold maxLen at hml; omega
  have hl9' : l'.length ≤ 9223372036854775807 := by unfold maxLen at hml'; omega
  by_cases h1 : 40 < l.length
  · have h1b : (40 : Int) < l.length := by omega
    have hS : Sx w [] [codeF A l, codeF A' l'] w := (Sx.add (f := codeF A l) (hA) (Sx.add (f := codeF A' l') (hA') (Sx.start (F := []) w (fun _ h => by cases h))))
    have hc : True := trivial
    go_enter Try.func6, Try.ntmps6
    go_wp2_with (first | (go_at_call 18; apply calls_abs (w0 := w); (repeat (first | with_reducible apply Sx.alloc | with_reducible apply Sx.drew | with_reducible apply Sx.drewN | with_reducible exact hS)); intro wx hS2; clear hS; have hS := hS2; clear hS2; (try simp only [World.size_alloc, World.size_drew] at hS); refine (imgAwake_any _).mono ?_; rintro e wn ⟨rfl, hB⟩; replace hS := Sx.call hB hS; clear hB; clear hc; have hc := hS.cellsL; simp only [CellsL, CellsF, Nat.zero_add, Nat.reduceAdd, and_true, true_and] at hc))
    go_ret
    exact ⟨rfl, hS.below⟩
  by_cases h2 : 40 < l'.length
  · have h2b : (40 : Int) < l'.length := by omega
    have h1b : (l.length : Int) ≤ 40 := by omega
    have hS : Sx w [] [codeF A l, codeF A' l'] w := (Sx.add (f := codeF A l) (hA) (Sx.add (f := codeF A' l') (hA') (Sx.start (F := []) w (fun _ h => by cases h))))
    have hc : True := trivial
    go_enter Try.func6, Try.ntmps6
    go_wp2_with (first | (go_at_call 18; apply calls_abs (w0 := w); (repeat (first | with_reducible apply Sx.alloc | with_reducible apply Sx.drew | with_reducible apply Sx.drewN | with_reducible exact hS)); intro wx hS2; clear hS; have hS := hS2; clear hS2; (try simp only [World.size_alloc, World.size_drew] at hS); refine (imgAwake_any _).mono ?_; rintro e wn ⟨rfl, hB⟩; replace hS := Sx.call hB hS; clear hB; clear hc; have hc := hS.cellsL; simp only [CellsL, CellsF, Nat.zero_add, Nat.reduceAdd, and_true, true_and] at hc))
    go_ret
    exact ⟨rfl, hS.below⟩
  have h1b : (l.length : Int) ≤ 40 := by omega
  have h2b : (l'.length : Int) ≤ 40 := by omega
  clear hml hml'
  cases hv : Img.valid l mem st
  · have HV := Lib.hid (fun wx h => imgValid_any l A cap mem st wx h)
    rw [hv] at HV
    have hS : Sx w [] [codeF A l, codeF A' l'] w := (Sx.add (f := codeF A l) (hA) (Sx.add (f := codeF A' l') (hA') (Sx.start (F := []) w (fun _ h => by cases h))))
    have hc : True := trivial
    go_enter Try.func6, Try.ntmps6
    go_wp2_with (first | (go_at_call 18; apply calls_abs (w0 := w); (repeat (first | with_reducible apply Sx.alloc | with_reducible apply Sx.drew | with_reducible apply Sx.drewN | with_reducible exact hS)); intro wx hS2; clear hS; have hS := hS2; clear hS2; (try simp only [World.size_alloc, World.size_drew] at hS); refine (imgAwake_any _).mono ?_; rintro e wn ⟨rfl, hB⟩; replace hS := Sx.call hB hS; clear hB; clear hc; have hc := hS.cellsL; simp only [CellsL, CellsF, Nat.zero_add, Nat.reduceAdd, and_true, true_and] at hc) | (go_at_call 25; apply calls_abs (w0 := w); (repeat (first | with_reducible apply Sx.alloc | with_reducible apply Sx.drew | with_reducible apply Sx.drewN | with_reducible exact hS)); intro wx hS2; clear hS; have hS := hS2; clear hS2; (try simp only [World.size_alloc, World.size_drew] at hS); refine (HV.out _ hS.f1).mono ?_; rintro e wn ⟨rfl, hB⟩; replace hS := Sx.call hB hS; clear hB; clear hc; have hc := hS.cellsL; simp only [CellsL, CellsF, Nat.zero_add, Nat.reduceAdd, and_true, true_and] at hc))
    go_ret
    exact ⟨rfl, hS.below⟩
  cases hv' : Img.valid l' mem' st'
  · have HV := Lib.hid (fun wx h => imgValid_any l A cap mem st wx h)
    rw [hv] at HV
    have HV' := Lib.hid (fun wx h => imgValid_any l' A' cap' mem' st' wx h)
    rw [hv'] at HV'
    have T1 : True := trivial
    have T2 : True := trivial
    have hS : Sx w [] [codeF A l, codeF A' l'] w := (Sx.add (f := codeF A l) (hA) (Sx.add (f := codeF A' l') (hA') (Sx.start (F := []) w (fun _ h => by cases h))))
    have hc : True := trivial
    go_enter Try.func6, Try.ntmps6
    go_wp2_with (first | (go_at_call 18; apply calls_abs (w0 := w); (repeat (first | with_reducible apply Sx.alloc | with_reducible apply Sx.drew | with_reducible apply Sx.drewN | with_reducible exact hS)); intro wx hS2; clear hS; have hS := hS2; clear hS2; (try simp only [World.size_alloc, World.size_drew] at hS); refine (imgAwake_any _).mono ?_; rintro e wn ⟨rfl, hB⟩; replace hS := Sx.call hB hS; clear hB; clear hc; have hc := hS.cellsL; simp only [CellsL, CellsF, Nat.zero_add, Nat.reduceAdd, and_true, true_and] at hc) | (go_at_call 25; have _t := T1; clear T1 _t; apply calls_abs (w0 := w); (repeat (first | with_reducible apply Sx.alloc | with_reducible apply Sx.drew | with_reducible apply Sx.drewN | with_reducible exact hS)); intro wx hS2; clear hS; have hS := hS2; clear hS2; (try simp only [World.size_alloc, World.size_drew] at hS); refine (HV.out _ hS.f1).mono ?_; rintro e wn ⟨rfl, hB⟩; replace hS := Sx.call hB hS; clear hB; clear hc; have hc := hS.cellsL; simp only [CellsL, CellsF, Nat.zero_add, Nat.reduceAdd, and_true, true_and] at hc) | (go_at_call 25; have _t := T2; clear T2 _t; apply calls_abs (w0 := w); (repeat (first | with_reducible apply Sx.alloc | with_reducible apply Sx.drew | with_reducible apply Sx.drewN | with_reducible exact hS)); intro wx hS2; clear hS; have hS := hS2; clear hS2; (try simp only [World.size_alloc, World.size_drew] at hS); refine (HV'.out _ hS.f2).mono ?_; rintro e wn ⟨rfl, hB⟩; replace hS := Sx.call hB hS; clear hB; clear hc; have hc := hS.cellsL; simp only [CellsL, CellsF, Nat.zero_add, Nat.reduceAdd, and_true, true_and] at hc))
    go_ret
    exact ⟨rfl, hS.below⟩
  have HV := Lib.hid (fun wx h => imgValid_any l A cap mem st wx h)
  rw [hv] at HV
  have HV' := Lib.hid (fun wx h => imgValid_any l' A' cap' mem' st' wx h)
  rw [hv'] at HV'
  have T1 : True := trivial
  have T2 : True := trivial
  obtain ⟨i0, hi, hz0, hz1, hz2⟩ := info_parts info_instr
  have hS : Sx w [] [codeF A l, codeF A' l'] w := (Sx.add (f := codeF A l) (hA) (Sx.add (f := codeF A' l') (hA') (Sx.start (F := []) w (fun _ h => by cases h))))
  have hc : True := trivial
  go_enter Try.func6, Try.ntmps6
  go_upto_region 5 with (first | (go_at_call 18; apply calls_abs (w0 := w); (repeat (first | with_reducible apply Sx.alloc | with_reducible apply Sx.drew | with_reducible apply Sx.drewN | with_reducible exact hS)); intro wx hS2; clear hS; have hS := hS2; clear hS2; (try simp only [World.size_alloc, World.size_drew] at hS); refine (imgAwake_any _).mono ?_; rintro e wn ⟨rfl, hB⟩; replace hS := Sx.call hB hS; clear hB; clear hc; have hc := hS.cellsL; simp only [CellsL, CellsF, Nat.zero_add, Nat.reduceAdd, and_true, true_and] at hc) | (go_at_call 25; have _t := T1; clear T1 _t; apply calls_abs (w0 := w); (repeat (first | with_reducible apply Sx.alloc | with_reducible apply Sx.drew | with_reducible apply Sx.drewN | with_reducible exact hS)); intro wx hS2; clear hS; have hS := hS2; clear hS2; (try simp only [World.size_alloc, World.size_drew] at hS); refine (HV.out _ hS.f1).mono ?_; rintro e wn ⟨rfl, hB⟩; replace hS := Sx.call hB hS; clear hB; clear hc; have hc := hS.cellsL; simp only [CellsL, CellsF, Nat.zero_add, Nat.reduceAdd, and_true, true_and] at hc) | (go_at_call 25; have _t := T2; clear T2 _t; apply calls_abs (w0 := w); (repeat (first | with_reducible apply Sx.alloc | with_reducible apply Sx.drew | with_reducible apply Sx.drewN | with_reducible exact hS)); intro wx hS2; clear hS; have hS := hS2; clear hS2; (try simp only [World.size_alloc, World.size_drew] at hS); refine (HV'.out _ hS.f2).mono ?_; rintro e wn ⟨rfl, hB⟩; replace hS := Sx.call hB hS; clear hB; clear hc; have hc := hS.cellsL; simp only [CellsL, CellsF, Nat.zero_add, Nat.reduceAdd, and_true, true_and] at hc))
  apply wp_abs (w0 := w)
  · (repeat (first | with_reducible apply Sx.alloc | with_reducible apply Sx.drew | with_reducible apply Sx.drewN | with_reducible exact hS))
  intro wx hS2; clear hS; have hS := hS2; clear hS2; (try simp only [World.size_alloc, World.size_drew] at hS)
  clear hc; have hc := hS.cellsL; simp only [CellsL, CellsF, Nat.zero_add, Nat.reduceAdd, and_true, true_and] at hc
  have hOk := Lib.hid (Img.valid_ok hv)
  have hOk' := Lib.hid (Img.valid_ok hv')
  have Hv := Lib.hid hv
  have Hv' := Lib.hid hv'
  clear hv hv'
  obtain ⟨ws, hws⟩ : ∃ ws : World, ws = wx := ⟨_, rfl⟩
  rw [← hws] at hS hc ⊢
  clear hws
  have HK := Lib.hid (show ∀ wx, Below ws.heap.size ws wx → (wx.cell? ⟨w.heap.size, 0, none⟩ = some (Value.slice A l.length cap) ∧ wx.cell? ⟨w.heap.size, 1, none⟩ = some (Value.int .i64 mem) ∧ wx.cell? ⟨w.heap.size, 2, none⟩ = some (Value.int .i64 st) ∧ wx.cell? ⟨w.heap.size + 1, 0, none⟩ = some (Value.slice A' l'.length cap') ∧ wx.cell? ⟨w.heap.size + 1, 1, none⟩ = some (Value.int .i64 mem') ∧ wx.cell? ⟨w.heap.size + 1, 2, none⟩ = some (Value.int .i64 st') ∧ Below ws.heap.size ws wx) from fun wx hb => by
    have c := (Sx.call hb hS).cellsL
    simp only [CellsL, CellsF, Nat.zero_add, Nat.reduceAdd, and_true, true_and] at c
    simp [c, hb])
  have hH0 := HK.out _ (Below.refl _ _)
  have HB0 := Lib.hid (Nat.le_refl ws.heap.size)
  have HB1 := Lib.hid (show ws.heap.size ≤ ws.heap.size + 1 by omega)
  have HRd := Lib.hid (show ∀ wx, Below ws.heap.size ws wx → Reads wx ws.heap.size 5 A l.length (codeL l) from fun wx hb => CRow.rdB hS.f1 rfl hb)
  have HP2 := Lib.hid (show CodeAt ws A' l' from hS.f2)
  have HSH := Lib.hid (fun wx h => shifted_ex l' A' cap' l.length (by have := (show l'.length = l'.length from rfl); omega) (by omega) (ok_tg hOk'.out) l'.length rfl wx h)
  have Q1 := Lib.hid (show 0 + l.length ≤ maxLen by unfold maxLen; omega)
  have Q2 := Lib.hid (show (0 + l.length) * 40 ≤ 140737488355328 by omega)
  have Q3 := Lib.hid (show l.length + l'.length ≤ maxLen by unfold maxLen; omega)
  have Q4 := Lib.hid (show (l.length + l'.length) * 40 ≤ 140737488355328 by omega)
  have T1 : True := trivial
  go_cut [5] (fun s wx => ∃ g A1 c1, s = .pointer (some ⟨g, 0, none⟩) ∧ Sx w ((g, 24, #[.slice A1 (l.length + l'.length) c1, .int .i64 mem, .int .i64 st]) :: [(w.heap.size + 1, 24, #[.slice A' l'.length cap', .int .i64 mem', .int .i64 st']), (w.heap.size, 24, #[.slice A l.length cap, .int .i64 mem, .int .i64 st])]) (codeF A1 (l ++ Img.shl l' l.length) :: [codeF A l, codeF A' l']) wx)
  case first =>
    go_region_held3 (fun wx => wx.cell? ⟨w.heap.size, 0, none⟩ = some (Value.slice A l.length cap) ∧ wx.cell? ⟨w.heap.size, 1, none⟩ = some (Value.int .i64 mem) ∧ wx.cell? ⟨w.heap.size, 2, none⟩ = some (Value.int .i64 st) ∧ wx.cell? ⟨w.heap.size + 1, 0, none⟩ = some (Value.slice A' l'.length cap') ∧ wx.cell? ⟨w.heap.size + 1, 1, none⟩ = some (Value.int .i64 mem') ∧ wx.cell? ⟨w.heap.size + 1, 2, none⟩ = some (Value.int .i64 st') ∧ Below ws.heap.size ws wx) ((refine HK.out _ ?_; repeat (first | exact hB1 | exact Below.refl _ _ | with_reducible apply below_drew' | with_reducible apply below_alloc' | with_reducible apply below_set' | exact Nat.le_refl _ | exact HB1.out | exact hbg | exact Below.size hB1))) ((first | (have _t := T1; clear T1 _t; (refine step_append_any _ (by rfl) _ _ _ (by rfl) ws.heap.size 38 i0 (.agg #[.int .u8 0, .int .i64 0, .int .i64 0, .int .i64 0, .int .i64 0]) 5 40 Try.underlying22 hi hz0 hz1 hz2 rfl (by decide) (.slice (some ⟨_, 0, none⟩) 0 0) 0 [] (by rfl) (by first | exact (own_empty (Below.refl _ _) _ _).drew | exact ((own_empty (Below.refl _ _) _ _).alloc _).drew | exact (own_empty1 _ _ _).drew) ws.heap.size A l.length cap (codeL l) (by rfl) (HRd.out _ (by repeat (first | exact hB1 | exact Below.refl _ _ | with_reducible apply below_drew' | with_reducible apply below_alloc' | with_reducible apply below_set' | exact Nat.le_refl _ | exact HB1.out | exact hbg | exact Below.size hB1))) (codeL_one l) Q1.out Q2.out (Below.size (show Below ws.heap.size ws _ by repeat (first | exact hB1 | exact Below.refl _ _ | with_reducible apply below_drew' | with_reducible apply below_alloc' | with_reducible apply below_set' | exact Nat.le_refl _ | exact HB1.out | exact hbg | exact Below.size hB1))) ?_); intro v1 w1 hown1 hgrow hat; have hB1 : Below ws.heap.size ws w1 := Below.grown (show Below ws.heap.size ws _ by repeat (first | exact hB1 | exact Below.refl _ _ | with_reducible apply below_drew' | with_reducible apply below_alloc' | with_reducible apply below_set' | exact Nat.le_refl _ | exact HB1.out | exact hbg | exact Below.size hB1)) hgrow (Below.size (show Below ws.heap.size ws _ by repeat (first | exact hB1 | exact Below.refl _ _ | with_reducible apply below_drew' | with_reducible apply below_alloc' | with_reducible apply below_set' | exact Nat.le_refl _ | exact HB1.out | exact hbg | exact Below.size hB1))) (by intro k hk; first | (injection hk with hk; rw [← hk]; first | exact Nat.le_refl _ | exact HB1.out | (simp; done)) | skip); obtain ⟨X1, y1, rfl⟩ := own_slice' hown1; (try (have hbx := Blk.grown (g := ws.heap.size) (t := 24) (cs := #[.slice none 0 0, .int .i64 0, .int .i64 0]) ((Blk.new _ _ _).alloc _).drew hgrow (by simp [Value.ownBlock]); have hbg := HB0.out)); (try (have hbx := Blk.grown (g := ws.heap.size + 1) (t := 24) (cs := #[.slice none 0 0, .int .i64 0, .int .i64 0]) (Blk.new1 (w0 := ws) _ _ (by simp)).drew hgrow (by simp [Value.ownBlock]); have hbg := HB1.out)); simp only [Nat.zero_add, List.nil_append] at hown1; clear hgrow hat; have T2 := trivial) | (go_at_call 26; refine (HSH.out _ (CodeAt.after (show Below ws.heap.size ws _ by repeat (first | exact hB1 | exact Below.refl _ _ | with_reducible apply below_drew' | with_reducible apply below_alloc' | with_reducible apply below_set' | exact Nat.le_refl _ | exact HB1.out | exact hbg | exact Below.size hB1)) HP2.out)).mono ?_; rintro e wc ⟨X2, y2, rfl, hB2, hC2⟩; have hB0 := hB1; have hown2 : wc.ownsRow ws.heap.size 38 5 (.slice X1 l.length y1) l.length (codeL l) := (by first | exact (CRow.keep hown1 hB2) | exact (CRow.keep (World.ownsRow.alloc hown1 _) hB2)); have hB1 : Below ws.heap.size ws wc := below_call' (show Below ws.heap.size ws _ by repeat (first | exact hB1 | exact Below.refl _ _ | with_reducible apply below_drew' | with_reducible apply below_alloc' | with_reducible apply below_set' | exact Nat.le_refl _ | exact HB1.out | exact hbg | exact Below.size hB1)) hB2; (try (have hbx := Blk.after hB2 hbx)); (try (have hbx := Blk.after hB2 (Blk.new w1 24 #[.slice none 0 0, .int .i64 0, .int .i64 0]); have hbg := Below.size hB0)); clear hB2 hown1) | (have _t := T2; clear T2 _t; (refine step_append_any _ (by rfl) _ _ _ (by rfl) ws.heap.size 38 i0 (.agg #[.int .u8 0, .int .i64 0, .int .i64 0, .int .i64 0, .int .i64 0]) 5 40 Try.underlying22 hi hz0 hz1 hz2 rfl (by decide) (.slice X1 l.length y1) l.length (codeL l) (by rfl) (by first | exact hown2 | exact World.ownsRow.alloc hown2 _) wc.heap.size X2 l'.length y2 (codeL (Img.shl l' l.length)) (by rfl) (by first | exact (CRow.rd hC2 rfl) | exact ((CRow.rd hC2 rfl).alloc (Nat.le_refl _) _)) (codeL_one _) Q3.out Q4.out (Below.size (show Below ws.heap.size ws _ by repeat (first | exact hB1 | exact Below.refl _ _ | with_reducible apply below_drew' | with_reducible apply below_alloc' | with_reducible apply below_set' | exact Nat.le_refl _ | exact HB1.out | exact hbg | exact Below.size hB1))) ?_); intro v3 w3 hown3 hgrow3 hat3; have hB3 : Below ws.heap.size ws w3 := Below.grown (show Below ws.heap.size ws _ by repeat (first | exact hB1 | exact Below.refl _ _ | with_reducible apply below_drew' | with_reducible apply below_alloc' | with_reducible apply below_set' | exact Nat.le_refl _ | exact HB1.out | exact hbg | exact Below.size hB1)) hgrow3 (Below.size (show Below ws.heap.size ws _ by repeat (first | exact hB1 | exact Below.refl _ _ | with_reducible apply below_drew' | with_reducible apply below_alloc' | with_reducible apply below_set' | exact Nat.le_refl _ | exact HB1.out | exact hbg | exact Below.size hB1))) (fun k hk => (World.ownsRow.lt hown2 k hk).1); (first | (have hbx3 := Blk.grown hbx hgrow3 (Ne.symm (own_blk_ne hown2 hbx (by decide))); obtain ⟨z0, z1, z2, zf0, zf1, zf2⟩ := Blk.cells3 hbx3) | (have hbx3 := Blk.grown (Blk.alloc hbx _) hgrow3 (Ne.symm (own_blk_ne (World.ownsRow.alloc hown2 _) (Blk.alloc hbx _) (by decide))); obtain ⟨z0, z1, z2, zf0, zf1, zf2⟩ := Blk.cells3 hbx3) | (have hbx3 := Blk.grown (Blk.new wc 24 #[.slice none 0 0, .int .i64 0, .int .i64 0]) hgrow3 (Ne.symm (own_blk_ne (World.ownsRow.alloc hown2 _) (Blk.new wc 24 #[.slice none 0 0, .int .i64 0, .int .i64 0]) (by decide))); obtain ⟨z0, z1, z2, zf0, zf1, zf2⟩ := Blk.cells3 hbx3; have hbg := Below.size hB1) | skip); clear hB1; have hB1 := hB3; obtain ⟨X3, y3, rfl⟩ := own_slice' hown3; (try clear hat3); (try clear hgrow3))))
    all_goals have hL3 := Lib.hid (show (l ++ Img.shl l' l.length).length = l.length + l'.length by have e1 := (show l.length = l.length from rfl); have e2 := (show l'.length = l'.length from rfl); rw [List.length_append, Img.shl_length, e1, e2])
    all_goals rw [← codeL_app] at hown3
    all_goals go_wp2_with fail
    all_goals go_meet
    all_goals first | exact ⟨_, _, _, rfl, join_copy hS hB3 hbx3 hbg hL3.out hown3⟩ | exact ⟨_, _, _, rfl, join_copy3 hS hB3 hL3.out hown3 _ _⟩
  case rest =>
    obtain ⟨gx, Agx, cgx, rfl, hS2⟩ := hcut
    clear hS hc HK hH0 HB0 HB1 HRd Q1 Q2 Q3 Q4 HSH HP2 T1
    have hS := hS2
    clear hS2
    have hc := hS.cellsL
    simp only [CellsL, CellsF, Nat.zero_add, Nat.reduceAdd, and_true, true_and] at hc
    have hvx : Img.valid (l ++ Img.shl l' l.length) mem st = true := by
      refine Img.valid_iff.2 ⟨?_, Img.Ok.join hOk.out hOk'.out (by omega)⟩
      have h9 := (Img.valid_iff.1 Hv.out).1
      unfold Img.outside at h9 ⊢
      simp only [List.length_append, Img.shl_length]
      omega
    have hlx : (l ++ Img.shl l' l.length).length = l.length + l'.length := by rw [List.length_append, Img.shl_length]
    have hij : Img.invert (l ++ Img.shl l' l.length) = Img.invert l' ++ Img.shl (Img.invert l) l'.length := Img.Ok.invert_join hOk.out hOk'.out (by omega)
    have HX := Lib.hid (fun wx h => inv_ex (l ++ Img.shl l' l.length) (Img.invert (l ++ Img.shl l' l.length)) (l.length + l'.length) cgx mem st hlx (by omega) hvx rfl Agx wx h)
    have HPa := Lib.hid (fun wx h => inv_ex l (Img.invert l) l.length cap mem st rfl (by omega) Hv.out rfl A wx h)
    have HQb := Lib.hid (fun wx h => inv_ex l' (Img.invert l') l'.length cap' mem' st' rfl (by omega) Hv'.out rfl A' wx h)
    have HVX := Lib.hid (fun wx h => valid_ex (l ++ Img.shl l' l.length) (l.length + l'.length) cgx mem st hlx true hvx Agx wx h)
    have HSM := Lib.hid (fun gy A9 c9 wx h h' => same_ex (Img.invert (l ++ Img.shl l' l.length)) (Img.invert l' ++ Img.shl (Img.invert l) l'.length) (l.length + l'.length) (l'.length + l.length) (l.length + l'.length) c9 mem st mem st true (by rw [Img.inv_length, hlx]) (by rw [List.length_append, Img.inv_length, Img.shl_length, Img.inv_length]) (by rw [Img.inv_length]; omega) (by simp [Img.same, hij]) (some ⟨gy, 0, none⟩) A9 wx h h')
    clear hvx hlx hij HV HV'
    have T1 : True := trivial
    have T2 : True := trivial
    have T3 : True := trivial
    go_upto_region 9 with (first | (go_at_call 20; have _t := T1; clear T1 _t; apply calls_abs (w0 := w); (repeat (first | with_reducible apply Sx.alloc | with_reducible apply Sx.drew | with_reducible apply Sx.drewN | with_reducible exact hS)); intro wx hS2; clear hS; have hS := hS2; clear hS2; (try simp only [World.size_alloc, World.size_drew] at hS); refine (HX.out _ hS.f1).mono ?_; rintro e wn ⟨g1, rfl, hB, h1⟩; replace hS := Sx.callF (f := codeF (some ⟨g1, 0, none⟩) (Img.invert (l ++ Img.shl l' l.length))) hB (h1.at_) hS; clear hB; clear hc; have hc := hS.cellsL; simp only [CellsL, CellsF, Nat.zero_add, Nat.reduceAdd, and_true, true_and] at hc; obtain ⟨b1, hb1⟩ : ∃ q, wn.heap.size = q := ⟨_, rfl⟩; simp only [hb1] at hc) | (go_at_call 20; have _t := T2; clear T2 _t; apply calls_abs (w0 := w); (repeat (first | with_reducible apply Sx.alloc | with_reducible apply Sx.drew | with_reducible apply Sx.drewN | with_reducible exact hS)); intro wx hS2; clear hS; have hS := hS2; clear hS2; (try simp only [World.size_alloc, World.size_drew] at hS); refine (HPa.out _ hS.f3).mono ?_; rintro e wn ⟨g2, rfl, hB, h2⟩; replace hS := Sx.callF (f := codeF (some ⟨g2, 0, none⟩) (Img.invert l)) hB (h2.at_) hS; clear hB; clear hc; have hc := hS.cellsL; simp only [CellsL, CellsF, Nat.zero_add, Nat.reduceAdd, and_true, true_and] at hc; simp only [hb1] at hS hc; obtain ⟨b2, hb2⟩ : ∃ q, wn.heap.size = q := ⟨_, rfl⟩; simp only [hb2] at hc) | (go_at_call 20; have _t := T3; clear T3 _t; apply calls_abs (w0 := w); (repeat (first | with_reducible apply Sx.alloc | with_reducible apply Sx.drew | with_reducible apply Sx.drewN | with_reducible exact hS)); intro wx hS2; clear hS; have hS := hS2; clear hS2; (try simp only [World.size_alloc, World.size_drew] at hS); refine (HQb.out _ hS.f5).mono ?_; rintro e wn ⟨g3, rfl, hB, h3⟩; replace hS := Sx.callF (f := codeF (some ⟨g3, 0, none⟩) (Img.invert l')) hB (h3.at_) hS; clear hB; clear hc; have hc := hS.cellsL; simp only [CellsL, CellsF, Nat.zero_add, Nat.reduceAdd, and_true, true_and] at hc; simp only [hb2] at hS hc; obtain ⟨b3, hb3⟩ : ∃ q, wn.heap.size = q := ⟨_, rfl⟩; simp only [hb3] at hc))
    apply wp_abs (w0 := w)
    · (repeat (first | with_reducible apply Sx.alloc | with_reducible apply Sx.drew | with_reducible apply Sx.drewN | with_reducible exact hS))
    intro wx hS2; clear hS; have hS := hS2; clear hS2; (try simp only [World.size_alloc, World.size_drew] at hS)
    clear hc; have hc := hS.cellsL; simp only [CellsL, CellsF, Nat.zero_add, Nat.reduceAdd, and_true, true_and] at hc
    simp only [hb3] at hS hc
    clear hb1 hb2 hb3 HX HPa HQb h1 h2 h3
    obtain ⟨ws, hws⟩ : ∃ ws : World, ws = wx := ⟨_, rfl⟩
    rw [← hws] at hS hc ⊢
    clear hws
    have HK := Lib.hid (show ∀ wx, Below ws.heap.size ws wx → (wx.cell? ⟨b3, 0, none⟩ = some (Value.slice (some ⟨g3, 0, none⟩) l'.length l'.length) ∧ wx.cell? ⟨b3, 1, none⟩ = some (Value.int .i64 mem') ∧ wx.cell? ⟨b3, 2, none⟩ = some (Value.int .i64 st') ∧ wx.cell? ⟨b2, 0, none⟩ = some (Value.slice (some ⟨g2, 0, none⟩) l.length l.length) ∧ wx.cell? ⟨b2, 1, none⟩ = some (Value.int .i64 mem) ∧ wx.cell? ⟨b2, 2, none⟩ = some (Value.int .i64 st) ∧ wx.cell? ⟨w.heap.size + 1, 0, none⟩ = some (Value.slice A' l'.length cap') ∧ wx.cell? ⟨w.heap.size + 1, 1, none⟩ = some (Value.int .i64 mem') ∧ wx.cell? ⟨w.heap.size + 1, 2, none⟩ = some (Value.int .i64 st') ∧ wx.cell? ⟨w.heap.size, 0, none⟩ = some (Value.slice A l.length cap) ∧ wx.cell? ⟨w.heap.size, 1, none⟩ = some (Value.int .i64 mem) ∧ wx.cell? ⟨w.heap.size, 2, none⟩ = some (Value.int .i64 st) ∧ Below ws.heap.size ws wx) from fun wx hb => by
      have c := (Sx.call hb hS).cellsL
      simp only [CellsL, CellsF, Nat.zero_add, Nat.reduceAdd, and_true, true_and] at c
      simp [c, hb])
    have hH0 := HK.out _ (Below.refl _ _)
    have HB0 := Lib.hid (Nat.le_refl ws.heap.size)
    have HB1 := Lib.hid (show ws.heap.size ≤ ws.heap.size + 1 by omega)
    have HRd := Lib.hid (show ∀ wx, Below ws.heap.size ws wx → Reads wx ws.heap.size 5 (some ⟨g3, 0, none⟩) l'.length (codeL (Img.invert l')) from fun wx hb => CRow.rdB hS.f1 (Img.inv_length l') hb)
    have HP2 := Lib.hid (show CodeAt ws (some ⟨g2, 0, none⟩) (Img.invert l) from hS.f2)
    have HSH := Lib.hid (fun wx h => shifted_ex (Img.invert l) (some ⟨g2, 0, none⟩) l.length l'.length (by have := (show (Img.invert l).length = l.length from (Img.inv_length l)); omega) (by omega) (ok_tg (Img.Ok.mirror hOk.out)) l.length (Img.inv_length l) wx h)
    have Q1 := Lib.hid (show 0 + l'.length ≤ maxLen by unfold maxLen; omega)
    have Q2 := Lib.hid (show (0 + l'.length) * 40 ≤ 140737488355328 by omega)
    have Q3 := Lib.hid (show l'.length + l.length ≤ maxLen by unfold maxLen; omega)
    have Q4 := Lib.hid (show (l'.length + l.length) * 40 ≤ 140737488355328 by omega)
    have T1 : True := trivial
    go_cut [12] (fun s wx => ∃ g A1 c1, s = .pointer (some ⟨g, 0, none⟩) ∧ Sx w ((g, 24, #[.slice A1 (l'.length + l.length) c1, .int .i64 mem, .int .i64 st]) :: [(b3, 24, #[.slice (some ⟨g3, 0, none⟩) l'.length l'.length, .int .i64 mem', .int .i64 st']), (b2, 24, #[.slice (some ⟨g2, 0, none⟩) l.length l.length, .int .i64 mem, .int .i64 st]), (b1, 24, #[.slice (some ⟨g1, 0, none⟩) (l.length + l'.length) (l.length + l'.length), .int .i64 mem, .int .i64 st]), (gx, 24, #[.slice Agx (l.length + l'.length) cgx, .int .i64 mem, .int .i64 st]), (w.heap.size + 1, 24, #[.slice A' l'.length cap', .int .i64 mem', .int .i64 st']), (w.heap.size, 24, #[.slice A l.length cap, .int .i64 mem, .int .i64 st])]) (codeF A1 ((Img.invert l') ++ Img.shl (Img.invert l) l'.length) :: [codeF (some ⟨g3, 0, none⟩) (Img.invert l'), codeF (some ⟨g2, 0, none⟩) (Img.invert l), codeF (some ⟨g1, 0, none⟩) (Img.invert (l ++ Img.shl l' l.length)), codeF Agx (l ++ Img.shl l' l.length), codeF A l, codeF A' l']) wx)
    case first =>
      go_region_held3 (fun wx => wx.cell? ⟨b3, 0, none⟩ = some (Value.slice (some ⟨g3, 0, none⟩) l'.length l'.length) ∧ wx.cell? ⟨b3, 1, none⟩ = some (Value.int .i64 mem') ∧ wx.cell? ⟨b3, 2, none⟩ = some (Value.int .i64 st') ∧ wx.cell? ⟨b2, 0, none⟩ = some (Value.slice (some ⟨g2, 0, none⟩) l.length l.length) ∧ wx.cell? ⟨b2, 1, none⟩ = some (Value.int .i64 mem) ∧ wx.cell? ⟨b2, 2, none⟩ = some (Value.int .i64 st) ∧ wx.cell? ⟨w.heap.size + 1, 0, none⟩ = some (Value.slice A' l'.length cap') ∧ wx.cell? ⟨w.heap.size + 1, 1, none⟩ = some (Value.int .i64 mem') ∧ wx.cell? ⟨w.heap.size + 1, 2, none⟩ = some (Value.int .i64 st') ∧ wx.cell? ⟨w.heap.size, 0, none⟩ = some (Value.slice A l.length cap) ∧ wx.cell? ⟨w.heap.size, 1, none⟩ = some (Value.int .i64 mem) ∧ wx.cell? ⟨w.heap.size, 2, none⟩ = some (Value.int .i64 st) ∧ Below ws.heap.size ws wx) ((refine HK.out _ ?_; repeat (first | exact hB1 | exact Below.refl _ _ | with_reducible apply below_drew' | with_reducible apply below_alloc' | with_reducible apply below_set' | exact Nat.le_refl _ | exact HB1.out | exact hbg | exact Below.size hB1))) ((first | (have _t := T1; clear T1 _t; (refine step_append_any _ (by rfl) _ _ _ (by rfl) ws.heap.size 38 i0 (.agg #[.int .u8 0, .int .i64 0, .int .i64 0, .int .i64 0, .int .i64 0]) 5 40 Try.underlying22 hi hz0 hz1 hz2 rfl (by decide) (.slice (some ⟨_, 0, none⟩) 0 0) 0 [] (by rfl) (by first | exact (own_empty (Below.refl _ _) _ _).drew | exact ((own_empty (Below.refl _ _) _ _).alloc _).drew | exact (own_empty1 _ _ _).drew) ws.heap.size (some ⟨g3, 0, none⟩) l'.length l'.length (codeL (Img.invert l')) (by rfl) (HRd.out _ (by repeat (first | exact hB1 | exact Below.refl _ _ | with_reducible apply below_drew' | with_reducible apply below_alloc' | with_reducible apply below_set' | exact Nat.le_refl _ | exact HB1.out | exact hbg | exact Below.size hB1))) (codeL_one (Img.invert l')) Q1.out Q2.out (Below.size (show Below ws.heap.size ws _ by repeat (first | exact hB1 | exact Below.refl _ _ | with_reducible apply below_drew' | with_reducible apply below_alloc' | with_reducible apply below_set' | exact Nat.le_refl _ | exact HB1.out | exact hbg | exact Below.size hB1))) ?_); intro v1 w1 hown1 hgrow hat; have hB1 : Below ws.heap.size ws w1 := Below.grown (show Below ws.heap.size ws _ by repeat (first | exact hB1 | exact Below.refl _ _ | with_reducible apply below_drew' | with_reducible apply below_alloc' | with_reducible apply below_set' | exact Nat.le_refl _ | exact HB1.out | exact hbg | exact Below.size hB1)) hgrow (Below.size (show Below ws.heap.size ws _ by repeat (first | exact hB1 | exact Below.refl _ _ | with_reducible apply below_drew' | with_reducible apply below_alloc' | with_reducible apply below_set' | exact Nat.le_refl _ | exact HB1.out | exact hbg | exact Below.size hB1))) (by intro k hk; first | (injection hk with hk; rw [← hk]; first | exact Nat.le_refl _ | exact HB1.out | (simp; done)) | skip); obtain ⟨X1, y1, rfl⟩ := own_slice' hown1; (try (have hbx := Blk.grown (g := ws.heap.size) (t := 24) (cs := #[.slice none 0 0, .int .i64 0, .int .i64 0]) ((Blk.new _ _ _).alloc _).drew hgrow (by simp [Value.ownBlock]); have hbg := HB0.out)); (try (have hbx := Blk.grown (g := ws.heap.size + 1) (t := 24) (cs := #[.slice none 0 0, .int .i64 0, .int .i64 0]) (Blk.new1 (w0 := ws) _ _ (by simp)).drew hgrow (by simp [Value.ownBlock]); have hbg := HB1.out)); simp only [Nat.zero_add, List.nil_append] at hown1; clear hgrow hat; have T2 := trivial) | (go_at_call 26; refine (HSH.out _ (CodeAt.after (show Below ws.heap.size ws _ by repeat (first | exact hB1 | exact Below.refl _ _ | with_reducible apply below_drew' | with_reducible apply below_alloc' | with_reducible apply below_set' | exact Nat.le_refl _ | exact HB1.out | exact hbg | exact Below.size hB1)) HP2.out)).mono ?_; rintro e wc ⟨X2, y2, rfl, hB2, hC2⟩; have hB0 := hB1; have hown2 : wc.ownsRow ws.heap.size 38 5 (.slice X1 l'.length y1) l'.length (codeL (Img.invert l')) := (by first | exact (CRow.keep hown1 hB2) | exact (CRow.keep (World.ownsRow.alloc hown1 _) hB2)); have hB1 : Below ws.heap.size ws wc := below_call' (show Below ws.heap.size ws _ by repeat (first | exact hB1 | exact Below.refl _ _ | with_reducible apply below_drew' | with_reducible apply below_alloc' | with_reducible apply below_set' | exact Nat.le_refl _ | exact HB1.out | exact hbg | exact Below.size hB1)) hB2; (try (have hbx := Blk.after hB2 hbx)); (try (have hbx := Blk.after hB2 (Blk.new w1 24 #[.slice none 0 0, .int .i64 0, .int .i64 0]); have hbg := Below.size hB0)); clear hB2 hown1) | (have _t := T2; clear T2 _t; (refine step_append_any _ (by rfl) _ _ _ (by rfl) ws.heap.size 38 i0 (.agg #[.int .u8 0, .int .i64 0, .int .i64 0, .int .i64 0, .int .i64 0]) 5 40 Try.underlying22 hi hz0 hz1 hz2 rfl (by decide) (.slice X1 l'.length y1) l'.length (codeL (Img.invert l')) (by rfl) (by first | exact hown2 | exact World.ownsRow.alloc hown2 _) wc.heap.size X2 l.length y2 (codeL (Img.shl (Img.invert l) l'.length)) (by rfl) (by first | exact (CRow.rd hC2 (Img.inv_length l)) | exact ((CRow.rd hC2 (Img.inv_length l)).alloc (Nat.le_refl _) _)) (codeL_one _) Q3.out Q4.out (Below.size (show Below ws.heap.size ws _ by repeat (first | exact hB1 | exact Below.refl _ _ | with_reducible apply below_drew' | with_reducible apply below_alloc' | with_reducible apply below_set' | exact Nat.le_refl _ | exact HB1.out | exact hbg | exact Below.size hB1))) ?_); intro v3 w3 hown3 hgrow3 hat3; have hB3 : Below ws.heap.size ws w3 := Below.grown (show Below ws.heap.size ws _ by repeat (first | exact hB1 | exact Below.refl _ _ | with_reducible apply below_drew' | with_reducible apply below_alloc' | with_reducible apply below_set' | exact Nat.le_refl _ | exact HB1.out | exact hbg | exact Below.size hB1)) hgrow3 (Below.size (show Below ws.heap.size ws _ by repeat (first | exact hB1 | exact Below.refl _ _ | with_reducible apply below_drew' | with_reducible apply below_alloc' | with_reducible apply below_set' | exact Nat.le_refl _ | exact HB1.out | exact hbg | exact Below.size hB1))) (fun k hk => (World.ownsRow.lt hown2 k hk).1); (first | (have hbx3 := Blk.grown hbx hgrow3 (Ne.symm (own_blk_ne hown2 hbx (by decide))); obtain ⟨z0, z1, z2, zf0, zf1, zf2⟩ := Blk.cells3 hbx3) | (have hbx3 := Blk.grown (Blk.alloc hbx _) hgrow3 (Ne.symm (own_blk_ne (World.ownsRow.alloc hown2 _) (Blk.alloc hbx _) (by decide))); obtain ⟨z0, z1, z2, zf0, zf1, zf2⟩ := Blk.cells3 hbx3) | (have hbx3 := Blk.grown (Blk.new wc 24 #[.slice none 0 0, .int .i64 0, .int .i64 0]) hgrow3 (Ne.symm (own_blk_ne (World.ownsRow.alloc hown2 _) (Blk.new wc 24 #[.slice none 0 0, .int .i64 0, .int .i64 0]) (by decide))); obtain ⟨z0, z1, z2, zf0, zf1, zf2⟩ := Blk.cells3 hbx3; have hbg := Below.size hB1) | skip); clear hB1; have hB1 := hB3; obtain ⟨X3, y3, rfl⟩ := own_slice' hown3; (try clear hat3); (try clear hgrow3))))
      all_goals have hL3 := Lib.hid (show ((Img.invert l') ++ Img.shl (Img.invert l) l'.length).length = l'.length + l.length by have e1 := (show (Img.invert l').length = l'.length from (Img.inv_length l')); have e2 := (show (Img.invert l).length = l.length from (Img.inv_length l)); rw [List.length_append, Img.shl_length, e1, e2])
      all_goals rw [← codeL_app] at hown3
      all_goals go_wp2_with fail
      all_goals go_meet
      all_goals first | exact ⟨_, _, _, rfl, join_copy hS hB3 hbx3 hbg hL3.out hown3⟩ | exact ⟨_, _, _, rfl, join_copy3 hS hB3 hL3.out hown3 _ _⟩
    case rest =>
      obtain ⟨gz, Agz, cgz, rfl, hS2⟩ := hcut
      clear hS hc HK hH0 HB0 HB1 HRd Q1 Q2 Q3 Q4 HSH HP2 T1
      have hS := hS2
      clear hS2
      have hc := hS.cellsL
      simp only [CellsL, CellsF, Nat.zero_add, Nat.reduceAdd, and_true, true_and] at hc
      go_wp2_with (first | (go_at_call 25; apply calls_abs (w0 := w); (repeat (first | with_reducible apply Sx.alloc | with_reducible apply Sx.drew | with_reducible apply Sx.drewN | with_reducible exact hS)); intro wx hS2; clear hS; have hS := hS2; clear hS2; (try simp only [World.size_alloc, World.size_drew] at hS); refine (HVX.out _ hS.f5).mono ?_; rintro e wn ⟨rfl, hB⟩; replace hS := Sx.call hB hS; clear hB; clear hc; have hc := hS.cellsL; simp only [CellsL, CellsF, Nat.zero_add, Nat.reduceAdd, and_true, true_and] at hc) | (go_at_call 21; apply calls_abs (w0 := w); (repeat (first | with_reducible apply Sx.alloc | with_reducible apply Sx.drew | with_reducible apply Sx.drewN | with_reducible exact hS)); intro wx hS2; clear hS; have hS := hS2; clear hS2; (try simp only [World.size_alloc, World.size_drew] at hS); refine (HSM.out _ _ _ _ hS.f4 hS.f1).mono ?_; rintro e wn ⟨rfl, hB⟩; replace hS := Sx.call hB hS; clear hB; clear hc; have hc := hS.cellsL; simp only [CellsL, CellsF, Nat.zero_add, Nat.reduceAdd, and_true, true_and] at hc))
      go_ret
      exact ⟨rfl, hS.below⟩

end Go.Proofs.Yteonkfdmkgjpaaa
