/- The walks of the laws of layer 23: shifted, ImageJoin. -/
import Derived.Test.YteonkfdmkgjpaaaImgL5
import Derived.Test.YteonkfdmkgjpaaaCopy3
import Derived.Test.YteonkfdmkgjpaaaCopy2
import Derived.Deep.RegionHeld3
import Derived.Deep.DeepCutAuto
import Derived.BigQuiet
import Derived.Deep.QuietTactic
import Derived.BigRegion
import Derived.Deep.CutBlock
namespace Go.Proofs.Yteonkfdmkgjpaaa
open Go.RowKit
set_option linter.unusedVariables false
set_option linter.unusedSimpArgs false

/-- a row of code that the call owns, behind an append of one instruction whose box was made for it -/
theorem CRow.snoc {w10 : World} {base n : Nat} {v' : Value} {ls : List Ins} {x : Ins} (hn : n = ls.length) (hown : w10.ownsRow base 38 5 v' (n + 1) (codeL ls ++ [.int .u8 (x).op, .int .i64 (x).a, .int .i64 (x).b, .int .i64 (x).c, .int .i64 (x).d])) : CRow w10 base v' (ls ++ [x]) := by
  subst hn
  unfold CRow
  rw [List.length_append, List.length_singleton, ← codeL_append]
  exact hown
theorem CRow.below' {W W' : World} {base : Nat} {v : Value} {ls : List Ins} (h : CRow W base v ls) (hB : Below W.heap.size W W') : CRow W' base v ls := by
  refine h.kept (row := none) ⟨hB.os, hB.tape, hB.output, hB.size, fun k hk _ => hB.block k hk⟩ ?_
  cases v.ownBlock
  · exact .inl rfl
  · exact .inr (by simp)
abbrev rowF (base : Nat) (v : Value) (ls : List Ins) : WF := ⟨fun w => CRow w base v ls, fun _ _ hB h => CRow.below' h hB⟩
theorem far_row {g base : Nat} {v : Value} {ls : List Ins} (h : v.ownBlock ≠ some g) : Far g (rowF base v ls) := by
  intro W p u hp hc
  exact CRow.far hc p (by rw [hp]; exact h) u
theorem Sx.grown {w0 W W' : World} {L : List (Nat × TypeId × Array Value)} {F : List WF} {row : Option Nat} (h : St w0 L W) (hg : W.grownBy W' row) (hr : ∀ k, row = some k → w0.heap.size ≤ k) (hL : ∀ x ∈ L, some x.1 ≠ row) (hF : ∀ f ∈ F, f.1 W') : Sx w0 L F W' :=
  ⟨St.grown h hg hr hL, hF⟩
theorem tk_next (l : List Ins) (k : Nat) (hlt : k < l.length) (by_ : Int) : Img.shl (l.take (k + 1)) by_ = Img.shl (l.take k) by_ ++ [Img.sh by_ (Img.at_ l k)] := by
  rw [List.take_succ_eq_append_getElem hlt]
  unfold Img.shl
  rw [List.map_append]
  congr 2
  unfold Img.at_
  rw [List.getD_eq_getElem?_getD, List.getElem?_eq_getElem hlt]
  rfl
set_option maxHeartbeats 8000000 in
set_option maxRecDepth 100000 in
theorem shifted_any (l : List Ins) (A : Option Addr) (cap : Nat) (by_ : Nat) (w : World) (hn0 : l.length ≤ 65536) (hby : by_ ≤ 65536) (htg : ∀ k, k < l.length → Img.has (Img.at_ l k) = true → 0 ≤ Img.tg (Img.at_ l k) ∧ Img.tg (Img.at_ l k) ≤ 65536) (hA : CodeAt w A l) :
    Calls Try.prog 26 #[.slice A l.length cap, .int .i64 by_] w fun e w' => ∃ v, e = .returned v ∧ Below w.heap.size w w' ∧ CRow w' w.heap.size v (Img.shl l by_) := by
  obtain ⟨i0, hi, hz0, hz1, hz2⟩ := info_parts info_instr
  have Htg := Lib.hid htg
  clear htg
  have hS : Sx w [] [] w :=  (Sx.start (F := []) w (fun _ h => by cases h))
  have hc : True := trivial
  go_enter Try.func26, Try.ntmps26
  go_wp2
  go_loopw [5, 12] (fun v s wr => ∃ k : Nat, k ≤ l.length ∧ s = .int .i64 k ∧ Sx w [] [rowF w.heap.size v (Img.shl (l.take k) by_)] wr) (fun _ s _ => l.length - (intOf s).toNat)
  case atStart => exact ⟨0, Nat.zero_le _, rfl, Sx.add (f := rowF w.heap.size (.slice none 0 0) (Img.shl (l.take 0) by_)) (World.ownsRow_nil _ _ _ _) hS⟩
  case round =>
    clear hS hc
    obtain ⟨k, hk, rfl, hS⟩ := hrel
    have hc : True := trivial
    by_cases hlt : k < l.length
    · obtain ⟨b, o, rfl⟩ := hA.some (by omega)
      obtain ⟨hb, x0, x1, x2, x3, x4⟩ := CodeAt.cells (CodeAt.after hS.below hA) hlt
      have hl1 : (Img.shl (l.take k) by_).length = k := by rw [Img.shl_length, List.length_take]; omega
      have HST := Lib.hid (tk_next l k hlt by_)
      have htk := Htg.out k hlt
      obtain ⟨y, Hy⟩ : ∃ y, Hid (Img.sh by_ (Img.at_ l k) = y) := ⟨_, Lib.hid rfl⟩
      rw [Hy.out] at HST
      have hrow := World.ownsRow.lt hS.f1
      have hne : Hid (u5.ownBlock ≠ some wr.heap.size) := Lib.hid (fun e => by have := (hrow _ e).2; omega)
      have hwr := hS.1.1.size
      go_upto_region 5 with fail
      apply wp_abs (w0 := w)
      · (repeat (first | with_reducible apply Sx.alloc | with_reducible apply Sx.drew | with_reducible apply Sx.drewN | with_reducible exact hS))
      intro wx hS2; clear hS; have hS := hS2; clear hS2; (try simp only [World.size_alloc, World.size_drew] at hS)
      clear hc; have hc := hS.cellsL; simp only [CellsL, CellsF, Nat.zero_add, Nat.reduceAdd, and_true, true_and] at hc
      generalize wr.heap.size = gx at *
      clear x0 x1 x2 x3 x4 hb hrow
      have hls := Lib.hid hl1
      generalize Img.shl (l.take k) by_ = ls at *
      clear hl1
      cases hh : Img.has (Img.at_ l k)
      · have HT := Lib.hid (target_ex (Img.at_ l k) _ false rfl hh)
        have hy : Img.at_ l k = y := by have := Hy.out; unfold Img.sh at this; rw [hh] at this; simpa using this
        rw [hy] at hS HT hc
        clear hh Hy hy htk
        go_upto_region 8 with (first | (go_at_call 33; apply calls_abs (w0 := w); (repeat (first | with_reducible apply Sx.alloc | with_reducible apply Sx.drew | with_reducible apply Sx.drewN | with_reducible exact hS)); intro wx hS2; clear hS; have hS := hS2; clear hS2; (try simp only [World.size_alloc, World.size_drew] at hS); refine (HT.out _).mono ?_; rintro e wn ⟨rfl, hB⟩; replace hS := Sx.call hB hS; clear hB; clear hc; have hc := hS.cellsL; simp only [CellsL, CellsF, Nat.zero_add, Nat.reduceAdd, and_true, true_and] at hc))
        have hown := hS.f1
        have hgx := hS.1.b1.lt
        have Q1 := Lib.hid (show ls.length + 1 ≤ maxLen by rw [hls.out]; unfold maxLen; omega)
        have Q2 := Lib.hid (show (ls.length + 1) * 40 ≤ 140737488355328 by rw [hls.out]; omega)
        have Q4 := Lib.hid (show ∀ u ∈ ([.int .u8 (y).op, .int .i64 (y).a, .int .i64 (y).b, .int .i64 (y).c, .int .i64 (y).d] : List Value), u.oneCell' = true from ins_oneCell y)
        obtain ⟨wz, hwz⟩ : ∃ wz : World, wz = wn := ⟨_, rfl⟩
        rw [← hwz] at hS hc hown hgx ⊢
        clear hwz
        have Q3 := Lib.hid (show ∀ o : Obj, w.heap.size ≤ (wz.alloc o).heap.size from fun o => by simp; omega)
        have Q5 := Lib.hid (show ∀ j u, ([.int .u8 (y).op, .int .i64 (y).a, .int .i64 (y).b, .int .i64 (y).c, .int .i64 (y).d] : List Value)[j]? = some u → (wz.alloc (.cells #[.int .u8 (y).op, .int .i64 (y).a, .int .i64 (y).b, .int .i64 (y).c, .int .i64 (y).d] 38)).cell? ((⟨wz.heap.size, 0, none⟩ : Addr).add j) = some u from cells5_from (Blk.new _ _ _))
        go_wp2_with (at_builtin; refine wpList_append_own _ rfl _ _ 22 rfl w.heap.size 38 i0 (.agg #[.int .u8 0, .int .i64 0, .int .i64 0, .int .i64 0, .int .i64 0]) 5 40 Try.underlying22 hi hz0 hz1 hz2 rfl (by decide) _ _ _ rfl (hown.alloc _) ⟨wz.heap.size, 0, none⟩ 1 1 [.int .u8 (y).op, .int .i64 (y).a, .int .i64 (y).b, .int .i64 (y).c, .int .i64 (y).d] rfl rfl Q5.out Q4.out Q1.out Q2.out (Q3.out _) ?_)
        intro v' w10 hownA hgrow _
        have hrA := CRow.snoc (x := y) rfl hownA
        rw [← HST.out] at hrA
        have hS10 : Sx w [] [rowF w.heap.size v' (Img.shl (l.take (k + 1)) by_)] w10 := Sx.grown (F := [rowF w.heap.size v' (Img.shl (l.take (k + 1)) by_)]) ((hS.1.tail).alloc #[.int .u8 (y).op, .int .i64 (y).a, .int .i64 (y).b, .int .i64 (y).c, .int .i64 (y).d] 38).tail hgrow (fun q hq => (World.ownsRow.lt hown q hq).1) (by intro z hz; cases hz) (by intro f hf; simp only [List.mem_cons, List.not_mem_nil, or_false] at hf; subst hf; exact hrA)
        clear hgrow hS hown Q1 Q2 Q3 Q4 Q5 hownA hrA hc
        go_wp2
        go_roundw
        case rel => exact ⟨k + 1, hlt, by go_num, hS10⟩
        case measure => simp [intOf] <;> omega
      · have HT := Lib.hid (target_ex (Img.at_ l k) _ true rfl hh)
        have ht0 := htk hh
        have HR := Lib.hid (retarget_ex (Img.at_ l k) y (Img.tg (Img.at_ l k) + by_) (by have := Hy.out; unfold Img.sh at this; rw [hh] at this; simpa using this))
        clear hh Hy htk
        generalize Img.at_ l k = x at *
        generalize Img.tg x = tx at *
        obtain ⟨t0, t1⟩ := ht0
        go_upto_region 8 with (first | (go_at_call 33; apply calls_abs (w0 := w); (repeat (first | with_reducible apply Sx.alloc | with_reducible apply Sx.drew | with_reducible apply Sx.drewN | with_reducible exact hS)); intro wx hS2; clear hS; have hS := hS2; clear hS2; (try simp only [World.size_alloc, World.size_drew] at hS); refine (HT.out _).mono ?_; rintro e wn ⟨rfl, hB⟩; replace hS := Sx.call hB hS; clear hB; clear hc; have hc := hS.cellsL; simp only [CellsL, CellsF, Nat.zero_add, Nat.reduceAdd, and_true, true_and] at hc) | (go_at_call 34; apply calls_abs (w0 := w); (repeat (first | with_reducible apply Sx.alloc | with_reducible apply Sx.drew | with_reducible apply Sx.drewN | with_reducible exact hS)); intro wx hS2; clear hS; have hS := hS2; clear hS2; (try simp only [World.size_alloc, World.size_drew] at hS); refine (HR.out _).mono ?_; rintro e wn ⟨rfl, hB⟩; replace hS := Sx.call hB hS; clear hB; clear hc; have hc := hS.cellsL; simp only [CellsL, CellsF, Nat.zero_add, Nat.reduceAdd, and_true, true_and] at hc))
        have hS9 := hS.set5 hwr (by intro z hz; cases hz) (by intro f hf; simp only [List.mem_cons, List.not_mem_nil, or_false] at hf; subst hf; exact far_row hne.out) (.int .u8 y.op) (.int .i64 y.a) (.int .i64 y.b) (.int .i64 y.c) (.int .i64 y.d)
        refine wp_abs hS9 ?_
        intro wx hS2; clear hS; have hS := hS2; clear hS2; (try simp only [World.size_alloc, World.size_drew] at hS)
        clear hc; have hc := hS.cellsL; simp only [CellsL, CellsF, Nat.zero_add, Nat.reduceAdd, and_true, true_and] at hc
        clear hS9
        have hown := hS.f1
        have hgx := hS.1.b1.lt
        have Q1 := Lib.hid (show ls.length + 1 ≤ maxLen by rw [hls.out]; unfold maxLen; omega)
        have Q2 := Lib.hid (show (ls.length + 1) * 40 ≤ 140737488355328 by rw [hls.out]; omega)
        have Q4 := Lib.hid (show ∀ u ∈ ([.int .u8 (y).op, .int .i64 (y).a, .int .i64 (y).b, .int .i64 (y).c, .int .i64 (y).d] : List Value), u.oneCell' = true from ins_oneCell y)
        obtain ⟨wz, hwz⟩ : ∃ wz : World, wz = wx := ⟨_, rfl⟩
        rw [← hwz] at hS hc hown hgx ⊢
        clear hwz
        have Q3 := Lib.hid (show ∀ o : Obj, w.heap.size ≤ (wz.alloc o).heap.size from fun o => by simp; omega)
        have Q5 := Lib.hid (show ∀ j u, ([.int .u8 (y).op, .int .i64 (y).a, .int .i64 (y).b, .int .i64 (y).c, .int .i64 (y).d] : List Value)[j]? = some u → (wz.alloc (.cells #[.int .u8 (y).op, .int .i64 (y).a, .int .i64 (y).b, .int .i64 (y).c, .int .i64 (y).d] 38)).cell? ((⟨wz.heap.size, 0, none⟩ : Addr).add j) = some u from cells5_from (Blk.new _ _ _))
        go_wp2_with (at_builtin; refine wpList_append_own _ rfl _ _ 22 rfl w.heap.size 38 i0 (.agg #[.int .u8 0, .int .i64 0, .int .i64 0, .int .i64 0, .int .i64 0]) 5 40 Try.underlying22 hi hz0 hz1 hz2 rfl (by decide) _ _ _ rfl (hown.alloc _) ⟨wz.heap.size, 0, none⟩ 1 1 [.int .u8 (y).op, .int .i64 (y).a, .int .i64 (y).b, .int .i64 (y).c, .int .i64 (y).d] rfl rfl Q5.out Q4.out Q1.out Q2.out (Q3.out _) ?_)
        intro v' w10 hownA hgrow _
        have hrA := CRow.snoc (x := y) rfl hownA
        rw [← HST.out] at hrA
        have hS10 : Sx w [] [rowF w.heap.size v' (Img.shl (l.take (k + 1)) by_)] w10 := Sx.grown (F := [rowF w.heap.size v' (Img.shl (l.take (k + 1)) by_)]) ((hS.1.tail).alloc #[.int .u8 (y).op, .int .i64 (y).a, .int .i64 (y).b, .int .i64 (y).c, .int .i64 (y).d] 38).tail hgrow (fun q hq => (World.ownsRow.lt hown q hq).1) (by intro z hz; cases hz) (by intro f hf; simp only [List.mem_cons, List.not_mem_nil, or_false] at hf; subst hf; exact hrA)
        clear hgrow hS hown Q1 Q2 Q3 Q4 Q5 hownA hrA hc
        go_wp2
        go_roundw
        case rel => exact ⟨k + 1, hlt, by go_num, hS10⟩
        case measure => simp [intOf] <;> omega
    · obtain rfl : k = l.length := by omega
      have hS2 := hS.f1
      rw [List.take_length] at hS2
      go_wp2
      go_ret
      exact ⟨_, rfl, hS.below, hS2⟩

end Go.Proofs.Yteonkfdmkgjpaaa
