/- Contracts of layer 32: kept. -/
import Derived.Test.YteonkfdmkgjpaaaPeeW1
import Derived.Test.YteonkfdmkgjpaaaImgL9
import Derived.WalkSmall
import Derived.Laws.OwnMore
import Derived.Deep.RegionHeld3
import Derived.Deep.DeepCutAuto
import Derived.BigQuiet
import Derived.Deep.QuietTactic
import Derived.BigRegion
import Derived.Deep.CutBlock
namespace Go.Proofs.Yteonkfdmkgjpaaa
open Go.RowKit
set_option linter.unusedVariables false
set_option linter.unusedSimpArgs false

abbrev nv (xs : List Nat) : List Value := xs.map fun (i : Nat) => Value.int .i64 (i : Int)
abbrev IRow (W : World) (base : Nat) (v : Value) (xs : List Nat) : Prop := W.ownsRow base 3 1 v xs.length (nv xs)
theorem IRow.below' {W W' : World} {base : Nat} {v : Value} {xs : List Nat} (h : IRow W base v xs) (hB : Below W.heap.size W W') : IRow W' base v xs := by
  refine h.kept (row := none) ⟨hB.os, hB.tape, hB.output, hB.size, fun k hk _ => hB.block k hk⟩ ?_
  cases v.ownBlock
  · exact .inl rfl
  · exact .inr (by simp)
abbrev irowF (base : Nat) (v : Value) (xs : List Nat) : WF := ⟨fun w => IRow w base v xs, fun _ _ hB h => IRow.below' h hB⟩
theorem IRow.snoc {w : World} {base : Nat} {v : Value} {xs : List Nat} {i : Nat} (h : w.ownsRow base 3 1 v (xs.length + 1) (nv xs ++ [.int .i64 (i : Int)])) : IRow w base v (xs ++ [i]) := by
  show w.ownsRow base _ 1 v (xs ++ [i]).length (nv (xs ++ [i]))
  rw [List.length_append, List.length_singleton]
  simpa [nv] using h
theorem IRow.pop {w : World} {base g cap : Nat} {xs : List Nat} {t : Nat} (h : IRow w base (.slice (some ⟨g, 0, none⟩) (xs ++ [t]).length cap) (xs ++ [t])) : IRow w base (.slice (some ⟨g, 0, none⟩) xs.length cap) xs := by
  have h2 : w.ownsRow base 3 1 (.slice (some ⟨g, 0, none⟩) (xs.length + 1) cap) (xs.length + 1) (nv xs ++ [.int .i64 (t : Int)]) := by simpa [IRow, nv] using h
  exact ownsRow_pop (by simp [nv]) h2
/-- the last of the stack: where it lies -/
theorem IRow.last {w : World} {base : Nat} {v : Value} {xs : List Nat} {t : Nat} (h : IRow w base v (xs ++ [t])) : ∃ g cap, v = .slice (some ⟨g, 0, none⟩) (xs.length + 1) cap ∧ xs.length + 1 ≤ cap ∧ cap ≤ maxLen ∧ base ≤ g ∧ g < w.heap.size ∧ w.cell? ⟨g, xs.length, none⟩ = some (.int .i64 (t : Int)) := by
  have h2 : w.ownsRow base 3 1 v (xs.length + 1) (nv xs ++ [.int .i64 (t : Int)]) := by simpa [IRow, nv] using h
  obtain ⟨h3, h4⟩ := h2
  rcases h4 with ⟨-, h0⟩ | ⟨g, cap, cur, rfl, hg, hh, hn, hcap, hsz, htake⟩
  · omega
  · have h2 : w.ownsRow base 3 1 (.slice (some ⟨g, 0, none⟩) (xs.length + 1) cap) (xs.length + 1) (nv xs ++ [.int .i64 (t : Int)]) := by simpa [IRow, nv] using h
    have hl := (h2.lt g rfl).2
    refine ⟨g, cap, rfl, hn, hcap, hg, hl, ?_⟩
    rw [h2.cellAt _ (by omega)]
    simp [nv]
namespace Pee
def stk (l : List Ins) (i : Nat) : List Nat := (kr l i).reverse
theorem stk_push {l : List Ins} {i : Nat} (h : kr l (i + 1) = i :: kr l i) : stk l (i + 1) = stk l i ++ [i] := by unfold stk; rw [h, List.reverse_cons]
theorem stk_len (l : List Ins) (i : Nat) : (stk l i).length ≤ i := by unfold stk; rw [List.length_reverse]; exact (kr_desc l i).len
end Pee
theorem pcancels_ex (a b : Ins) (q : Bool) (h : Pee.cancels a b = q) (w : World) : Calls Try.prog 38 #[.agg #[.int .u8 (a).op, .int .i64 (a).a, .int .i64 (a).b, .int .i64 (a).c, .int .i64 (a).d], .agg #[.int .u8 (b).op, .int .i64 (b).a, .int .i64 (b).b, .int .i64 (b).c, .int .i64 (b).d]] w fun e w' => e = .returned (.bool q) ∧ Below w.heap.size w w' := by
  subst h
  exact pcancels_any a b w

set_option maxHeartbeats 8000000 in
set_option maxRecDepth 100000 in
theorem kept_any (l : List Ins) (A : Option Addr) (cap : Nat) (w : World) (hn0 : l.length ≤ 65536) (hA : CodeAt w A l) :
    Calls Try.prog 63 #[.slice A l.length cap] w fun e w' => ∃ v, e = .returned v ∧ Below w.heap.size w w' ∧ IRow w' w.heap.size v (Pee.kept l) := by
  obtain ⟨i0, hi, hz0, hz1, hz2⟩ := info_parts info_int
  have hS : Sx w [] [] w :=  (Sx.start (F := []) w (fun _ h => by cases h))
  have hc : True := trivial
  go_enter Try.func63, Try.ntmps63
  go_wp2
  go_loopw [3, 9] (fun v s wr => ∃ k : Nat, k ≤ l.length ∧ s = .int .i64 k ∧ Sx w [] [irowF w.heap.size v (Pee.stk l k)] wr) (fun _ s _ => l.length - (intOf s).toNat)
  case atStart => exact ⟨0, Nat.zero_le _, rfl, Sx.add (f := irowF w.heap.size (.slice none 0 0) (Pee.stk l 0)) (World.ownsRow_nil _ _ _ _) hS⟩
  case round =>
    clear hS hc
    obtain ⟨k, hk, rfl, hS⟩ := hrel
    have hc : True := trivial
    by_cases hlt : k < l.length
    · obtain ⟨b, o, rfl⟩ := hA.some (by omega)
      obtain ⟨hb, x0, x1, x2, x3, x4⟩ := CodeAt.cells (CodeAt.after hS.below hA) hlt
      have hle := Pee.stk_len l k
      have hwr := hS.1.1.size
      go_upto_region 5 with fail
      apply wp_abs (w0 := w)
      · (repeat (first | with_reducible apply Sx.alloc | with_reducible apply Sx.drew | with_reducible apply Sx.drewN | with_reducible exact hS))
      intro wx hS2; clear hS; have hS := hS2; clear hS2; (try simp only [World.size_alloc, World.size_drew] at hS)
      clear hc; have hc := hS.cellsL; simp only [CellsL, CellsF, Nat.zero_add, Nat.reduceAdd, and_true, true_and] at hc
      obtain ⟨gx, hgx⟩ : ∃ q, wr.heap.size = q := ⟨_, rfl⟩
      simp only [hgx] at hS hc hb hwr ⊢
      clear x0 x1 x2 x3 x4 hgx
      obtain ⟨x, hx⟩ : ∃ x, Img.at_ l k = x := ⟨_, rfl⟩
      simp only [hx] at hS hc ⊢
      obtain ⟨wy, hwy⟩ : ∃ wy : World, wy = wx := ⟨_, rfl⟩
      rw [← hwy] at hS hc ⊢
      clear hwy
      have hown := hS.f1
      have hgz : gx < wy.heap.size := hS.1.b1.lt
      cases hkr : Pee.kr l k with
      | nil =>
        have hst : Pee.stk l k = [] := by unfold Pee.stk; rw [hkr]; rfl
        have HST := Lib.hid (Pee.stk_push (l := l) (i := k) (by rw [Pee.kr_nil hkr, hkr]))
        obtain ⟨A1, c1, rfl⟩ := own_slice' hown
        simp only [hst] at hown hS HST
        rw [hst]
        clear hst hkr hx
        simp only [List.length_nil] at hown hS ⊢
        go_upto_region 6 with fail
        go_quiet (fail)
        go_upto_region 8 with fail
        apply wp_abs (w0 := w)
        · (repeat (first | with_reducible apply Sx.alloc | with_reducible apply Sx.drew | with_reducible apply Sx.drewN | with_reducible exact hS))
        intro wx hS2; clear hS; have hS := hS2; clear hS2; (try simp only [World.size_alloc, World.size_drew] at hS)
        clear hc; have hc := hS.cellsL; simp only [CellsL, CellsF, Nat.zero_add, Nat.reduceAdd, and_true, true_and] at hc
        clear hown
        have hown := hS.f1
        obtain ⟨wz, hwz⟩ : ∃ wz : World, wz = wx := ⟨_, rfl⟩
        rw [← hwz] at hS hc hown ⊢
        clear hwz hc
        have hwz0 := hS.1.1.size
        have Q3 := Lib.hid (show ∀ o : Obj, w.heap.size ≤ (wz.alloc o).heap.size from fun o => by simp; omega)
        have Q5 := Lib.hid (show ∀ j u, ([.int .i64 (k : Int)] : List Value)[j]? = some u → (wz.alloc (.cells #[.int .i64 (k : Int)] 3)).cell? ((⟨wz.heap.size, 0, none⟩ : Addr).add j) = some u from by intro j u hj; cases j with | zero => simp at hj; subst hj; simp [Addr.add] | succ j => simp at hj)
        have Q1 := Lib.hid (show 0 + 1 ≤ maxLen by unfold maxLen; omega)
        have Q2 := Lib.hid (show (0 + 1) * 8 ≤ 140737488355328 by omega)
        go_wp2_with (at_builtin; refine wpList_append_own _ rfl _ _ 44 rfl w.heap.size 3 i0 (.int .i64 0) 1 8 Try.underlying44 hi hz0 hz1 hz2 rfl (by decide) _ 0 (nv []) rfl (hown.alloc _) ⟨wz.heap.size, 0, none⟩ 1 1 [.int .i64 (k : Int)] rfl rfl Q5.out (by intro u hu; simp at hu; subst hu; rfl) Q1.out Q2.out (Q3.out _) ?_)
        intro v' w10 hownA hgrow _
        have hrA : IRow w10 w.heap.size v' (Pee.stk l (k + 1)) := by rw [HST.out]; first | exact IRow.snoc hownA | (refine IRow.snoc ?_; rw [hln]; simpa [nv] using hownA)
        have hS10 : Sx w [] [irowF w.heap.size v' (Pee.stk l (k + 1))] w10 := Sx.grown (F := [irowF w.heap.size v' (Pee.stk l (k + 1))]) ((hS.1.tail).alloc #[.int .i64 (k : Int)] 3).tail hgrow (fun q hq => (World.ownsRow.lt hown q hq).1) (by intro z hz; cases hz) (by intro f hf; simp only [List.mem_cons, List.not_mem_nil, or_false] at hf; subst hf; exact hrA)
        clear hgrow hS hown Q1 Q2 Q3 Q5 hownA hrA
        go_wp2
        go_roundw
        case rel => exact ⟨k + 1, hlt, by go_num, hS10⟩
        case measure => simp [intOf] <;> omega
      | cons t s0 =>
        have hst : Pee.stk l k = s0.reverse ++ [t] := by unfold Pee.stk; rw [hkr, List.reverse_cons]
        have htk : t < k := by have := Pee.kr_desc l k; rw [hkr] at this; exact this.1
        have HPU := Lib.hid (show Pee.cancels (Img.at_ l t) x = false → Pee.stk l (k + 1) = (s0.reverse ++ [t]) ++ [k] from fun h => by rw [Pee.stk_push (by rw [Pee.kr_push hkr (by rw [hx]; exact h), hkr]), hst])
        have HPO := Lib.hid (show Pee.cancels (Img.at_ l t) x = true → Pee.stk l (k + 1) = s0.reverse from fun h => by unfold Pee.stk; rw [Pee.kr_pop hkr (by rw [hx]; exact h)])
        rw [hst] at hle
        simp only [hst] at hown hS
        clear hst hkr hx
        obtain ⟨y, hy⟩ : ∃ y, Img.at_ l t = y := ⟨_, rfl⟩
        have htl : t < l.length := by omega
        obtain ⟨hb', y0, y1, y2, y3, y4⟩ := CodeAt.cells (CodeAt.after hS.below hA) htl
        rw [hy] at HPU HPO y0 y1 y2 y3 y4
        generalize s0.reverse = s at *
        obtain ⟨g, c, rfl, hgc, hcm, hgw, hgy, hcl⟩ := IRow.last hown
        have hsl : s.length + 1 ≤ k := by simpa using hle
        obtain ⟨n0, hn⟩ : ∃ n0, s.length = n0 := ⟨_, rfl⟩
        obtain ⟨m, hm⟩ : ∃ m, n0 + 1 = m := ⟨_, rfl⟩
        simp only [hn, hm] at hS hgc hcl hsl ⊢
        have o0 : decide ((0 : Int) < (m : Int)) = true := decide_eq_true (by omega)
        have o1 : IntKind.i64.wrap ((m : Int) - 1) = (n0 : Int) := by rw [show (m : Int) - 1 = (n0 : Int) by omega]; exact Go.IntWalk.i64_in _ (by omega)
        have hln : (s ++ [t]).length = m := by simp [hn, hm]
        have o8 : n0 ≤ c := by omega
        have o9 : (n0 : Int) ≤ (c : Int) := by omega
        have o6 : 0 < m := by omega
        have o7 : decide (0 < m) = true := decide_eq_true o6
        have o2 : (0 : Int) ≤ (n0 : Int) := by omega
        have o3 : (n0 : Int) < (m : Int) := by omega
        have o4 : (0 : Int) ≤ (t : Int) := by omega
        have o5 : (t : Int) < (l.length : Int) := by omega
        have HS2 := Lib.hid (show Sx w [(gx, 38, #[.int .u8 (x).op, .int .i64 (x).a, .int .i64 (x).b, .int .i64 (x).c, .int .i64 (x).d])] [irowF w.heap.size (.slice (some ⟨g, 0, none⟩) m c) (s ++ [t])] wy from hS)
        have HB := Lib.hid (show ∀ wx : World, Sx w [(gx, 38, #[.int .u8 (x).op, .int .i64 (x).a, .int .i64 (x).b, .int .i64 (x).c, .int .i64 (x).d])] [irowF w.heap.size (.slice (some ⟨g, 0, none⟩) m c) (s ++ [t])] wx → (wx.cell? ⟨gx, 0, none⟩ = some (Value.int .u8 (x).op) ∧ wx.cell? ⟨gx, 1, none⟩ = some (Value.int .i64 (x).a) ∧ wx.cell? ⟨gx, 2, none⟩ = some (Value.int .i64 (x).b) ∧ wx.cell? ⟨gx, 3, none⟩ = some (Value.int .i64 (x).c) ∧ wx.cell? ⟨gx, 4, none⟩ = some (Value.int .i64 (x).d) ∧ wx.cell? ⟨g, n0, none⟩ = some (Value.int .i64 (t : Int)) ∧ wx.cell? ⟨b, o + t * 5, none⟩ = some (Value.int .u8 (y).op) ∧ wx.cell? ⟨b, o + t * 5 + 1, none⟩ = some (Value.int .i64 (y).a) ∧ wx.cell? ⟨b, o + t * 5 + 2, none⟩ = some (Value.int .i64 (y).b) ∧ wx.cell? ⟨b, o + t * 5 + 3, none⟩ = some (Value.int .i64 (y).c) ∧ wx.cell? ⟨b, o + t * 5 + 4, none⟩ = some (Value.int .i64 (y).d) ∧ Sx w [(gx, 38, #[.int .u8 (x).op, .int .i64 (x).a, .int .i64 (x).b, .int .i64 (x).c, .int .i64 (x).d])] [irowF w.heap.size (.slice (some ⟨g, 0, none⟩) m c) (s ++ [t])] wx) from fun wx h => by
          have c := h.cellsL
          simp only [CellsL, CellsF, Nat.zero_add, Nat.reduceAdd, and_true, true_and] at c
          obtain ⟨g2, c2, e2, -, -, -, -, q⟩ := IRow.last h.f1
          rw [hn] at q
          obtain ⟨-, z0, z1, z2, z3, z4⟩ := CodeAt.cells (CodeAt.after h.below hA) htl
          rw [hy] at z0 z1 z2 z3 z4
          cases e2
          simp [c, q, z0, z1, z2, z3, z4, h])
        have HK2 := HB
        have HKO := Lib.hid (fun (wx : World) (h : wx.cell? ⟨gx, 0, none⟩ = some (Value.int .u8 (x).op) ∧ wx.cell? ⟨gx, 1, none⟩ = some (Value.int .i64 (x).a) ∧ wx.cell? ⟨gx, 2, none⟩ = some (Value.int .i64 (x).b) ∧ wx.cell? ⟨gx, 3, none⟩ = some (Value.int .i64 (x).c) ∧ wx.cell? ⟨gx, 4, none⟩ = some (Value.int .i64 (x).d) ∧ wx.cell? ⟨g, n0, none⟩ = some (Value.int .i64 (t : Int)) ∧ wx.cell? ⟨b, o + t * 5, none⟩ = some (Value.int .u8 (y).op) ∧ wx.cell? ⟨b, o + t * 5 + 1, none⟩ = some (Value.int .i64 (y).a) ∧ wx.cell? ⟨b, o + t * 5 + 2, none⟩ = some (Value.int .i64 (y).b) ∧ wx.cell? ⟨b, o + t * 5 + 3, none⟩ = some (Value.int .i64 (y).c) ∧ wx.cell? ⟨b, o + t * 5 + 4, none⟩ = some (Value.int .i64 (y).d) ∧ Sx w [(gx, 38, #[.int .u8 (x).op, .int .i64 (x).a, .int .i64 (x).b, .int .i64 (x).c, .int .i64 (x).d])] [irowF w.heap.size (.slice (some ⟨g, 0, none⟩) m c) (s ++ [t])] wx) => (show Sx w [(gx, 38, #[.int .u8 (x).op, .int .i64 (x).a, .int .i64 (x).b, .int .i64 (x).c, .int .i64 (x).d])] [irowF w.heap.size (.slice (some ⟨g, 0, none⟩) m c) (s ++ [t])] wx from h.2.2.2.2.2.2.2.2.2.2.2))
        cases hq : Pee.cancels y x
        · have HC := Lib.hid (pcancels_ex y x false hq)
          have HST := Lib.hid (HPU.out hq)
          clear HPU HPO hq hown hy
          go_upto_region 6 with fail
          have hH := HK2.out _ hS
          go_region_held3 (fun wx => wx.cell? ⟨gx, 0, none⟩ = some (Value.int .u8 (x).op) ∧ wx.cell? ⟨gx, 1, none⟩ = some (Value.int .i64 (x).a) ∧ wx.cell? ⟨gx, 2, none⟩ = some (Value.int .i64 (x).b) ∧ wx.cell? ⟨gx, 3, none⟩ = some (Value.int .i64 (x).c) ∧ wx.cell? ⟨gx, 4, none⟩ = some (Value.int .i64 (x).d) ∧ wx.cell? ⟨g, n0, none⟩ = some (Value.int .i64 (t : Int)) ∧ wx.cell? ⟨b, o + t * 5, none⟩ = some (Value.int .u8 (y).op) ∧ wx.cell? ⟨b, o + t * 5 + 1, none⟩ = some (Value.int .i64 (y).a) ∧ wx.cell? ⟨b, o + t * 5 + 2, none⟩ = some (Value.int .i64 (y).b) ∧ wx.cell? ⟨b, o + t * 5 + 3, none⟩ = some (Value.int .i64 (y).c) ∧ wx.cell? ⟨b, o + t * 5 + 4, none⟩ = some (Value.int .i64 (y).d) ∧ Sx w [(gx, 38, #[.int .u8 (x).op, .int .i64 (x).a, .int .i64 (x).b, .int .i64 (x).c, .int .i64 (x).d])] [irowF w.heap.size (.slice (some ⟨g, 0, none⟩) m c) (s ++ [t])] wx) (first | exact HK2.out _ (Sx.drew (by assumption)) | exact HK2.out _ (by assumption)) (first | (go_at_call 38; have hS9 : Sx w [(gx, 38, #[.int .u8 (x).op, .int .i64 (x).a, .int .i64 (x).b, .int .i64 (x).c, .int .i64 (x).d])] [irowF w.heap.size (.slice (some ⟨g, 0, none⟩) m c) (s ++ [t])] _ := (HKO.out _ (by assumption)); with_reducible refine (HC.out _).mono ?_; rintro e wn ⟨rfl, hB⟩; have hS8 := Sx.call hB hS9; clear hB))
          have hS := hS8
          have hc : True := trivial
          have hown := hS
          clear hS8
          go_upto_region 8 with fail
          apply wp_abs (w0 := w)
          · (repeat (first | with_reducible apply Sx.alloc | with_reducible apply Sx.drew | with_reducible apply Sx.drewN | with_reducible exact hS))
          intro wx hS2; clear hS; have hS := hS2; clear hS2; (try simp only [World.size_alloc, World.size_drew] at hS)
          clear hc; have hc := hS.cellsL; simp only [CellsL, CellsF, Nat.zero_add, Nat.reduceAdd, and_true, true_and] at hc
          clear hown
          have hown := hS.f1
          obtain ⟨wz, hwz⟩ : ∃ wz : World, wz = wx := ⟨_, rfl⟩
          rw [← hwz] at hS hc hown ⊢
          clear hwz hc
          have hwz0 := hS.1.1.size
          have Q3 := Lib.hid (show ∀ o : Obj, w.heap.size ≤ (wz.alloc o).heap.size from fun o => by simp; omega)
          have Q5 := Lib.hid (show ∀ j u, ([.int .i64 (k : Int)] : List Value)[j]? = some u → (wz.alloc (.cells #[.int .i64 (k : Int)] 3)).cell? ((⟨wz.heap.size, 0, none⟩ : Addr).add j) = some u from by intro j u hj; cases j with | zero => simp at hj; subst hj; simp [Addr.add] | succ j => simp at hj)
          have Q1 := Lib.hid (show (s ++ [t]).length + 1 ≤ maxLen by unfold maxLen; omega)
          have Q2 := Lib.hid (show ((s ++ [t]).length + 1) * 8 ≤ 140737488355328 by omega)
          go_wp2_with (at_builtin; refine wpList_append_own _ rfl _ _ 44 rfl w.heap.size 3 i0 (.int .i64 0) 1 8 Try.underlying44 hi hz0 hz1 hz2 rfl (by decide) _ (s ++ [t]).length (nv (s ++ [t])) rfl (hown.alloc _) ⟨wz.heap.size, 0, none⟩ 1 1 [.int .i64 (k : Int)] rfl rfl Q5.out (by intro u hu; simp at hu; subst hu; rfl) Q1.out Q2.out (Q3.out _) ?_)
          intro v' w10 hownA hgrow _
          have hrA : IRow w10 w.heap.size v' (Pee.stk l (k + 1)) := by rw [HST.out]; first | exact IRow.snoc hownA | (refine IRow.snoc ?_; rw [hln]; simpa [nv] using hownA)
          have hS10 : Sx w [] [irowF w.heap.size v' (Pee.stk l (k + 1))] w10 := Sx.grown (F := [irowF w.heap.size v' (Pee.stk l (k + 1))]) ((hS.1.tail).alloc #[.int .i64 (k : Int)] 3).tail hgrow (fun q hq => (World.ownsRow.lt hown q hq).1) (by intro z hz; cases hz) (by intro f hf; simp only [List.mem_cons, List.not_mem_nil, or_false] at hf; subst hf; exact hrA)
          clear hgrow hS hown Q1 Q2 Q3 Q5 hownA hrA
          go_wp2
          go_roundw
          case rel => exact ⟨k + 1, hlt, by go_num, hS10⟩
          case measure => simp [intOf] <;> omega
        · have HC := Lib.hid (pcancels_ex y x true hq)
          have HST := Lib.hid (HPO.out hq)
          clear HPU HPO hq hown hy
          go_upto_region 6 with fail
          have hH := HK2.out _ hS
          go_region_held3 (fun wx => wx.cell? ⟨gx, 0, none⟩ = some (Value.int .u8 (x).op) ∧ wx.cell? ⟨gx, 1, none⟩ = some (Value.int .i64 (x).a) ∧ wx.cell? ⟨gx, 2, none⟩ = some (Value.int .i64 (x).b) ∧ wx.cell? ⟨gx, 3, none⟩ = some (Value.int .i64 (x).c) ∧ wx.cell? ⟨gx, 4, none⟩ = some (Value.int .i64 (x).d) ∧ wx.cell? ⟨g, n0, none⟩ = some (Value.int .i64 (t : Int)) ∧ wx.cell? ⟨b, o + t * 5, none⟩ = some (Value.int .u8 (y).op) ∧ wx.cell? ⟨b, o + t * 5 + 1, none⟩ = some (Value.int .i64 (y).a) ∧ wx.cell? ⟨b, o + t * 5 + 2, none⟩ = some (Value.int .i64 (y).b) ∧ wx.cell? ⟨b, o + t * 5 + 3, none⟩ = some (Value.int .i64 (y).c) ∧ wx.cell? ⟨b, o + t * 5 + 4, none⟩ = some (Value.int .i64 (y).d) ∧ Sx w [(gx, 38, #[.int .u8 (x).op, .int .i64 (x).a, .int .i64 (x).b, .int .i64 (x).c, .int .i64 (x).d])] [irowF w.heap.size (.slice (some ⟨g, 0, none⟩) m c) (s ++ [t])] wx) (first | exact HK2.out _ (Sx.drew (by assumption)) | exact HK2.out _ (by assumption)) (first | (go_at_call 38; have hS9 : Sx w [(gx, 38, #[.int .u8 (x).op, .int .i64 (x).a, .int .i64 (x).b, .int .i64 (x).c, .int .i64 (x).d])] [irowF w.heap.size (.slice (some ⟨g, 0, none⟩) m c) (s ++ [t])] _ := (HKO.out _ (by assumption)); with_reducible refine (HC.out _).mono ?_; rintro e wn ⟨rfl, hB⟩; have hS8 := Sx.call hB hS9; clear hB))
          have hS10 := hS8.f1
          have hS11 : Sx w [] [irowF w.heap.size (.slice (some ⟨g, 0, none⟩) n0 c) (Pee.stk l (k + 1))] wn := ⟨hS8.1.tail, by
            intro f hf
            simp only [List.mem_cons, List.not_mem_nil, or_false] at hf
            subst hf
            rw [HST.out, ← hn]
            exact IRow.pop (t := t) (by rw [hln]; exact hS10)⟩
          clear hS8 hS10 HC HKO HK2 HB HS2 hS
          go_wp2
          go_roundw
          case rel => exact ⟨k + 1, hlt, by go_num, hS11⟩
          case measure => simp [intOf] <;> omega
    · obtain rfl : k = l.length := by omega
      have hown := hS.f1
      go_wp2
      go_ret
      exact ⟨_, rfl, hS.below, hown⟩

end Go.Proofs.Yteonkfdmkgjpaaa
