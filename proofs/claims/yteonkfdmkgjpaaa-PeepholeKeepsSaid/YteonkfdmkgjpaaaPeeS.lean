/- Layer 32: codes, the reference's shift, remove and Optimize, Removed, small: contracts. -/
import Derived.Test.YteonkfdmkgjpaaaPeeA
import Derived.Test.YteonkfdmkgjpaaaPeeW3
import Derived.Test.YteonkfdmkgjpaaaPeeR1
import Derived.Test.YteonkfdmkgjpaaaPeePure2
import Derived.Test.YteonkfdmkgjpaaaImgL9
import Derived.Test.YteonkfdmkgjpaaaImgR5
import Derived.Test.YteonkfdmkgjpaaaImgL2
import Derived.Deep.RegionHeld3
import Derived.Deep.DeepCutAuto
import Derived.BigQuiet
import Derived.Deep.QuietTactic
import Derived.BigRegion
import Derived.Deep.CutBlock
namespace Go.Proofs.Yteonkfdmkgjpaaa
open Go.RowKit
set_option linter.unusedVariables false
set_option linter.unusedSimpArgs false

set_option maxHeartbeats 8000000 in
theorem codes_any (l m : List Ins) (A A' : Option Addr) (cap cap' : Nat) (w : World) (hn0 : l.length ≤ 65536) (hc : CodeAt w A l) (hc' : CodeAt w A' m) :
    Calls Try.prog 42 #[.slice A l.length cap, .slice A' m.length cap'] w fun e w' => e = .returned (.bool (decide (l = m))) ∧ Below w.heap.size w w' := by
  by_cases h3 : l.length = m.length
  · have g3 : ((l.length : Int) != (m.length : Int)) = false := by simp [h3]
    have H3 := Lib.hid h3
    clear h3
    go_enter Try.func42, Try.ntmps42
    have hS := St.start w
    go_wp2
    go_loopw [13] (fun s wr => ∃ i : Nat, i ≤ l.length ∧ s = .int .i64 i ∧ St w [] wr ∧ Hid (∀ j, j < i → Img.at_ l j = Img.at_ m j)) (fun s _ => l.length - (intOf s).toNat)
    case atStart => exact ⟨0, Nat.zero_le _, rfl, hS, fun j hj => absurd hj (Nat.not_lt_zero _)⟩
    case round =>
      clear hS
      obtain ⟨i, hi, rfl, hS, hn⟩ := hrel
      by_cases hil : i < l.length
      · have him : i < m.length := by have := H3.out; omega
        obtain ⟨b, o, rfl, hcB⟩ := hc (by omega)
        obtain ⟨b', o', rfl, hcB'⟩ := hc' (by omega)
        have hcW := CodeB.after hS.1 hcB
        have hcW' := CodeB.after hS.1 hcB'
        have hb := hcW.1
        have hb' := hcW'.1
        obtain ⟨x0, x1, x2, x3, x4⟩ := hcW.2 i hil
        obtain ⟨y0, y1, y2, y3, y4⟩ := hcW'.2 i him
        clear hcW hcW'
        by_cases he : Img.at_ l i = Img.at_ m i
        · have hnx := Lib.hid (show ∀ j, j < i + 1 → Img.at_ l j = Img.at_ m j from fun j hj => by
            rcases Nat.lt_succ_iff_lt_or_eq.1 hj with h1 | h1
            · exact hn.out j h1
            · rw [h1]; exact he)
          rw [← he] at y0 y1 y2 y3 y4
          clear he hn
          go_wp2_with fail
          go_quiet (fail)
          go_wp2
          go_roundw
          case rel => exact ⟨i + 1, hil, by go_num, hS.drewN _, hnx⟩
          case measure => simp [intOf]; omega
        · have hN := Lib.hid (show decide (l = m) = false from decide_eq_false (fun h => he (by rw [h])))
          generalize Img.at_ l i = x at *
          generalize Img.at_ m i = y at *
          have hx := Ins.ne_cases he
          clear he hn
          rcases hx with h | ⟨h, h'⟩ | ⟨h, h2, h'⟩ | ⟨h, h2, h3, h'⟩ | ⟨h, h2, h3, h4, h'⟩
          all_goals go_wp2_with fail
          all_goals go_quiet (fail)
          all_goals go_wp2
          all_goals go_ret
          all_goals exact ⟨by rw [hN.out]; rfl, (hS.drewN _).1⟩
      · have hY := Lib.hid (show decide (l = m) = true from decide_eq_true (list_at_ext H3.out (fun j hj => hn.out j (by omega))))
        clear hn
        go_wp2
        go_ret
        exact ⟨by rw [hY.out]; rfl, hS.1⟩
  · have g3 : ((l.length : Int) != (m.length : Int)) = true := by
      have : ¬ (l.length : Int) = (m.length : Int) := by omega
      simp [this]
    have hN := Lib.hid (show decide (l = m) = false from decide_eq_false (fun h => h3 (by rw [h])))
    clear h3
    go_enter Try.func42, Try.ntmps42
    go_wp2
    go_ret
    exact ⟨by rw [hN.out]; rfl, Below.refl _ _⟩
theorem codes_ex (l m : List Ins) (A A' : Option Addr) (n n' cap cap' : Nat) (r : Bool) (hn : l.length = n) (hn' : m.length = n') (hr : decide (l = m) = r) (hn0 : l.length ≤ 65536) (w : World) (hc : CodeAt w A l) (hc' : CodeAt w A' m) :
    Calls Try.prog 42 #[.slice A n cap, .slice A' n' cap'] w fun e w' => e = .returned (.bool r) ∧ Below w.heap.size w w' := by
  subst hn hn' hr
  exact codes_any l m A A' cap cap' w hn0 hc hc'

theorem rshift_any (t : Int) (k : Nat) (ht : 0 ≤ t ∧ t ≤ 65536) (w : World) : Calls Try.prog 70 #[.int .i64 t, .int .i64 (k : Int)] w fun e w' => e = .returned (.int .i64 (Pee.dnI k t)) ∧ w = w' := by
  have o1 : IntKind.i64.wrap (t - 2) = t - 2 := Go.IntWalk.i64_in _ (by omega)
  unfold Pee.dnI
  by_cases h : (k : Int) < t
  · have h1 : decide ((k : Int) < t) = true := decide_eq_true h
    rw [if_pos h]
    clear h
    go_enter Try.func70, Try.ntmps70
    go_wp2
    go_ret
    exact ⟨rfl, rfl⟩
  · have h1 : decide ((k : Int) < t) = false := decide_eq_false h
    rw [if_neg h]
    clear h
    go_enter Try.func70, Try.ntmps70
    go_wp2
    go_ret
    exact ⟨rfl, rfl⟩

namespace Pee
/-- the code behind i rounds of remove -/
def rmT (l : List Ins) (k i : Nat) : List Ins := ((l.take i).take k ++ (l.take i).drop (k + 2)).map (rt (dnI k))
theorem rmT_end (l : List Ins) (k : Nat) : rmT l k l.length = rm l k := by unfold rmT rm; rw [List.take_length]
theorem take_at (l : List Ins) (i : Nat) (h : i < l.length) : l.take (i + 1) = l.take i ++ [Img.at_ l i] := by
  rw [List.take_succ_eq_append_getElem h]
  congr 2
  unfold Img.at_
  rw [List.getD_eq_getElem?_getD, List.getElem?_eq_getElem h]
  rfl
theorem rmT_skip {l : List Ins} {k i : Nat} (hi : i < l.length) (h : i = k ∨ i = k + 1) : rmT l k (i + 1) = rmT l k i := by
  unfold rmT
  rw [List.take_take, List.take_take, Nat.min_eq_left (by omega), Nat.min_eq_left (by omega), List.drop_of_length_le (by simp; omega), List.drop_of_length_le (by simp; omega)]
theorem rmT_push {l : List Ins} {k i : Nat} (hi : i < l.length) (h1 : i ≠ k) (h2 : i ≠ k + 1) : rmT l k (i + 1) = rmT l k i ++ [rt (dnI k) (Img.at_ l i)] := by
  unfold rmT
  by_cases h : i < k
  · rw [List.take_take, List.take_take, Nat.min_eq_right (by omega), Nat.min_eq_right (by omega), List.drop_of_length_le (by simp; omega), List.drop_of_length_le (by simp; omega), take_at l i hi]
    simp
  · rw [List.take_take, List.take_take, Nat.min_eq_left (by omega), Nat.min_eq_left (by omega), take_at l i hi, List.drop_append_of_le_length (by simp; omega), ← List.append_assoc, List.map_append]
    rfl
theorem rmT_len {l : List Ins} {k i : Nat} : (rmT l k i).length ≤ i := by
  unfold rmT
  simp
  omega
theorem has_ops0 (op : Int) : (Isa.tgt op).isSome = false → (op == 22) = false ∧ (op == 25) = false ∧ (op == 30) = false ∧ (op == 31) = false ∧ (op == 32) = false ∧ (op == 33) = false ∧ (op == 23) = false ∧ (op == 24) = false ∧ (op == 26) = false ∧ (op == 27) = false := by
  rcases Isa.row_range op with ⟨n, rfl⟩ | h
  · revert n
    decide
  · intro _
    refine ⟨?_, ?_, ?_, ?_, ?_, ?_, ?_, ?_, ?_, ?_⟩ <;> (refine beq_eq_false_iff_ne.2 (fun e => ?_); subst e; revert h; decide)
theorem has_ops1 (op : Int) : (Isa.tgt op).isSome = true → (op = 22 ∨ op = 25 ∨ op = 30 ∨ op = 31 ∨ op = 32 ∨ op = 33) ∨ (op = 23 ∨ op = 24 ∨ op = 26 ∨ op = 27) := by
  rcases Isa.row_range op with ⟨n, rfl⟩ | h
  · revert n
    decide
  · intro h2
    have : Isa.tgt op = none := by unfold Isa.tgt Isa.ops; rw [h]; rfl
    rw [this] at h2
    cases h2
end Pee

theorem set5_at1 (a b c d e v : Value) : (#[a, b, c, d, e] : Array Value).setIfInBounds 1 v = #[a, v, c, d, e] := rfl
theorem set5_at2 (a b c d e v : Value) : (#[a, b, c, d, e] : Array Value).setIfInBounds 2 v = #[a, b, v, d, e] := rfl
theorem Sx.put {w0 W : World} {g : Nat} {t : TypeId} {cs : Array Value} {L : List (Nat × TypeId × Array Value)} {F : List WF} (h : Sx w0 ((g, t, cs) :: L) F W) (hg : w0.heap.size ≤ g) (hL : ∀ y ∈ L, y.1 ≠ g) (hF : ∀ f ∈ F, Far g f) (i : Nat) (v : Value) :
    Sx w0 ((g, t, cs.setIfInBounds i v) :: L) F (W.setCell ⟨g, i, none⟩ v) :=
  ⟨h.1.set1 hg hL i v, fun f hf => hF f hf _ ⟨g, i, none⟩ _ rfl (h.2 f hf)⟩
set_option maxHeartbeats 16000000 in
set_option maxRecDepth 100000 in
theorem remove_any (l : List Ins) (A : Option Addr) (cap : Nat) (k : Nat) (w : World) (hn0 : l.length ≤ 65536) (hk : k < 65536) (htg : ∀ k, k < l.length → Img.has (Img.at_ l k) = true → 0 ≤ Img.tg (Img.at_ l k) ∧ Img.tg (Img.at_ l k) ≤ 65536) (hA : CodeAt w A l) :
    Calls Try.prog 64 #[.slice A l.length cap, .int .i64 (k : Int)] w fun e w' => ∃ v, e = .returned v ∧ Below w.heap.size w w' ∧ CRow w' w.heap.size v (Pee.rm l k) := by
  obtain ⟨i0, hi, hz0, hz1, hz2⟩ := info_parts info_instr
  have Htg := Lib.hid htg
  clear htg
  obtain ⟨k1, hk1⟩ : ∃ k1, k + 1 = k1 := ⟨_, rfl⟩
  have o1 : IntKind.i64.wrap ((k : Int) + 1) = (k1 : Int) := by rw [show (k : Int) + 1 = (k1 : Int) by omega]; exact Go.IntWalk.i64_in _ (by omega)
  have hS : Sx w [] [] w :=  (Sx.start (F := []) w (fun _ h => by cases h))
  have hc : True := trivial
  go_enter Try.func64, Try.ntmps64
  go_wp2
  go_loopw [5, 6] (fun v s wr => ∃ i : Nat, i ≤ l.length ∧ s = .int .i64 i ∧ Sx w [] [rowF w.heap.size v (Pee.rmT l k i)] wr) (fun _ s _ => l.length - (intOf s).toNat)
  case atStart =>
    have hz : Pee.rmT l k 0 = [] := by simp [Pee.rmT]
    exact ⟨0, Nat.zero_le _, rfl, Sx.add (f := rowF w.heap.size (.slice none 0 0) (Pee.rmT l k 0)) (by rw [hz]; exact World.ownsRow_nil _ _ _ _) hS⟩
  case round =>
    clear hS hc
    obtain ⟨i, hi1, rfl, hS⟩ := hrel
    have hc : True := trivial
    by_cases hlt : i < l.length
    · by_cases e1 : i = k
      · have g1 : ((i : Int) == (k : Int)) = true := by simp [e1]
        have HST := Lib.hid (Pee.rmT_skip hlt (.inl e1))
        clear e1
        go_wp2
        go_roundw
        case rel => exact ⟨i + 1, hlt, by go_num, by rw [HST.out]; exact hS⟩
        case measure => simp [intOf] <;> omega
      have g1 : ((i : Int) == (k : Int)) = false := beq_eq_false_iff_ne.2 (by omega)
      by_cases e2 : i = k1
      · have g2 : ((i : Int) == (k1 : Int)) = true := by simp [e2]
        have HST := Lib.hid (Pee.rmT_skip hlt (.inr (e2.trans hk1.symm)))
        clear e2 e1
        go_wp2
        go_roundw
        case rel => exact ⟨i + 1, hlt, by go_num, by rw [HST.out]; exact hS⟩
        case measure => simp [intOf] <;> omega
      have g2 : ((i : Int) == (k1 : Int)) = false := beq_eq_false_iff_ne.2 (by omega)
      obtain ⟨b, o, rfl⟩ := hA.some (by omega)
      obtain ⟨hb, x0, x1, x2, x3, x4⟩ := CodeAt.cells (CodeAt.after hS.below hA) hlt
      have hl1 := Pee.rmT_len (l := l) (k := k) (i := i)
      have HST := Lib.hid (Pee.rmT_push hlt e1 (by omega))
      have htk := Htg.out i hlt
      obtain ⟨y, Hy⟩ : ∃ y, Hid (Pee.rt (Pee.dnI k) (Img.at_ l i) = y) := ⟨_, Lib.hid rfl⟩
      rw [Hy.out] at HST
      have hrow := World.ownsRow.lt hS.f1
      have hne : Hid (u5.ownBlock ≠ some wr.heap.size) := Lib.hid (fun e => by have := (hrow _ e).2; omega)
      have hwr := hS.1.1.size
      clear e1 e2
      go_upto_region 7 with fail
      apply wp_abs (w0 := w)
      · (repeat (first | with_reducible apply Sx.alloc | with_reducible apply Sx.drew | with_reducible apply Sx.drewN | with_reducible exact hS))
      intro wx hS2; clear hS; have hS := hS2; clear hS2; (try simp only [World.size_alloc, World.size_drew] at hS)
      clear hc; have hc := hS.cellsL; simp only [CellsL, CellsF, Nat.zero_add, Nat.reduceAdd, and_true, true_and] at hc
      generalize wr.heap.size = gx at *
      clear x0 x1 x2 x3 x4 hb hrow
      have hls := Lib.hid (show (Pee.rmT l k i).length ≤ 65536 by omega)
      generalize Pee.rmT l k i = ls at *
      clear hl1
      generalize Img.at_ l i = x at *
      cases hh : Img.has x
      · have hy : x = y := by have := Hy.out; rw [Pee.rt_no hh] at this; exact this
        rw [hy] at hS hc
        have hops := Pee.has_ops0 x.op hh
        rw [hy] at hops
        obtain ⟨z0, z1, z2, z3, z4, z5, z6, z7, z8, z9⟩ := hops
        clear hh Hy hy htk
        have hown := hS.f1
        have hgx := hS.1.b1.lt
        have Q1 := Lib.hid (show ls.length + 1 ≤ maxLen by have := hls.out; unfold maxLen; omega)
        have Q2 := Lib.hid (show (ls.length + 1) * 40 ≤ 140737488355328 by have := hls.out; omega)
        have Q4 := Lib.hid (show ∀ u ∈ ([Value.int .u8 (y).op, Value.int .i64 (y).a, Value.int .i64 (y).b, Value.int .i64 (y).c, Value.int .i64 (y).d] : List Value), u.oneCell' = true from ins_oneCell y)
        obtain ⟨wz, hwz⟩ : ∃ wz : World, wz = wx := ⟨_, rfl⟩
        rw [← hwz] at hS hc hown hgx ⊢
        clear hwz
        have Q3 := Lib.hid (show ∀ o : Obj, w.heap.size ≤ (wz.alloc o).heap.size from fun o => by simp; omega)
        have Q5 := Lib.hid (show ∀ j u, ([Value.int .u8 (y).op, Value.int .i64 (y).a, Value.int .i64 (y).b, Value.int .i64 (y).c, Value.int .i64 (y).d] : List Value)[j]? = some u → (wz.alloc (.cells #[.int .u8 (y).op, .int .i64 (y).a, .int .i64 (y).b, .int .i64 (y).c, .int .i64 (y).d] 38)).cell? ((⟨wz.heap.size, 0, none⟩ : Addr).add j) = some u from cells5_from (Blk.new _ _ _))
        go_wp2_with (at_builtin; refine wpList_append_own _ rfl _ _ 22 rfl w.heap.size 38 i0 (.agg #[.int .u8 0, .int .i64 0, .int .i64 0, .int .i64 0, .int .i64 0]) 5 40 Try.underlying22 hi hz0 hz1 hz2 rfl (by decide) _ _ _ rfl (hown.alloc _) ⟨wz.heap.size, 0, none⟩ 1 1 [Value.int .u8 (y).op, Value.int .i64 (y).a, Value.int .i64 (y).b, Value.int .i64 (y).c, Value.int .i64 (y).d] rfl rfl Q5.out Q4.out Q1.out Q2.out (Q3.out _) ?_)
        intro v' w10 hownA hgrow _
        have hrA := CRow.snoc (x := y) rfl hownA
        rw [← HST.out] at hrA
        have hS10 : Sx w [] [rowF w.heap.size v' (Pee.rmT l k (i + 1))] w10 := Sx.grown (F := [rowF w.heap.size v' (Pee.rmT l k (i + 1))]) ((hS.1.tail).alloc #[.int .u8 (y).op, .int .i64 (y).a, .int .i64 (y).b, .int .i64 (y).c, .int .i64 (y).d] 38).tail hgrow (fun q hq => (World.ownsRow.lt hown q hq).1) (by intro z hz; cases hz) (by intro f hf; simp only [List.mem_cons, List.not_mem_nil, or_false] at hf; subst hf; exact hrA)
        clear hgrow hS hown Q1 Q2 Q3 Q4 Q5 hownA hrA hc
        go_wp2
        go_roundw
        case rel => exact ⟨i + 1, hlt, by go_num, hS10⟩
        case measure => simp [intOf] <;> omega
      · obtain ⟨op, a, b9, c, d⟩ := x
        have ht := htk hh
        have hy := Hy.out
        rw [Pee.rt_yes hh] at hy
        have hops := Pee.has_ops1 op hh
        have HH := Lib.hid hh
        clear hh Hy htk
        rcases hops with hops | hops
        · rcases hops with rfl | rfl | rfl | rfl | rfl | rfl
          all_goals
            have hy2 : (⟨_, (Pee.dnI k a), b9, c, d⟩ : Ins) = y := hy
            have HSH := Lib.hid (fun wx => rshift_any a k ht wx)
            clear hy ht HH
            go_upto_region 20 with (first | (go_at_call 70; (first | (with_reducible refine (HSH.out _).mono ?_)); rintro e wn ⟨rfl, rfl⟩))
            have hS9 := hS.put hwr (by intro z hz; cases hz) (by intro f hf; simp only [List.mem_cons, List.not_mem_nil, or_false] at hf; subst hf; exact far_row hne.out) 1 (.int .i64 (Pee.dnI k a))
            rw [set5_at1] at hS9
            refine wp_abs hS9 ?_
            intro wx hS2; clear hS; have hS := hS2; clear hS2; (try simp only [World.size_alloc, World.size_drew] at hS)
            clear hc hS9
            replace hS : Sx w [(gx, 38, #[.int .u8 (y).op, .int .i64 (y).a, .int .i64 (y).b, .int .i64 (y).c, .int .i64 (y).d])] [rowF w.heap.size u5 ls] wx := by rw [← hy2]; exact hS
            have hc := hS.cellsL
            simp only [CellsL, CellsF, Nat.zero_add, Nat.reduceAdd, and_true, true_and] at hc
            clear hy2
            have hown := hS.f1
            have hgx := hS.1.b1.lt
            have Q1 := Lib.hid (show ls.length + 1 ≤ maxLen by have := hls.out; unfold maxLen; omega)
            have Q2 := Lib.hid (show (ls.length + 1) * 40 ≤ 140737488355328 by have := hls.out; omega)
            have Q4 := Lib.hid (show ∀ u ∈ ([Value.int .u8 (y).op, Value.int .i64 (y).a, Value.int .i64 (y).b, Value.int .i64 (y).c, Value.int .i64 (y).d] : List Value), u.oneCell' = true from ins_oneCell y)
            obtain ⟨wz, hwz⟩ : ∃ wz : World, wz = wx := ⟨_, rfl⟩
            rw [← hwz] at hS hc hown hgx ⊢
            clear hwz
            have Q3 := Lib.hid (show ∀ o : Obj, w.heap.size ≤ (wz.alloc o).heap.size from fun o => by simp; omega)
            have Q5 := Lib.hid (show ∀ j u, ([Value.int .u8 (y).op, Value.int .i64 (y).a, Value.int .i64 (y).b, Value.int .i64 (y).c, Value.int .i64 (y).d] : List Value)[j]? = some u → (wz.alloc (.cells #[.int .u8 (y).op, .int .i64 (y).a, .int .i64 (y).b, .int .i64 (y).c, .int .i64 (y).d] 38)).cell? ((⟨wz.heap.size, 0, none⟩ : Addr).add j) = some u from cells5_from (Blk.new _ _ _))
            go_wp2_with (at_builtin; refine wpList_append_own _ rfl _ _ 22 rfl w.heap.size 38 i0 (.agg #[.int .u8 0, .int .i64 0, .int .i64 0, .int .i64 0, .int .i64 0]) 5 40 Try.underlying22 hi hz0 hz1 hz2 rfl (by decide) _ _ _ rfl (hown.alloc _) ⟨wz.heap.size, 0, none⟩ 1 1 [Value.int .u8 (y).op, Value.int .i64 (y).a, Value.int .i64 (y).b, Value.int .i64 (y).c, Value.int .i64 (y).d] rfl rfl Q5.out Q4.out Q1.out Q2.out (Q3.out _) ?_)
            intro v' w10 hownA hgrow _
            have hrA := CRow.snoc (x := y) rfl hownA
            rw [← HST.out] at hrA
            have hS10 : Sx w [] [rowF w.heap.size v' (Pee.rmT l k (i + 1))] w10 := Sx.grown (F := [rowF w.heap.size v' (Pee.rmT l k (i + 1))]) ((hS.1.tail).alloc #[.int .u8 (y).op, .int .i64 (y).a, .int .i64 (y).b, .int .i64 (y).c, .int .i64 (y).d] 38).tail hgrow (fun q hq => (World.ownsRow.lt hown q hq).1) (by intro z hz; cases hz) (by intro f hf; simp only [List.mem_cons, List.not_mem_nil, or_false] at hf; subst hf; exact hrA)
            clear hgrow hS hown Q1 Q2 Q3 Q4 Q5 hownA hrA hc
            go_wp2
            go_roundw
            case rel => exact ⟨i + 1, hlt, by go_num, hS10⟩
            case measure => simp [intOf] <;> omega
        · rcases hops with rfl | rfl | rfl | rfl
          all_goals
            have hy2 : (⟨_, a, (Pee.dnI k b9), c, d⟩ : Ins) = y := hy
            have HSH := Lib.hid (fun wx => rshift_any b9 k ht wx)
            clear hy ht HH
            go_upto_region 20 with (first | (go_at_call 70; (first | (with_reducible refine (HSH.out _).mono ?_)); rintro e wn ⟨rfl, rfl⟩))
            have hS9 := hS.put hwr (by intro z hz; cases hz) (by intro f hf; simp only [List.mem_cons, List.not_mem_nil, or_false] at hf; subst hf; exact far_row hne.out) 2 (.int .i64 (Pee.dnI k b9))
            rw [set5_at2] at hS9
            refine wp_abs hS9 ?_
            intro wx hS2; clear hS; have hS := hS2; clear hS2; (try simp only [World.size_alloc, World.size_drew] at hS)
            clear hc hS9
            replace hS : Sx w [(gx, 38, #[.int .u8 (y).op, .int .i64 (y).a, .int .i64 (y).b, .int .i64 (y).c, .int .i64 (y).d])] [rowF w.heap.size u5 ls] wx := by rw [← hy2]; exact hS
            have hc := hS.cellsL
            simp only [CellsL, CellsF, Nat.zero_add, Nat.reduceAdd, and_true, true_and] at hc
            clear hy2
            have hown := hS.f1
            have hgx := hS.1.b1.lt
            have Q1 := Lib.hid (show ls.length + 1 ≤ maxLen by have := hls.out; unfold maxLen; omega)
            have Q2 := Lib.hid (show (ls.length + 1) * 40 ≤ 140737488355328 by have := hls.out; omega)
            have Q4 := Lib.hid (show ∀ u ∈ ([Value.int .u8 (y).op, Value.int .i64 (y).a, Value.int .i64 (y).b, Value.int .i64 (y).c, Value.int .i64 (y).d] : List Value), u.oneCell' = true from ins_oneCell y)
            obtain ⟨wz, hwz⟩ : ∃ wz : World, wz = wx := ⟨_, rfl⟩
            rw [← hwz] at hS hc hown hgx ⊢
            clear hwz
            have Q3 := Lib.hid (show ∀ o : Obj, w.heap.size ≤ (wz.alloc o).heap.size from fun o => by simp; omega)
            have Q5 := Lib.hid (show ∀ j u, ([Value.int .u8 (y).op, Value.int .i64 (y).a, Value.int .i64 (y).b, Value.int .i64 (y).c, Value.int .i64 (y).d] : List Value)[j]? = some u → (wz.alloc (.cells #[.int .u8 (y).op, .int .i64 (y).a, .int .i64 (y).b, .int .i64 (y).c, .int .i64 (y).d] 38)).cell? ((⟨wz.heap.size, 0, none⟩ : Addr).add j) = some u from cells5_from (Blk.new _ _ _))
            go_wp2_with (at_builtin; refine wpList_append_own _ rfl _ _ 22 rfl w.heap.size 38 i0 (.agg #[.int .u8 0, .int .i64 0, .int .i64 0, .int .i64 0, .int .i64 0]) 5 40 Try.underlying22 hi hz0 hz1 hz2 rfl (by decide) _ _ _ rfl (hown.alloc _) ⟨wz.heap.size, 0, none⟩ 1 1 [Value.int .u8 (y).op, Value.int .i64 (y).a, Value.int .i64 (y).b, Value.int .i64 (y).c, Value.int .i64 (y).d] rfl rfl Q5.out Q4.out Q1.out Q2.out (Q3.out _) ?_)
            intro v' w10 hownA hgrow _
            have hrA := CRow.snoc (x := y) rfl hownA
            rw [← HST.out] at hrA
            have hS10 : Sx w [] [rowF w.heap.size v' (Pee.rmT l k (i + 1))] w10 := Sx.grown (F := [rowF w.heap.size v' (Pee.rmT l k (i + 1))]) ((hS.1.tail).alloc #[.int .u8 (y).op, .int .i64 (y).a, .int .i64 (y).b, .int .i64 (y).c, .int .i64 (y).d] 38).tail hgrow (fun q hq => (World.ownsRow.lt hown q hq).1) (by intro z hz; cases hz) (by intro f hf; simp only [List.mem_cons, List.not_mem_nil, or_false] at hf; subst hf; exact hrA)
            clear hgrow hS hown Q1 Q2 Q3 Q4 Q5 hownA hrA hc
            go_wp2
            go_roundw
            case rel => exact ⟨i + 1, hlt, by go_num, hS10⟩
            case measure => simp [intOf] <;> omega
    · obtain rfl : i = l.length := by omega
      have hS2 := hS.f1
      rw [Pee.rmT_end] at hS2
      go_wp2
      go_ret
      exact ⟨_, rfl, hS.below, hS2⟩

/-- the length in a slot that holds a slice -/
def lenOf : Value → Nat
  | .slice _ n _ => n
  | _ => 0
theorem remove_ex (l m : List Ins) (A : Option Addr) (cap : Nat) (k n : Nat) (w : World) (hn0 : l.length ≤ 65536) (hk : k < 65536) (htg : ∀ k, k < l.length → Img.has (Img.at_ l k) = true → 0 ≤ Img.tg (Img.at_ l k) ∧ Img.tg (Img.at_ l k) ≤ 65536) (hm : Pee.rm l k = m) (hn : m.length = n) (hA : CodeAt w A l) :
    Calls Try.prog 64 #[.slice A l.length cap, .int .i64 (k : Int)] w fun e w' => ∃ A2 c2, e = .returned (.slice A2 n c2) ∧ Below w.heap.size w w' ∧ CodeAt w' A2 m := by
  subst hm hn
  refine (remove_any l A cap k w hn0 hk htg hA).mono ?_
  rintro e w' ⟨v, rfl, hB, ho⟩
  obtain ⟨A2, c2, rfl, h2⟩ := code_of_own ho
  exact ⟨A2, c2, rfl, hB, h2⟩
theorem rcancels_ex (a b : Ins) (r : Bool) (h0 : 0 ≤ a.op) (h : Pee.rcancels a b = r) (w : World) : Calls Try.prog 39 #[.agg #[.int .u8 (a).op, .int .i64 (a).a, .int .i64 (a).b, .int .i64 (a).c, .int .i64 (a).d], .agg #[.int .u8 (b).op, .int .i64 (b).a, .int .i64 (b).b, .int .i64 (b).c, .int .i64 (b).d]] w fun e w' => e = .returned (.bool r) ∧ Below w.heap.size w w' := by
  subst h
  exact rcancels_any a b h0 w
namespace Pee
theorem vl_op {x : Ins} (h : Img.vl x = true) : 0 ≤ x.op := by
  rcases Isa.row_range x.op with ⟨n, hn⟩ | h2
  · omega
  · unfold Img.vl Isa.vld at h
    rw [h2] at h
    simp at h
theorem tg_bd {l : List Ins} (h : Img.Ok l) : ∀ k, k < l.length → Img.has (Img.at_ l k) = true → 0 ≤ Img.tg (Img.at_ l k) ∧ Img.tg (Img.at_ l k) ≤ 65536 := by
  intro k hk hh
  have hn := h.n
  obtain ⟨t, e, ht, -⟩ := Tg.of h k hk hh
  omega
end Pee
set_option maxHeartbeats 16000000 in
set_option maxRecDepth 100000 in
theorem roptimize_any (l : List Ins) (A : Option Addr) (cap : Nat) (w : World) (hOk : Img.Ok l) (hA : CodeAt w A l) :
    Calls Try.prog 43 #[.slice A l.length cap] w fun e w' => ∃ A2 c2, e = .returned (.slice A2 (Pee.opt l).length c2) ∧ Below w.heap.size w w' ∧ CodeAt w' A2 (Pee.opt l) := by
  have hn0 := hOk.n
  have o0 : IntKind.i64.wrap ((l.length : Int) - 2) = (l.length : Int) - 2 := Go.IntWalk.i64_in _ (by omega)
  have hS : Sx w [] [codeF A l] w := (Sx.add (f := codeF A l) (hA) (Sx.start (F := []) w (fun _ h => by cases h)))
  have hc : True := trivial
  go_enter Try.func43, Try.ntmps43
  go_wp2
  go_loopw [0, 3] (fun c k wr => ∃ (m : List Ins) (A1 : Option Addr) (c1 : Nat) (kk : Int), c = .slice A1 m.length c1 ∧ k = .int .i64 kk ∧ -2 ≤ kk ∧ kk ≤ m.length ∧ Hid (Img.Ok m ∧ Pee.opt m = Pee.opt l ∧ ∀ j : Nat, kk < j → j + 1 < m.length → Pee.cancels (Img.at_ m j) (Img.at_ m (j + 1)) = false) ∧ m.length ≤ 65536 ∧ Sx w [] [codeF A1 m] wr) (fun c k _ => lenOf c * 70000 + (intOf k + 2).toNat)
  case atStart => exact ⟨l, A, cap, (l.length : Int) - 2, rfl, rfl, by omega, by omega, Lib.hid ⟨hOk, rfl, fun j h1 h2 => by omega⟩, hn0, hS⟩
  case round =>
    clear hS hc o0
    obtain ⟨m, A1, c1, kk, rfl, rfl, hk0, hk1, HM, hm0, hS⟩ := hrel
    have hc : True := trivial
    by_cases hge : 0 ≤ kk
    · obtain ⟨k, rfl⟩ : ∃ k : Nat, kk = (k : Int) := ⟨kk.toNat, by omega⟩
      obtain ⟨k1, hk2⟩ : ∃ k1, k + 1 = k1 := ⟨_, rfl⟩
      have o1 : IntKind.i64.wrap ((k : Int) + 1) = (k1 : Int) := by rw [show (k : Int) + 1 = (k1 : Int) by omega]; exact Go.IntWalk.i64_in _ (by omega)
      have o2 : IntKind.i64.wrap ((k : Int) - 1) = (k : Int) - 1 := Go.IntWalk.i64_in _ (by omega)
      have HT := Lib.hid (Pee.tg_bd HM.out.1)
      by_cases hlt : k1 < m.length
      · have e1 : (k : Int) < (m.length : Int) := by omega
        have e2 : (k1 : Int) < (m.length : Int) := by omega
        have e3 : decide ((k1 : Int) < (m.length : Int)) = true := decide_eq_true e2
        have hkm : k < m.length := by omega
        obtain ⟨b, o, rfl⟩ := CodeAt.some (show CodeAt wr A1 m from hS.f1) (by omega)
        obtain ⟨x, hx⟩ : ∃ x, Img.at_ m k = x := ⟨_, rfl⟩
        obtain ⟨y, hy⟩ : ∃ y, Img.at_ m k1 = y := ⟨_, rfl⟩
        have hvx : Img.vl x = true := by rw [← hx]; exact ((HM.out.1).fine hkm).v
        have E := Pee.rcan_eq (a := x) y
        rw [hvx, Bool.true_and] at E
        have h0 := Pee.vl_op hvx
        have HK2 := Lib.hid (show ∀ wx : World, Sx w [] [codeF (some ⟨b, o, none⟩) m] wx → (wx.cell? ⟨b, o + k * 5, none⟩ = some (Value.int .u8 (x).op) ∧ wx.cell? ⟨b, o + k * 5 + 1, none⟩ = some (Value.int .i64 (x).a) ∧ wx.cell? ⟨b, o + k * 5 + 2, none⟩ = some (Value.int .i64 (x).b) ∧ wx.cell? ⟨b, o + k * 5 + 3, none⟩ = some (Value.int .i64 (x).c) ∧ wx.cell? ⟨b, o + k * 5 + 4, none⟩ = some (Value.int .i64 (x).d) ∧ wx.cell? ⟨b, o + k1 * 5, none⟩ = some (Value.int .u8 (y).op) ∧ wx.cell? ⟨b, o + k1 * 5 + 1, none⟩ = some (Value.int .i64 (y).a) ∧ wx.cell? ⟨b, o + k1 * 5 + 2, none⟩ = some (Value.int .i64 (y).b) ∧ wx.cell? ⟨b, o + k1 * 5 + 3, none⟩ = some (Value.int .i64 (y).c) ∧ wx.cell? ⟨b, o + k1 * 5 + 4, none⟩ = some (Value.int .i64 (y).d) ∧ Sx w [] [codeF (some ⟨b, o, none⟩) m] wx) from fun wx h => by
          obtain ⟨-, z0, z1, z2, z3, z4⟩ := CodeAt.cells (show CodeAt wx (some ⟨b, o, none⟩) m from h.f1) hkm
          obtain ⟨-, y0, y1, y2, y3, y4⟩ := CodeAt.cells (show CodeAt wx (some ⟨b, o, none⟩) m from h.f1) hlt
          rw [hx] at z0 z1 z2 z3 z4
          rw [hy] at y0 y1 y2 y3 y4
          simp [z0, z1, z2, z3, z4, y0, y1, y2, y3, y4, h])
        have HKO := Lib.hid (fun (wx : World) (h : wx.cell? ⟨b, o + k * 5, none⟩ = some (Value.int .u8 (x).op) ∧ wx.cell? ⟨b, o + k * 5 + 1, none⟩ = some (Value.int .i64 (x).a) ∧ wx.cell? ⟨b, o + k * 5 + 2, none⟩ = some (Value.int .i64 (x).b) ∧ wx.cell? ⟨b, o + k * 5 + 3, none⟩ = some (Value.int .i64 (x).c) ∧ wx.cell? ⟨b, o + k * 5 + 4, none⟩ = some (Value.int .i64 (x).d) ∧ wx.cell? ⟨b, o + k1 * 5, none⟩ = some (Value.int .u8 (y).op) ∧ wx.cell? ⟨b, o + k1 * 5 + 1, none⟩ = some (Value.int .i64 (y).a) ∧ wx.cell? ⟨b, o + k1 * 5 + 2, none⟩ = some (Value.int .i64 (y).b) ∧ wx.cell? ⟨b, o + k1 * 5 + 3, none⟩ = some (Value.int .i64 (y).c) ∧ wx.cell? ⟨b, o + k1 * 5 + 4, none⟩ = some (Value.int .i64 (y).d) ∧ Sx w [] [codeF (some ⟨b, o, none⟩) m] wx) => (show Sx w [] [codeF (some ⟨b, o, none⟩) m] wx from h.2.2.2.2.2.2.2.2.2.2))
        cases hq : Pee.cancels x y
        · have HC := Lib.hid (rcancels_ex x y false h0 (E.trans hq))
          have HN := Lib.hid (show Pee.cancels (Img.at_ m k) (Img.at_ m (k + 1)) = false by rw [hk2, hx, hy]; exact hq)
          clear E hvx hx hy hq h0
          go_upto_region 4 with fail
          have hH := HK2.out _ hS
          go_region_held3 (fun wx => wx.cell? ⟨b, o + k * 5, none⟩ = some (Value.int .u8 (x).op) ∧ wx.cell? ⟨b, o + k * 5 + 1, none⟩ = some (Value.int .i64 (x).a) ∧ wx.cell? ⟨b, o + k * 5 + 2, none⟩ = some (Value.int .i64 (x).b) ∧ wx.cell? ⟨b, o + k * 5 + 3, none⟩ = some (Value.int .i64 (x).c) ∧ wx.cell? ⟨b, o + k * 5 + 4, none⟩ = some (Value.int .i64 (x).d) ∧ wx.cell? ⟨b, o + k1 * 5, none⟩ = some (Value.int .u8 (y).op) ∧ wx.cell? ⟨b, o + k1 * 5 + 1, none⟩ = some (Value.int .i64 (y).a) ∧ wx.cell? ⟨b, o + k1 * 5 + 2, none⟩ = some (Value.int .i64 (y).b) ∧ wx.cell? ⟨b, o + k1 * 5 + 3, none⟩ = some (Value.int .i64 (y).c) ∧ wx.cell? ⟨b, o + k1 * 5 + 4, none⟩ = some (Value.int .i64 (y).d) ∧ Sx w [] [codeF (some ⟨b, o, none⟩) m] wx) (first | exact HK2.out _ (Sx.drew (by assumption)) | exact HK2.out _ (by assumption)) (first | (go_at_call 39; have hS9 : Sx w [] [codeF (some ⟨b, o, none⟩) m] _ := (HKO.out _ (by assumption)); with_reducible refine (HC.out _).mono ?_; rintro e wn ⟨rfl, hB⟩; have hS8 := Sx.call hB hS9; clear hB))
          clear HK2 HKO hS hc HC
          go_wp2
          go_roundw
          case rel =>
            refine ⟨m, _, c1, (k : Int) - 1, rfl, rfl, by omega, by omega, Lib.hid ⟨HM.out.1, HM.out.2.1, fun j h1 h2 => ?_⟩, hm0, hS8⟩
            rcases (show j = k ∨ (k : Int) < j by omega) with rfl | h3
            · exact HN.out
            · exact HM.out.2.2 j h3 h2
          case measure => simp [intOf, lenOf] <;> omega
        · have HC := Lib.hid (rcancels_ex x y true h0 (E.trans hq))
          have hcc : Pee.cancels (Img.at_ m k) (Img.at_ m (k + 1)) = true := by rw [hk2, hx, hy]; exact hq
          have hkm2 : k + 1 < m.length := by omega
          have HOK2 := Lib.hid (Pee.ins_rm HM.out.1 hkm2 hcc).2
          have HOP2 := Lib.hid (Pee.opt_rm HM.out.1 hkm2 hcc)
          have hl2 := Lib.hid (Pee.rm_length hkm2)
          have HRM := Lib.hid (fun wx h => remove_ex m _ (some ⟨b, o, none⟩) c1 k _ wx hm0 (by omega) HT.out rfl rfl h)
          generalize Pee.rm m k = m2 at *
          have o3 : IntKind.i64.wrap ((m2.length : Int) - 1) = (m2.length : Int) - 1 := Go.IntWalk.i64_in _ (by have := hl2.out; omega)
          clear E hvx hx hy hq h0 hcc HT
          go_upto_region 4 with fail
          have hH := HK2.out _ hS
          go_region_held3 (fun wx => wx.cell? ⟨b, o + k * 5, none⟩ = some (Value.int .u8 (x).op) ∧ wx.cell? ⟨b, o + k * 5 + 1, none⟩ = some (Value.int .i64 (x).a) ∧ wx.cell? ⟨b, o + k * 5 + 2, none⟩ = some (Value.int .i64 (x).b) ∧ wx.cell? ⟨b, o + k * 5 + 3, none⟩ = some (Value.int .i64 (x).c) ∧ wx.cell? ⟨b, o + k * 5 + 4, none⟩ = some (Value.int .i64 (x).d) ∧ wx.cell? ⟨b, o + k1 * 5, none⟩ = some (Value.int .u8 (y).op) ∧ wx.cell? ⟨b, o + k1 * 5 + 1, none⟩ = some (Value.int .i64 (y).a) ∧ wx.cell? ⟨b, o + k1 * 5 + 2, none⟩ = some (Value.int .i64 (y).b) ∧ wx.cell? ⟨b, o + k1 * 5 + 3, none⟩ = some (Value.int .i64 (y).c) ∧ wx.cell? ⟨b, o + k1 * 5 + 4, none⟩ = some (Value.int .i64 (y).d) ∧ Sx w [] [codeF (some ⟨b, o, none⟩) m] wx) (first | exact HK2.out _ (Sx.drew (by assumption)) | exact HK2.out _ (by assumption)) (first | (go_at_call 39; have hS9 : Sx w [] [codeF (some ⟨b, o, none⟩) m] _ := (HKO.out _ (by assumption)); with_reducible refine (HC.out _).mono ?_; rintro e wn ⟨rfl, hB⟩; have hS8 := Sx.call hB hS9; clear hB))
          clear HK2 HKO hS HC
          have hS := hS8
          clear hS8
          go_wp2_with (first | (go_at_call 64; apply calls_abs (w0 := w); (repeat (first | with_reducible apply Sx.alloc | with_reducible apply Sx.drew | with_reducible apply Sx.drewN | with_reducible exact hS)); intro wx hS2; clear hS; have hS := hS2; clear hS2; (try simp only [World.size_alloc, World.size_drew] at hS); refine (HRM.out _ hS.f1).mono ?_; rintro e wn ⟨A2, c2, rfl, hB, h2⟩; replace hS := Sx.callF (f := codeF A2 m2) hB (h2) hS; clear hB; clear hc; have hc := hS.cellsL; simp only [CellsL, CellsF, Nat.zero_add, Nat.reduceAdd, and_true, true_and] at hc))
          go_roundw
          case rel =>
            have hl3 := hl2.out
            refine ⟨m2, A2, c2, (m2.length : Int) - 1, rfl, rfl, by omega, by omega, Lib.hid ⟨HOK2.out, HOP2.out.trans HM.out.2.1, fun j h1 h2 => by omega⟩, by omega, ⟨hS.1, fun f hf => hS.2 f ?_⟩⟩
            simp only [List.mem_cons, List.not_mem_nil, or_false] at hf ⊢
            exact .inl hf
          case measure => (have hl3 := hl2.out); simp [intOf, lenOf] <;> omega
      · have e2 : ¬ (k1 : Int) < (m.length : Int) := by omega
        have e3 : decide ((k1 : Int) < (m.length : Int)) = false := decide_eq_false e2
        go_upto_region 4 with fail
        go_quiet (fail)
        go_wp2
        go_roundw
        case rel => exact ⟨m, A1, c1, (k : Int) - 1, rfl, rfl, by omega, by omega, Lib.hid ⟨HM.out.1, HM.out.2.1, fun j h1 h2 => by
          rcases (show j = k ∨ (k : Int) < j by omega) with rfl | h3
          · omega
          · exact HM.out.2.2 j h3 h2⟩, hm0, hS.drewN _⟩
        case measure => simp [intOf, lenOf] <;> omega
    · have HE := Lib.hid (show Pee.opt l = m from (HM.out.2.1).symm.trans (Pee.opt_irr (fun j h2 => HM.out.2.2 j (by omega) h2) (Pee.Tg.of HM.out.1)))
      have hCA : CodeAt wr A1 m := hS.f1
      go_wp2
      go_ret
      exact ⟨A1, ⟨c1, by rw [HE.out]; rfl⟩, hS.below, by rw [HE.out]; exact hCA⟩

set_option maxHeartbeats 8000000 in
theorem removed_bad (l : List Ins) (A : Option Addr) (cap : Nat) (mem st : Int) (w : World) (hA : CodeAt w A l) (hv : Img.valid l mem st = false) :
    Calls Try.prog 44 #[.agg #[.slice A l.length cap, .int .i64 mem, .int .i64 st]] w fun e w' => e = .returned (.int .i64 0) ∧ Below w.heap.size w w' := by
  have HV := Lib.hid (fun wx h => imgValid_any l A cap mem st wx h)
  rw [hv] at HV
  clear hv
  have hS : Sx w [] [codeF A l] w := (Sx.add (f := codeF A l) (hA) (Sx.start (F := []) w (fun _ h => by cases h)))
  have hc : True := trivial
  go_enter Try.func44, Try.ntmps44
  go_wp2_with (first | (go_at_call 25; apply calls_abs (w0 := w); (repeat (first | with_reducible apply Sx.alloc | with_reducible apply Sx.drew | with_reducible apply Sx.drewN | with_reducible exact hS)); intro wx hS2; clear hS; have hS := hS2; clear hS2; (try simp only [World.size_alloc, World.size_drew] at hS); refine (HV.out _ hS.f1).mono ?_; rintro e wn ⟨rfl, hB⟩; replace hS := Sx.call hB hS; clear hB; clear hc; have hc := hS.cellsL; simp only [CellsL, CellsF, Nat.zero_add, Nat.reduceAdd, and_true, true_and] at hc))
  go_ret
  exact ⟨rfl, hS.below⟩
set_option maxHeartbeats 8000000 in
theorem removed_good (l : List Ins) (A : Option Addr) (cap : Nat) (mem st : Int) (w : World) (hA : CodeAt w A l) (hv : Img.valid l mem st = true) :
    Calls Try.prog 44 #[.agg #[.slice A l.length cap, .int .i64 mem, .int .i64 st]] w fun e w' => e = .returned (.int .i64 ((l.length : Int) - ((Pee.kept l).length : Int))) ∧ Below w.heap.size w w' := by
  have hn0 := (Img.valid_ok hv).n
  have HV := Lib.hid (fun wx h => imgValid_any l A cap mem st wx h)
  rw [hv] at HV
  have hkl := Pee.kept_len l
  obtain ⟨K, hK⟩ : ∃ K, Pee.kept l = K := ⟨_, rfl⟩
  have HKE := Lib.hid (fun wx h => kept_ex l A cap K hK wx hn0 h)
  rw [hK] at hkl ⊢
  clear hv hK
  have o1 : IntKind.i64.wrap ((l.length : Int) - (K.length : Int)) = (l.length : Int) - (K.length : Int) := Go.IntWalk.i64_in _ (by omega)
  have hS : Sx w [] [codeF A l] w := (Sx.add (f := codeF A l) (hA) (Sx.start (F := []) w (fun _ h => by cases h)))
  have hc : True := trivial
  go_enter Try.func44, Try.ntmps44
  go_upto_region 3 with (first | (go_at_call 25; apply calls_abs (w0 := w); (repeat (first | with_reducible apply Sx.alloc | with_reducible apply Sx.drew | with_reducible apply Sx.drewN | with_reducible exact hS)); intro wx hS2; clear hS; have hS := hS2; clear hS2; (try simp only [World.size_alloc, World.size_drew] at hS); refine (HV.out _ hS.f1).mono ?_; rintro e wn ⟨rfl, hB⟩; replace hS := Sx.call hB hS; clear hB; clear hc; have hc := hS.cellsL; simp only [CellsL, CellsF, Nat.zero_add, Nat.reduceAdd, and_true, true_and] at hc))
  apply wp_abs (w0 := w)
  · (repeat (first | with_reducible apply Sx.alloc | with_reducible apply Sx.drew | with_reducible apply Sx.drewN | with_reducible exact hS))
  intro wx hS2; clear hS; have hS := hS2; clear hS2; (try simp only [World.size_alloc, World.size_drew] at hS)
  clear hc; have hc := hS.cellsL; simp only [CellsL, CellsF, Nat.zero_add, Nat.reduceAdd, and_true, true_and] at hc
  have HK2 := Lib.hid (show ∀ wx, Sx w [(w.heap.size, 24, #[.slice A l.length cap, .int .i64 mem, .int .i64 st])] [codeF A l] wx → (wx.cell? ⟨w.heap.size, 0, none⟩ = some (Value.slice A l.length cap) ∧ wx.cell? ⟨w.heap.size, 1, none⟩ = some (Value.int .i64 mem) ∧ wx.cell? ⟨w.heap.size, 2, none⟩ = some (Value.int .i64 st) ∧ Sx w [(w.heap.size, 24, #[.slice A l.length cap, .int .i64 mem, .int .i64 st])] [codeF A l] wx) from fun wx h => by
    have c := h.cellsL
    simp only [CellsL, CellsF, Nat.zero_add, Nat.reduceAdd, and_true, true_and] at c
    simp [c, h])
  have HKO := Lib.hid (fun wx (h : wx.cell? ⟨w.heap.size, 0, none⟩ = some (Value.slice A l.length cap) ∧ wx.cell? ⟨w.heap.size, 1, none⟩ = some (Value.int .i64 mem) ∧ wx.cell? ⟨w.heap.size, 2, none⟩ = some (Value.int .i64 st) ∧ Sx w [(w.heap.size, 24, #[.slice A l.length cap, .int .i64 mem, .int .i64 st])] [codeF A l] wx) => (show Sx w [(w.heap.size, 24, #[.slice A l.length cap, .int .i64 mem, .int .i64 st])] [codeF A l] wx from h.2.2.2))
  have hH := HK2.out _ hS
  clear hc
  go_region_held3 (fun wx => wx.cell? ⟨w.heap.size, 0, none⟩ = some (Value.slice A l.length cap) ∧ wx.cell? ⟨w.heap.size, 1, none⟩ = some (Value.int .i64 mem) ∧ wx.cell? ⟨w.heap.size, 2, none⟩ = some (Value.int .i64 st) ∧ Sx w [(w.heap.size, 24, #[.slice A l.length cap, .int .i64 mem, .int .i64 st])] [codeF A l] wx) (first | exact HK2.out _ (Sx.drew (by assumption)) | exact HK2.out _ (by assumption)) (first | (go_at_call 63; have hS9 : Sx w [(w.heap.size, 24, #[.slice A l.length cap, .int .i64 mem, .int .i64 st])] [codeF A l] _ := (HKO.out _ (by assumption)); with_reducible refine (HKE.out _ hS9.f1).mono ?_; rintro e wn ⟨A1, c1, rfl, hB, hI⟩; have hS8 := Sx.call hB hS9; clear hB))
  all_goals go_wp2_with fail
  all_goals go_ret
  all_goals exact ⟨rfl, hS8.below⟩

namespace Pee
theorem opt_valid {l : List Ins} {mem st : Int} (h : Img.valid l mem st = true) : Img.valid (opt l) mem st = true := by
  obtain ⟨h1, h2⟩ := Img.valid_iff.1 h
  refine Img.valid_iff.2 ⟨fun h3 => h1 ?_, (opt_ok h2).1⟩
  have := opt_le l
  unfold Img.outside at h3 ⊢
  have := h2.n
  omega
end Pee
set_option maxHeartbeats 4000000 in
theorem small_any (l : List Ins) (A : Option Addr) (cap : Nat) (mem st : Int) (r : Bool) (hr : (decide (l.length ≤ 90) && Img.valid l mem st) = r) (w : World) (hA : CodeAt w A l) :
    Calls Try.prog 40 #[.agg #[.slice A l.length cap, .int .i64 mem, .int .i64 st]] w fun e w' => e = .returned (.bool r) ∧ Below w.heap.size w w' := by
  have HV := Lib.hid (fun wx h => imgValid_any l A cap mem st wx h)
  generalize Img.valid l mem st = v at *
  by_cases h9 : l.length ≤ 90
  · rw [decide_eq_true h9, Bool.true_and] at hr
    subst hr
    have g1 : (l.length : Int) ≤ 90 := by omega
    have g2 : decide ((l.length : Int) ≤ 90) = true := decide_eq_true g1
    clear h9
    have hS : Sx w [] [codeF A l] w := (Sx.add (f := codeF A l) (hA) (Sx.start (F := []) w (fun _ h => by cases h)))
    have hc : True := trivial
    go_enter Try.func40, Try.ntmps40
    go_wp2_with (first | (go_at_call 25; apply calls_abs (w0 := w); (repeat (first | with_reducible apply Sx.alloc | with_reducible apply Sx.drew | with_reducible apply Sx.drewN | with_reducible exact hS)); intro wx hS2; clear hS; have hS := hS2; clear hS2; (try simp only [World.size_alloc, World.size_drew] at hS); refine (HV.out _ hS.f1).mono ?_; rintro e wn ⟨rfl, hB⟩; replace hS := Sx.call hB hS; clear hB; clear hc; have hc := hS.cellsL; simp only [CellsL, CellsF, Nat.zero_add, Nat.reduceAdd, and_true, true_and] at hc))
    go_ret
    exact ⟨rfl, hS.below⟩
  · rw [decide_eq_false h9, Bool.false_and] at hr
    subst hr
    have g1 : ¬ (l.length : Int) ≤ 90 := by omega
    have g2 : decide ((l.length : Int) ≤ 90) = false := decide_eq_false g1
    clear h9
    go_enter Try.func40, Try.ntmps40
    go_wp2
    go_ret
    exact ⟨rfl, (Below.refl _ _).alloc (Nat.le_refl _) _⟩
theorem roptimize_ex (l x : List Ins) (n q : Nat) (hn : l.length = n) (A : Option Addr) (cap : Nat) (w : World) (hOk : Img.Ok l) (hx : Pee.opt l = x) (hq : x.length = q) (hA : CodeAt w A l) :
    Calls Try.prog 43 #[.slice A n cap] w fun e w' => ∃ A2 c2, e = .returned (.slice A2 q c2) ∧ Below w.heap.size w w' ∧ CodeAt w' A2 x := by
  subst hn hx hq
  exact roptimize_any l A cap w hOk hA
theorem removed_ex (l : List Ins) (A : Option Addr) (n cap : Nat) (mem st q : Int) (w : World) (hn : l.length = n) (hv : Img.valid l mem st = true) (hq : (l.length : Int) - ((Pee.opt l).length : Int) = q) (hA : CodeAt w A l) :
    Calls Try.prog 44 #[.agg #[.slice A n cap, .int .i64 mem, .int .i64 st]] w fun e w' => e = .returned (.int .i64 q) ∧ Below w.heap.size w w' := by
  subst hn hq
  rw [Pee.opt_length]
  exact removed_good l A cap mem st w hA hv

end Go.Proofs.Yteonkfdmkgjpaaa
