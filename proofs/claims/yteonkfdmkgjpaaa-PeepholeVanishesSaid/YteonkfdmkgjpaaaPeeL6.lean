/- The walks of the laws of layer 32: PeepholeVanishes. -/
import Derived.Test.YteonkfdmkgjpaaaPeeS
import Derived.Test.YteonkfdmkgjpaaaPush
import Derived.Test.YteonkfdmkgjpaaaCalm
import Derived.Deep.RegionHeld3
import Derived.Deep.DeepCutAuto
import Derived.BigQuiet
import Derived.Deep.QuietTactic
import Derived.BigRegion
import Derived.Deep.CutBlock
namespace Go.Proofs.Yteonkfdmkgjpaaa
open Go.RowKit
set_option linter.unusedVariables false
set_option linter.unusedSimpArgs false

theorem own_empty2 {w0 W : World} {L : List (Nat × TypeId × Array Value)} {F : List WF} {base : Nat} (hS : Sx w0 L F W) (hb : base ≤ W.heap.size) : CRow (W.alloc (.cells #[] 38)) base (.slice (some ⟨W.heap.size, 0, none⟩) 0 0) [] := World.ownsRow_made W #[] 0 hb (Nat.zero_le _) (by simp)
/-- 'append([]api.Instr{}, l...)' -/
theorem wpList_pour_new {ops : Array Oper} {rest : List Oper} {o : Oper} {a : Act} {Q : Exit → Act → World → Prop} {w0 W : World} {L : List (Nat × TypeId × Array Value)} {F : List WF} {A : Option Addr} {B : List Ins} {c : Nat} (base : Nat) (hS : Sx w0 L F W) (hR : CodeAt W A B) (hgd : o.guard = none) (s x : Operand) (ho : o.op = .call { callee := .builtin .append, args := #[s, x], argTypes := #[22, 22] }) (hs : a.eval s = .slice (some ⟨W.heap.size, 0, none⟩) 0 0) (hx : a.eval x = .slice A B.length c)
    (hlen : B.length ≤ 131072) (hb0 : w0.heap.size ≤ base) (hbW : base ≤ W.heap.size)
    (h : ∀ A' n' c' w', Hid (n' = B.length) → Sx w0 L [rowF base (.slice A' n' c') B] w' → wpList Try.prog ops Q rest (a.put o.dst (.slice A' n' c')) w') : wpList Try.prog ops Q (o :: rest) a (W.alloc (.cells #[] 38)) := by
  have hS2 : Sx w0 L [rowF base (.slice (some ⟨W.heap.size, 0, none⟩) 0 0) []] (W.alloc (.cells #[] 38)) := Sx.add (own_empty2 hS hbW) ⟨(hS.1.alloc #[] 38).tail, fun f hf => by cases hf⟩
  refine wpList_pour hS2 (CodeAt.after ((Below.refl _ _).alloc (Nat.le_refl _) _) hR) hgd s x ho hs hx (by simpa using hlen) hb0 (by simp; omega) (fun z hz e => ?_) (fun A' n' c' w' h8 h9 _ => h A' n' c' w' (by simpa using h8) (by simpa using h9))
  have := hS.1.lts z hz
  simp [Value.ownBlock] at e
  omega
theorem Sx.swap {w0 W : World} {x y : Nat × TypeId × Array Value} {L : List (Nat × TypeId × Array Value)} {F : List WF} (h : Sx w0 (x :: y :: L) F W) : Sx w0 (y :: x :: L) F W := ⟨h.1.swap, h.2⟩
namespace Pee
def bothT (c : List Ins) (i : Nat) : List Ins := c ++ ((c.drop i).map Img.inv).reverse
theorem bothT_start (c : List Ins) : bothT c c.length = c := by simp [bothT]
theorem bothT_end (c : List Ins) : bothT c 0 = both c := rfl
theorem drop_at (c : List Ins) (j : Nat) (h : j < c.length) : c.drop j = Img.at_ c j :: c.drop (j + 1) := by
  rw [List.drop_eq_getElem_cons h]
  congr 1
  unfold Img.at_
  rw [List.getD_eq_getElem?_getD, List.getElem?_eq_getElem h]
  rfl
theorem bothT_step {c : List Ins} {j : Nat} (h : j < c.length) : bothT c j = bothT c (j + 1) ++ [Img.inv (Img.at_ c j)] := by
  unfold bothT
  rw [drop_at c j h]
  simp
theorem bothT_len (c : List Ins) (i : Nat) : (bothT c i).length ≤ 2 * c.length := by simp [bothT]; omega
/-- the code with B laid in at k, behind j rounds -/
def blkT (l B : List Ins) (k j : Nat) : List Ins := (l.take (min j k)).map (rt (upM k B.length)) ++ (if k < j then B ++ ((l.take j).drop k).map (rt (upM k B.length)) else [])
theorem blkT_start (l B : List Ins) (k : Nat) : blkT l B k 0 = [] := by simp [blkT]
theorem blkT_lt {l B : List Ins} {k j : Nat} (hj : j < l.length) (h : j ≠ k) : blkT l B k (j + 1) = blkT l B k j ++ [rt (upM k B.length) (Img.at_ l j)] := by
  unfold blkT
  by_cases h1 : j < k
  · rw [Nat.min_eq_left (by omega), Nat.min_eq_left (by omega), if_neg (by omega), if_neg (by omega), take_at l j hj]
    simp
  · rw [Nat.min_eq_right (by omega), Nat.min_eq_right (by omega), if_pos (by omega), if_pos (by omega), take_at l j hj, List.drop_append_of_le_length (by simp; omega)]
    simp
theorem blkT_eq {l B : List Ins} {k : Nat} (hj : k < l.length) : blkT l B k (k + 1) = (blkT l B k k ++ B) ++ [rt (upM k B.length) (Img.at_ l k)] := by
  unfold blkT
  rw [Nat.min_eq_right (by omega), Nat.min_eq_right (by omega), if_pos (by omega), if_neg (by omega), take_at l k hj, List.drop_append_of_le_length (by simp; omega), List.drop_of_length_le (by simp; omega)]
  simp
theorem blkT_end {l B : List Ins} {k : Nat} (h : k < l.length) : blkT l B k l.length = blk l k B := by
  unfold blkT blk
  rw [Nat.min_eq_right (by omega), if_pos h, List.take_length]
theorem blkT_end2 (l B : List Ins) : blkT l B l.length l.length ++ B = blk l l.length B := by
  unfold blkT blk
  rw [Nat.min_eq_right (by omega), if_neg (by omega)]
  simp
theorem blkT_len {l B : List Ins} {k j : Nat} : (blkT l B k j).length ≤ l.length + B.length := by
  unfold blkT
  split
  · simp
    omega
  · simp
    omega
theorem rt_low {f : Int → Int} {x : Ins} (h : Img.has x = true → f (Img.tg x) = Img.tg x) : rt f x = x := rt_id h
end Pee

theorem set3_at0 (a b c v : Value) : (#[a, b, c] : Array Value).setIfInBounds 0 v = #[v, b, c] := rfl
theorem two_ne {v : Value} {g1 g2 : Nat} {t1 t2 : TypeId} {c1 c2 : Array Value} (h1 : v.ownBlock ≠ some g1) (h2 : v.ownBlock ≠ some g2) : ∀ z ∈ [(g1, t1, c1), (g2, t2, c2)], v.ownBlock ≠ some z.1 := by
  intro z hz
  simp only [List.mem_cons, List.not_mem_nil, or_false] at hz
  rcases hz with rfl | rfl
  · exact h1
  · exact h2
set_option maxHeartbeats 32000000 in
set_option maxRecDepth 100000 in
theorem peepholeVanishes_walk (l : List Ins) (A : Option Addr) (cap : Nat) (mem st : Int) (c : List Ins) (Ac : Option Addr) (capc : Nat) (at_ : Int) (w : World) (hA : CodeAt w A l) (hok : InsOk l) (hml : l.length ≤ maxLen) (hAc : CodeAt w Ac c) (hokc : InsOk c) (hmlc : c.length ≤ maxLen) (hu : U8 at_) :
    Calls Try.prog 13 #[.agg #[.slice A l.length cap, .int .i64 mem, .int .i64 st], .slice Ac c.length capc, .int .u8 at_] w fun e w' => e = .returned (.bool true) ∧ Below w.heap.size w w' := by
  cases hs : (decide (l.length ≤ 90) && Img.valid l mem st)
  · clear hok hml hokc hmlc hu
    have HSM := Lib.hid (fun wx h => small_any l A cap mem st false hs wx h)
    clear hs
    have hS : Sx w [] [codeF A l] w := (Sx.add (f := codeF A l) (hA) (Sx.start (F := []) w (fun _ h => by cases h)))
    have hc : True := trivial
    go_enter Try.func13, Try.ntmps13
    go_wp2_with (first | (go_at_call 37; apply calls_abs (w0 := w); (repeat (first | with_reducible apply Sx.alloc | with_reducible apply Sx.drew | with_reducible apply Sx.drewN | with_reducible exact hS)); intro wx hS2; clear hS; have hS := hS2; clear hS2; (try simp only [World.size_alloc, World.size_drew] at hS); refine (peeAwake_any _).mono ?_; rintro e wn ⟨rfl, hB⟩; replace hS := Sx.call hB hS; clear hB; clear hc; have hc := hS.cellsL; simp only [CellsL, CellsF, Nat.zero_add, Nat.reduceAdd, and_true, true_and] at hc) | (go_at_call 40; apply calls_abs (w0 := w); (repeat (first | with_reducible apply Sx.alloc | with_reducible apply Sx.drew | with_reducible apply Sx.drewN | with_reducible exact hS)); intro wx hS2; clear hS; have hS := hS2; clear hS2; (try simp only [World.size_alloc, World.size_drew] at hS); refine (HSM.out _ hS.f1).mono ?_; rintro e wn ⟨rfl, hB⟩; replace hS := Sx.call hB hS; clear hB; clear hc; have hc := hS.cellsL; simp only [CellsL, CellsF, Nat.zero_add, Nat.reduceAdd, and_true, true_and] at hc))
    go_ret
    exact ⟨rfl, hS.below⟩
  have hs2 : l.length ≤ 90 ∧ Img.valid l mem st = true := by simpa using hs
  obtain ⟨hl9, hv⟩ := hs2
  have hOk := Img.valid_ok hv
  have HSM := Lib.hid (fun wx h => small_any l A cap mem st true hs wx h)
  clear hs hok hml hokc hmlc
  by_cases hc9 : 90 < c.length
  · have g1 : (90 : Int) < (c.length : Int) := by omega
    have g2 : decide ((90 : Int) < (c.length : Int)) = true := decide_eq_true g1
    clear hc9 hl9 hv hOk hu
    have hS : Sx w [] [codeF A l] w := (Sx.add (f := codeF A l) (hA) (Sx.start (F := []) w (fun _ h => by cases h)))
    have hc : True := trivial
    go_enter Try.func13, Try.ntmps13
    go_wp2_with (first | (go_at_call 37; apply calls_abs (w0 := w); (repeat (first | with_reducible apply Sx.alloc | with_reducible apply Sx.drew | with_reducible apply Sx.drewN | with_reducible exact hS)); intro wx hS2; clear hS; have hS := hS2; clear hS2; (try simp only [World.size_alloc, World.size_drew] at hS); refine (peeAwake_any _).mono ?_; rintro e wn ⟨rfl, hB⟩; replace hS := Sx.call hB hS; clear hB; clear hc; have hc := hS.cellsL; simp only [CellsL, CellsF, Nat.zero_add, Nat.reduceAdd, and_true, true_and] at hc) | (go_at_call 40; apply calls_abs (w0 := w); (repeat (first | with_reducible apply Sx.alloc | with_reducible apply Sx.drew | with_reducible apply Sx.drewN | with_reducible exact hS)); intro wx hS2; clear hS; have hS := hS2; clear hS2; (try simp only [World.size_alloc, World.size_drew] at hS); refine (HSM.out _ hS.f1).mono ?_; rintro e wn ⟨rfl, hB⟩; replace hS := Sx.call hB hS; clear hB; clear hc; have hc := hS.cellsL; simp only [CellsL, CellsF, Nat.zero_add, Nat.reduceAdd, and_true, true_and] at hc))
    go_ret
    exact ⟨rfl, hS.below⟩
  have g1 : ¬ (90 : Int) < (c.length : Int) := by omega
  have g2 : decide ((90 : Int) < (c.length : Int)) = false := decide_eq_false g1
  have o1 : IntKind.i64.wrap ((c.length : Int) - 1) = (c.length : Int) - 1 := Go.IntWalk.i64_in _ (by omega)
  have hS : Sx w [] [codeF A l] w := (Sx.add (f := codeF A l) (hA) (Sx.start (F := []) w (fun _ h => by cases h)))
  have hc : True := trivial
  go_enter Try.func13, Try.ntmps13
  go_upto_region 3 with (first | (go_at_call 37; apply calls_abs (w0 := w); (repeat (first | with_reducible apply Sx.alloc | with_reducible apply Sx.drew | with_reducible apply Sx.drewN | with_reducible exact hS)); intro wx hS2; clear hS; have hS := hS2; clear hS2; (try simp only [World.size_alloc, World.size_drew] at hS); refine (peeAwake_any _).mono ?_; rintro e wn ⟨rfl, hB⟩; replace hS := Sx.call hB hS; clear hB; clear hc; have hc := hS.cellsL; simp only [CellsL, CellsF, Nat.zero_add, Nat.reduceAdd, and_true, true_and] at hc) | (go_at_call 40; apply calls_abs (w0 := w); (repeat (first | with_reducible apply Sx.alloc | with_reducible apply Sx.drew | with_reducible apply Sx.drewN | with_reducible exact hS)); intro wx hS2; clear hS; have hS := hS2; clear hS2; (try simp only [World.size_alloc, World.size_drew] at hS); refine (HSM.out _ hS.f1).mono ?_; rintro e wn ⟨rfl, hB⟩; replace hS := Sx.call hB hS; clear hB; clear hc; have hc := hS.cellsL; simp only [CellsL, CellsF, Nat.zero_add, Nat.reduceAdd, and_true, true_and] at hc))
  apply wp_abs (w0 := w)
  · (repeat (first | with_reducible apply Sx.alloc | with_reducible apply Sx.drew | with_reducible apply Sx.drewN | with_reducible exact hS))
  intro wx hS2; clear hS; have hS := hS2; clear hS2; (try simp only [World.size_alloc, World.size_drew] at hS)
  clear hc; have hc := hS.cellsL; simp only [CellsL, CellsF, Nat.zero_add, Nat.reduceAdd, and_true, true_and] at hc
  have hRc := CodeAt.after hS.below hAc
  have hbw : w.heap.size + 1 ≤ wx.heap.size := hS.1.b1.lt
  go_upto_region 4 with (first | (at_builtin; refine wpList_pour_new (w.heap.size + 1) hS hRc rfl _ _ rfl rfl rfl (by omega) (Nat.le_succ _) hbw ?_; intro A1 n1 c1 w10 hn1 hS10; clear hS; have hS := hS10; clear hS10; clear hc; have hc := hS.cellsL; simp only [CellsL, CellsF, Nat.zero_add, Nat.reduceAdd, and_true, true_and] at hc))
  clear hRc hbw hc
  go_wp2
  go_loopw [7, 8] (fun v s wr => ∃ (i1 : Nat) (ii : Int), ii = (i1 : Int) - 1 ∧ i1 ≤ c.length ∧ s = .int .i64 ii ∧ Sx w [(w.heap.size, 24, #[.slice A l.length cap, .int .i64 mem, .int .i64 st])] [rowF (w.heap.size + 1) v (Pee.bothT c i1)] wr ∧ Hid (∀ x ∈ c.drop i1, Pee.cancels x (Img.inv x) = true)) (fun _ s _ => (intOf s + 1).toNat)
  case atStart => exact ⟨c.length, (c.length : Int) - 1, rfl, Nat.le_refl _, rfl, by rw [Pee.bothT_start]; exact hS, Lib.hid (fun x hx => by rw [List.drop_length] at hx; cases hx)⟩
  case round =>
    clear hS o1
    obtain ⟨i1, ii, hii, hi1, rfl, hS, HAL⟩ := hrel
    have hc := hS.cellsL
    simp only [CellsL, CellsF, Nat.zero_add, Nat.reduceAdd, and_true, true_and] at hc
    by_cases hge : 0 ≤ ii
    · obtain ⟨j, rfl⟩ : ∃ j : Nat, ii = (j : Int) := ⟨ii.toNat, by omega⟩
      obtain rfl : i1 = j + 1 := by omega
      clear hii hge
      have hlt : j < c.length := by omega
      have e1 : (j : Int) < (c.length : Int) := by omega
      have e2 : (0 : Int) ≤ (j : Int) := by omega
      have o2 : IntKind.i64.wrap ((j : Int) - 1) = (j : Int) - 1 := Go.IntWalk.i64_in _ (by omega)
      obtain ⟨b, o, rfl⟩ := hAc.some (by omega)
      obtain ⟨hb, x0, x1, x2, x3, x4⟩ := CodeAt.cells (CodeAt.after hS.below hAc) hlt
      have HST := Lib.hid (Pee.bothT_step hlt)
      have HLE := Lib.hid (Pee.bothT_len c (j + 1))
      have HDR := Lib.hid (Pee.drop_at c j hlt)
      obtain ⟨x, hx⟩ : ∃ x, Img.at_ c j = x := ⟨_, rfl⟩
      rw [hx] at HST HDR x0 x1 x2 x3 x4
      obtain ⟨y, hy⟩ : ∃ y, Img.inv x = y := ⟨_, rfl⟩
      rw [hy] at HST
      have HI := Lib.hid (inverse_ex x y hy)
      have HV := Lib.hid (vl_ex x _ rfl)
      have HCX := Lib.hid (show Pee.cancels x y = (Img.vl x && Pee.rmv x.op && decide (Img.inv x = y)) from rfl)
      generalize Pee.bothT c (j + 1) = ls at *
      have HK2 := Lib.hid (show ∀ wx : World, Sx w [(w.heap.size, 24, #[.slice A l.length cap, .int .i64 mem, .int .i64 st])] [rowF (w.heap.size + 1) u7 ls] wx → (wx.cell? ⟨b, o + j * 5, none⟩ = some (Value.int .u8 (x).op) ∧ wx.cell? ⟨b, o + j * 5 + 1, none⟩ = some (Value.int .i64 (x).a) ∧ wx.cell? ⟨b, o + j * 5 + 2, none⟩ = some (Value.int .i64 (x).b) ∧ wx.cell? ⟨b, o + j * 5 + 3, none⟩ = some (Value.int .i64 (x).c) ∧ wx.cell? ⟨b, o + j * 5 + 4, none⟩ = some (Value.int .i64 (x).d) ∧ Sx w [(w.heap.size, 24, #[.slice A l.length cap, .int .i64 mem, .int .i64 st])] [rowF (w.heap.size + 1) u7 ls] wx) from fun wx h => by
        obtain ⟨-, z0, z1, z2, z3, z4⟩ := CodeAt.cells (CodeAt.after h.below hAc) hlt
        rw [hx] at z0 z1 z2 z3 z4
        simp [z0, z1, z2, z3, z4, h])
      have HKO := Lib.hid (fun (wx : World) (h : wx.cell? ⟨b, o + j * 5, none⟩ = some (Value.int .u8 (x).op) ∧ wx.cell? ⟨b, o + j * 5 + 1, none⟩ = some (Value.int .i64 (x).a) ∧ wx.cell? ⟨b, o + j * 5 + 2, none⟩ = some (Value.int .i64 (x).b) ∧ wx.cell? ⟨b, o + j * 5 + 3, none⟩ = some (Value.int .i64 (x).c) ∧ wx.cell? ⟨b, o + j * 5 + 4, none⟩ = some (Value.int .i64 (x).d) ∧ Sx w [(w.heap.size, 24, #[.slice A l.length cap, .int .i64 mem, .int .i64 st])] [rowF (w.heap.size + 1) u7 ls] wx) => (show Sx w [(w.heap.size, 24, #[.slice A l.length cap, .int .i64 mem, .int .i64 st])] [rowF (w.heap.size + 1) u7 ls] wx from h.2.2.2.2.2))
      have HN := Lib.hid (show ∀ z ∈ ([(w.heap.size, 24, #[.slice A l.length cap, .int .i64 mem, .int .i64 st])] : List (Nat × TypeId × Array Value)), u7.ownBlock ≠ some z.1 from fun z hz e => by
        simp only [List.mem_cons, List.not_mem_nil, or_false] at hz
        rw [hz] at e
        have h9 := (row_own hS.f1 _ e).1
        simp at h9
        omega)
      have HLEN := Lib.hid (show ls.length ≤ 131072 by have := HLE.out; omega)
      clear x0 x1 x2 x3 x4 hc
      cases hv2 : Img.vl x
      · rw [hv2] at HV
        clear HI HCX HAL HDR HLE HST
        go_upto_region 7 with fail
        refine wp_region_calm (fun wx => (wx.cell? ⟨b, o + j * 5, none⟩ = some (Value.int .u8 (x).op) ∧ wx.cell? ⟨b, o + j * 5 + 1, none⟩ = some (Value.int .i64 (x).a) ∧ wx.cell? ⟨b, o + j * 5 + 2, none⟩ = some (Value.int .i64 (x).b) ∧ wx.cell? ⟨b, o + j * 5 + 3, none⟩ = some (Value.int .i64 (x).c) ∧ wx.cell? ⟨b, o + j * 5 + 4, none⟩ = some (Value.int .i64 (x).d) ∧ Sx w [(w.heap.size, 24, #[.slice A l.length cap, .int .i64 mem, .int .i64 st])] [rowF (w.heap.size + 1) u7 ls] wx)) (by kernel_rfl) (by kernel_rfl) (HK2.out _ hS.drew) ?_
        repeat (first
          | go_big_quiet_skip
          | (go_big_quiet_want; first
              | (go_big_quiet_op; go_big_quiet_on)
              | (refine calm_val' ?_; apply Exists.intro; refine ⟨fun wq hq => ?_, ?_⟩
                 · ((try dsimp only at hq); go_simp; (try with_reducible rfl))
                 go_big_quiet_on
                 (try simp only [Act.put, List.setIfInBounds_toArray, List.set_cons_zero, List.set_cons_succ]))
              | (refine calm_call' ?_; apply Exists.intro; apply Exists.intro; apply Exists.intro; refine ⟨fun wq hq => ?_, fun wq hq => ?_, ?_⟩
                 · (go_simp; exact ⟨rfl, rfl⟩)
                 · ((try dsimp only at hq); first | (go_at_call 30; have hS9 : Sx w [(w.heap.size, 24, #[.slice A l.length cap, .int .i64 mem, .int .i64 st])] [rowF (w.heap.size + 1) u7 ls] wq := (HKO.out _ hq); with_reducible refine (HV.out _).mono ?_; rintro e wm ⟨rfl, hB⟩; exact ⟨rfl, HK2.out _ (Sx.call hB hS9)⟩))
                 go_big_quiet_on
                 (try simp only [Act.put, List.setIfInBounds_toArray, List.set_cons_zero, List.set_cons_succ]))))
        refine wpQuiet_nil ?_
        intro wn hq
        (try dsimp only at hq)
        replace hS := HKO.out _ hq
        go_wp2_with fail
        go_ret
        exact ⟨rfl, hS.below⟩
      rw [hv2] at HV
      cases hr : Pee.cancels x y
      · have HC := Lib.hid (fun wx => pcancels_ex x y false hr wx)
        clear HCX HAL HDR HLE HST
        go_upto_region 7 with fail
        refine wp_region_calm (fun wx => (wx.cell? ⟨b, o + j * 5, none⟩ = some (Value.int .u8 (x).op) ∧ wx.cell? ⟨b, o + j * 5 + 1, none⟩ = some (Value.int .i64 (x).a) ∧ wx.cell? ⟨b, o + j * 5 + 2, none⟩ = some (Value.int .i64 (x).b) ∧ wx.cell? ⟨b, o + j * 5 + 3, none⟩ = some (Value.int .i64 (x).c) ∧ wx.cell? ⟨b, o + j * 5 + 4, none⟩ = some (Value.int .i64 (x).d) ∧ Sx w [(w.heap.size, 24, #[.slice A l.length cap, .int .i64 mem, .int .i64 st])] [rowF (w.heap.size + 1) u7 ls] wx)) (by kernel_rfl) (by kernel_rfl) (HK2.out _ hS.drew) ?_
        repeat (first
          | go_big_quiet_skip
          | (go_big_quiet_want; first
              | (go_big_quiet_op; go_big_quiet_on)
              | (refine calm_val' ?_; apply Exists.intro; refine ⟨fun wq hq => ?_, ?_⟩
                 · ((try dsimp only at hq); go_simp; (try with_reducible rfl))
                 go_big_quiet_on
                 (try simp only [Act.put, List.setIfInBounds_toArray, List.set_cons_zero, List.set_cons_succ]))
              | (refine calm_call' ?_; apply Exists.intro; apply Exists.intro; apply Exists.intro; refine ⟨fun wq hq => ?_, fun wq hq => ?_, ?_⟩
                 · (go_simp; exact ⟨rfl, rfl⟩)
                 · ((try dsimp only at hq); first | (go_at_call 30; have hS9 : Sx w [(w.heap.size, 24, #[.slice A l.length cap, .int .i64 mem, .int .i64 st])] [rowF (w.heap.size + 1) u7 ls] wq := (HKO.out _ hq); with_reducible refine (HV.out _).mono ?_; rintro e wm ⟨rfl, hB⟩; exact ⟨rfl, HK2.out _ (Sx.call hB hS9)⟩) | (go_at_call 32; have hS9 : Sx w [(w.heap.size, 24, #[.slice A l.length cap, .int .i64 mem, .int .i64 st])] [rowF (w.heap.size + 1) u7 ls] wq := (HKO.out _ hq); with_reducible refine (HI.out _).mono ?_; rintro e wm ⟨rfl, hB⟩; exact ⟨rfl, HK2.out _ (Sx.call hB hS9)⟩) | (go_at_call 38; have hS9 : Sx w [(w.heap.size, 24, #[.slice A l.length cap, .int .i64 mem, .int .i64 st])] [rowF (w.heap.size + 1) u7 ls] wq := (HKO.out _ hq); with_reducible refine (HC.out _).mono ?_; rintro e wm ⟨rfl, hB⟩; exact ⟨rfl, HK2.out _ (Sx.call hB hS9)⟩))
                 go_big_quiet_on
                 (try simp only [Act.put, List.setIfInBounds_toArray, List.set_cons_zero, List.set_cons_succ]))))
        refine wpQuiet_nil ?_
        intro wn hq
        (try dsimp only at hq)
        replace hS := HKO.out _ hq
        go_wp2_with fail
        go_ret
        exact ⟨rfl, hS.below⟩
      · have HC := Lib.hid (fun wx => pcancels_ex x y true hr wx)
        have HAL2 := Lib.hid (show ∀ z ∈ c.drop j, Pee.cancels z (Img.inv z) = true from fun z hz => by
          rw [HDR.out] at hz
          rcases List.mem_cons.1 hz with rfl | hz
          · rw [hy]; exact hr
          · exact HAL.out z hz)
        clear HCX HAL HDR HLE hx hy hr
        go_upto_region 7 with fail
        refine wp_region_calm (fun wx => (wx.cell? ⟨b, o + j * 5, none⟩ = some (Value.int .u8 (x).op) ∧ wx.cell? ⟨b, o + j * 5 + 1, none⟩ = some (Value.int .i64 (x).a) ∧ wx.cell? ⟨b, o + j * 5 + 2, none⟩ = some (Value.int .i64 (x).b) ∧ wx.cell? ⟨b, o + j * 5 + 3, none⟩ = some (Value.int .i64 (x).c) ∧ wx.cell? ⟨b, o + j * 5 + 4, none⟩ = some (Value.int .i64 (x).d) ∧ Sx w [(w.heap.size, 24, #[.slice A l.length cap, .int .i64 mem, .int .i64 st])] [rowF (w.heap.size + 1) u7 ls] wx)) (by kernel_rfl) (by kernel_rfl) (HK2.out _ hS.drew) ?_
        repeat (first
          | go_big_quiet_skip
          | (go_big_quiet_want; first
              | (go_big_quiet_op; go_big_quiet_on)
              | (refine calm_val' ?_; apply Exists.intro; refine ⟨fun wq hq => ?_, ?_⟩
                 · ((try dsimp only at hq); go_simp; (try with_reducible rfl))
                 go_big_quiet_on
                 (try simp only [Act.put, List.setIfInBounds_toArray, List.set_cons_zero, List.set_cons_succ]))
              | (refine calm_call' ?_; apply Exists.intro; apply Exists.intro; apply Exists.intro; refine ⟨fun wq hq => ?_, fun wq hq => ?_, ?_⟩
                 · (go_simp; exact ⟨rfl, rfl⟩)
                 · ((try dsimp only at hq); first | (go_at_call 30; have hS9 : Sx w [(w.heap.size, 24, #[.slice A l.length cap, .int .i64 mem, .int .i64 st])] [rowF (w.heap.size + 1) u7 ls] wq := (HKO.out _ hq); with_reducible refine (HV.out _).mono ?_; rintro e wm ⟨rfl, hB⟩; exact ⟨rfl, HK2.out _ (Sx.call hB hS9)⟩) | (go_at_call 32; have hS9 : Sx w [(w.heap.size, 24, #[.slice A l.length cap, .int .i64 mem, .int .i64 st])] [rowF (w.heap.size + 1) u7 ls] wq := (HKO.out _ hq); with_reducible refine (HI.out _).mono ?_; rintro e wm ⟨rfl, hB⟩; exact ⟨rfl, HK2.out _ (Sx.call hB hS9)⟩) | (go_at_call 38; have hS9 : Sx w [(w.heap.size, 24, #[.slice A l.length cap, .int .i64 mem, .int .i64 st])] [rowF (w.heap.size + 1) u7 ls] wq := (HKO.out _ hq); with_reducible refine (HC.out _).mono ?_; rintro e wm ⟨rfl, hB⟩; exact ⟨rfl, HK2.out _ (Sx.call hB hS9)⟩))
                 go_big_quiet_on
                 (try simp only [Act.put, List.setIfInBounds_toArray, List.set_cons_zero, List.set_cons_succ]))))
        refine wpQuiet_nil ?_
        intro wn hq
        (try dsimp only at hq)
        replace hS := HKO.out _ hq
        obtain ⟨x0, x1, x2, x3, x4, -⟩ := hq
        have hc : True := trivial
        clear HK2 HKO HV HC
        go_upto_region 6 with (first | (go_at_call 32; apply calls_abs (w0 := w); (repeat (first | with_reducible apply Sx.alloc | with_reducible apply Sx.drew | with_reducible apply Sx.drewN | with_reducible exact hS)); intro wx hS2; clear hS; have hS := hS2; clear hS2; (try simp only [World.size_alloc, World.size_drew] at hS); refine (HI.out _).mono ?_; rintro e wn ⟨rfl, hB⟩; replace hS := Sx.call hB hS; clear hB; clear hc; have hc := hS.cellsL; simp only [CellsL, CellsF, Nat.zero_add, Nat.reduceAdd, and_true, true_and] at hc) | (at_builtin; refine wpList_push y hS rfl _ _ rfl rfl rfl HLEN.out (Nat.le_succ _) hS.1.b1.lt HN.out ?_; intro A1 n1 c1 w11 hn1 hS11; clear hS; have hS := hS11; clear hS11))
        go_wp2
        go_roundw
        case rel => exact ⟨j, (j : Int) - 1, rfl, by omega, rfl, by rw [HST.out]; exact hS, HAL2⟩
        case measure => simp [intOf] <;> omega
    · obtain rfl : i1 = 0 := by omega
      obtain rfl : ii = -1 := by omega
      clear hii hge hi1
      rw [Pee.bothT_end] at hS
      have HALL : ∀ x ∈ c, Pee.cancels x (Img.inv x) = true := fun x hx => HAL.out x (by simpa using hx)
      obtain ⟨Ab, cb, rfl, hRB⟩ := code_of_own (show CRow wr (w.heap.size + 1) u7 (Pee.both c) from hS.f1)
      have hbl := Pee.both_length c
      obtain ⟨N1, hN1⟩ : ∃ N1, l.length + 1 = N1 := ⟨_, rfl⟩
      have o3 : IntKind.i64.wrap at_ = at_ := Go.IntWalk.i64_in _ (by unfold U8 at hu; omega)
      have o4 : IntKind.i64.wrap ((l.length : Int) + 1) = (N1 : Int) := by rw [show (l.length : Int) + 1 = (N1 : Int) by omega]; exact Go.IntWalk.i64_in _ (by omega)
      obtain ⟨k, hk⟩ : ∃ k : Nat, at_.tmod (N1 : Int) = (k : Int) := ⟨(at_.tmod N1).toNat, by rw [Int.toNat_of_nonneg]; exact Int.tmod_nonneg _ hu.1⟩
      have hkl : k ≤ l.length := by have := Int.tmod_lt_of_pos at_ (show (0 : Int) < N1 by omega); omega
      obtain ⟨hOkb, hOptb⟩ := Pee.blk_opt hOk hkl c HALL (by omega)
      have hvb : Img.valid (Pee.blk l k (Pee.both c)) mem st = true := by
        refine Img.valid_iff.2 ⟨fun h3 => (Img.valid_iff.1 hv).1 ?_, hOkb⟩
        have : (Pee.blk l k (Pee.both c)).length ≤ 65536 := hOkb.n
        unfold Img.outside at h3 ⊢
        omega
      have HTG := Lib.hid (Pee.Tg.of hOk)
      obtain ⟨B, hBe⟩ : ∃ B, Pee.both c = B := ⟨_, rfl⟩
      rw [hBe] at hS hRB hbl hOptb hvb ⊢
      obtain ⟨Y, hYe⟩ : ∃ Y, Pee.blk l k B = Y := ⟨_, rfl⟩
      rw [hYe] at hOptb hvb
      obtain ⟨x, hx⟩ : ∃ x, Pee.opt l = x := ⟨_, rfl⟩
      rw [hx] at hOptb
      have hqx : x.length ≤ 65536 := by rw [← hx]; have := Pee.opt_le l; omega
      have HO1 := Lib.hid (fun wx h => popt_ex l x l.length x.length cap mem st rfl hv hx rfl A wx h)
      have HO2 := Lib.hid (fun Ay cy wx h => popt_ex Y x Y.length x.length cy mem st rfl hvb hOptb rfl Ay wx h)
      have HC := Lib.hid (fun A1 A2 c1 c2 wx h h' => codes_ex x x A1 A2 x.length x.length c1 c2 true rfl rfl (by simp) hqx wx h h')
      have HY1 := Lib.hid (show k < l.length → Pee.blkT l B k l.length = Y from fun h => by rw [← hYe]; exact Pee.blkT_end h)
      have HY2 := Lib.hid (show k = l.length → Pee.blkT l B k l.length ++ B = Y from fun h => by rw [← hYe]; subst h; exact Pee.blkT_end2 l B)
      have HBL := Lib.hid (show B.length ≤ 180 by omega)
      have o8 : ((N1 : Int) == 0) = false := beq_eq_false_iff_ne.2 (by omega)
      have o9 : ¬ (N1 : Int) = 0 := by omega
      have o10 : (0 : Int) < (N1 : Int) := by omega
      clear hv hOk hu hOkb hvb hOptb hx hYe hqx HALL HAL HSM hBe hRB hbl hN1
      go_upto_region 11 with fail
      apply wp_abs (w0 := w)
      · (repeat (first | with_reducible apply Sx.alloc | with_reducible apply Sx.drew | with_reducible apply Sx.drewN | with_reducible exact hS))
      intro wx hS2; clear hS; have hS := hS2; clear hS2; (try simp only [World.size_alloc, World.size_drew] at hS)
      clear hc; have hc := hS.cellsL; simp only [CellsL, CellsF, Nat.zero_add, Nat.reduceAdd, and_true, true_and] at hc
      obtain ⟨ws, hws⟩ : ∃ ws : World, ws = wx := ⟨_, rfl⟩
      rw [← hws] at hS hc ⊢
      clear hws
      have hSB := hS
      have HIM := Lib.hid hSB.1.b1
      have HLA := Lib.hid (CodeAt.after hSB.below hA)
      have HBO := Lib.hid (show CodeAt ws Ab B from by
        obtain ⟨A9, c9, e9, h9⟩ := code_of_own (show CRow ws (w.heap.size + 1) (.slice Ab B.length cb) B from hSB.f1)
        cases e9
        exact h9)
      clear hS
      have hS : Sx ws [] [] ws := Sx.start (F := []) ws (fun _ h => by cases h)
      go_upto_region 12 with fail
      apply wp_abs (w0 := ws)
      · (repeat (first | with_reducible apply Sx.alloc | with_reducible apply Sx.drew | with_reducible apply Sx.drewN | with_reducible exact hS))
      intro wx hS2; clear hS; have hS := hS2; clear hS2; (try simp only [World.size_alloc, World.size_drew] at hS)
      clear hc; have hc := hS.cellsL; simp only [CellsL, CellsF, Nat.zero_add, Nat.reduceAdd, and_true, true_and] at hc
      obtain ⟨gy, hgy⟩ : ∃ q, ws.heap.size = q := ⟨_, rfl⟩
      have HG0 := Lib.hid (show ws.heap.size ≤ gy by omega)
      have HGB := Lib.hid (show ws.heap.size ≤ gy + 1 by omega)
      have HGW := Lib.hid (show w.heap.size < gy by rw [← hgy]; exact hSB.1.b1.lt)
      simp only [hgy] at hS hc ⊢
      obtain ⟨m0, m1, m2, -, -, -⟩ := Blk.cells3 (Blk.after hS.below HIM.out)
      go_wp2
      obtain ⟨wo, hwo⟩ : ∃ wo : World, wo = wx := ⟨_, rfl⟩
      rw [← hwo] at hS hc ⊢
      clear hwo hc m0 m1 m2
      go_loopw [84] (fun s wr => ∃ (j : Nat) (v : Value), j ≤ l.length ∧ s = .int .i64 (j : Int) ∧ Sx ws [(gy, 24, #[v, .int .i64 mem, .int .i64 st])] [rowF (gy + 1) v (Pee.blkT l B k j)] wr) (fun s _ => l.length - (intOf s).toNat)
      case atStart => exact ⟨0, _, Nat.zero_le _, rfl, Sx.add (f := rowF (gy + 1) (.slice none 0 0) (Pee.blkT l B k 0)) (by rw [Pee.blkT_start]; exact World.ownsRow_nil _ _ _ _) hS⟩
      case round =>
        clear hS
        obtain ⟨j, v, hj, rfl, hS⟩ := hrel
        have hc := hS.cellsL
        simp only [CellsL, CellsF, Nat.zero_add, Nat.reduceAdd, and_true, true_and] at hc
        by_cases hlt : j < l.length
        · obtain ⟨b, o, rfl⟩ := hA.some (by omega)
          obtain ⟨hb, x0, x1, x2, x3, x4⟩ := CodeAt.cells (CodeAt.after hS.below HLA.out) hlt
          have HLN := Lib.hid (Pee.blkT_len (l := l) (B := B) (k := k) (j := j))
          have HST0 := Lib.hid (fun h : j ≠ k => Pee.blkT_lt (B := B) hlt h)
          have HST1 := Lib.hid (show j = k → Pee.blkT l B k (j + 1) = (Pee.blkT l B k j ++ B) ++ [Pee.rt (Pee.upM k B.length) (Img.at_ l j)] from fun h => by subst h; exact Pee.blkT_eq hlt)
          have HTJ := Lib.hid (HTG.out j hlt)
          have hrow := row_own hS.f1
          generalize Pee.blkT l B k j = ls at *
          obtain ⟨x9, hx9⟩ : ∃ x9, Img.at_ l j = x9 := ⟨_, rfl⟩
          rw [hx9] at x0 x1 x2 x3 x4 HST0 HST1 HTJ
          obtain ⟨y, Hy⟩ : ∃ y, Hid (Pee.rt (Pee.upM k B.length) x9 = y) := ⟨_, Lib.hid rfl⟩
          rw [Hy.out] at HST0 HST1
          have HLEN := Lib.hid (show ls.length ≤ 131072 by have := HLN.out; have := HBL.out; omega)
          have HLEN2 := Lib.hid (show ls.length + B.length ≤ 131072 by have := HLN.out; have := HBL.out; omega)
          have HLEN3 := Lib.hid (show (ls ++ B).length ≤ 131072 by have := HLN.out; have := HBL.out; rw [List.length_append]; omega)
          have hgyw := hS.1.b1.lt
          have hsz := hS.1.1.size
          go_upto_region 15 with fail
          apply wp_abs (w0 := ws)
          · (repeat (first | with_reducible apply Sx.alloc | with_reducible apply Sx.drew | with_reducible apply Sx.drewN | with_reducible exact hS))
          intro wx hS2; clear hS; have hS := hS2; clear hS2; (try simp only [World.size_alloc, World.size_drew] at hS)
          clear hc; have hc := hS.cellsL; simp only [CellsL, CellsF, Nat.zero_add, Nat.reduceAdd, and_true, true_and] at hc
          obtain ⟨gx, hgx⟩ : ∃ q, wr.heap.size = q := ⟨_, rfl⟩
          have HN := Lib.hid (show v.ownBlock ≠ some gx ∧ v.ownBlock ≠ some gy from ⟨fun e => by have := hrow _ e; omega, fun e => by have := hrow _ e; omega⟩)
          have HGX := Lib.hid (show gx ≠ gy by rw [← hgx]; simp at hgyw; omega)
          have HGX2 := Lib.hid (show ws.heap.size ≤ gx by rw [← hgx]; exact hsz)
          simp only [hgx] at hS hc ⊢
          clear hgx hrow hgyw hsz hb x0 x1 x2 x3 x4 hx9 HLN
          cases hh : Img.has x9
          · have HT := Lib.hid (target_ex x9 _ false rfl hh)
            have hy : x9 = y := by have := Hy.out; rw [Pee.rt_no hh] at this; exact this
            rw [hy] at hS HT hc
            clear hh Hy hy HTJ
            go_upto_region 18 with (first | (go_at_call 33; apply calls_abs (w0 := ws); (repeat (first | with_reducible apply Sx.alloc | with_reducible apply Sx.drew | with_reducible apply Sx.drewN | with_reducible exact hS)); intro wx hS2; clear hS; have hS := hS2; clear hS2; (try simp only [World.size_alloc, World.size_drew] at hS); refine (HT.out _).mono ?_; rintro e wn ⟨rfl, hB⟩; replace hS := Sx.call hB hS; clear hB; clear hc; have hc := hS.cellsL; simp only [CellsL, CellsF, Nat.zero_add, Nat.reduceAdd, and_true, true_and] at hc))
            obtain ⟨wx, hwx⟩ : ∃ wx : World, wx = wn := ⟨_, rfl⟩
            rw [← hwx] at hS hc ⊢
            clear hwx
            by_cases hjk : j = k
            · have g3 : ((j : Int) == (k : Int)) = true := by simp [hjk]
              have HST := Lib.hid (HST1.out hjk)
              clear HST0 HST1 hjk
              have hgw : gy + 1 ≤ wx.heap.size := hS.swap.1.b1.lt
              have hRB : CodeAt wx Ab B := CodeAt.after hS.below HBO.out
              go_upto_region 20 with (first | (at_builtin; refine wpList_pour hS hRB rfl _ _ rfl rfl rfl HLEN2.out HGB.out hgw (two_ne HN.out.1 HN.out.2) ?_; intro A2 n2 c2 w10 hn2 hS10 hN10; clear hS; have hS := hS10; clear hS10; clear hc; have hc := hS.cellsL; simp only [CellsL, CellsF, Nat.zero_add, Nat.reduceAdd, and_true, true_and] at hc))
              have hlt9 := row_own hS.f1
              have hgxw := HGX.out
              have h9 := (Sx.swap hS).put HG0.out (by intro z hz; simp only [List.mem_cons, List.not_mem_nil, or_false] at hz; subst hz; simp; omega) (by intro f hf; simp only [List.mem_cons, List.not_mem_nil, or_false] at hf; subst hf; exact far_row (fun e => by have := (hlt9 _ e).1; omega)) 0 (.slice A2 n2 c2)
              rw [set3_at0] at h9
              refine wp_abs (Sx.swap h9) ?_
              clear hgw hRB HLEN HN hc hlt9 hgxw
              intro wx hS2; clear hS; have hS := hS2; clear hS2; (try simp only [World.size_alloc, World.size_drew] at hS)
              clear h9
              have hc := hS.cellsL
              simp only [List.setIfInBounds_toArray, List.set_cons_zero, CellsL, CellsF, Nat.zero_add, Nat.reduceAdd, and_true, true_and] at hc
              have HN := Lib.hid (⟨hN10 _ (List.mem_cons_self ..), hN10 _ (List.mem_cons_of_mem _ (List.mem_cons_self ..))⟩ : (Value.slice A2 n2 c2).ownBlock ≠ some gx ∧ (Value.slice A2 n2 c2).ownBlock ≠ some gy)
              have HLEN := HLEN3
              clear hN10
              have hgw : gy + 1 ≤ wx.heap.size := hS.swap.1.b1.lt
              go_upto_region 21 with (first | (at_builtin; refine wpList_push y hS rfl _ _ rfl rfl rfl HLEN.out HGB.out hgw (two_ne HN.out.1 HN.out.2) ?_; intro A1 n1 c1 w10 hn1 hS10; clear hS; have hS := hS10; clear hS10; clear hc; have hc := hS.cellsL; simp only [CellsL, CellsF, Nat.zero_add, Nat.reduceAdd, and_true, true_and] at hc))
              have hlt9 := row_own hS.f1
              have h9 := (Sx.drop hS).put HG0.out (by intro z hz; cases hz) (by intro f hf; simp only [List.mem_cons, List.not_mem_nil, or_false] at hf; subst hf; exact far_row (fun e => by have := (hlt9 _ e).1; omega)) 0 (.slice A1 n1 c1)
              go_wp2
              go_roundw
              case rel => exact ⟨j + 1, (.slice A1 n1 c1), hlt, by go_num, by rw [HST.out]; exact h9⟩
              case measure => simp [intOf] <;> omega
            · have g3 : ((j : Int) == (k : Int)) = false := beq_eq_false_iff_ne.2 (by omega)
              have HST := Lib.hid (HST0.out hjk)
              clear HST0 HST1 hjk
              go_upto_region 20 with fail
              have hgw : gy + 1 ≤ wx.heap.size := hS.swap.1.b1.lt
              go_upto_region 21 with (first | (at_builtin; refine wpList_push y hS rfl _ _ rfl rfl rfl HLEN.out HGB.out hgw (two_ne HN.out.1 HN.out.2) ?_; intro A1 n1 c1 w10 hn1 hS10; clear hS; have hS := hS10; clear hS10; clear hc; have hc := hS.cellsL; simp only [CellsL, CellsF, Nat.zero_add, Nat.reduceAdd, and_true, true_and] at hc))
              have hlt9 := row_own hS.f1
              have h9 := (Sx.drop hS).put HG0.out (by intro z hz; cases hz) (by intro f hf; simp only [List.mem_cons, List.not_mem_nil, or_false] at hf; subst hf; exact far_row (fun e => by have := (hlt9 _ e).1; omega)) 0 (.slice A1 n1 c1)
              go_wp2
              go_roundw
              case rel => exact ⟨j + 1, (.slice A1 n1 c1), hlt, by go_num, by rw [HST.out]; exact h9⟩
              case measure => simp [intOf] <;> omega
          · obtain ⟨t, ht1, ht2, -⟩ := HTJ.out hh
            have HT := Lib.hid (target_ex x9 (t : Int) true ht1 hh)
            by_cases htk : k ≤ t
            · have g5 : (k : Int) ≤ (t : Int) := by omega
              have g6 : decide ((k : Int) ≤ (t : Int)) = true := decide_eq_true g5
              have o6 : IntKind.i64.wrap ((t : Int) + (B.length : Int)) = (t : Int) + (B.length : Int) := Go.IntWalk.i64_in _ (by have := HBL.out; omega)
              have HR := Lib.hid (retarget_ex x9 y ((t : Int) + (B.length : Int)) (by have := Hy.out; rw [Pee.rt_yes hh, ht1] at this; unfold Pee.upM at this; rw [if_pos g5] at this; exact this))
              clear hh Hy HTJ ht1 htk
              go_upto_region 18 with (first | (go_at_call 33; apply calls_abs (w0 := ws); (repeat (first | with_reducible apply Sx.alloc | with_reducible apply Sx.drew | with_reducible apply Sx.drewN | with_reducible exact hS)); intro wx hS2; clear hS; have hS := hS2; clear hS2; (try simp only [World.size_alloc, World.size_drew] at hS); refine (HT.out _).mono ?_; rintro e wn ⟨rfl, hB⟩; replace hS := Sx.call hB hS; clear hB; clear hc; have hc := hS.cellsL; simp only [CellsL, CellsF, Nat.zero_add, Nat.reduceAdd, and_true, true_and] at hc) | (go_at_call 34; apply calls_abs (w0 := ws); (repeat (first | with_reducible apply Sx.alloc | with_reducible apply Sx.drew | with_reducible apply Sx.drewN | with_reducible exact hS)); intro wx hS2; clear hS; have hS := hS2; clear hS2; (try simp only [World.size_alloc, World.size_drew] at hS); refine (HR.out _).mono ?_; rintro e wn ⟨rfl, hB⟩; replace hS := Sx.call hB hS; clear hB; clear hc; have hc := hS.cellsL; simp only [CellsL, CellsF, Nat.zero_add, Nat.reduceAdd, and_true, true_and] at hc))
              have hS9 := hS.set5 HGX2.out (by intro z hz; simp only [List.mem_cons, List.not_mem_nil, or_false] at hz; subst hz; exact Ne.symm HGX.out) (by intro f hf; simp only [List.mem_cons, List.not_mem_nil, or_false] at hf; subst hf; exact far_row HN.out.1) (.int .u8 y.op) (.int .i64 y.a) (.int .i64 y.b) (.int .i64 y.c) (.int .i64 y.d)
              refine wp_abs hS9 ?_
              intro wx hS2; clear hS; have hS := hS2; clear hS2; (try simp only [World.size_alloc, World.size_drew] at hS)
              clear hc; have hc := hS.cellsL; simp only [CellsL, CellsF, Nat.zero_add, Nat.reduceAdd, and_true, true_and] at hc
              clear hS9
              by_cases hjk : j = k
              · have g3 : ((j : Int) == (k : Int)) = true := by simp [hjk]
                have HST := Lib.hid (HST1.out hjk)
                clear HST0 HST1 hjk
                have hgw : gy + 1 ≤ wx.heap.size := hS.swap.1.b1.lt
                have hRB : CodeAt wx Ab B := CodeAt.after hS.below HBO.out
                go_upto_region 20 with (first | (at_builtin; refine wpList_pour hS hRB rfl _ _ rfl rfl rfl HLEN2.out HGB.out hgw (two_ne HN.out.1 HN.out.2) ?_; intro A2 n2 c2 w10 hn2 hS10 hN10; clear hS; have hS := hS10; clear hS10; clear hc; have hc := hS.cellsL; simp only [CellsL, CellsF, Nat.zero_add, Nat.reduceAdd, and_true, true_and] at hc))
                have hlt9 := row_own hS.f1
                have hgxw := HGX.out
                have h9 := (Sx.swap hS).put HG0.out (by intro z hz; simp only [List.mem_cons, List.not_mem_nil, or_false] at hz; subst hz; simp; omega) (by intro f hf; simp only [List.mem_cons, List.not_mem_nil, or_false] at hf; subst hf; exact far_row (fun e => by have := (hlt9 _ e).1; omega)) 0 (.slice A2 n2 c2)
                rw [set3_at0] at h9
                refine wp_abs (Sx.swap h9) ?_
                clear hgw hRB HLEN HN hc hlt9 hgxw
                intro wx hS2; clear hS; have hS := hS2; clear hS2; (try simp only [World.size_alloc, World.size_drew] at hS)
                clear h9
                have hc := hS.cellsL
                simp only [List.setIfInBounds_toArray, List.set_cons_zero, CellsL, CellsF, Nat.zero_add, Nat.reduceAdd, and_true, true_and] at hc
                have HN := Lib.hid (⟨hN10 _ (List.mem_cons_self ..), hN10 _ (List.mem_cons_of_mem _ (List.mem_cons_self ..))⟩ : (Value.slice A2 n2 c2).ownBlock ≠ some gx ∧ (Value.slice A2 n2 c2).ownBlock ≠ some gy)
                have HLEN := HLEN3
                clear hN10
                have hgw : gy + 1 ≤ wx.heap.size := hS.swap.1.b1.lt
                go_upto_region 21 with (first | (at_builtin; refine wpList_push y hS rfl _ _ rfl rfl rfl HLEN.out HGB.out hgw (two_ne HN.out.1 HN.out.2) ?_; intro A1 n1 c1 w10 hn1 hS10; clear hS; have hS := hS10; clear hS10; clear hc; have hc := hS.cellsL; simp only [CellsL, CellsF, Nat.zero_add, Nat.reduceAdd, and_true, true_and] at hc))
                have hlt9 := row_own hS.f1
                have h9 := (Sx.drop hS).put HG0.out (by intro z hz; cases hz) (by intro f hf; simp only [List.mem_cons, List.not_mem_nil, or_false] at hf; subst hf; exact far_row (fun e => by have := (hlt9 _ e).1; omega)) 0 (.slice A1 n1 c1)
                go_wp2
                go_roundw
                case rel => exact ⟨j + 1, (.slice A1 n1 c1), hlt, by go_num, by rw [HST.out]; exact h9⟩
                case measure => simp [intOf] <;> omega
              · have g3 : ((j : Int) == (k : Int)) = false := beq_eq_false_iff_ne.2 (by omega)
                have HST := Lib.hid (HST0.out hjk)
                clear HST0 HST1 hjk
                go_upto_region 20 with fail
                have hgw : gy + 1 ≤ wx.heap.size := hS.swap.1.b1.lt
                go_upto_region 21 with (first | (at_builtin; refine wpList_push y hS rfl _ _ rfl rfl rfl HLEN.out HGB.out hgw (two_ne HN.out.1 HN.out.2) ?_; intro A1 n1 c1 w10 hn1 hS10; clear hS; have hS := hS10; clear hS10; clear hc; have hc := hS.cellsL; simp only [CellsL, CellsF, Nat.zero_add, Nat.reduceAdd, and_true, true_and] at hc))
                have hlt9 := row_own hS.f1
                have h9 := (Sx.drop hS).put HG0.out (by intro z hz; cases hz) (by intro f hf; simp only [List.mem_cons, List.not_mem_nil, or_false] at hf; subst hf; exact far_row (fun e => by have := (hlt9 _ e).1; omega)) 0 (.slice A1 n1 c1)
                go_wp2
                go_roundw
                case rel => exact ⟨j + 1, (.slice A1 n1 c1), hlt, by go_num, by rw [HST.out]; exact h9⟩
                case measure => simp [intOf] <;> omega
            · have g5 : ¬ (k : Int) ≤ (t : Int) := by omega
              have g6 : decide ((k : Int) ≤ (t : Int)) = false := decide_eq_false g5
              have hy : x9 = y := by have := Hy.out; rw [Pee.rt_low (fun _ => by rw [ht1]; unfold Pee.upM; rw [if_neg g5])] at this; exact this
              rw [hy] at hS HT hc
              clear hh Hy hy HTJ ht1 htk
              go_upto_region 18 with (first | (go_at_call 33; apply calls_abs (w0 := ws); (repeat (first | with_reducible apply Sx.alloc | with_reducible apply Sx.drew | with_reducible apply Sx.drewN | with_reducible exact hS)); intro wx hS2; clear hS; have hS := hS2; clear hS2; (try simp only [World.size_alloc, World.size_drew] at hS); refine (HT.out _).mono ?_; rintro e wn ⟨rfl, hB⟩; replace hS := Sx.call hB hS; clear hB; clear hc; have hc := hS.cellsL; simp only [CellsL, CellsF, Nat.zero_add, Nat.reduceAdd, and_true, true_and] at hc))
              obtain ⟨wx, hwx⟩ : ∃ wx : World, wx = wn := ⟨_, rfl⟩
              rw [← hwx] at hS hc ⊢
              clear hwx
              by_cases hjk : j = k
              · have g3 : ((j : Int) == (k : Int)) = true := by simp [hjk]
                have HST := Lib.hid (HST1.out hjk)
                clear HST0 HST1 hjk
                have hgw : gy + 1 ≤ wx.heap.size := hS.swap.1.b1.lt
                have hRB : CodeAt wx Ab B := CodeAt.after hS.below HBO.out
                go_upto_region 20 with (first | (at_builtin; refine wpList_pour hS hRB rfl _ _ rfl rfl rfl HLEN2.out HGB.out hgw (two_ne HN.out.1 HN.out.2) ?_; intro A2 n2 c2 w10 hn2 hS10 hN10; clear hS; have hS := hS10; clear hS10; clear hc; have hc := hS.cellsL; simp only [CellsL, CellsF, Nat.zero_add, Nat.reduceAdd, and_true, true_and] at hc))
                have hlt9 := row_own hS.f1
                have hgxw := HGX.out
                have h9 := (Sx.swap hS).put HG0.out (by intro z hz; simp only [List.mem_cons, List.not_mem_nil, or_false] at hz; subst hz; simp; omega) (by intro f hf; simp only [List.mem_cons, List.not_mem_nil, or_false] at hf; subst hf; exact far_row (fun e => by have := (hlt9 _ e).1; omega)) 0 (.slice A2 n2 c2)
                rw [set3_at0] at h9
                refine wp_abs (Sx.swap h9) ?_
                clear hgw hRB HLEN HN hc hlt9 hgxw
                intro wx hS2; clear hS; have hS := hS2; clear hS2; (try simp only [World.size_alloc, World.size_drew] at hS)
                clear h9
                have hc := hS.cellsL
                simp only [List.setIfInBounds_toArray, List.set_cons_zero, CellsL, CellsF, Nat.zero_add, Nat.reduceAdd, and_true, true_and] at hc
                have HN := Lib.hid (⟨hN10 _ (List.mem_cons_self ..), hN10 _ (List.mem_cons_of_mem _ (List.mem_cons_self ..))⟩ : (Value.slice A2 n2 c2).ownBlock ≠ some gx ∧ (Value.slice A2 n2 c2).ownBlock ≠ some gy)
                have HLEN := HLEN3
                clear hN10
                have hgw : gy + 1 ≤ wx.heap.size := hS.swap.1.b1.lt
                go_upto_region 21 with (first | (at_builtin; refine wpList_push y hS rfl _ _ rfl rfl rfl HLEN.out HGB.out hgw (two_ne HN.out.1 HN.out.2) ?_; intro A1 n1 c1 w10 hn1 hS10; clear hS; have hS := hS10; clear hS10; clear hc; have hc := hS.cellsL; simp only [CellsL, CellsF, Nat.zero_add, Nat.reduceAdd, and_true, true_and] at hc))
                have hlt9 := row_own hS.f1
                have h9 := (Sx.drop hS).put HG0.out (by intro z hz; cases hz) (by intro f hf; simp only [List.mem_cons, List.not_mem_nil, or_false] at hf; subst hf; exact far_row (fun e => by have := (hlt9 _ e).1; omega)) 0 (.slice A1 n1 c1)
                go_wp2
                go_roundw
                case rel => exact ⟨j + 1, (.slice A1 n1 c1), hlt, by go_num, by rw [HST.out]; exact h9⟩
                case measure => simp [intOf] <;> omega
              · have g3 : ((j : Int) == (k : Int)) = false := beq_eq_false_iff_ne.2 (by omega)
                have HST := Lib.hid (HST0.out hjk)
                clear HST0 HST1 hjk
                go_upto_region 20 with fail
                have hgw : gy + 1 ≤ wx.heap.size := hS.swap.1.b1.lt
                go_upto_region 21 with (first | (at_builtin; refine wpList_push y hS rfl _ _ rfl rfl rfl HLEN.out HGB.out hgw (two_ne HN.out.1 HN.out.2) ?_; intro A1 n1 c1 w10 hn1 hS10; clear hS; have hS := hS10; clear hS10; clear hc; have hc := hS.cellsL; simp only [CellsL, CellsF, Nat.zero_add, Nat.reduceAdd, and_true, true_and] at hc))
                have hlt9 := row_own hS.f1
                have h9 := (Sx.drop hS).put HG0.out (by intro z hz; cases hz) (by intro f hf; simp only [List.mem_cons, List.not_mem_nil, or_false] at hf; subst hf; exact far_row (fun e => by have := (hlt9 _ e).1; omega)) 0 (.slice A1 n1 c1)
                go_wp2
                go_roundw
                case rel => exact ⟨j + 1, (.slice A1 n1 c1), hlt, by go_num, by rw [HST.out]; exact h9⟩
                case measure => simp [intOf] <;> omega
        · obtain rfl : j = l.length := by omega
          have HLN := Lib.hid (Pee.blkT_len (l := l) (B := B) (k := k) (j := l.length))
          obtain ⟨m0, m1, m2, -, -, -⟩ := Blk.cells3 (Blk.after hS.below HIM.out)
          by_cases hkn : k = l.length
          · have g3 : ((k : Int) == (l.length : Int)) = true := by simp [hkn]
            have hYY := HY2.out hkn
            have hrow := row_own hS.f1
            have HN := Lib.hid (show ∀ z ∈ ([(gy, 24, #[v, .int .i64 mem, .int .i64 st])] : List (Nat × TypeId × Array Value)), v.ownBlock ≠ some z.1 from fun z hz e => by
              simp only [List.mem_cons, List.not_mem_nil, or_false] at hz
              rw [hz] at e
              have h9 := (hrow _ e).1
              simp at h9
              omega)
            have HLEN2 := Lib.hid (show (Pee.blkT l B k l.length).length + B.length ≤ 131072 by have := HLN.out; have := HBL.out; omega)
            have hgw : gy + 1 ≤ wr.heap.size := hS.1.b1.lt
            have hRB : CodeAt wr Ab B := CodeAt.after hS.below HBO.out
            generalize Pee.blkT l B k l.length = ls at *
            clear hkn hrow HY1 HY2
            go_upto_region 24 with (first | (at_builtin; refine wpList_pour hS hRB rfl _ _ rfl rfl rfl HLEN2.out HGB.out hgw HN.out ?_; intro A2 n2 c2 w10 hn2 hS10 _; clear hS; have hS := hS10; clear hS10; clear hc; have hc := hS.cellsL; simp only [CellsL, CellsF, Nat.zero_add, Nat.reduceAdd, and_true, true_and] at hc))
            have hlt9 := row_own hS.f1
            have h9 := hS.put HG0.out (by intro z hz; cases hz) (by intro f hf; simp only [List.mem_cons, List.not_mem_nil, or_false] at hf; subst hf; exact far_row (fun e => by have := (hlt9 _ e).1; omega)) 0 (.slice A2 n2 c2)
            refine wp_abs h9 ?_
            intro wx hS2; clear hS; have hS := hS2; clear hS2; (try simp only [World.size_alloc, World.size_drew] at hS)
            rw [hYY] at hS
            clear h9 hlt9 hgw hRB HN HLEN2
            obtain ⟨Ay, cy, hvy, hRY⟩ := code_of_own (show CRow wx (gy + 1) (.slice A2 n2 c2) Y from hS.f1)
            injection hvy with e1 e2 e3; have e4 := e1.symm; have e5 := e3.symm; subst e4 e5 e2
            have hSF : Sx w [(gy, 24, #[Value.slice Ay Y.length cy, .int .i64 mem, .int .i64 st]), (w.heap.size, 24, #[.slice A l.length cap, .int .i64 mem, .int .i64 st])] [codeF Ay Y, codeF A l] wx := ⟨⟨(hSB.below).trans (hS.below.mono hSB.1.1.size), fun z hz => by
                simp only [List.mem_cons, List.not_mem_nil, or_false] at hz
                rcases hz with rfl | rfl
                · exact hS.1.b1
                · exact Blk.after hS.below HIM.out⟩, fun f hf => by
                simp only [List.mem_cons, List.not_mem_nil, or_false] at hf
                rcases hf with rfl | rfl
                · exact hRY
                · exact CodeAt.after hS.below HLA.out⟩
            clear hS hc m0 m1 m2 hRY
            have hS := hSF
            clear hSF
            have hc := hS.cellsL
            simp only [CellsL, CellsF, Nat.zero_add, Nat.reduceAdd, and_true, true_and] at hc
            go_upto_region 25 with (first | (go_at_call 41; apply calls_abs (w0 := w); (repeat (first | with_reducible apply Sx.alloc | with_reducible apply Sx.drew | with_reducible apply Sx.drewN | with_reducible exact hS)); intro wx hS2; clear hS; have hS := hS2; clear hS2; (try simp only [World.size_alloc, World.size_drew] at hS); refine (HO1.out _ hS.f2).mono ?_; rintro e wn ⟨A5, c5, rfl, hB, h5⟩; replace hS := Sx.callF (f := codeF A5 x) hB (h5) hS; clear hB; clear hc; have hc := hS.cellsL; simp only [CellsL, CellsF, Nat.zero_add, Nat.reduceAdd, and_true, true_and] at hc; obtain ⟨b1, hb1⟩ : ∃ q, wn.heap.size = q := ⟨_, rfl⟩; simp only [hb1] at hc))
            apply wp_abs (w0 := w)
            · (repeat (first | with_reducible apply Sx.alloc | with_reducible apply Sx.drew | with_reducible apply Sx.drewN | with_reducible exact hS))
            intro wx hS2; clear hS; have hS := hS2; clear hS2; (try simp only [World.size_alloc, World.size_drew] at hS)
            clear hc; have hc := hS.cellsL; simp only [CellsL, CellsF, Nat.zero_add, Nat.reduceAdd, and_true, true_and] at hc
            simp only [hb1] at hS hc ⊢
            go_upto_region 26 with (first | (go_at_call 41; apply calls_abs (w0 := w); (repeat (first | with_reducible apply Sx.alloc | with_reducible apply Sx.drew | with_reducible apply Sx.drewN | with_reducible exact hS)); intro wx hS2; clear hS; have hS := hS2; clear hS2; (try simp only [World.size_alloc, World.size_drew] at hS); refine (HO2.out _ _ _ hS.f2).mono ?_; rintro e wn ⟨A6, c6, rfl, hB, h6⟩; replace hS := Sx.callF (f := codeF A6 x) hB (h6) hS; clear hB; clear hc; have hc := hS.cellsL; simp only [CellsL, CellsF, Nat.zero_add, Nat.reduceAdd, and_true, true_and] at hc; obtain ⟨b2, hb2⟩ : ∃ q, wn.heap.size = q := ⟨_, rfl⟩; simp only [hb2] at hc))
            apply wp_abs (w0 := w)
            · (repeat (first | with_reducible apply Sx.alloc | with_reducible apply Sx.drew | with_reducible apply Sx.drewN | with_reducible exact hS))
            intro wx hS2; clear hS; have hS := hS2; clear hS2; (try simp only [World.size_alloc, World.size_drew] at hS)
            clear hc; have hc := hS.cellsL; simp only [CellsL, CellsF, Nat.zero_add, Nat.reduceAdd, and_true, true_and] at hc
            simp only [hb1, hb2] at hS hc ⊢
            go_wp2_with (first | (go_at_call 42; apply calls_abs (w0 := w); (repeat (first | with_reducible apply Sx.alloc | with_reducible apply Sx.drew | with_reducible apply Sx.drewN | with_reducible exact hS)); intro wx hS2; clear hS; have hS := hS2; clear hS2; (try simp only [World.size_alloc, World.size_drew] at hS); refine (HC.out _ _ _ _ _ hS.f2 hS.f1).mono ?_; rintro e wn ⟨rfl, hB⟩; replace hS := Sx.call hB hS; clear hB; clear hc; have hc := hS.cellsL; simp only [CellsL, CellsF, Nat.zero_add, Nat.reduceAdd, and_true, true_and] at hc))
            go_ret
            exact ⟨rfl, hS.below⟩
          · have g3 : ((k : Int) == (l.length : Int)) = false := beq_eq_false_iff_ne.2 (by omega)
            rw [HY1.out (by omega)] at hS
            clear hkn HY1 HY2
            go_upto_region 24 with fail
            obtain ⟨wx, hwx⟩ : ∃ wx : World, wx = wr := ⟨_, rfl⟩
            rw [← hwx] at hS hc m0 m1 m2 ⊢
            clear hwx
            obtain ⟨Ay, cy, hvy, hRY⟩ := code_of_own (show CRow wx (gy + 1) v Y from hS.f1)
            subst hvy
            have hSF : Sx w [(gy, 24, #[Value.slice Ay Y.length cy, .int .i64 mem, .int .i64 st]), (w.heap.size, 24, #[.slice A l.length cap, .int .i64 mem, .int .i64 st])] [codeF Ay Y, codeF A l] wx := ⟨⟨(hSB.below).trans (hS.below.mono hSB.1.1.size), fun z hz => by
                simp only [List.mem_cons, List.not_mem_nil, or_false] at hz
                rcases hz with rfl | rfl
                · exact hS.1.b1
                · exact Blk.after hS.below HIM.out⟩, fun f hf => by
                simp only [List.mem_cons, List.not_mem_nil, or_false] at hf
                rcases hf with rfl | rfl
                · exact hRY
                · exact CodeAt.after hS.below HLA.out⟩
            clear hS hc m0 m1 m2 hRY
            have hS := hSF
            clear hSF
            have hc := hS.cellsL
            simp only [CellsL, CellsF, Nat.zero_add, Nat.reduceAdd, and_true, true_and] at hc
            go_upto_region 25 with (first | (go_at_call 41; apply calls_abs (w0 := w); (repeat (first | with_reducible apply Sx.alloc | with_reducible apply Sx.drew | with_reducible apply Sx.drewN | with_reducible exact hS)); intro wx hS2; clear hS; have hS := hS2; clear hS2; (try simp only [World.size_alloc, World.size_drew] at hS); refine (HO1.out _ hS.f2).mono ?_; rintro e wn ⟨A5, c5, rfl, hB, h5⟩; replace hS := Sx.callF (f := codeF A5 x) hB (h5) hS; clear hB; clear hc; have hc := hS.cellsL; simp only [CellsL, CellsF, Nat.zero_add, Nat.reduceAdd, and_true, true_and] at hc; obtain ⟨b1, hb1⟩ : ∃ q, wn.heap.size = q := ⟨_, rfl⟩; simp only [hb1] at hc))
            apply wp_abs (w0 := w)
            · (repeat (first | with_reducible apply Sx.alloc | with_reducible apply Sx.drew | with_reducible apply Sx.drewN | with_reducible exact hS))
            intro wx hS2; clear hS; have hS := hS2; clear hS2; (try simp only [World.size_alloc, World.size_drew] at hS)
            clear hc; have hc := hS.cellsL; simp only [CellsL, CellsF, Nat.zero_add, Nat.reduceAdd, and_true, true_and] at hc
            simp only [hb1] at hS hc ⊢
            go_upto_region 26 with (first | (go_at_call 41; apply calls_abs (w0 := w); (repeat (first | with_reducible apply Sx.alloc | with_reducible apply Sx.drew | with_reducible apply Sx.drewN | with_reducible exact hS)); intro wx hS2; clear hS; have hS := hS2; clear hS2; (try simp only [World.size_alloc, World.size_drew] at hS); refine (HO2.out _ _ _ hS.f2).mono ?_; rintro e wn ⟨A6, c6, rfl, hB, h6⟩; replace hS := Sx.callF (f := codeF A6 x) hB (h6) hS; clear hB; clear hc; have hc := hS.cellsL; simp only [CellsL, CellsF, Nat.zero_add, Nat.reduceAdd, and_true, true_and] at hc; obtain ⟨b2, hb2⟩ : ∃ q, wn.heap.size = q := ⟨_, rfl⟩; simp only [hb2] at hc))
            apply wp_abs (w0 := w)
            · (repeat (first | with_reducible apply Sx.alloc | with_reducible apply Sx.drew | with_reducible apply Sx.drewN | with_reducible exact hS))
            intro wx hS2; clear hS; have hS := hS2; clear hS2; (try simp only [World.size_alloc, World.size_drew] at hS)
            clear hc; have hc := hS.cellsL; simp only [CellsL, CellsF, Nat.zero_add, Nat.reduceAdd, and_true, true_and] at hc
            simp only [hb1, hb2] at hS hc ⊢
            go_wp2_with (first | (go_at_call 42; apply calls_abs (w0 := w); (repeat (first | with_reducible apply Sx.alloc | with_reducible apply Sx.drew | with_reducible apply Sx.drewN | with_reducible exact hS)); intro wx hS2; clear hS; have hS := hS2; clear hS2; (try simp only [World.size_alloc, World.size_drew] at hS); refine (HC.out _ _ _ _ _ hS.f2 hS.f1).mono ?_; rintro e wn ⟨rfl, hB⟩; replace hS := Sx.call hB hS; clear hB; clear hc; have hc := hS.cellsL; simp only [CellsL, CellsF, Nat.zero_add, Nat.reduceAdd, and_true, true_and] at hc))
            go_ret
            exact ⟨rfl, hS.below⟩

end Go.Proofs.Yteonkfdmkgjpaaa
