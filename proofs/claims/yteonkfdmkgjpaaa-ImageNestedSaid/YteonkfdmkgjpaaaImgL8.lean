/- The walks of the laws of layer 23: ImageNested. -/
import Derived.Test.YteonkfdmkgjpaaaImgL5
import Derived.Test.YteonkfdmkgjpaaaImgPure7
import Derived.Test.YteonkfdmkgjpaaaCopy3
import Derived.Deep.RegionHeld3
import Derived.Deep.DeepCutAuto
import Derived.BigQuiet
import Derived.Deep.QuietTactic
import Derived.BigRegion
import Derived.Deep.CutBlock
namespace Go.Proofs.Yteonkfdmkgjpaaa
open Go.RowKit
set_option linter.unusedVariables false
set_option linter.unusedSimpArgs false
theorem far_ints {g b o : Nat} {ns : List Int} (h : b ≠ g) : Far g (intsF (some ⟨b, o, none⟩) ns) := by
  intro W p v hp hc h0
  obtain ⟨b', o', e, h1, h2⟩ := hc h0
  injection e with e
  injection e with e1 e2
  subst e1 e2
  refine ⟨b, o, rfl, by rw [World.size_setCell]; exact h1, fun i hi => ?_⟩
  have hb := Below.heap_setCell W p v b (by rw [hp]; exact h)
  have := h2 i hi
  unfold World.cell? at this ⊢
  rw [hb]
  exact this
theorem procs_ex2 (l : List Ins) (A : Option Addr) (cap : Nat) (mem st : Int) (hn0 : l.length ≤ 65536) (w : World) (hc : CodeAt w A l) :
    Calls Try.prog 31 #[.agg #[.slice A l.length cap, .int .i64 mem, .int .i64 st]] w fun e w' => ∃ A' cap', e = .returned (.slice A' (Img.starts l).length cap') ∧ Below w.heap.size w w' ∧ IntsAt w' A' ((Img.starts l).map fun (i : Nat) => (i : Int)) ∧ (∀ b o, A' = some ⟨b, o, none⟩ → w.heap.size ≤ b) := by
  refine (procs_any0 l A cap mem st w hn0 hc).mono ?_
  rintro e w' ⟨v, rfl, hB, ho⟩
  have h1 : (Img.procsU l l.length) = ((Img.starts l).map fun (i : Nat) => (i : Int)) := rfl
  have h2 : (Img.procsU l l.length).length = (Img.starts l).length := by rw [h1, List.length_map]
  obtain ⟨A', cap', hv, hI⟩ := ints_of_own ho
  refine ⟨A', cap', by rw [hv, h2], hB, hI, fun b o e => ?_⟩
  subst hv e
  have := (ho.lt b rfl).1
  omega
theorem procs_ex3 (l : List Ins) (A : Option Addr) (cap : Nat) (mem st : Int) (hn0 : l.length ≤ 65536) (gA : Nat) (w : World) (hc : CodeAt w A l) (hg : gA < w.heap.size) :
    Calls Try.prog 31 #[.agg #[.slice A l.length cap, .int .i64 mem, .int .i64 st]] w fun e w' => ∃ A' cap', e = .returned (.slice A' (Img.starts l).length cap') ∧ Below w.heap.size w w' ∧ IntsAt w' A' ((Img.starts l).map fun (i : Nat) => (i : Int)) ∧ (∀ b o, A' = some ⟨b, o, none⟩ → gA < b) :=
  (procs_ex2 l A cap mem st hn0 w hc).mono fun e w' ⟨A', cap', h1, h2, h3, h4⟩ => ⟨A', cap', h1, h2, h3, fun b o e => Nat.lt_of_lt_of_le hg (h4 b o e)⟩
theorem isJ_q {P : Unit} (op : Int) (b : Bool) (h : Isa.isJ op = b) (w : World) (n : Nat) : Calls Try.prog 28 #[.int .u8 op] (w.drewN n) fun e w'' => e = .returned (.bool b) ∧ ∃ m, w'' = w.drewN m :=
  Calls.quiet_of_same ((isJ_ex op b h _).mono fun e w' ⟨h1, h2⟩ => ⟨h1, h2.symm⟩)
theorem isL_q {P : Unit} (op : Int) (b : Bool) (h : Isa.isL op = b) (w : World) (n : Nat) : Calls Try.prog 29 #[.int .u8 op] (w.drewN n) fun e w'' => e = .returned (.bool b) ∧ ∃ m, w'' = w.drewN m :=
  Calls.quiet_of_same ((isL_ex op b h _).mono fun e w' ⟨h1, h2⟩ => ⟨h1, h2.symm⟩)
theorem St.arr1 {w0 W : World} {L : List (Nat × TypeId × Array Value)} {F : List WF} {g : Nat} {t : TypeId} {f : Nat → Int} {n : Nat} (h : Sx w0 ((g, t, arr f n) :: L) F W) {k : Nat} (hk : k < n) : W.cell? ⟨g, k, none⟩ = some (.int .i64 (f k)) ∧ W.frozen? ⟨g, k, none⟩ = false :=
  ⟨(h.1.b1.cell k).trans (arr_get hk), h.1.b1.frozen k⟩
theorem St.arrF {w0 W : World} {L : List (Nat × TypeId × Array Value)} {F : List WF} {g : Nat} {t : TypeId} {f f' : Nat → Int} {n : Nat} (h : Sx w0 ((g, t, arr f n) :: L) F W) (hf : ∀ k, k < n → f k = f' k) : Sx w0 ((g, t, arr f' n) :: L) F W := by
  rw [arr_congr hf] at h
  exact h

set_option maxHeartbeats 16000000 in
set_option maxRecDepth 100000 in
theorem imageNested_walk (l : List Ins) (A : Option Addr) (cap : Nat) (mem st : Int) (w : World) (hA : CodeAt w A l) (hok : InsOk l) (hml : l.length ≤ maxLen) :
    Calls Try.prog 10 #[.agg #[.slice A l.length cap, .int .i64 mem, .int .i64 st]] w fun e w' => e = .returned (.bool true) ∧ Below w.heap.size w w' := by
  by_cases h80 : 80 < l.length
  · have HG := Lib.hid (fun wx => imgGreat_any l A cap mem st wx)
    rw [decide_eq_true h80] at HG
    have hS : Sx w [] [codeF A l] w := (Sx.add (f := codeF A l) (hA) (Sx.start (F := []) w (fun _ h => by cases h)))
    have hc : True := trivial
    go_enter Try.func10, Try.ntmps10
    clear h80
    go_wp2_with (first | (go_at_call 18; apply calls_abs (w0 := w); (repeat (first | with_reducible apply Sx.alloc | with_reducible apply Sx.drew | with_reducible apply Sx.drewN | with_reducible exact hS)); intro wx hS2; clear hS; have hS := hS2; clear hS2; (try simp only [World.size_alloc, World.size_drew] at hS); refine (imgAwake_any _).mono ?_; rintro e wn ⟨rfl, hB⟩; replace hS := Sx.call hB hS; clear hB; clear hc; have hc := hS.cellsL; simp only [CellsL, CellsF, Nat.zero_add, Nat.reduceAdd, and_true, true_and] at hc) | (go_at_call 19; apply calls_abs (w0 := w); (repeat (first | with_reducible apply Sx.alloc | with_reducible apply Sx.drew | with_reducible apply Sx.drewN | with_reducible exact hS)); intro wx hS2; clear hS; have hS := hS2; clear hS2; (try simp only [World.size_alloc, World.size_drew] at hS); refine (HG.out _).mono ?_; rintro e wn ⟨rfl, hB⟩; replace hS := Sx.call hB hS; clear hB; clear hc; have hc := hS.cellsL; simp only [CellsL, CellsF, Nat.zero_add, Nat.reduceAdd, and_true, true_and] at hc))
    go_ret
    exact ⟨rfl, hS.below⟩
  have HG := Lib.hid (fun wx => imgGreat_any l A cap mem st wx)
  rw [decide_eq_false h80] at HG
  have hn0 : l.length ≤ 65536 := by omega
  cases hv : Img.valid l mem st
  · have HV := Lib.hid (fun wx h => imgValid_any l A cap mem st wx h)
    rw [hv] at HV
    have hS : Sx w [] [codeF A l] w := (Sx.add (f := codeF A l) (hA) (Sx.start (F := []) w (fun _ h => by cases h)))
    have hc : True := trivial
    go_enter Try.func10, Try.ntmps10
    clear h80 hv
    go_wp2_with (first | (go_at_call 18; apply calls_abs (w0 := w); (repeat (first | with_reducible apply Sx.alloc | with_reducible apply Sx.drew | with_reducible apply Sx.drewN | with_reducible exact hS)); intro wx hS2; clear hS; have hS := hS2; clear hS2; (try simp only [World.size_alloc, World.size_drew] at hS); refine (imgAwake_any _).mono ?_; rintro e wn ⟨rfl, hB⟩; replace hS := Sx.call hB hS; clear hB; clear hc; have hc := hS.cellsL; simp only [CellsL, CellsF, Nat.zero_add, Nat.reduceAdd, and_true, true_and] at hc) | (go_at_call 19; apply calls_abs (w0 := w); (repeat (first | with_reducible apply Sx.alloc | with_reducible apply Sx.drew | with_reducible apply Sx.drewN | with_reducible exact hS)); intro wx hS2; clear hS; have hS := hS2; clear hS2; (try simp only [World.size_alloc, World.size_drew] at hS); refine (HG.out _).mono ?_; rintro e wn ⟨rfl, hB⟩; replace hS := Sx.call hB hS; clear hB; clear hc; have hc := hS.cellsL; simp only [CellsL, CellsF, Nat.zero_add, Nat.reduceAdd, and_true, true_and] at hc) | (go_at_call 25; apply calls_abs (w0 := w); (repeat (first | with_reducible apply Sx.alloc | with_reducible apply Sx.drew | with_reducible apply Sx.drewN | with_reducible exact hS)); intro wx hS2; clear hS; have hS := hS2; clear hS2; (try simp only [World.size_alloc, World.size_drew] at hS); refine (HV.out _ hS.f1).mono ?_; rintro e wn ⟨rfl, hB⟩; replace hS := Sx.call hB hS; clear hB; clear hc; have hc := hS.cellsL; simp only [CellsL, CellsF, Nat.zero_add, Nat.reduceAdd, and_true, true_and] at hc))
    go_ret
    exact ⟨rfl, hS.below⟩
  have HV := Lib.hid (fun wx h => imgValid_any l A cap mem st wx h)
  rw [hv] at HV
  have hOk := Img.valid_ok hv
  have hl8 : l.length ≤ 80 := by omega
  have hmk := fun wx => run_make_ints wx l.length (by omega)
  have HQ := Lib.hid (fun wx h => procs_ex2 l A cap mem st hn0 wx h)
  have hsn : (Img.starts l).length ≤ l.length := Nat.le_trans (List.length_filter_le _ _) (by simp)
  have hS : Sx w [] [codeF A l] w := (Sx.add (f := codeF A l) (hA) (Sx.start (F := []) w (fun _ h => by cases h)))
  have hc : True := trivial
  clear h80 hv
  have HA := Lib.hid hA
  go_enter Try.func10, Try.ntmps10
  go_upto_region 5 with (first | (go_at_call 18; apply calls_abs (w0 := w); (repeat (first | with_reducible apply Sx.alloc | with_reducible apply Sx.drew | with_reducible apply Sx.drewN | with_reducible exact hS)); intro wx hS2; clear hS; have hS := hS2; clear hS2; (try simp only [World.size_alloc, World.size_drew] at hS); refine (imgAwake_any _).mono ?_; rintro e wn ⟨rfl, hB⟩; replace hS := Sx.call hB hS; clear hB; clear hc; have hc := hS.cellsL; simp only [CellsL, CellsF, Nat.zero_add, Nat.reduceAdd, and_true, true_and] at hc) | (go_at_call 19; apply calls_abs (w0 := w); (repeat (first | with_reducible apply Sx.alloc | with_reducible apply Sx.drew | with_reducible apply Sx.drewN | with_reducible exact hS)); intro wx hS2; clear hS; have hS := hS2; clear hS2; (try simp only [World.size_alloc, World.size_drew] at hS); refine (HG.out _).mono ?_; rintro e wn ⟨rfl, hB⟩; replace hS := Sx.call hB hS; clear hB; clear hc; have hc := hS.cellsL; simp only [CellsL, CellsF, Nat.zero_add, Nat.reduceAdd, and_true, true_and] at hc) | (go_at_call 25; apply calls_abs (w0 := w); (repeat (first | with_reducible apply Sx.alloc | with_reducible apply Sx.drew | with_reducible apply Sx.drewN | with_reducible exact hS)); intro wx hS2; clear hS; have hS := hS2; clear hS2; (try simp only [World.size_alloc, World.size_drew] at hS); refine (HV.out _ hS.f1).mono ?_; rintro e wn ⟨rfl, hB⟩; replace hS := Sx.call hB hS; clear hB; clear hc; have hc := hS.cellsL; simp only [CellsL, CellsF, Nat.zero_add, Nat.reduceAdd, and_true, true_and] at hc))
  go_upto_region 6 with fail
  have hgA : w.heap.size < wn.heap.size := hS.1.b1.lt
  apply wp_abs (w0 := w)
  · (repeat (first | with_reducible apply Sx.alloc | with_reducible apply Sx.drew | with_reducible apply Sx.drewN | with_reducible exact hS))
  intro wx hS2; clear hS; have hS := hS2; clear hS2; (try simp only [World.size_alloc, World.size_drew] at hS)
  clear hc; have hc := hS.cellsL; simp only [CellsL, CellsF, Nat.zero_add, Nat.reduceAdd, and_true, true_and] at hc
  clear hmk HV HG
  generalize wn.heap.size = gA at *
  replace hS : Sx w [(gA, 3, arr (fun _ => 0) l.length), (w.heap.size, 24, #[.slice A l.length cap, .int .i64 mem, .int .i64 st])] [] wx := ⟨hS.1, fun f h => by cases h⟩
  clear hc
  go_wp2
  go_loopw [29] (fun s wr => ∃ i : Nat, i ≤ l.length ∧ s = .int .i64 i ∧ Sx w [(gA, 3, arr (fun k => if k < i then -1 else 0) l.length), (w.heap.size, 24, #[.slice A l.length cap, .int .i64 mem, .int .i64 st])] [] wr) (fun s _ => l.length - (intOf s).toNat)
  case atStart => exact ⟨0, Nat.zero_le _, rfl, St.arrF hS (fun k _ => by rw [if_neg (by omega)])⟩
  case round =>
    clear hS
    obtain ⟨i, hi, rfl, hS⟩ := hrel
    by_cases hil : i < l.length
    · obtain ⟨hci, hfi⟩ := St.arr1 hS hil
      go_wp2
      go_roundw
      case rel =>
        refine ⟨i + 1, hil, by go_num, ?_⟩
        have h2 := hS.set1 (Nat.le_of_lt hgA) (by intro y hy; simp only [List.mem_cons, List.not_mem_nil, or_false] at hy; subst hy; exact Nat.ne_of_lt hgA) (by intro f hf; cases hf) i (.int .i64 (-1))
        rw [arr_set hil, arr_congr (fun k _ => fill_neg i k)] at h2
        exact h2
      case measure => simp [intOf]; omega
    · obtain rfl : i = l.length := by omega
      replace hS := St.arrF (f' := Img.ct l []) hS (fun k hk => by rw [if_pos hk]; rfl)
      clear hi hil
      have hc := hS.cellsL
      simp only [CellsL, CellsF, Nat.zero_add, Nat.reduceAdd, and_true, true_and] at hc
      have HQ3 := Lib.hid (fun wx h hg => procs_ex3 l A cap mem st hn0 gA wx h hg)
      clear HQ
      go_upto_region 12 with (first | (go_at_call 31; apply calls_abs (w0 := w); (repeat (first | with_reducible apply Sx.alloc | with_reducible apply Sx.drew | with_reducible apply Sx.drewN | with_reducible exact hS)); intro wx hS2; clear hS; have hS := hS2; clear hS2; (try simp only [World.size_alloc, World.size_drew] at hS); refine (HQ3.out _ (CodeAt.after hS.below HA.out) hS.1.b1.lt).mono ?_; rintro e wn ⟨Aq, cq, rfl, hB, hI, hgq⟩; replace hS := Sx.callF (f := intsF Aq ((Img.starts l).map fun (i : Nat) => (i : Int))) hB (hI) hS; clear hB; clear hc; have hc := hS.cellsL; simp only [CellsL, CellsF, Nat.zero_add, Nat.reduceAdd, and_true, true_and] at hc))
      apply wp_abs (w0 := w)
      · (repeat (first | with_reducible apply Sx.alloc | with_reducible apply Sx.drew | with_reducible apply Sx.drewN | with_reducible exact hS))
      intro wx hS2; clear hS; have hS := hS2; clear hS2; (try simp only [World.size_alloc, World.size_drew] at hS)
      clear hc; have hc := hS.cellsL; simp only [CellsL, CellsF, Nat.zero_add, Nat.reduceAdd, and_true, true_and] at hc
      have Hgq := Lib.hid hgq
      clear hgq HQ3
      go_loopw [39] (fun s wr => ∃ q : Nat, q ≤ (Img.starts l).length ∧ s = .int .i64 q ∧ Sx w [(gA, 3, arr (Img.ct l ((Img.starts l).take q)) l.length), (w.heap.size, 24, #[.slice A l.length cap, .int .i64 mem, .int .i64 st])] [intsF Aq ((Img.starts l).map fun (i : Nat) => (i : Int))] wr) (fun s _ => (Img.starts l).length - (intOf s).toNat)
      case atStart => exact ⟨0, Nat.zero_le _, rfl, hS⟩
      case round =>
        clear hS hc
        obtain ⟨q, hq, rfl, hS⟩ := hrel
        have hc := hS.cellsL
        simp only [CellsL, CellsF, Nat.zero_add, Nat.reduceAdd, and_true, true_and] at hc
        by_cases hql : q < (Img.starts l).length
        · obtain ⟨htk, hnm⟩ := Img.starts_take hql
          have hmem := Img.mem_starts.1 (List.getElem_mem hql)
          have hget : ((Img.starts l).map fun (i : Nat) => (i : Int)).getD q 0 = (((Img.starts l)[q] : Nat) : Int) := by
            rw [List.getD_eq_getElem?_getD, List.getElem?_map, List.getElem?_eq_getElem hql]
            rfl
          have hqn : q < ((Img.starts l).map fun (i : Nat) => (i : Int)).length := by rw [List.length_map]; exact hql
          obtain ⟨bq, oq, rfl⟩ := hS.f1.some (by omega)
          obtain ⟨hbq0, x0⟩ := IntsAt.cell hS.f1 hqn
          rw [hget] at x0
          have hbq : gA < bq := Hgq.out bq oq rfl
          generalize (Img.starts l)[q] = s at *
          obtain ⟨hsl, hss⟩ := hmem
          obtain ⟨e, hpe⟩ := (hOk.fine hsl).pair (by simp [Img.pk, hss])
          have hqq := Img.PP.mk' hpe
          have hse := hqq.order hss
          have hel := hqq.hj
          have HP := Lib.hid (fun wx h => partner_some_ex l A l.length cap mem st rfl s e hpe wx h)
          have Htk := Lib.hid htk
          have Hnm := Lib.hid hnm
          have Hpe := Lib.hid hpe
          have Hss := Lib.hid hss
          have o1 : decide ((e : Int) ≤ (s : Int)) = false := decide_eq_false (by omega)
          have o1b : decide (e ≤ s) = false := decide_eq_false (by omega)
          clear htk hnm hget hpe hss hqq
          go_upto_region 17 with (first | (go_at_call 27; apply calls_abs (w0 := w); (repeat (first | with_reducible apply Sx.alloc | with_reducible apply Sx.drew | with_reducible apply Sx.drewN | with_reducible exact hS)); intro wx hS2; clear hS; have hS := hS2; clear hS2; (try simp only [World.size_alloc, World.size_drew] at hS); refine (HP.out _ (CodeAt.after hS.below HA.out)).mono ?_; rintro e wn ⟨rfl, hB⟩; replace hS := Sx.call hB hS; clear hB; clear hc; have hc := hS.cellsL; simp only [CellsL, CellsF, Nat.zero_add, Nat.reduceAdd, and_true, true_and] at hc))
          go_wp2
          apply wp_abs (w0 := w)
          · (repeat (first | with_reducible apply Sx.alloc | with_reducible apply Sx.drew | with_reducible apply Sx.drewN | with_reducible exact hS))
          intro wx hS2; clear hS; have hS := hS2; clear hS2; (try simp only [World.size_alloc, World.size_drew] at hS)
          clear hc; have hc := hS.cellsL; simp only [CellsL, CellsF, Nat.zero_add, Nat.reduceAdd, and_true, true_and] at hc
          obtain ⟨wo, rfl⟩ : ∃ wo : World, wo = wr := ⟨_, rfl⟩
          go_loopw [9] (fun s9 wr2 => ∃ m : Nat, s ≤ m ∧ m ≤ e + 1 ∧ s9 = .int .i64 m ∧ Sx w [(gA, 3, arr (fun k => if s ≤ k ∧ k < m then (s : Int) else Img.ct l ((Img.starts l).take q) k) l.length), (w.heap.size, 24, #[.slice A l.length cap, .int .i64 mem, .int .i64 st])] [intsF (some ⟨bq, oq, none⟩) ((Img.starts l).map fun (i : Nat) => (i : Int))] wr2) (fun s9 _ => e + 1 - (intOf s9).toNat)
          case atStart => exact ⟨s, Nat.le_refl _, by omega, rfl, St.arrF hS (fun k _ => Img.ct_start l _ s k)⟩
          case round =>
            clear hS hc x0
            obtain ⟨m, hm1, hm2, rfl, hS⟩ := hrel
            by_cases hml : m ≤ e
            · obtain ⟨hci, hfi⟩ := St.arr1 hS (show m < l.length by omega)
              have hneg : (if s ≤ m ∧ m < m then (s : Int) else Img.ct l ((Img.starts l).take q) m) = -1 := by
                rw [if_neg (by omega)]
                exact Img.ct_neg hOk Hnm.out (Img.covers_if.2 ⟨Hss.out, e, Hpe.out, hm1, hml⟩)
              rw [hneg] at hci
              have o2 : decide (m ≤ e) = true := decide_eq_true hml
              clear hneg
              go_wp2
              go_roundw
              case rel =>
                refine ⟨m + 1, by omega, by omega, by go_num, ?_⟩
                have h2 := hS.set1 (Nat.le_of_lt hgA) (by intro y hy; simp only [List.mem_cons, List.not_mem_nil, or_false] at hy; subst hy; exact Nat.ne_of_lt hgA) (by intro f hf; simp only [List.mem_cons, List.not_mem_nil, or_false] at hf; subst hf; exact far_ints (Nat.ne_of_gt hbq)) m (.int .i64 (s : Int))
                rw [arr_set (by omega)] at h2
                exact St.arrF h2 (fun k _ => Img.ct_step l _ s m k hm1)
              case measure => simp [intOf]; omega
            · obtain rfl : m = e + 1 := by omega
              have o2 : decide (e + 1 ≤ e) = false := decide_eq_false (by omega)
              have hS4 := St.arrF (f' := Img.ct l ((Img.starts l).take (q + 1))) hS (fun k _ => by rw [Htk.out]; exact Img.ct_done hOk Hnm.out Hss.out Hpe.out)
              clear hS
              go_wp2
              go_roundw
              case rel => exact ⟨q + 1, hql, by go_num, hS4⟩
              case measure => simp [intOf]; omega
        · obtain rfl : q = (Img.starts l).length := by omega
          replace hS : Sx w [(gA, 3, arr (Img.ct l (Img.starts l)) l.length), (w.heap.size, 24, #[.slice A l.length cap, .int .i64 mem, .int .i64 st])] [] wr := ⟨(by have := hS.1; rw [List.take_length] at this; exact this), fun f h => by cases h⟩
          clear hq hql
          have hc := hS.cellsL
          simp only [CellsL, CellsF, Nat.zero_add, Nat.reduceAdd, and_true, true_and] at hc
          go_wp2
          obtain ⟨wo, rfl⟩ : ∃ wo : World, wo = wr := ⟨_, rfl⟩
          go_loopw [75] (fun s wr2 => ∃ k : Nat, k ≤ l.length ∧ s = .int .i64 k ∧ Sx w [(gA, 3, arr (Img.ct l (Img.starts l)) l.length), (w.heap.size, 24, #[.slice A l.length cap, .int .i64 mem, .int .i64 st])] [] wr2) (fun s _ => l.length - (intOf s).toNat)
          case atStart => exact ⟨0, Nat.zero_le _, rfl, hS⟩
          case round =>
            clear hS hc
            obtain ⟨k, hk, rfl, hS⟩ := hrel
            have hc := hS.cellsL
            simp only [CellsL, CellsF, Nat.zero_add, Nat.reduceAdd, and_true, true_and] at hc
            by_cases hlt : k < l.length
            · have hF := hOk.fine hlt
              obtain ⟨b, o, rfl⟩ := hA.some (by omega)
              obtain ⟨hb, x0, x1, x2, x3, x4⟩ := CodeAt.cells (CodeAt.after hS.below hA) hlt
              have Hca := Lib.hid (show ∀ wx, Below w.heap.size w wx → CodeAt wx (some ⟨b, o, none⟩) l from fun wx hB => CodeAt.after hB hA)
              cases hp : Img.partner l k with
              | none =>
                have HP := Lib.hid (fun wx h => partner_none_ex l (some ⟨b, o, none⟩) l.length cap mem st rfl k hlt hp wx h)
                clear hp hF
                go_upto_region 28 with (first | (go_at_call 27; apply calls_abs (w0 := w); (repeat (first | with_reducible apply Sx.alloc | with_reducible apply Sx.drew | with_reducible apply Sx.drewN | with_reducible exact hS)); intro wx hS2; clear hS; have hS := hS2; clear hS2; (try simp only [World.size_alloc, World.size_drew] at hS); refine (HP.out _ (Hca.out _ hS.below)).mono ?_; rintro e wn ⟨rfl, hB⟩; replace hS := Sx.call hB hS; clear hB; clear hc; have hc := hS.cellsL; simp only [CellsL, CellsF, Nat.zero_add, Nat.reduceAdd, and_true, true_and] at hc))
                go_quiet (fail)
                go_wp2
                go_roundw
                case rel => exact ⟨k + 1, hlt, by go_num, (hS.drewN _).drop⟩
                case measure => simp [intOf]; omega
              | some p =>
                have hq := Img.PP.mk' hp
                have hpl := hq.hj
                have HP := Lib.hid (fun wx h => partner_some_ex l (some ⟨b, o, none⟩) l.length cap mem st rfl k p hp wx h)
                have hkd := Img.kind (Img.at_ l k)
                have hct : Hid (Img.jl (Img.at_ l k) = true → Img.ct l (Img.starts l) p = Img.ct l (Img.starts l) k) := Lib.hid (fun hj => (Img.ct_congr (hOk.region_covers.1 (hF.reg hj p hp))).symm)
                have hpk := hq.kinds_of.1
                clear hp hF hq
                have hpb : (p : Int) < (l.length : Int) := by omega
                have hkb : (k : Int) < (l.length : Int) := by omega
                rcases hkd with ⟨ka, kb, kc, kd, ke, kf⟩ | ⟨ka, kb, kc, kd, ke, kf⟩ | ⟨ka, kb, kc, kd, ke, kf⟩ | ⟨ka, kb, kc, kd, ke, kf⟩ | ⟨ka, kb, kc, kd, ke, kf⟩ | ⟨ka, kb, kc, kd, ke, kf⟩
                · have HJ := Lib.hid (isJ_q (P := ()) (Img.at_ l k).op _ ka)
                  have HL := Lib.hid (isL_q (P := ()) (Img.at_ l k).op _ kb)
                  have HC := Lib.hid (hct.out (by simp [Img.jl, ka, kb]))
                  clear ka kb kc kd ke kf hpk hct
                  go_upto_region 28 with (first | (go_at_call 27; apply calls_abs (w0 := w); (repeat (first | with_reducible apply Sx.alloc | with_reducible apply Sx.drew | with_reducible apply Sx.drewN | with_reducible exact hS)); intro wx hS2; clear hS; have hS := hS2; clear hS2; (try simp only [World.size_alloc, World.size_drew] at hS); refine (HP.out _ (Hca.out _ hS.below)).mono ?_; rintro e wn ⟨rfl, hB⟩; replace hS := Sx.call hB hS; clear hB; clear hc; have hc := hS.cellsL; simp only [CellsL, CellsF, Nat.zero_add, Nat.reduceAdd, and_true, true_and] at hc))
                  obtain ⟨c1, cf1⟩ := St.arr1 hS.drop hpl
                  obtain ⟨c2, cf2⟩ := St.arr1 hS.drop hlt
                  rw [HC.out] at c1
                  clear cf1 cf2
                  go_quiet ((first | (go_at_call 28; exact HJ.out _ _) | (go_at_call 29; exact HL.out _ _)))
                  go_wp2
                  go_roundw
                  case rel => exact ⟨k + 1, hlt, by go_num, (hS.drewN _).drop⟩
                  case measure => simp [intOf]; omega
                · have HJ := Lib.hid (isJ_q (P := ()) (Img.at_ l k).op _ ka)
                  have HL := Lib.hid (isL_q (P := ()) (Img.at_ l k).op _ kb)
                  have HC := Lib.hid (hct.out (by simp [Img.jl, ka, kb]))
                  clear ka kb kc kd ke kf hpk hct
                  go_upto_region 28 with (first | (go_at_call 27; apply calls_abs (w0 := w); (repeat (first | with_reducible apply Sx.alloc | with_reducible apply Sx.drew | with_reducible apply Sx.drewN | with_reducible exact hS)); intro wx hS2; clear hS; have hS := hS2; clear hS2; (try simp only [World.size_alloc, World.size_drew] at hS); refine (HP.out _ (Hca.out _ hS.below)).mono ?_; rintro e wn ⟨rfl, hB⟩; replace hS := Sx.call hB hS; clear hB; clear hc; have hc := hS.cellsL; simp only [CellsL, CellsF, Nat.zero_add, Nat.reduceAdd, and_true, true_and] at hc))
                  obtain ⟨c1, cf1⟩ := St.arr1 hS.drop hpl
                  obtain ⟨c2, cf2⟩ := St.arr1 hS.drop hlt
                  rw [HC.out] at c1
                  clear cf1 cf2
                  go_quiet ((first | (go_at_call 28; exact HJ.out _ _) | (go_at_call 29; exact HL.out _ _)))
                  go_wp2
                  go_roundw
                  case rel => exact ⟨k + 1, hlt, by go_num, (hS.drewN _).drop⟩
                  case measure => simp [intOf]; omega
                · have HJ := Lib.hid (isJ_q (P := ()) (Img.at_ l k).op _ ka)
                  have HL := Lib.hid (isL_q (P := ()) (Img.at_ l k).op _ kb)
                  skip
                  clear ka kb kc kd ke kf hpk hct
                  go_upto_region 28 with (first | (go_at_call 27; apply calls_abs (w0 := w); (repeat (first | with_reducible apply Sx.alloc | with_reducible apply Sx.drew | with_reducible apply Sx.drewN | with_reducible exact hS)); intro wx hS2; clear hS; have hS := hS2; clear hS2; (try simp only [World.size_alloc, World.size_drew] at hS); refine (HP.out _ (Hca.out _ hS.below)).mono ?_; rintro e wn ⟨rfl, hB⟩; replace hS := Sx.call hB hS; clear hB; clear hc; have hc := hS.cellsL; simp only [CellsL, CellsF, Nat.zero_add, Nat.reduceAdd, and_true, true_and] at hc))
                  obtain ⟨c1, cf1⟩ := St.arr1 hS.drop hpl
                  obtain ⟨c2, cf2⟩ := St.arr1 hS.drop hlt
                  skip
                  clear cf1 cf2
                  go_quiet ((first | (go_at_call 28; exact HJ.out _ _) | (go_at_call 29; exact HL.out _ _)))
                  go_wp2
                  go_roundw
                  case rel => exact ⟨k + 1, hlt, by go_num, (hS.drewN _).drop⟩
                  case measure => simp [intOf]; omega
                · have HJ := Lib.hid (isJ_q (P := ()) (Img.at_ l k).op _ ka)
                  have HL := Lib.hid (isL_q (P := ()) (Img.at_ l k).op _ kb)
                  skip
                  clear ka kb kc kd ke kf hpk hct
                  go_upto_region 28 with (first | (go_at_call 27; apply calls_abs (w0 := w); (repeat (first | with_reducible apply Sx.alloc | with_reducible apply Sx.drew | with_reducible apply Sx.drewN | with_reducible exact hS)); intro wx hS2; clear hS; have hS := hS2; clear hS2; (try simp only [World.size_alloc, World.size_drew] at hS); refine (HP.out _ (Hca.out _ hS.below)).mono ?_; rintro e wn ⟨rfl, hB⟩; replace hS := Sx.call hB hS; clear hB; clear hc; have hc := hS.cellsL; simp only [CellsL, CellsF, Nat.zero_add, Nat.reduceAdd, and_true, true_and] at hc))
                  obtain ⟨c1, cf1⟩ := St.arr1 hS.drop hpl
                  obtain ⟨c2, cf2⟩ := St.arr1 hS.drop hlt
                  skip
                  clear cf1 cf2
                  go_quiet ((first | (go_at_call 28; exact HJ.out _ _) | (go_at_call 29; exact HL.out _ _)))
                  go_wp2
                  go_roundw
                  case rel => exact ⟨k + 1, hlt, by go_num, (hS.drewN _).drop⟩
                  case measure => simp [intOf]; omega
                · simp [Img.pk, ka, kb, kc, kd] at hpk
                · simp [Img.pk, ka, kb, kc, kd] at hpk
            · obtain rfl : k = l.length := by omega
              clear hlt hk
              go_wp2
              go_ret
              exact ⟨rfl, hS.below⟩

end Go.Proofs.Yteonkfdmkgjpaaa
