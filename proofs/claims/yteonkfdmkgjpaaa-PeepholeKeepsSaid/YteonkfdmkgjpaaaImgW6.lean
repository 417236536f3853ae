/- Contracts of layer 23: image.Halt, image.Procs. -/
import Derived.Test.YteonkfdmkgjpaaaImgR5
import Derived.Deep.RegionHeld3
import Derived.Deep.DeepCutAuto
import Derived.BigQuiet
import Derived.Deep.QuietTactic
import Derived.Laws.AppendOwn
import Derived.OwnWalk
namespace Go.Proofs.Yteonkfdmkgjpaaa
open Go.RowKit
set_option linter.unusedVariables false
set_option linter.unusedSimpArgs false

theorem St.grown {w0 W W' : World} {L : List (Nat × TypeId × Array Value)} {row : Option Nat} (h : St w0 L W) (hg : W.grownBy W' row) (hr : ∀ k, row = some k → w0.heap.size ≤ k) (hne : ∀ x ∈ L, some x.1 ≠ row) : St w0 L W' :=
  ⟨h.1.grown hg h.1.size hr, fun x hx => (h.2 x hx).grown hg (hne x hx)⟩
/-- the slice (A, ns.length, _) holds the numbers ns -/
def IntsAt (w : World) (A : Option Addr) (ns : List Int) : Prop := 0 < ns.length → ∃ b o, A = some ⟨b, o, none⟩ ∧ b < w.heap.size ∧ ∀ i, i < ns.length → w.cell? ⟨b, o + i, none⟩ = some (.int .i64 (ns.getD i 0))
theorem IntsAt.after {w w' : World} {A : Option Addr} {ns : List Int} (hB : Below w.heap.size w w') (h : IntsAt w A ns) : IntsAt w' A ns := fun hl => by
  obtain ⟨b, o, hA, hb, hc⟩ := h hl
  exact ⟨b, o, hA, Nat.lt_of_lt_of_le hb hB.size, fun i hi => (hB.cell (p := ⟨b, _, none⟩) hb).trans (hc i hi)⟩
theorem ints_of_own {w : World} {base : Nat} {e : TypeId} {v : Value} {ns : List Int} (h : w.ownsRow base e 1 v ns.length (ns.map (Value.int .i64))) :
    ∃ A cap, v = .slice A ns.length cap ∧ IntsAt w A ns := by
  obtain ⟨hl, ⟨rfl, hn⟩ | ⟨g, cap, cur, rfl, hb, hg, hcap, hmax, hsz, htk⟩⟩ := h
  · exact ⟨none, 0, by rw [hn], fun h => by omega⟩
  · refine ⟨_, cap, rfl, fun _ => ⟨g, 0, rfl, (Array.getElem?_eq_some_iff.1 hg).1, fun i hi => ?_⟩⟩
    rw [cell_of_row w g (0 + i) cur e (0, 0) hg]
    have h2 : (cur.toList.take (ns.length * 1))[i]? = (ns.map (Value.int .i64))[i]? := by rw [htk]
    rw [List.getElem?_take_of_lt (by omega)] at h2
    simpa [hi] using h2

theorem closure34_any (op a b c d : Int) (w : World) :
    Calls Try.prog 59 #[.agg #[.int .u8 op, .int .i64 a, .int .i64 b, .int .i64 c, .int .i64 d]] w fun e w' => e = .returned (.bool (op == 34)) ∧ Below w.heap.size w w' := by
  go_enter Try.func59, Try.ntmps59
  go_wp2
  all_goals go_ret
  all_goals exact ⟨by simp [*], (Below.refl _ _).alloc (Nat.le_refl _) _⟩

/-- the first index from i on at which p holds, or -1 -/
def Img.haltI (l : List Ins) : Int := match Img.halt l with | some k => (k : Int) | none => -1
theorem Img.halt_at {l : List Ins} {k : Nat} (hk : k < l.length) (h : (Img.at_ l k).op = 34) (hn : ∀ j, j < k → (Img.at_ l j).op ≠ 34) : Img.haltI l = (k : Int) := by
  have e : Img.halt l = some k := by
    unfold Img.halt
    rw [List.findIdx?_eq_some_iff_getElem]
    have hg : ∀ j (hj : j < l.length), l[j] = Img.at_ l j := fun j hj => by unfold Img.at_; rw [List.getD_eq_getElem?_getD, List.getElem?_eq_getElem hj]; rfl
    refine ⟨hk, ?_, fun j hj => ?_⟩
    · rw [hg]; simp [h]
    · rw [hg]; simp [hn j hj]
  unfold Img.haltI
  rw [e]
theorem Img.halt_no {l : List Ins} (hn : ∀ j, j < l.length → (Img.at_ l j).op ≠ 34) : Img.haltI l = -1 := by
  have e : Img.halt l = none := by
    unfold Img.halt
    rw [List.findIdx?_eq_none_iff]
    intro x hx
    obtain ⟨j, hj, rfl⟩ := List.getElem_of_mem hx
    have := hn j hj
    unfold Img.at_ at this
    rw [List.getD_eq_getElem?_getD, List.getElem?_eq_getElem hj] at this
    simpa using this
  unfold Img.haltI
  rw [e]
set_option maxHeartbeats 4000000 in
theorem indexFunc_any (l : List Ins) (A : Option Addr) (cap : Nat) (w : World) (hn0 : l.length ≤ 65536) (hc : CodeAt w A l) :
    Calls Try.prog 58 #[.slice A l.length cap, .func (.func 59) #[] #[]] w fun e w' => e = .returned (.int .i64 (Img.haltI l)) ∧ Below w.heap.size w w' := by
  have hS := St.start w
  go_enter Try.func58, Try.ntmps58
  go_wp2
  obtain ⟨wo, hwo⟩ : ∃ wo : World, wo = w := ⟨_, rfl⟩
  go_loopw [8] (fun s wr => ∃ i : Nat, i ≤ l.length ∧ s = .int .i64 i ∧ St w [] wr ∧ Hid (∀ j, j < i → (Img.at_ l j).op ≠ 34)) (fun s _ => l.length - (intOf s).toNat)
  case atStart => exact ⟨0, Nat.zero_le _, rfl, hS, fun j hj => absurd hj (Nat.not_lt_zero _)⟩
  case round =>
    clear hS
    obtain ⟨i, hi, rfl, hS, hn⟩ := hrel
    by_cases hil : i < l.length
    · obtain ⟨b, o, rfl, hcB⟩ := hc (by omega)
      have hcW := CodeB.after hS.1 hcB
      have hb := hcW.1
      obtain ⟨x0, x1, x2, x3, x4⟩ := hcW.2 i hil
      clear hcW
      by_cases h34 : (Img.at_ l i).op = 34
      · have q : ((Img.at_ l i).op == 34) = true := beq_iff_eq.2 h34
        have HC := Lib.hid (Img.halt_at hil h34 hn.out)
        clear h34 hn
        go_wp2_with (first | (go_at_call 59; refine (closure34_any _ _ _ _ _ _).mono ?_; rintro e wn ⟨rfl, hB⟩; have hS3 := St.call hB hS))
        go_ret
        exact ⟨by rw [HC.out]; rfl, hS3.1⟩
      · have q : ((Img.at_ l i).op == 34) = false := beq_eq_false_iff_ne.2 h34
        have hnx := Lib.hid (show ∀ j, j < i + 1 → (Img.at_ l j).op ≠ 34 from fun j hj => by
          rcases Nat.lt_succ_iff_lt_or_eq.1 hj with h1 | h1
          · exact hn.out j h1
          · rw [h1]; exact h34)
        clear h34 hn
        go_wp2_with (first | (go_at_call 59; refine (closure34_any _ _ _ _ _ _).mono ?_; rintro e wn ⟨rfl, hB⟩; have hS3 := St.call hB hS))
        go_roundw
        case rel => exact ⟨i + 1, hil, by go_num, hS3, hnx⟩
        case measure => simp [intOf]; omega
    · have HC := Lib.hid (Img.halt_no (fun j hj => hn.out j (by omega)))
      clear hn
      go_wp2
      go_ret
      exact ⟨by rw [HC.out]; rfl, hS.1⟩
set_option maxHeartbeats 4000000 in
theorem halt_any (l : List Ins) (A : Option Addr) (cap : Nat) (mem st : Int) (w : World) (hn0 : l.length ≤ 65536) (hc : CodeAt w A l) :
    Calls Try.prog 36 #[.agg #[.slice A l.length cap, .int .i64 mem, .int .i64 st]] w fun e w' => e = .returned (.tuple #[.int .i64 (max (Img.haltI l) 0), .bool (decide (0 ≤ Img.haltI l))]) ∧ Below w.heap.size w w' := by
  go_enter Try.func36, Try.ntmps36
  have hS := (St.start w).alloc #[.slice A l.length cap, .int .i64 mem, .int .i64 st] 24
  have HI := Lib.hid (fun wx h => indexFunc_any l A cap wx hn0 h)
  generalize Img.haltI l = v at *
  go_wp2_with (first | (go_at_call 58; refine (HI.out _ (CodeAt.after hS.1 hc)).mono ?_; rintro e wn ⟨rfl, hB⟩; have hS3 := St.call hB hS))
  all_goals go_ret2
  · exact ⟨by rw [show max v 0 = 0 from by omega]; rfl, hS3.1⟩
  · exact ⟨by rw [show max v 0 = v from by omega]; rfl, hS3.1⟩

theorem info_int : (Try.prog.info? 3).map (fun i => (i.zero, i.size, i.bytes)) = some (some (.int .i64 0), 1, 8) := by kernel_rfl
def Img.procsU (l : List Ins) (k : Nat) : List Int := ((List.range k).filter fun i => Img.isS (Img.at_ l i)).map fun (i : Nat) => (i : Int)
theorem Img.procsU_step (l : List Ins) (k : Nat) : Img.procsU l (k + 1) = Img.procsU l k ++ (if (Img.at_ l k).op = 32 then [(k : Int)] else []) := by
  unfold Img.procsU
  rw [List.range_succ, List.filter_append, List.map_append]
  by_cases h : (Img.at_ l k).op = 32
  · simp [h, Img.isS]
  · simp [h, Img.isS]
theorem Img.procsU_le (l : List Ins) (k : Nat) : (Img.procsU l k).length ≤ k := by
  unfold Img.procsU
  rw [List.length_map]
  exact Nat.le_trans (List.length_filter_le _ _) (by simp)

set_option maxHeartbeats 4000000 in
theorem procs_any0 (l : List Ins) (A : Option Addr) (cap : Nat) (mem st : Int) (w : World) (hn0 : l.length ≤ 65536) (hc : CodeAt w A l) :
    Calls Try.prog 31 #[.agg #[.slice A l.length cap, .int .i64 mem, .int .i64 st]] w fun e w' => ∃ v, e = .returned v ∧ Below w.heap.size w w' ∧ w'.ownsRow (w.heap.size + 1) 3 1 v (Img.procsU l l.length).length ((Img.procsU l l.length).map (Value.int .i64)) := by
  obtain ⟨i0, hi, hz0, hz1, hz2⟩ := info_parts info_int
  go_enter Try.func31, Try.ntmps31
  have hS := (St.start w).alloc #[.slice A l.length cap, .int .i64 mem, .int .i64 st] 24
  go_upto_region 2 with fail
  generalize (w.alloc (.cells #[.slice A l.length cap, .int .i64 mem, .int .i64 st] 24)) = w1 at *
  obtain ⟨m0, -⟩ := Blk.cells3 hS.b1
  go_wp2
  clear m0
  obtain ⟨wo, hwo⟩ : ∃ wo : World, wo = w1 := ⟨_, rfl⟩
  go_loopw [3, 9] (fun v s wr => ∃ i : Nat, i ≤ l.length ∧ s = .int .i64 i ∧ St w [(w.heap.size, 24, #[.slice A l.length cap, .int .i64 mem, .int .i64 st])] wr ∧ wr.ownsRow (w.heap.size + 1) 3 1 v (Img.procsU l i).length ((Img.procsU l i).map (Value.int .i64))) (fun _ s _ => l.length - (intOf s).toNat)
  case atStart => exact ⟨0, Nat.zero_le _, rfl, hS, World.ownsRow_nil _ _ _ _⟩
  case round =>
    clear hS hwo
    obtain ⟨i, hil0, rfl, hS, hown⟩ := hrel
    by_cases hil : i < l.length
    · obtain ⟨b, o, rfl, hcB⟩ := hc (by omega)
      have hcW := CodeB.after hS.1 hcB
      have hb := hcW.1
      obtain ⟨x0, x1, x2, x3, x4⟩ := hcW.2 i hil
      have hstep := Img.procsU_step l i
      have hle := Img.procsU_le l i
      clear hcW
      go_upto_region 5 with fail
      have hS2 := hS.alloc #[.int .u8 (Img.at_ l i).op, .int .i64 (Img.at_ l i).a, .int .i64 (Img.at_ l i).b, .int .i64 (Img.at_ l i).c, .int .i64 (Img.at_ l i).d] 38
      have hown2 := hown.alloc (.cells #[.int .u8 (Img.at_ l i).op, .int .i64 (Img.at_ l i).a, .int .i64 (Img.at_ l i).b, .int .i64 (Img.at_ l i).c, .int .i64 (Img.at_ l i).d] 38)
      generalize (wr.alloc (.cells #[.int .u8 (Img.at_ l i).op, .int .i64 (Img.at_ l i).a, .int .i64 (Img.at_ l i).b, .int .i64 (Img.at_ l i).c, .int .i64 (Img.at_ l i).d] 38)) = w3 at *
      generalize wr.heap.size = g at *
      clear x0 x1 x2 x3 x4 hown hS
      obtain ⟨x0, -⟩ := Blk.cells5 hS2.b1
      by_cases hop : (Img.at_ l i).op = 32
      · have q : ((Img.at_ l i).op == 32) = true := beq_iff_eq.2 hop
        rw [if_pos hop] at hstep
        clear hop
        have Hstep := Lib.hid hstep
        clear hstep
        go_wp2_with (first | (at_builtin; refine wpList_append_own _ rfl _ _ 44 rfl (w.heap.size + 1) 3 i0 (.int .i64 0) 1 8 Try.underlying44 hi hz0 hz1 hz2 rfl (by decide) _ _ _ rfl (hown2.alloc _) ⟨w3.heap.size, 0, none⟩ 1 1 [.int .i64 i] rfl rfl ?c1 ?c2 ?c3 ?c4 ?c5 ?_))
        case c2 => rfl
        case c3 => unfold maxLen; omega
        case c4 => omega
        case c5 => have := hS2.tail.b1.lt; simp at this ⊢; omega
        · intro v' w4 hown' hgrow _
          have hlt := hown2.lt
          have hS3 := St.grown ((hS2.tail.alloc #[.int .i64 i] 3).tail) hgrow (fun k hk => by have := (hlt k hk).1; omega) (fun x hx => by
            simp at hx
            subst hx
            intro e
            have h9 : w.heap.size + 1 ≤ w.heap.size := (hlt _ e.symm).1
            omega)
          clear hown2 hgrow hlt hS2 x0
          go_wp2
          go_roundw
          case rel => exact ⟨i + 1, hil, by go_num, hS3, by rw [Hstep.out]; simpa using hown'⟩
          case measure => simp [intOf]; omega
      · have q : ((Img.at_ l i).op == 32) = false := beq_eq_false_iff_ne.2 hop
        rw [if_neg hop, List.append_nil] at hstep
        have Hstep := Lib.hid hstep
        clear hop hstep
        go_wp2
        go_roundw
        case rel => exact ⟨i + 1, hil, by go_num, hS2.tail, by rw [Hstep.out]; exact hown2⟩
        case measure => simp [intOf]; omega
    · obtain rfl : i = l.length := by omega
      go_wp2
      go_ret
      exact ⟨_, rfl, hS.1, hown⟩
theorem procs_any (l : List Ins) (A : Option Addr) (cap : Nat) (mem st : Int) (w : World) (hn0 : l.length ≤ 65536) (hc : CodeAt w A l) :
    Calls Try.prog 31 #[.agg #[.slice A l.length cap, .int .i64 mem, .int .i64 st]] w fun e w' => ∃ A' cap', e = .returned (.slice A' (Img.procsU l l.length).length cap') ∧ Below w.heap.size w w' ∧ IntsAt w' A' (Img.procsU l l.length) :=
  (procs_any0 l A cap mem st w hn0 hc).mono fun e w' h => by
    obtain ⟨v, rfl, hB, ho⟩ := h
    obtain ⟨A', cap', rfl, hI⟩ := ints_of_own ho
    exact ⟨A', cap', rfl, hB, hI⟩
end Go.Proofs.Yteonkfdmkgjpaaa
