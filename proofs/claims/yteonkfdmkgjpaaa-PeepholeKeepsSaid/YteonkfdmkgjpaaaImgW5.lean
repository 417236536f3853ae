/- Contracts of layer 23: nested, regions, fault, Check. -/
import Derived.Test.YteonkfdmkgjpaaaImgW4
import Derived.Test.YteonkfdmkgjpaaaImgPure2
import Derived.Test.YteonkfdmkgjpaaaCode2
import Derived.Test.YteonkfdmkgjpaaaCode
import Derived.Deep.RegionHeld3
import Derived.Deep.DeepCutAuto
import Derived.BigQuiet
import Derived.Deep.QuietTactic
namespace Go.Proofs.Yteonkfdmkgjpaaa
open Go.RowKit
set_option linter.unusedVariables false
set_option linter.unusedSimpArgs false

theorem St.add {w0 W : World} {L : List (Nat × TypeId × Array Value)} {g : Nat} {t : TypeId} {cs : Array Value} (h : St w0 L W) (hb : Blk W g t cs) : St w0 ((g, t, cs) :: L) W :=
  ⟨h.1, fun x hx => by
    rcases List.mem_cons.1 hx with rfl | hx
    · exact hb
    · exact h.2 x hx⟩
namespace Img
theorem firstF_ok (l : List Ins) : ∀ (n i : Nat), (∀ j, i ≤ j → j < i + n → fault l j = 0) → firstF l n i = (-1, 0)
  | 0, _, _ => rfl
  | n + 1, i, h => by
    unfold firstF
    rw [if_neg (by simp [h i (Nat.le_refl _) (by omega)])]
    exact firstF_ok l n (i + 1) fun j h1 h2 => h j (by omega) (by omega)
theorem firstF_bad (l : List Ins) {k : Nat} (hk : fault l k ≠ 0) : ∀ (n i : Nat), i ≤ k → k < i + n → (∀ j, i ≤ j → j < k → fault l j = 0) → firstF l n i = ((k : Int), fault l k)
  | 0, _, h1, h2, _ => by omega
  | n + 1, i, h1, h2, h => by
    unfold firstF
    by_cases e : i = k
    · subst e; rw [if_pos hk]
    · rw [if_neg (by simp [h i (Nat.le_refl _) (by omega)])]
      exact firstF_bad l hk n (i + 1) (by omega) (by omega) fun j h3 h4 => h j (by omega) h4
theorem check_out {l : List Ins} {mem st : Int} (h : outside l mem st) : check l mem st = (-1, 2) := if_pos h
theorem check_ok {l : List Ins} {mem st : Int} (h : ¬ outside l mem st) (hf : ∀ j, j < l.length → fault l j = 0) : check l mem st = (-1, 0) := by
  unfold check
  rw [if_neg h]
  exact firstF_ok l _ _ fun j _ h2 => hf j (by omega)
theorem check_bad {l : List Ins} {mem st : Int} {k : Nat} (h : ¬ outside l mem st) (hk : k < l.length) (hb : fault l k ≠ 0) (hf : ∀ j, j < k → fault l j = 0) : check l mem st = ((k : Int), fault l k) := by
  unfold check
  rw [if_neg h]
  exact firstF_bad l hb _ _ (Nat.zero_le _) (by omega) fun j _ h2 => hf j h2
end Img

set_option maxHeartbeats 8000000 in
theorem check_out_any (l : List Ins) (A : Option Addr) (cap : Nat) (mem st : Int) (w : World) (h : Img.outside l mem st) :
    Calls Try.prog 24 #[.agg #[.slice A l.length cap, .int .i64 mem, .int .i64 st]] w fun e w' => e = .returned (.tuple #[.int .i64 (-1), .int .i64 2]) ∧ Below w.heap.size w w' := by
  unfold Img.outside at h
  by_cases h1 : 65536 < l.length
  · have o1 : decide ((65536 : Int) < (l.length : Int)) = true := decide_eq_true (by omega)
    go_enter Try.func24, Try.ntmps24
    go_wp2
    go_ret2
    exact ⟨rfl, (Below.refl _ _).alloc (Nat.le_refl _) _⟩
  have o1 : decide ((65536 : Int) < (l.length : Int)) = false := decide_eq_false (by omega)
  by_cases h2 : mem < 0
  · go_enter Try.func24, Try.ntmps24
    go_wp2
    go_ret2
    exact ⟨rfl, (Below.refl _ _).alloc (Nat.le_refl _) _⟩
  by_cases h3 : 16384 < mem
  · go_enter Try.func24, Try.ntmps24
    go_wp2
    go_ret2
    exact ⟨rfl, (Below.refl _ _).alloc (Nat.le_refl _) _⟩
  by_cases h4 : st < 1
  · go_enter Try.func24, Try.ntmps24
    go_wp2
    go_ret2
    exact ⟨rfl, (Below.refl _ _).alloc (Nat.le_refl _) _⟩
  · have h5 : 16384 < st := by omega
    go_enter Try.func24, Try.ntmps24
    go_wp2
    go_ret2
    exact ⟨rfl, (Below.refl _ _).alloc (Nat.le_refl _) _⟩

def RegRel (l : List Ins) (w : World) (A : Option Addr) (cap : Nat) (mem st : Int) (s4 : Value) (wx : World) : Prop :=
  ∃ g, s4 = .slice (some ⟨g, 0, none⟩) l.length l.length ∧ w.heap.size < g ∧ St w [(g, 3, arr (Img.region l) l.length), (w.heap.size, 24, #[.slice A l.length cap, .int .i64 mem, .int .i64 st])] wx

set_option maxHeartbeats 8000000 in
theorem check_any (l : List Ins) (A : Option Addr) (cap : Nat) (mem st : Int) (w : World) (hc : CodeAt w A l) :
    Calls Try.prog 24 #[.agg #[.slice A l.length cap, .int .i64 mem, .int .i64 st]] w fun e w' => e = .returned (.tuple #[.int .i64 (Img.check l mem st).1, .int .i64 (Img.check l mem st).2]) ∧ Below w.heap.size w w' := by
  by_cases ho : Img.outside l mem st
  · rw [Img.check_out ho]
    exact check_out_any l A cap mem st w ho
  have Ho := Lib.hid ho
  have ho2 := ho
  unfold Img.outside at ho2
  have hn0 : l.length ≤ 65536 := by omega
  have h2 : 0 ≤ mem := by omega
  have h3 : mem ≤ 16384 := by omega
  have h4 : 1 ≤ st := by omega
  have h5 : st ≤ 16384 := by omega
  have o1 : decide ((65536 : Int) < (l.length : Int)) = false := decide_eq_false (by omega)
  clear ho ho2
  go_enter Try.func24, Try.ntmps24
  go_upto_region 3 with fail
  have hS := (St.start w).alloc #[.slice A l.length cap, .int .i64 mem, .int .i64 st] 24
  generalize (w.alloc (.cells #[.slice A l.length cap, .int .i64 mem, .int .i64 st] 24)) = w1 at *
  obtain ⟨i0, i1, i2, -⟩ := Blk.cells3 hS.b1
  go_cut [4] (fun s4 wx => RegRel l w A cap mem st s4 wx)
  case first =>
    go_wp2_with (first | (go_at_call 49; refine (regions_any l A cap mem st _ hn0 (CodeAt.after hS.1 hc)).mono ?_; rintro e wn ⟨g, rfl, hgl, hB, hbl⟩; have hR : RegRel l w A cap mem st (.slice (some ⟨g, 0, none⟩) l.length l.length) wn := ⟨g, rfl, Nat.lt_of_lt_of_le hS.b1.lt hgl, (St.call hB hS).add hbl⟩))
    go_meet
    exact hR
  case rest =>
    clear hS i0 i1 i2
    obtain ⟨g, rfl, hgl, hS⟩ := hcut
    obtain ⟨i0, i1, i2, -⟩ := Blk.cells3 hS.b2
    go_wp2
    obtain ⟨wo, rfl⟩ : ∃ wo : World, wo = wc := ⟨_, rfl⟩
    go_loopw [36] (fun s wr => ∃ i : Nat, i ≤ l.length ∧ s = .int .i64 i ∧ St w [(g, 3, arr (Img.region l) l.length), (w.heap.size, 24, #[.slice A l.length cap, .int .i64 mem, .int .i64 st])] wr ∧ Hid (∀ j, j < i → Img.fault l j = 0)) (fun s _ => l.length - (intOf s).toNat)
    case atStart => exact ⟨0, Nat.zero_le _, rfl, hS, fun j hj => absurd hj (Nat.not_lt_zero _)⟩
    case round =>
      clear hS i0 i1 i2
      obtain ⟨i, hi, rfl, hS, hn⟩ := hrel
      obtain ⟨i0, i1, i2, -⟩ := Blk.cells3 hS.b2
      by_cases hil : i < l.length
      · obtain ⟨b, o, rfl, hcB⟩ := hc (by omega)
        have HFA := Lib.hid (fault_any l b o cap mem st g i _ hn0 hil (CodeB.after hS.1 hcB) hS.b1.lt (St.arrCells (w0 := w) (L := []) hS.b1).1)
        by_cases hf : Img.fault l i = 0
        · have hnx := Lib.hid (show ∀ j, j < i + 1 → Img.fault l j = 0 from fun j hj => by
            rcases Nat.lt_succ_iff_lt_or_eq.1 hj with h1 | h1
            · exact hn.out j h1
            · rw [h1]; exact hf)
          rw [hf] at HFA
          clear hf hn
          go_wp2_with (first | (go_at_call 50; refine HFA.out.mono ?_; rintro e wn ⟨rfl, hB⟩; have hS3 := St.call hB hS))
          go_roundw
          case rel => exact ⟨i + 1, hil, by go_num, hS3, hnx⟩
          case measure => simp [intOf]; omega
        · have HC := Lib.hid (Img.check_bad Ho.out hil hf hn.out)
          have o2 : (Img.fault l i != 0) = true := by simp [hf]
          clear hf hn
          go_wp2_with (first | (go_at_call 50; refine HFA.out.mono ?_; rintro e wn ⟨rfl, hB⟩; have hS3 := St.call hB hS))
          go_ret2
          exact ⟨by rw [HC.out]; rfl, hS3.1⟩
      · have HC := Lib.hid (Img.check_ok Ho.out (fun j hj => hn.out j (by omega)))
        clear hn
        go_wp2
        go_ret2
        exact ⟨by rw [HC.out]; rfl, hS.1⟩

set_option maxHeartbeats 8000000 in
theorem imgValid_any (l : List Ins) (A : Option Addr) (cap : Nat) (mem st : Int) (w : World) (hc : CodeAt w A l) :
    Calls Try.prog 25 #[.agg #[.slice A l.length cap, .int .i64 mem, .int .i64 st]] w fun e w' => e = .returned (.bool (Img.valid l mem st)) ∧ Below w.heap.size w w' := by
  go_enter Try.func25, Try.ntmps25
  have hS := (St.start w).alloc #[.slice A l.length cap, .int .i64 mem, .int .i64 st] 24
  go_wp2_with (first | (go_at_call 24; refine (check_any l A cap mem st _ (CodeAt.after hS.1 hc)).mono ?_; rintro e wn ⟨rfl, hB⟩; have hS3 := St.call hB hS))
  go_ret
  exact ⟨rfl, hS3.1⟩
end Go.Proofs.Yteonkfdmkgjpaaa
