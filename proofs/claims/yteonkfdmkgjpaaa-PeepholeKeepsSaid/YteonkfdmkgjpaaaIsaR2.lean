/- Contracts of the reference of layer 21: Valid. -/
import Derived.Test.YteonkfdmkgjpaaaIsaR1
namespace Go.Proofs.Yteonkfdmkgjpaaa
open Go.RowKit
set_option linter.unusedVariables false
set_option linter.unusedSimpArgs false

set_option maxHeartbeats 4000000 in
theorem rvalid_any (op a b c d : Int) (h0 : 0 ≤ op) (w : World) :
    Calls Try.prog 55 #[.agg #[.int .u8 op, .int .i64 a, .int .i64 b, .int .i64 c, .int .i64 d]] w fun e w' =>
      e = .returned (.bool (Isa.vld op a b c d)) ∧ Below w.heap.size w w' := by
  have H0 := Lib.hid h0
  clear h0
  go_enter Try.func55, Try.ntmps55
  generalize hok : (Isa.row op).isSome = ok
  have Hok := Lib.hid hok
  clear hok
  cases ok
  · have hv := Lib.hid (show Isa.vld op a b c d = false by unfold Isa.vld; rw [Hok.out]; rfl)
    go_wp2_with (go_at_call 67; refine (rshape_any op H0.out _).mono ?_; rintro e w' ⟨rfl, rfl⟩; rw [Hok.out])
    go_ret
    exact ⟨by rw [hv.out]; rfl, (Below.refl _ _).alloc (Nat.le_refl _) _⟩
  · go_wp2_with (go_at_call 67; refine (rshape_any op H0.out _).mono ?_; rintro e w' ⟨rfl, rfl⟩; rw [Hok.out])
    have k0 : Blk (w.alloc (.cells #[.int .u8 op, .int .i64 a, .int .i64 b, .int .i64 c, .int .i64 d] 38)) w.heap.size 38 #[.int .u8 op, .int .i64 a, .int .i64 b, .int .i64 c, .int .i64 d] := Blk.new _ _ _
    have kb : Below w.heap.size w (w.alloc (.cells #[.int .u8 op, .int .i64 a, .int .i64 b, .int .i64 c, .int .i64 d] 38)) := (Below.refl _ _).alloc (Nat.le_refl _) _
    generalize (w.alloc (.cells #[.int .u8 op, .int .i64 a, .int .i64 b, .int .i64 c, .int .i64 d] 38)) = w1 at *
    go_loopw [5] (fun i wr => ∃ k : Nat, k ≤ 4 ∧ i = .int .i64 k ∧ Blk wr w.heap.size 38 #[.int .u8 op, .int .i64 a, .int .i64 b, .int .i64 c, .int .i64 d] ∧ Below w.heap.size w wr ∧ Hid (∀ j, j < k → Isa.okAt (Isa.ops op) j (Isa.operand a b c d j) = true)) (fun i _ => 4 - (intOf i).toNat)
    case atStart => exact ⟨0, Nat.zero_le _, rfl, k0, kb, fun j hj => absurd hj (Nat.not_lt_zero _)⟩
    case round =>
      obtain ⟨k, hk, rfl, k1, hbw, hn⟩ := hrel
      clear k0 kb
      obtain ⟨c0, c1, c2, c3, c4, -⟩ := Blk.cells5 k1
      by_cases hk4 : k < 4
      · have hnx : Isa.okAt (Isa.ops op) k (Isa.operand a b c d k) = true → ∀ j, j < k + 1 → Isa.okAt (Isa.ops op) j (Isa.operand a b c d j) = true := fun h j hj => by
          rcases Nat.lt_succ_iff_lt_or_eq.1 hj with h1 | h1
          · exact hn.out j h1
          · rw [h1]; exact h
        have Hbad := Lib.hid (@Isa.vld_bad op a b c d k hk4)
        have Hnx := Lib.hid hnx
        have Hk := Lib.hid (show ∀ wx, _ from fun wx => rget_any op a b c d k hk4 wx)
        generalize Isa.operand a b c d k = x at *
        clear hnx hn
        by_cases hlt : k < (Isa.ops op).length
        · have h1 : decide ((Isa.ops op).length ≤ k) = false := decide_eq_false (by omega)
          have h2 : decide (k < (Isa.ops op).length) = true := decide_eq_true hlt
          have hsz : k < (⟨(Isa.ops op).toArray⟩ : ByteArray).size := by simpa [ByteArray.size] using hlt
          have ho := okAt_byte hsz x
          have Hhb := Lib.hid hbw
          have Hk1 := Lib.hid k1
          clear hbw k1
          by_cases hf : Isa.okAt (Isa.ops op) k x = true
          · have Ho := Lib.hid hf
            have hfit : Isa.fitsB ((((⟨(Isa.ops op).toArray⟩ : ByteArray)[k]'hsz).toNat : Nat) : Int) x = true := by rw [← ho]; exact hf
            clear ho hf
            go_wp2
            go_region_with (first | (go_at_call 69; refine (Hk.out _).mono ?_; rintro e w' ⟨rfl, hB⟩) | (go_at_call 68; refine (rfits_any _ _ _).mono ?_; rintro e w' ⟨rfl, rfl⟩))
            all_goals go_wp2
            all_goals go_roundw
            all_goals first | exact ⟨k + 1, by omega, by go_num, Blk.after hB (Blk.drew Hk1.out), Hhb.out.drew.trans (hB.mono Hhb.out.size), Hnx.out Ho.out⟩ | (simp [intOf]; omega)
          · have Ho := Lib.hid (Bool.not_eq_true _ ▸ hf)
            have hfit : Isa.fitsB ((((⟨(Isa.ops op).toArray⟩ : ByteArray)[k]'hsz).toNat : Nat) : Int) x = false := by rw [← ho]; simpa using hf
            clear ho hf
            go_wp2
            go_region_with (first | (go_at_call 69; refine (Hk.out _).mono ?_; rintro e w' ⟨rfl, hB⟩) | (go_at_call 68; refine (rfits_any _ _ _).mono ?_; rintro e w' ⟨rfl, rfl⟩))
            all_goals go_wp2
            all_goals go_ret
            all_goals exact ⟨by rw [Hbad.out Ho.out]; rfl, Hhb.out.drew.trans (hB.mono Hhb.out.size)⟩
        · have h1 : decide ((Isa.ops op).length ≤ k) = true := decide_eq_true (by omega)
          have h2 : decide (k < (Isa.ops op).length) = false := decide_eq_false hlt
          have Hhb := Lib.hid hbw
          have Hk1 := Lib.hid k1
          clear hbw k1
          by_cases hx : x = 0
          · have hx' : (x != 0) = false := by simp [hx]
            have ho : Isa.okAt (Isa.ops op) k x = true := by unfold Isa.okAt; rw [if_neg hlt]; simp [hx]
            have Ho := Lib.hid ho
            clear ho hlt hx
            go_wp2
            go_quiet (fail)
            go_wp2_with (go_at_call 69; refine (Hk.out _).mono ?_; rintro e w' ⟨rfl, hB⟩)
            go_roundw
            case rel => exact ⟨k + 1, by omega, by go_num, Blk.after hB (Blk.drewN Hk1.out _), (below_drewN Hhb.out _).trans (hB.mono Hhb.out.size), Hnx.out Ho.out⟩
            case measure => simp [intOf]; omega
          · have hx' : (x != 0) = true := by simp [hx]
            have ho : Isa.okAt (Isa.ops op) k x = false := by unfold Isa.okAt; rw [if_neg hlt]; simp [hx]
            have Ho := Lib.hid ho
            clear ho hlt hx
            go_wp2
            go_quiet (fail)
            go_wp2_with (go_at_call 69; refine (Hk.out _).mono ?_; rintro e w' ⟨rfl, hB⟩)
            go_ret
            exact ⟨by rw [Hbad.out Ho.out]; rfl, (below_drewN Hhb.out _).trans (hB.mono Hhb.out.size)⟩
      · have hgood := Lib.hid (Isa.vld_good (op := op) (a := a) (b := b) (c := c) (d := d) Hok.out (fun j hj => hn.out j (by omega)))
        clear hn k1
        go_wp2
        all_goals go_ret
        all_goals refine ⟨?_, hbw⟩
        all_goals rw [hgood.out]
        all_goals clear hbw hgood Hok c0 c1 c2 c3 c4
        all_goals (simp only [beq_iff_eq, beq_eq_false_iff_ne, ne_eq] at *; congr 2; unfold Isa.dist; simp [*])
end Go.Proofs.Yteonkfdmkgjpaaa
