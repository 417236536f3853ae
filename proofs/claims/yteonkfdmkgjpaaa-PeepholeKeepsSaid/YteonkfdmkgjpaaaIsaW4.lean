/- Contracts of layer 21: Valid. -/
import Derived.Test.YteonkfdmkgjpaaaIsaW3
import Derived.BigQuiet
import Derived.Deep.QuietTactic
namespace Go.Proofs.Yteonkfdmkgjpaaa
open Go.RowKit
set_option linter.unusedVariables false
set_option linter.unusedSimpArgs false

theorem quiet_same {P : Program} {f : FuncId} {args : Array Value} {w : World} {n : Nat} {v : Value}
    (h : Calls P f args (w.drewN n) fun e w' => e = .returned v ∧ w.drewN n = w') : Calls P f args (w.drewN n) fun e w'' => e = .returned v ∧ ∃ m, w'' = w.drewN m :=
  h.mono fun _ _ ⟨he, hm⟩ => ⟨he, n, hm.symm⟩

theorem okAt_byte {l : List UInt8} {k : Nat} (h : k < (⟨l.toArray⟩ : ByteArray).size) (x : Int) : Isa.okAt l k x = Isa.fitsB ((((⟨l.toArray⟩ : ByteArray)[k]'h).toNat : Nat) : Int) x := by
  have hl : k < l.length := by simpa [ByteArray.size] using h
  unfold Isa.okAt
  rw [if_pos hl, List.getD_eq_getElem?_getD, List.getElem?_eq_getElem hl]
  rfl

set_option maxHeartbeats 4000000 in
theorem valid_any (op a b c d : Int) (w : World) :
    Calls Try.prog 30 #[.agg #[.int .u8 op, .int .i64 a, .int .i64 b, .int .i64 c, .int .i64 d]] w fun e w' =>
      e = .returned (.bool (Isa.vld op a b c d)) ∧ Below w.heap.size w w' := by
  go_enter Try.func30, Try.ntmps30
  go_upto_region 1 with fail
  have k0 : Blk (w.alloc (.cells #[.int .u8 op, .int .i64 a, .int .i64 b, .int .i64 c, .int .i64 d] 38)) w.heap.size 38 #[.int .u8 op, .int .i64 a, .int .i64 b, .int .i64 c, .int .i64 d] := Blk.new _ _ _
  have kb : Below w.heap.size w (w.alloc (.cells #[.int .u8 op, .int .i64 a, .int .i64 b, .int .i64 c, .int .i64 d] 38)) := (Below.refl _ _).alloc (Nat.le_refl _) _
  generalize (w.alloc (.cells #[.int .u8 op, .int .i64 a, .int .i64 b, .int .i64 c, .int .i64 d] 38)) = w1 at *
  go_cut [3, 4] (fun s3 s4 wx => LookRel op a b c d w1 wx s3 s4)
  case first =>
    have c0 := k0.cell 0
    have c0a := fun o => (Blk.alloc k0 o).cell 0
    simp at c0 c0a
    go_region_with (first | (go_at_call 51; (with_reducible refine (rows_calls w1.drew).mono ?_); rintro e w' ⟨b1, rfl, hb, hB, hs⟩; have hlk := look_ok w' b1 op hb; rw [rowAt_agg] at hlk; have hlk2 := fun o => look_ok (w'.alloc o) b1 op (map_alloc hb o); simp only [rowAt_agg] at hlk2; have d0 := (Blk.after hB k0.drew).cell 0; have d0a := fun o => (Blk.alloc (Blk.after hB k0.drew) o).cell 0; simp at d0 d0a) | (go_at_call 51; (with_reducible refine (rows_calls (w1.alloc (.cells #[.string ⟨#[]⟩, .string ⟨#[]⟩, .int .u8 0] 65)).drew).mono ?_); rintro e w' ⟨b1, rfl, hb, hB, hs⟩; have hlk := look_ok w' b1 op hb; rw [rowAt_agg] at hlk; have d0 := (Blk.after hB (k0.alloc _).drew).cell 0; simp at d0; obtain ⟨e0, e1, e2, e3, e4, e5⟩ := Blk.cells3 (Blk.after hB (Blk.new w1 65 #[.string ⟨#[]⟩, .string ⟨#[]⟩, .int .u8 0]).drew)))
    all_goals (go_wp2_with fail; go_meet)
    all_goals first | (with_reducible exact lookA hB) | (with_reducible exact lookB rfl hB)
  case rest =>
    obtain ⟨g, rfl, rfl, hr, hsz, hB, hg⟩ := hcut
    have k0' := Blk.after hB k0
    have kb' := kb.trans (hB.mono kb.size)
    clear k0 kb hB
    generalize hok : (Isa.row op).isSome = ok
    cases ok
    · have hv : Isa.vld op a b c d = false := by unfold Isa.vld; rw [hok]; rfl
      have Hv := Lib.hid hv
      clear hok hv
      go_wp2
      go_ret
      exact ⟨by rw [Hv.out]; rfl, kb'⟩
    · have Hok := Lib.hid hok
      clear hok
      go_wp2_with (go_at_call 52; refine (operandPtrs_any w.heap.size _).mono ?_; rintro e w' ⟨rfl, hw2⟩; have kp := hw2 ▸ (Blk.new wc 72 #[.pointer (some ⟨w.heap.size, 1, none⟩), .pointer (some ⟨w.heap.size, 2, none⟩), .pointer (some ⟨w.heap.size, 3, none⟩), .pointer (some ⟨w.heap.size, 4, none⟩)]).drew; have ki : Blk w' w.heap.size _ _ := hw2 ▸ (k0'.alloc _).drew; have kr : Blk w' g _ _ := hw2 ▸ (hr.alloc _).drew; have kbb : Below w.heap.size w w' := hw2 ▸ (kb'.alloc kb'.size _).drew; clear hw2)
      have p0 := kp.cell 0
      have p1 := kp.cell 1
      have p2 := kp.cell 2
      have p3 := kp.cell 3
      simp at p0 p1 p2 p3
      obtain ⟨c0, c1, c2, c3, c4, -⟩ := Blk.cells5 ki
      obtain ⟨r0, r1, -⟩ := Blk.cells3 kr
      clear kp ki kr k0' hr hsz hg kb'
      go_loopw [18] (fun i wr => ∃ (k n : Nat), k ≤ 4 ∧ i = .int .i64 k ∧ wr = w'.drewN n ∧ Hid (∀ j, j < k → Isa.okAt (Isa.ops op) j (Isa.operand a b c d j) = true)) (fun i _ => 4 - (intOf i).toNat)
      case atStart => exact ⟨0, 0, Nat.zero_le _, rfl, rfl, fun j hj => absurd hj (Nat.not_lt_zero _)⟩
      case round =>
        obtain ⟨k, n, hk, rfl, hwr, hn⟩ := hrel
        have Hw := Lib.hid hwr
        have r1' : wr.cell? ⟨g, 1, none⟩ = some (.string ⟨(Isa.ops op).toArray⟩) := by rw [hwr]; exact r1
        have c0' : wr.cell? ⟨w.heap.size, 0, none⟩ = some (.int .u8 op) := by rw [hwr]; exact c0
        have c1' : wr.cell? ⟨w.heap.size, 1, none⟩ = some (.int .i64 a) := by rw [hwr]; exact c1
        have c2' : wr.cell? ⟨w.heap.size, 2, none⟩ = some (.int .i64 b) := by rw [hwr]; exact c2
        have c3' : wr.cell? ⟨w.heap.size, 3, none⟩ = some (.int .i64 c) := by rw [hwr]; exact c3
        have hbw : Below w.heap.size w wr := by rw [hwr]; exact ⟨kbb.os, kbb.tape, kbb.output, kbb.size, kbb.block⟩
        by_cases hk4 : k < 4
        · have pk : wr.cell? ⟨wc.heap.size, k, none⟩ = some (.pointer (some ⟨w.heap.size, k + 1, none⟩)) := by
            rw [hwr]
            obtain rfl | rfl | rfl | rfl : k = 0 ∨ k = 1 ∨ k = 2 ∨ k = 3 := by omega
            · exact p0
            · exact p1
            · exact p2
            · exact p3
          have ck : wr.cell? ⟨w.heap.size, k + 1, none⟩ = some (.int .i64 (Isa.operand a b c d k)) := by
            rw [hwr]
            obtain rfl | rfl | rfl | rfl : k = 0 ∨ k = 1 ∨ k = 2 ∨ k = 3 := by omega
            · exact c1
            · exact c2
            · exact c3
            · exact c4
          have hnx : Isa.okAt (Isa.ops op) k (Isa.operand a b c d k) = true → ∀ j, j < k + 1 → Isa.okAt (Isa.ops op) j (Isa.operand a b c d j) = true := fun h j hj => by
            rcases Nat.lt_succ_iff_lt_or_eq.1 hj with h1 | h1
            · exact hn.out j h1
            · rw [h1]; exact h
          have Hbad := Lib.hid (@Isa.vld_bad op a b c d k hk4)
          have Hnx := Lib.hid hnx
          generalize Isa.operand a b c d k = x at *
          clear p0 p1 p2 p3 c0 c1 c2 c3 c4 hwr hnx hn c0' c1' c2' c3' r1 r0
          by_cases hlt : k < (Isa.ops op).length
          · have h1 : decide ((Isa.ops op).length ≤ k) = false := decide_eq_false (by omega)
            have h2 : decide (k < (Isa.ops op).length) = true := decide_eq_true hlt
            have hsz : k < (⟨(Isa.ops op).toArray⟩ : ByteArray).size := by simpa [ByteArray.size] using hlt
            have ho := okAt_byte hsz x
            by_cases hf : Isa.okAt (Isa.ops op) k x = true
            · have Ho := Lib.hid hf
              have hfit : Isa.fitsB ((((⟨(Isa.ops op).toArray⟩ : ByteArray)[k]'hsz).toNat : Nat) : Int) x = true := by rw [← ho]; exact hf
              clear ho hf
              go_wp2
              go_quiet ((go_at_call 53; exact quiet_same (fits_any _ _ _)))
              go_wp2
              go_roundw
              case rel => exact ⟨k + 1, n + nq, by omega, by go_num, by rw [Hw.out, World.drewN_drewN], Hnx.out Ho.out⟩
              case measure => simp [intOf]; omega
            · have Ho := Lib.hid (Bool.not_eq_true _ ▸ hf)
              have hfit : Isa.fitsB ((((⟨(Isa.ops op).toArray⟩ : ByteArray)[k]'hsz).toNat : Nat) : Int) x = false := by rw [← ho]; simpa using hf
              clear ho hf
              go_wp2
              go_quiet ((go_at_call 53; exact quiet_same (fits_any _ _ _)))
              go_wp2
              go_ret
              exact ⟨by rw [Hbad.out Ho.out]; rfl, ⟨hbw.os, hbw.tape, hbw.output, hbw.size, hbw.block⟩⟩
          · have h1 : decide ((Isa.ops op).length ≤ k) = true := decide_eq_true (by omega)
            have h2 : decide (k < (Isa.ops op).length) = false := decide_eq_false hlt
            by_cases hx : x = 0
            · have hx' : (x != 0) = false := by simp [hx]
              have ho : Isa.okAt (Isa.ops op) k x = true := by unfold Isa.okAt; rw [if_neg hlt]; simp [hx]
              have Ho := Lib.hid ho
              clear ho hlt hx
              go_wp2
              go_quiet (fail)
              go_wp2
              go_roundw
              case rel => exact ⟨k + 1, n + nq, by omega, by go_num, by rw [Hw.out, World.drewN_drewN], Hnx.out Ho.out⟩
              case measure => simp [intOf]; omega
            · have hx' : (x != 0) = true := by simp [hx]
              have ho : Isa.okAt (Isa.ops op) k x = false := by unfold Isa.okAt; rw [if_neg hlt]; simp [hx]
              have Ho := Lib.hid ho
              clear ho hlt hx
              go_wp2
              go_quiet (fail)
              go_wp2
              go_ret
              exact ⟨by rw [Hbad.out Ho.out]; rfl, ⟨hbw.os, hbw.tape, hbw.output, hbw.size, hbw.block⟩⟩
        · have hgood := Lib.hid (Isa.vld_good (op := op) (a := a) (b := b) (c := c) (d := d) Hok.out (fun j hj => hn.out j (by omega)))
          clear p0 p1 p2 p3 c0 c1 c2 c3 c4 hwr hn r1 r0
          go_wp2
          all_goals go_ret
          all_goals refine ⟨?_, hbw⟩
          all_goals rw [hgood.out]
          all_goals clear hbw hgood Hok Hw r1' c0' c1' c2' c3'
          all_goals (simp only [beq_iff_eq, beq_eq_false_iff_ne, ne_eq] at *; congr 2; unfold Isa.dist; simp [*])
end Go.Proofs.Yteonkfdmkgjpaaa
