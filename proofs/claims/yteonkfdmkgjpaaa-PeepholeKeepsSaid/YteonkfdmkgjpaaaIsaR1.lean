/- Contracts of the reference of layer 21: Shape, Get, fits, Inverse, Mnemonic, Target. -/
import Derived.Test.YteonkfdmkgjpaaaIsaW4
namespace Go.Proofs.Yteonkfdmkgjpaaa
open Go.RowKit
set_option linter.unusedVariables false
set_option linter.unusedSimpArgs false

set_option maxHeartbeats 1000000 in
theorem rfits_any (c x : Int) (w : World) :
    Calls Try.prog 68 #[.int .u8 c, .int .i64 x] w fun e w' => e = .returned (.bool (Isa.fitsB c x)) ∧ w = w' := by
  go_enter Try.func68, Try.ntmps68
  go_wp2
  all_goals go_ret
  all_goals refine ⟨?_, rfl⟩
  all_goals (simp only [beq_iff_eq, beq_eq_false_iff_ne, ne_eq] at *; congr 2; unfold Isa.fitsB; simp [*]; try omega)

set_option maxHeartbeats 4000000 in
theorem rshape_any (op : Int) (h0 : 0 ≤ op) (w : World) :
    Calls Try.prog 67 #[.int .u8 op] w fun e w' => e = .returned (.tuple #[.string ⟨(Isa.ops op).toArray⟩, .bool (Isa.row op).isSome]) ∧ w = w' := by
  have H0 := Lib.hid h0
  clear h0
  go_enter Try.func67, Try.ntmps67
  go_wp2
  all_goals go_ret2
  all_goals refine ⟨?_, rfl⟩
  all_goals (simp only [beq_iff_eq, beq_eq_false_iff_ne, ne_eq] at *; first | (subst_vars; rfl) | (have h := H0.out; have hr : Isa.row op = none := Isa.row_none op (by omega); simp [Isa.ops, hr]))

set_option maxHeartbeats 2000000 in
theorem rget_any (op a b c d : Int) (k : Nat) (hk : k < 4) (w : World) :
    Calls Try.prog 69 #[.agg #[.int .u8 op, .int .i64 a, .int .i64 b, .int .i64 c, .int .i64 d], .int .i64 k] w fun e w' =>
      e = .returned (.int .i64 (Isa.operand a b c d k)) ∧ Below w.heap.size w w' := by
  obtain rfl | rfl | rfl | rfl : k = 0 ∨ k = 1 ∨ k = 2 ∨ k = 3 := by omega
  all_goals
    go_enter Try.func69, Try.ntmps69
    go_wp2
    go_ret
    exact ⟨rfl, (Below.refl _ _).alloc (Nat.le_refl _) _⟩

/-- the pairs of the reference -/
def rpairs : List Int := [1, 2, 4, 5, 12, 13, 17, 18, 19, 20, 22, 25, 23, 26, 24, 27, 28, 29, 32, 33]
theorem rinv_hit {op : Int} {j : Nat} (hj : j < 10) : (rpairs.getD (2 * j) 0 = op → Isa.inv op = rpairs.getD (2 * j + 1) 0) ∧ (rpairs.getD (2 * j + 1) 0 = op → Isa.inv op = rpairs.getD (2 * j) 0) := by
  obtain rfl | rfl | rfl | rfl | rfl | rfl | rfl | rfl | rfl | rfl : j = 0 ∨ j = 1 ∨ j = 2 ∨ j = 3 ∨ j = 4 ∨ j = 5 ∨ j = 6 ∨ j = 7 ∨ j = 8 ∨ j = 9 := by omega
  all_goals exact ⟨fun h => by rw [← h]; rfl, fun h => by rw [← h]; rfl⟩
theorem rinv_miss {op : Int} (h0 : 0 ≤ op) (h : ∀ j, j < 10 → rpairs.getD (2 * j) 0 ≠ op ∧ rpairs.getD (2 * j + 1) 0 ≠ op) : Isa.inv op = op := by
  by_cases h35 : op < 35
  · have hall : ∀ n : Fin 35, (∃ j : Fin 10, rpairs.getD (2 * j.val) 0 = (n.val : Int) ∨ rpairs.getD (2 * j.val + 1) 0 = (n.val : Int)) ∨ Isa.inv (n.val : Int) = (n.val : Int) := by decide
    have e : ((op.toNat : Nat) : Int) = op := by omega
    rcases hall ⟨op.toNat, by omega⟩ with ⟨j, hj⟩ | h1
    · have := h j.val j.isLt
      simp only [e] at hj
      rcases hj with hj | hj
      · exact absurd hj this.1
      · exact absurd hj this.2
    · simp only [e] at h1; exact h1
  · exact Isa.inv_none (by rw [Isa.row_none op (by omega)]; rfl)

set_option maxHeartbeats 4000000 in
theorem rinverse_any (op : Int) (h0 : 0 ≤ op) (w : World) :
    Calls Try.prog 47 #[.int .u8 op] w fun e w' => e = .returned (.int .u8 (Isa.inv op)) ∧ Below w.heap.size w w' := by
  have H0 := Lib.hid h0
  clear h0
  go_enter Try.func47, Try.ntmps47
  go_wp2
  go_loop [4] (fun i => ∃ k : Nat, k ≤ 10 ∧ i = .int .i64 (2 * k : Nat) ∧ Hid (∀ j, j < k → rpairs.getD (2 * j) 0 ≠ op ∧ rpairs.getD (2 * j + 1) 0 ≠ op)) (fun i => 20 - (intOf i).toNat)
  case atStart => exact ⟨0, Nat.zero_le _, rfl, fun j hj => absurd hj (Nat.not_lt_zero _)⟩
  case round =>
    obtain ⟨k, hk, rfl, hn⟩ := hrel
    by_cases hk10 : k < 10
    · have hh := Lib.hid (@rinv_hit op k hk10)
      have hB : Below w.heap.size w (w.alloc (.cells #[.int .u8 1, .int .u8 2, .int .u8 4, .int .u8 5, .int .u8 12, .int .u8 13, .int .u8 17, .int .u8 18, .int .u8 19, .int .u8 20, .int .u8 22, .int .u8 25, .int .u8 23, .int .u8 26, .int .u8 24, .int .u8 27, .int .u8 28, .int .u8 29, .int .u8 32, .int .u8 33] 5)) := (Below.refl _ _).alloc (Nat.le_refl _) _
      have hnx : rpairs.getD (2 * k) 0 ≠ op ∧ rpairs.getD (2 * k + 1) 0 ≠ op → ∀ j, j < k + 1 → rpairs.getD (2 * j) 0 ≠ op ∧ rpairs.getD (2 * j + 1) 0 ≠ op := fun h j hj => by
        rcases Nat.lt_succ_iff_lt_or_eq.1 hj with h1 | h1
        · exact hn.out j h1
        · rw [h1]; exact h
      have Hnx := Lib.hid hnx
      clear hnx hn
      obtain rfl | rfl | rfl | rfl | rfl | rfl | rfl | rfl | rfl | rfl : k = 0 ∨ k = 1 ∨ k = 2 ∨ k = 3 ∨ k = 4 ∨ k = 5 ∨ k = 6 ∨ k = 7 ∨ k = 8 ∨ k = 9 := by omega
      · have j1 : (1 : Int) = op → Isa.inv op = 2 := hh.out.1
        have j2 : (2 : Int) = op → Isa.inv op = 1 := hh.out.2
        have J1 := Lib.hid j1
        have J2 := Lib.hid j2
        clear j1 j2
        go_wp2
        · go_ret
          exact ⟨by rw [J1.out (beq_iff_eq.1 (by assumption))]; rfl, hB⟩
        · go_ret
          exact ⟨by rw [J2.out (beq_iff_eq.1 (by assumption))]; rfl, hB⟩
        · have n1 : (1 : Int) ≠ op := beq_eq_false_iff_ne.1 (by assumption)
          have n2 : (2 : Int) ≠ op := beq_eq_false_iff_ne.1 (by assumption)
          go_round
          case rel => exact ⟨1, by omega, rfl, Hnx.out ⟨n1, n2⟩⟩
          case measure => simp [intOf]
      · have j1 : (4 : Int) = op → Isa.inv op = 5 := hh.out.1
        have j2 : (5 : Int) = op → Isa.inv op = 4 := hh.out.2
        have J1 := Lib.hid j1
        have J2 := Lib.hid j2
        clear j1 j2
        go_wp2
        · go_ret
          exact ⟨by rw [J1.out (beq_iff_eq.1 (by assumption))]; rfl, hB⟩
        · go_ret
          exact ⟨by rw [J2.out (beq_iff_eq.1 (by assumption))]; rfl, hB⟩
        · have n1 : (4 : Int) ≠ op := beq_eq_false_iff_ne.1 (by assumption)
          have n2 : (5 : Int) ≠ op := beq_eq_false_iff_ne.1 (by assumption)
          go_round
          case rel => exact ⟨2, by omega, rfl, Hnx.out ⟨n1, n2⟩⟩
          case measure => simp [intOf]
      · have j1 : (12 : Int) = op → Isa.inv op = 13 := hh.out.1
        have j2 : (13 : Int) = op → Isa.inv op = 12 := hh.out.2
        have J1 := Lib.hid j1
        have J2 := Lib.hid j2
        clear j1 j2
        go_wp2
        · go_ret
          exact ⟨by rw [J1.out (beq_iff_eq.1 (by assumption))]; rfl, hB⟩
        · go_ret
          exact ⟨by rw [J2.out (beq_iff_eq.1 (by assumption))]; rfl, hB⟩
        · have n1 : (12 : Int) ≠ op := beq_eq_false_iff_ne.1 (by assumption)
          have n2 : (13 : Int) ≠ op := beq_eq_false_iff_ne.1 (by assumption)
          go_round
          case rel => exact ⟨3, by omega, rfl, Hnx.out ⟨n1, n2⟩⟩
          case measure => simp [intOf]
      · have j1 : (17 : Int) = op → Isa.inv op = 18 := hh.out.1
        have j2 : (18 : Int) = op → Isa.inv op = 17 := hh.out.2
        have J1 := Lib.hid j1
        have J2 := Lib.hid j2
        clear j1 j2
        go_wp2
        · go_ret
          exact ⟨by rw [J1.out (beq_iff_eq.1 (by assumption))]; rfl, hB⟩
        · go_ret
          exact ⟨by rw [J2.out (beq_iff_eq.1 (by assumption))]; rfl, hB⟩
        · have n1 : (17 : Int) ≠ op := beq_eq_false_iff_ne.1 (by assumption)
          have n2 : (18 : Int) ≠ op := beq_eq_false_iff_ne.1 (by assumption)
          go_round
          case rel => exact ⟨4, by omega, rfl, Hnx.out ⟨n1, n2⟩⟩
          case measure => simp [intOf]
      · have j1 : (19 : Int) = op → Isa.inv op = 20 := hh.out.1
        have j2 : (20 : Int) = op → Isa.inv op = 19 := hh.out.2
        have J1 := Lib.hid j1
        have J2 := Lib.hid j2
        clear j1 j2
        go_wp2
        · go_ret
          exact ⟨by rw [J1.out (beq_iff_eq.1 (by assumption))]; rfl, hB⟩
        · go_ret
          exact ⟨by rw [J2.out (beq_iff_eq.1 (by assumption))]; rfl, hB⟩
        · have n1 : (19 : Int) ≠ op := beq_eq_false_iff_ne.1 (by assumption)
          have n2 : (20 : Int) ≠ op := beq_eq_false_iff_ne.1 (by assumption)
          go_round
          case rel => exact ⟨5, by omega, rfl, Hnx.out ⟨n1, n2⟩⟩
          case measure => simp [intOf]
      · have j1 : (22 : Int) = op → Isa.inv op = 25 := hh.out.1
        have j2 : (25 : Int) = op → Isa.inv op = 22 := hh.out.2
        have J1 := Lib.hid j1
        have J2 := Lib.hid j2
        clear j1 j2
        go_wp2
        · go_ret
          exact ⟨by rw [J1.out (beq_iff_eq.1 (by assumption))]; rfl, hB⟩
        · go_ret
          exact ⟨by rw [J2.out (beq_iff_eq.1 (by assumption))]; rfl, hB⟩
        · have n1 : (22 : Int) ≠ op := beq_eq_false_iff_ne.1 (by assumption)
          have n2 : (25 : Int) ≠ op := beq_eq_false_iff_ne.1 (by assumption)
          go_round
          case rel => exact ⟨6, by omega, rfl, Hnx.out ⟨n1, n2⟩⟩
          case measure => simp [intOf]
      · have j1 : (23 : Int) = op → Isa.inv op = 26 := hh.out.1
        have j2 : (26 : Int) = op → Isa.inv op = 23 := hh.out.2
        have J1 := Lib.hid j1
        have J2 := Lib.hid j2
        clear j1 j2
        go_wp2
        · go_ret
          exact ⟨by rw [J1.out (beq_iff_eq.1 (by assumption))]; rfl, hB⟩
        · go_ret
          exact ⟨by rw [J2.out (beq_iff_eq.1 (by assumption))]; rfl, hB⟩
        · have n1 : (23 : Int) ≠ op := beq_eq_false_iff_ne.1 (by assumption)
          have n2 : (26 : Int) ≠ op := beq_eq_false_iff_ne.1 (by assumption)
          go_round
          case rel => exact ⟨7, by omega, rfl, Hnx.out ⟨n1, n2⟩⟩
          case measure => simp [intOf]
      · have j1 : (24 : Int) = op → Isa.inv op = 27 := hh.out.1
        have j2 : (27 : Int) = op → Isa.inv op = 24 := hh.out.2
        have J1 := Lib.hid j1
        have J2 := Lib.hid j2
        clear j1 j2
        go_wp2
        · go_ret
          exact ⟨by rw [J1.out (beq_iff_eq.1 (by assumption))]; rfl, hB⟩
        · go_ret
          exact ⟨by rw [J2.out (beq_iff_eq.1 (by assumption))]; rfl, hB⟩
        · have n1 : (24 : Int) ≠ op := beq_eq_false_iff_ne.1 (by assumption)
          have n2 : (27 : Int) ≠ op := beq_eq_false_iff_ne.1 (by assumption)
          go_round
          case rel => exact ⟨8, by omega, rfl, Hnx.out ⟨n1, n2⟩⟩
          case measure => simp [intOf]
      · have j1 : (28 : Int) = op → Isa.inv op = 29 := hh.out.1
        have j2 : (29 : Int) = op → Isa.inv op = 28 := hh.out.2
        have J1 := Lib.hid j1
        have J2 := Lib.hid j2
        clear j1 j2
        go_wp2
        · go_ret
          exact ⟨by rw [J1.out (beq_iff_eq.1 (by assumption))]; rfl, hB⟩
        · go_ret
          exact ⟨by rw [J2.out (beq_iff_eq.1 (by assumption))]; rfl, hB⟩
        · have n1 : (28 : Int) ≠ op := beq_eq_false_iff_ne.1 (by assumption)
          have n2 : (29 : Int) ≠ op := beq_eq_false_iff_ne.1 (by assumption)
          go_round
          case rel => exact ⟨9, by omega, rfl, Hnx.out ⟨n1, n2⟩⟩
          case measure => simp [intOf]
      · have j1 : (32 : Int) = op → Isa.inv op = 33 := hh.out.1
        have j2 : (33 : Int) = op → Isa.inv op = 32 := hh.out.2
        have J1 := Lib.hid j1
        have J2 := Lib.hid j2
        clear j1 j2
        go_wp2
        · go_ret
          exact ⟨by rw [J1.out (beq_iff_eq.1 (by assumption))]; rfl, hB⟩
        · go_ret
          exact ⟨by rw [J2.out (beq_iff_eq.1 (by assumption))]; rfl, hB⟩
        · have n1 : (32 : Int) ≠ op := beq_eq_false_iff_ne.1 (by assumption)
          have n2 : (33 : Int) ≠ op := beq_eq_false_iff_ne.1 (by assumption)
          go_round
          case rel => exact ⟨10, by omega, rfl, Hnx.out ⟨n1, n2⟩⟩
          case measure => simp [intOf]
    · have hm := Lib.hid (rinv_miss H0.out (fun j hj => hn.out j (by omega)))
      obtain rfl : k = 10 := by omega
      clear hn
      go_wp2
      go_ret
      exact ⟨by rw [hm.out]; rfl, (Below.refl _ _).alloc (Nat.le_refl _) _⟩

theorem names_cell (op : Int) (h0 : 0 ≤ op) (h35 : op < 35) : (#[.string ⟨#[110, 111, 112]⟩, .string ⟨#[97, 100, 100]⟩, .string ⟨#[115, 117, 98]⟩, .string ⟨#[120, 111, 114]⟩, .string ⟨#[97, 100, 100, 105]⟩, .string ⟨#[115, 117, 98, 105]⟩, .string ⟨#[120, 111, 114, 105]⟩, .string ⟨#[115, 119, 97, 112]⟩, .string ⟨#[110, 101, 103]⟩, .string ⟨#[99, 97, 108, 99]⟩, .string ⟨#[109, 101, 109]⟩, .string ⟨#[105, 100, 120]⟩, .string ⟨#[112, 117, 115, 104]⟩, .string ⟨#[112, 111, 112]⟩, .string ⟨#[116, 111, 112]⟩, .string ⟨#[115, 105, 122, 101]⟩, .string ⟨#[115, 119, 97, 112, 115]⟩, .string ⟨#[114, 101, 97, 100]⟩, .string ⟨#[117, 110, 114, 101, 97, 100]⟩, .string ⟨#[119, 114, 105, 116, 101]⟩, .string ⟨#[117, 110, 119, 114, 105, 116, 101]⟩, .string ⟨#[122, 101, 114, 111]⟩, .string ⟨#[106, 109, 112]⟩, .string ⟨#[106, 109, 112, 122]⟩, .string ⟨#[106, 109, 112, 110]⟩, .string ⟨#[108, 97, 110, 100]⟩, .string ⟨#[108, 97, 110, 100, 122]⟩, .string ⟨#[108, 97, 110, 100, 110]⟩, .string ⟨#[102, 114, 97, 109, 101]⟩, .string ⟨#[117, 110, 102, 114, 97, 109, 101]⟩, .string ⟨#[99, 97, 108, 108]⟩, .string ⟨#[117, 110, 99, 97, 108, 108]⟩, .string ⟨#[115, 116, 97, 114, 116]⟩, .string ⟨#[101, 110, 100]⟩, .string ⟨#[104, 97, 108, 116]⟩] : Array Value)[op.toNat]? = some (.string ⟨(Isa.nam op).toArray⟩) := by
  have e : (#[.string ⟨#[110, 111, 112]⟩, .string ⟨#[97, 100, 100]⟩, .string ⟨#[115, 117, 98]⟩, .string ⟨#[120, 111, 114]⟩, .string ⟨#[97, 100, 100, 105]⟩, .string ⟨#[115, 117, 98, 105]⟩, .string ⟨#[120, 111, 114, 105]⟩, .string ⟨#[115, 119, 97, 112]⟩, .string ⟨#[110, 101, 103]⟩, .string ⟨#[99, 97, 108, 99]⟩, .string ⟨#[109, 101, 109]⟩, .string ⟨#[105, 100, 120]⟩, .string ⟨#[112, 117, 115, 104]⟩, .string ⟨#[112, 111, 112]⟩, .string ⟨#[116, 111, 112]⟩, .string ⟨#[115, 105, 122, 101]⟩, .string ⟨#[115, 119, 97, 112, 115]⟩, .string ⟨#[114, 101, 97, 100]⟩, .string ⟨#[117, 110, 114, 101, 97, 100]⟩, .string ⟨#[119, 114, 105, 116, 101]⟩, .string ⟨#[117, 110, 119, 114, 105, 116, 101]⟩, .string ⟨#[122, 101, 114, 111]⟩, .string ⟨#[106, 109, 112]⟩, .string ⟨#[106, 109, 112, 122]⟩, .string ⟨#[106, 109, 112, 110]⟩, .string ⟨#[108, 97, 110, 100]⟩, .string ⟨#[108, 97, 110, 100, 122]⟩, .string ⟨#[108, 97, 110, 100, 110]⟩, .string ⟨#[102, 114, 97, 109, 101]⟩, .string ⟨#[117, 110, 102, 114, 97, 109, 101]⟩, .string ⟨#[99, 97, 108, 108]⟩, .string ⟨#[117, 110, 99, 97, 108, 108]⟩, .string ⟨#[115, 116, 97, 114, 116]⟩, .string ⟨#[101, 110, 100]⟩, .string ⟨#[104, 97, 108, 116]⟩] : Array Value) = (Isa.tbl.map fun r => Value.string ⟨r.1.toArray⟩).toArray := rfl
  have hl : op.toNat < Isa.tbl.length := by have : Isa.tbl.length = 35 := rfl; omega
  rw [e, List.getElem?_toArray, List.getElem?_map, List.getElem?_eq_getElem hl]
  unfold Isa.nam Isa.row
  rw [if_pos h0, List.getElem?_eq_getElem hl]
  rfl


theorem ops_byte {op : Int} {k : Nat} (h : k < (⟨(Isa.ops op).toArray⟩ : ByteArray).size) : (⟨(Isa.ops op).toArray⟩ : ByteArray)[k]'h = (Isa.ops op).getD k 0 := by
  have hl : k < (Isa.ops op).length := by simpa [ByteArray.size] using h
  rw [List.getD_eq_getElem?_getD, List.getElem?_eq_getElem hl]
  rfl

end Go.Proofs.Yteonkfdmkgjpaaa
