/- Contracts of layer 21: the look-up in the table of rows; Inverse, Mnemonic, Operands. -/
import Derived.Test.YteonkfdmkgjpaaaIsaW1
import Derived.Test.YteonkfdmkgjpaaaBlk
import Derived.Deep.RegionHeld3
import Derived.Deep.DeepCutAuto
import Derived.Deep.DeepFit
namespace Go.Proofs.Yteonkfdmkgjpaaa
open Go.RowKit
set_option linter.unusedVariables false
set_option linter.unusedSimpArgs false

theorem find_zip {R : Type} (v : R → Value) (n : Int) : ∀ (l : List R) (i : Nat),
    Instr.findNow (.int .u8) (.int .u8 n) ((l.zipIdx i).map fun (r, j) => (⟨.int .u8 j, v r, j⟩ : MapEntry)) i =
      some (if (i : Int) ≤ n then (l[(n - i).toNat]?).map fun r => (n.toNat, v r) else none)
  | [], i => by simp [Instr.findNow]
  | r :: l, i => by
    simp only [List.zipIdx_cons, List.map_cons, Instr.findNow, Instr.sameNow, if_true]
    by_cases h : n = i
    · subst h
      simp
    · have e : (n == (i : Int)) = false := beq_eq_false_iff_ne.2 h
      rw [e]
      have := find_zip v n l (i + 1)
      simp only at this ⊢
      rw [this]
      by_cases hi : (i : Int) ≤ n
      · have h2 : ((i + 1 : Nat) : Int) ≤ n := by omega
        rw [if_pos hi, if_pos h2]
        have e2 : (n - (i : Int)).toNat = (n - ((i + 1 : Nat) : Int)).toNat + 1 := by omega
        rw [e2, List.getElem?_cons_succ]
      · have h2 : ¬ ((i + 1 : Nat) : Int) ≤ n := by omega
        rw [if_neg hi, if_neg h2]

theorem find_row (n : Int) : Instr.findNow (.int .u8) (.int .u8 n) rowEntries.toList 0 = some ((Isa.row n).map fun r => (n.toNat, rowVal r)) := by
  have h := find_zip rowVal n Isa.tbl 0
  unfold rowEntries
  simp only [List.toList_toArray] at h ⊢
  rw [h]
  unfold Isa.row
  by_cases h0 : (0 : Int) ≤ n
  · simp [h0]
  · simp [h0]

/-- the zero row -/
def rowZero : Value := .agg #[.string ⟨#[]⟩, .string ⟨#[]⟩, .int .u8 0]
theorem zeroRow (w : World) : (zeroValue 65).run Try.prog w = .ok rowZero w := by kernel_rfl

/-- what the look-up gives: the row, or the zero row -/
def rowAt (n : Int) : Value := ((Isa.row n).map rowVal).getD rowZero
theorem look_ok (w : World) (b : Nat) (n : Int) (hb : w.heap[b]? = some (.map rowEntries 35)) :
    (Instr.lookup 67 (.map (some b)) (.int .u8 n) true).run Try.prog w = .ok (.tuple #[rowAt n, .bool (Isa.row n).isSome]) w := by
  rw [run_lookup_ok w b rowEntries 35 n rowZero Try.underlying67 Try.underlying5 (zeroRow w) hb _ (find_row n)]
  cases h : Isa.row n <;> simp [rowAt, h]
theorem look_at (w : World) (b : Nat) (n : Int) (hb : w.heap[b]? = some (.map rowEntries 35)) :
    (Instr.lookup 67 (.map (some b)) (.int .u8 n) false).run Try.prog w = .ok (rowAt n) w := by
  rw [run_lookup_at w b rowEntries 35 n rowZero Try.underlying67 Try.underlying5 (zeroRow w) hb _ (find_row n)]
  cases h : Isa.row n <;> simp [rowAt, h]

/-- the row as three plain cells -/
theorem rowAt_agg (n : Int) : rowAt n = .agg #[.string ⟨(Isa.nam n).toArray⟩, .string ⟨(Isa.ops n).toArray⟩, .int .u8 (((Isa.row n).map (·.2.2)).getD 0)] := by
  unfold rowAt Isa.nam Isa.ops
  cases h : Isa.row n <;> rfl

/-- rows(), for a caller: a new block that is the table -/
theorem rows_calls (w : World) :
    Calls Try.prog 51 #[] w fun e w' => ∃ b, e = .returned (.map (some b)) ∧ w'.heap[b]? = some (.map rowEntries 35) ∧ Below w.heap.size w w' ∧ w.heap.size < w'.heap.size :=
  (rows_any w).mono fun e w' ⟨he, hw⟩ => ⟨_, he, by rw [hw]; exact (MapKept.heap_alloc w _).1, by rw [hw]; exact (Below.refl _ _).alloc (Nat.le_refl _) _, by rw [hw]; simp⟩

theorem map_alloc {w : World} {b : Nat} {es : Array MapEntry} {c : Nat} (hb : w.heap[b]? = some (.map es c)) (o : Obj) : (w.alloc o).heap[b]? = some (.map es c) :=
  (Below.heap_alloc w o b (Array.getElem?_eq_some_iff.1 hb).1).trans hb

theorem bcell {W w1 : World} (hb : Below W.heap.size W w1) : (∀ b o, b < W.heap.size → w1.cell? ⟨b, o, none⟩ = W.cell? ⟨b, o, none⟩) ∧ (∀ b o, b < W.heap.size → w1.frozen? ⟨b, o, none⟩ = W.frozen? ⟨b, o, none⟩) :=
  ⟨fun b o h => hb.cell (p := ⟨b, o, none⟩) h, fun b o h => hb.frozen (p := ⟨b, o, none⟩) h⟩

theorem rowField0 (x y z : Value) (w : World) : (Instr.field 65 (.agg #[x, y, z]) 0).run Try.prog w = .ok x w := by kernel_rfl
theorem rowField1 (x y z : Value) (w : World) : (Instr.field 65 (.agg #[x, y, z]) 1).run Try.prog w = .ok y w := by kernel_rfl
theorem rowField2 (x y z : Value) (w : World) : (Instr.field 65 (.agg #[x, y, z]) 2).run Try.prog w = .ok z w := by kernel_rfl

/-- what the look-up statement of Valid and Inverse leaves: a row of its own, the ', ok', the boxes that were there -/
def LookRel (op a b c d : Int) (w wx : World) (s3 s4 : Value) : Prop :=
  ∃ g : Nat, s3 = .pointer (some ⟨g, 0, none⟩) ∧ s4 = .bool (Isa.row op).isSome ∧
    Blk wx g 65 #[.string ⟨(Isa.nam op).toArray⟩, .string ⟨(Isa.ops op).toArray⟩, .int .u8 (((Isa.row op).map (·.2.2)).getD 0)] ∧
    w.heap.size ≤ wx.heap.size ∧ Below w.heap.size w wx ∧ w.heap.size ≤ g

theorem lookA {op a b c d : Int} {w w' : World} (hB : Below w.drew.heap.size w.drew w') :
    LookRel op a b c d w (w'.alloc (.cells #[.string ⟨(Isa.nam op).toArray⟩, .string ⟨(Isa.ops op).toArray⟩, .int .u8 (((Isa.row op).map (·.2.2)).getD 0)] 65)) (.pointer (some ⟨w'.heap.size, 0, none⟩)) (.bool (Isa.row op).isSome) := by
  have h1 : Below w.heap.size w w' := (Below.refl _ _).drew.trans hB
  exact ⟨_, rfl, rfl, Blk.new _ _ _, by simp; have := h1.size; omega, h1.alloc h1.size _, h1.size⟩
theorem lookB {op a b c d : Int} {w w' : World} {r : Array Value} (hr : r.size = 3)
    (hB : Below (w.alloc (.cells r 65)).drew.heap.size (w.alloc (.cells r 65)).drew w') :
    LookRel op a b c d w (((w'.setCell ⟨w.heap.size, 0, none⟩ (.string ⟨(Isa.nam op).toArray⟩)).setCell ⟨w.heap.size, 1, none⟩ (.string ⟨(Isa.ops op).toArray⟩)).setCell ⟨w.heap.size, 2, none⟩ (.int .u8 (((Isa.row op).map (·.2.2)).getD 0)))
      (.pointer (some ⟨w.heap.size, 0, none⟩)) (.bool (Isa.row op).isSome) := by
  have h0 : Below w.heap.size w (w.alloc (.cells r 65)).drew := ((Below.refl _ _).alloc (Nat.le_refl _) _).drew
  have h1 : Below w.heap.size w w' := h0.trans (hB.mono (by simp))
  have k := Blk.after hB (Blk.new w 65 r).drew
  have k2 := ((k.set_ 0 (.string ⟨(Isa.nam op).toArray⟩)).set_ 1 (.string ⟨(Isa.ops op).toArray⟩)).set_ 2 (.int .u8 (((Isa.row op).map (·.2.2)).getD 0))
  refine ⟨_, rfl, rfl, ?_, by simp; exact h1.size, ((h1.setCell (by simp) _).setCell (by simp) _).setCell (by simp) _, Nat.le_refl _⟩
  have e : ((r.setIfInBounds 0 (.string ⟨(Isa.nam op).toArray⟩)).setIfInBounds 1 (.string ⟨(Isa.ops op).toArray⟩)).setIfInBounds 2 (.int .u8 (((Isa.row op).map (·.2.2)).getD 0)) =
      #[.string ⟨(Isa.nam op).toArray⟩, .string ⟨(Isa.ops op).toArray⟩, .int .u8 (((Isa.row op).map (·.2.2)).getD 0)] := by
    match r, hr with
    | ⟨[x, y, z]⟩, _ => rfl
  rw [← e]; exact k2

set_option maxHeartbeats 2000000 in
theorem inverse_any (op a b c d : Int) (w : World) :
    Calls Try.prog 32 #[.agg #[.int .u8 op, .int .i64 a, .int .i64 b, .int .i64 c, .int .i64 d]] w fun e w' =>
      e = .returned (.agg #[.int .u8 (Isa.inv op), .int .i64 a, .int .i64 b, .int .i64 c, .int .i64 d]) ∧ Below w.heap.size w w' := by
  go_enter Try.func32, Try.ntmps32
  go_upto_region 1 with fail
  have k0 : Blk ((w.alloc (.cells #[.int .u8 op, .int .i64 a, .int .i64 b, .int .i64 c, .int .i64 d] 38)).alloc (.cells #[.int .u8 0, .int .i64 0, .int .i64 0, .int .i64 0, .int .i64 0] 38)) w.heap.size 38 #[.int .u8 op, .int .i64 a, .int .i64 b, .int .i64 c, .int .i64 d] := Blk.alloc (Blk.new _ _ _) _
  have k1 : Blk ((w.alloc (.cells #[.int .u8 op, .int .i64 a, .int .i64 b, .int .i64 c, .int .i64 d] 38)).alloc (.cells #[.int .u8 0, .int .i64 0, .int .i64 0, .int .i64 0, .int .i64 0] 38)) (w.heap.size + 1) 38 #[.int .u8 0, .int .i64 0, .int .i64 0, .int .i64 0, .int .i64 0] := Blk.new1 _ _ (by simp)
  have kb : Below w.heap.size w ((w.alloc (.cells #[.int .u8 op, .int .i64 a, .int .i64 b, .int .i64 c, .int .i64 d] 38)).alloc (.cells #[.int .u8 0, .int .i64 0, .int .i64 0, .int .i64 0, .int .i64 0] 38)) := ((Below.refl _ _).alloc (Nat.le_refl _) _).alloc (by simp) _
  generalize ((w.alloc (.cells #[.int .u8 op, .int .i64 a, .int .i64 b, .int .i64 c, .int .i64 d] 38)).alloc (.cells #[.int .u8 0, .int .i64 0, .int .i64 0, .int .i64 0, .int .i64 0] 38)) = w1 at *
  go_cut [3, 4] (fun s3 s4 wx => LookRel op a b c d w1 wx s3 s4)
  case first =>
    have c0 := k0.cell 0
    have c0a := fun o => (Blk.alloc k0 o).cell 0
    simp at c0 c0a
    go_region_with (first | (go_at_call 51; (with_reducible refine (rows_calls w1.drew).mono ?_); rintro e w' ⟨b1, rfl, hb, hB, hs⟩; have hlk := look_ok w' b1 op hb; rw [rowAt_agg] at hlk; have hlk2 := fun o => look_ok (w'.alloc o) b1 op (map_alloc hb o); simp only [rowAt_agg] at hlk2; have d0 := (Blk.after hB k0.drew).cell 0; have d0a := fun o => (Blk.alloc (Blk.after hB k0.drew) o).cell 0; simp at d0 d0a) | (go_at_call 51; (with_reducible refine (rows_calls (w1.alloc (.cells #[.string ⟨#[]⟩, .string ⟨#[]⟩, .int .u8 0] 65)).drew).mono ?_); rintro e w' ⟨b1, rfl, hb, hB, hs⟩; have hlk := look_ok w' b1 op hb; rw [rowAt_agg] at hlk; have d0 := (Blk.after hB (k0.alloc _).drew).cell 0; simp at d0; obtain ⟨e0, e1, e2, e3, e4, e5⟩ := Blk.cells3 (Blk.after hB (Blk.new w1 65 #[.string ⟨#[]⟩, .string ⟨#[]⟩, .int .u8 0]).drew)))
    all_goals (go_wp2_with fail; go_meet)
    all_goals first | (with_reducible exact lookA hB) | (with_reducible exact lookB rfl hB)
  case rest =>
    obtain ⟨g, rfl, rfl, hr, hsz, hB, hg⟩ := hcut
    have k0' := Blk.after hB k0
    have k1' := Blk.after hB k1
    have kb' := kb.trans (hB.mono kb.size)
    obtain ⟨r0, r1, r2, -⟩ := Blk.cells3 hr
    obtain ⟨c0, c1, c2, c3, c4, f0, f1, f2, f3, f4⟩ := Blk.cells5 k0'
    obtain ⟨d0, d1, d2, d3, d4, e0, e1, e2, e3, e4⟩ := Blk.cells5 k1'
    clear k0 k1 kb hB hg hr
    generalize hok : (Isa.row op).isSome = ok
    cases ok
    · have hv : Isa.inv op = op := Isa.inv_none hok
      clear hok
      go_wp2
      exact bodyPost_ret (v := .agg #[.int .u8 (Isa.inv op), .int .i64 a, .int .i64 b, .int .i64 c, .int .i64 d]) (by rw [hv]; simp [results, Try.results32, go_sem, d0, d1, d2, d3, d4]) rfl
        ⟨rfl, ((((kb'.setCell (by simp) _).setCell (by simp) _).setCell (by simp) _).setCell (by simp) _).setCell (by simp) _⟩
    · have hv : ((Isa.row op).map (·.2.2)).getD 0 = Isa.inv op := Isa.inv_some hok
      rw [hv] at r2
      clear hok
      go_wp2
      exact bodyPost_ret (v := .agg #[.int .u8 (Isa.inv op), .int .i64 a, .int .i64 b, .int .i64 c, .int .i64 d]) (by simp [results, Try.results32, go_sem, d0, d1, d2, d3, d4]) rfl
        ⟨rfl, (((((kb'.setCell (by simp) _).setCell (by simp) _).setCell (by simp) _).setCell (by simp) _).setCell (by simp) _).setCell (by simp) _⟩
end Go.Proofs.Yteonkfdmkgjpaaa
