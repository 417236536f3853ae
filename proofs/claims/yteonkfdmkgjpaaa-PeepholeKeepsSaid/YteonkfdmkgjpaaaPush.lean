/- Appends to a row of code of the call's own, with the world told by Sx. -/
import Derived.Test.YteonkfdmkgjpaaaImgL9
import Derived.Deep.RegionHeld3
import Derived.Deep.DeepCutAuto
import Derived.BigQuiet
import Derived.Deep.QuietTactic
import Derived.BigRegion
import Derived.Deep.CutBlock
namespace Go.Proofs.Yteonkfdmkgjpaaa
open Go.RowKit
set_option linter.unusedVariables false
set_option linter.unusedSimpArgs false

def c5 (x : Ins) : List Value := [.int .u8 x.op, .int .i64 x.a, .int .i64 x.b, .int .i64 x.c, .int .i64 x.d]
theorem codeL_flat : ∀ (n : Nat) (ls : List Ins), ls.length = n → codeL ls = ls.flatMap c5
  | 0, ls, h => by rw [List.eq_nil_of_length_eq_zero h]; rfl
  | n + 1, ls, h => by
    have hne : ls ≠ [] := fun e => by rw [e] at h; cases h
    have e := List.dropLast_concat_getLast hne
    rw [← e, ← codeL_append, codeL_flat n ls.dropLast (by rw [List.length_dropLast]; omega), List.flatMap_append]
    simp [c5]
theorem codeL_append_list (ls B : List Ins) : codeL ls ++ codeL B = codeL (ls ++ B) := by
  rw [codeL_flat _ ls rfl, codeL_flat _ B rfl, codeL_flat _ (ls ++ B) rfl, List.flatMap_append]
section
variable {ops : Array Oper} {rest : List Oper} {o : Oper} {a : Act} {Q : Exit → Act → World → Prop} {w0 W : World} {L : List (Nat × TypeId × Array Value)} {F : List WF} {base : Nat} {v : Value} {ls : List Ins}
/-- 'out = append(out, x)': x made in a box for it -/
theorem wpList_push (y : Ins) (hS : Sx w0 L (rowF base v ls :: F) W) (hgd : o.guard = none) (s x : Operand) (ho : o.op = .call { callee := .builtin .append, args := #[s, x], argTypes := #[22, 22] }) (hs : a.eval s = v) (hx : a.eval x = .slice (some ⟨W.heap.size, 0, none⟩) 1 1)
    (hlen : ls.length ≤ 131072) (hb0 : w0.heap.size ≤ base) (hbW : base ≤ W.heap.size) (hL : ∀ z ∈ L, v.ownBlock ≠ some z.1)
    (h : ∀ A' n' c' w', Hid (n' = (ls ++ [y]).length) → Sx w0 L [rowF base (.slice A' n' c') (ls ++ [y])] w' → wpList Try.prog ops Q rest (a.put o.dst (.slice A' n' c')) w') : wpList Try.prog ops Q (o :: rest) a (W.alloc (.cells #[.int .u8 (y).op, .int .i64 (y).a, .int .i64 (y).b, .int .i64 (y).c, .int .i64 (y).d] 38)) := by
  obtain ⟨i0, hi, hz0, hz1, hz2⟩ := info_parts info_instr
  have hown : CRow W base v ls := hS.f1
  refine wpList_append_own _ hgd s x 22 ho base 38 i0 (.agg #[.int .u8 0, .int .i64 0, .int .i64 0, .int .i64 0, .int .i64 0]) 5 40 Try.underlying22 hi hz0 hz1 hz2 rfl (by decide) v ls.length (codeL ls) hs (hown.alloc _) ⟨W.heap.size, 0, none⟩ 1 1 [.int .u8 (y).op, .int .i64 (y).a, .int .i64 (y).b, .int .i64 (y).c, .int .i64 (y).d] hx rfl (cells5_from (Blk.new _ _ _)) (ins_oneCell y) (by unfold maxLen; omega) (by omega) (by simp; omega) ?_
  intro v' w' h2 h3 _
  have h2' := CRow.snoc (x := y) rfl h2
  obtain ⟨A', c', rfl⟩ := own_slice' h2'
  refine h A' _ c' w' (Lib.hid rfl) (Sx.grown (F := [rowF base (.slice A' (ls ++ [y]).length c') (ls ++ [y])]) ((hS.1.alloc #[.int .u8 (y).op, .int .i64 (y).a, .int .i64 (y).b, .int .i64 (y).c, .int .i64 (y).d] 38).tail) h3 (fun q hq => Nat.le_trans hb0 (World.ownsRow.lt hown q hq).1) (fun z hz e => hL z hz e.symm) ?_)
  intro f hf
  simp only [List.mem_cons, List.not_mem_nil, or_false] at hf
  subst hf
  exact h2'
/-- 'out = append(out, l...)': a list that lies elsewhere -/
theorem wpList_pour {A : Option Addr} {B : List Ins} {c : Nat} (hS : Sx w0 L (rowF base v ls :: F) W) (hR : CodeAt W A B) (hgd : o.guard = none) (s x : Operand) (ho : o.op = .call { callee := .builtin .append, args := #[s, x], argTypes := #[22, 22] }) (hs : a.eval s = v) (hx : a.eval x = .slice A B.length c)
    (hlen : ls.length + B.length ≤ 131072) (hb0 : w0.heap.size ≤ base) (hbW : base ≤ W.heap.size) (hL : ∀ z ∈ L, v.ownBlock ≠ some z.1)
    (h : ∀ A' n' c' w', Hid (n' = (ls ++ B).length) → Sx w0 L [rowF base (.slice A' n' c') (ls ++ B)] w' → (∀ z ∈ L, (Value.slice A' n' c').ownBlock ≠ some z.1) → wpList Try.prog ops Q rest (a.put o.dst (.slice A' n' c')) w') : wpList Try.prog ops Q (o :: rest) a W := by
  obtain ⟨i0, hi, hz0, hz1, hz2⟩ := info_parts info_instr
  have hown : CRow W base v ls := hS.f1
  refine wpList_append_any _ hgd s x 22 ho base 38 i0 (.agg #[.int .u8 0, .int .i64 0, .int .i64 0, .int .i64 0, .int .i64 0]) 5 40 Try.underlying22 hi hz0 hz1 hz2 rfl (by decide) v ls.length (codeL ls) hs hown W.heap.size A B.length c (codeL B) hx (code_reads hR) (codeL_one B) (by unfold maxLen; omega) (by omega) hbW ?_
  intro v' w' h2 h3 h5
  rw [codeL_append_list] at h2
  have h2' : CRow w' base v' (ls ++ B) := by
    show w'.ownsRow base _ 5 v' (ls ++ B).length (codeL (ls ++ B))
    rw [List.length_append]
    exact h2
  obtain ⟨A', c', rfl⟩ := own_slice' h2'
  refine h A' _ c' w' (Lib.hid rfl) (Sx.grown (F := [rowF base (.slice A' (ls ++ B).length c') (ls ++ B)]) hS.1 h3 (fun q hq => Nat.le_trans hb0 (World.ownsRow.lt hown q hq).1) (fun z hz e => hL z hz e.symm) ?_) (fun z hz e => by
    rcases h5 with h5 | h5
    · exact hL z hz (h5.symm.trans e)
    · have := hS.1.lts z hz
      rw [h5] at e
      injection e with e
      omega)
  intro f hf
  simp only [List.mem_cons, List.not_mem_nil, or_false] at hf
  subst hf
  exact h2'
end
theorem row_own {W : World} {base : Nat} {v : Value} {ls : List Ins} (h : CRow W base v ls) : ∀ q, v.ownBlock = some q → base ≤ q ∧ q < W.heap.size := fun q hq => World.ownsRow.lt h q hq

end Go.Proofs.Yteonkfdmkgjpaaa
