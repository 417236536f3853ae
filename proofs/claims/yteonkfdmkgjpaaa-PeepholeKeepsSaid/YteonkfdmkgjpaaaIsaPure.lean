/- Layer 21 as plain functions on numbers: the table of opcodes, validity, inverse, target. No program in sight. -/
import Derived.Lib.Hide
namespace Go.Proofs.Yteonkfdmkgjpaaa

namespace Isa
/-- mnemonic, operands, inverse of each opcode -/
def tbl : List (List UInt8 × List UInt8 × Int) :=
  [([110, 111, 112], [], 0),
   ([97, 100, 100], [114, 114], 2),
   ([115, 117, 98], [114, 114], 1),
   ([120, 111, 114], [114, 114], 3),
   ([97, 100, 100, 105], [114, 110], 5),
   ([115, 117, 98, 105], [114, 110], 4),
   ([120, 111, 114, 105], [114, 110], 6),
   ([115, 119, 97, 112], [114, 114], 7),
   ([110, 101, 103], [114], 8),
   ([99, 97, 108, 99], [114, 114, 114, 111], 9),
   ([109, 101, 109], [114, 107], 10),
   ([105, 100, 120], [114, 114, 107, 107], 11),
   ([112, 117, 115, 104], [114, 107], 13),
   ([112, 111, 112], [114, 107], 12),
   ([116, 111, 112], [114, 107], 14),
   ([115, 105, 122, 101], [114, 107], 15),
   ([115, 119, 97, 112, 115], [107, 107], 16),
   ([114, 101, 97, 100], [114], 18),
   ([117, 110, 114, 101, 97, 100], [114], 17),
   ([119, 114, 105, 116, 101], [114], 20),
   ([117, 110, 119, 114, 105, 116, 101], [114], 19),
   ([122, 101, 114, 111], [114, 101], 21),
   ([106, 109, 112], [116], 25),
   ([106, 109, 112, 122], [114, 116], 26),
   ([106, 109, 112, 110], [114, 116], 27),
   ([108, 97, 110, 100], [116], 22),
   ([108, 97, 110, 100, 122], [114, 116], 23),
   ([108, 97, 110, 100, 110], [114, 116], 24),
   ([102, 114, 97, 109, 101], [107, 107], 29),
   ([117, 110, 102, 114, 97, 109, 101], [107, 107], 28),
   ([99, 97, 108, 108], [116], 30),
   ([117, 110, 99, 97, 108, 108], [116], 31),
   ([115, 116, 97, 114, 116], [116], 33),
   ([101, 110, 100], [116], 32),
   ([104, 97, 108, 116], [], 34)]
def row (op : Int) : Option (List UInt8 × List UInt8 × Int) := if 0 ≤ op then tbl[op.toNat]? else none
/-- the letters of the operands -/
def ops (op : Int) : List UInt8 := ((row op).map (·.2.1)).getD []
def nam (op : Int) : List UInt8 := ((row op).map (·.1)).getD []
def inv (op : Int) : Int := ((row op).map (·.2.2)).getD op
def fitsB (c x : Int) : Bool :=
  if c = 114 then decide (0 ≤ x ∧ x < 16) else if c = 107 then decide (0 ≤ x ∧ x ≤ 16384) else if c = 116 then decide (0 ≤ x ∧ x < 65536)
  else if c = 101 then decide (1 ≤ x ∧ x ≤ 23) else if c = 111 then decide (8 ≤ x ∧ x ≤ 23) else true
theorem row_some (op : Int) (h0 : 0 ≤ op) (h : op < 35) : ∃ r, row op = some r ∧ r.1.length ≤ 7 ∧ r.2.1.length ≤ 4 ∧ 0 ≤ r.2.2 ∧ r.2.2 < 35 := by
  unfold row
  rw [if_pos h0]
  have hl : tbl.length = 35 := rfl
  have h1 : op.toNat < tbl.length := by omega
  refine ⟨tbl[op.toNat], List.getElem?_eq_getElem h1, ?_⟩
  have hall : ∀ r ∈ tbl, r.1.length ≤ 7 ∧ r.2.1.length ≤ 4 ∧ 0 ≤ r.2.2 ∧ r.2.2 < 35 := by decide
  exact hall _ (List.getElem_mem h1)
theorem row_none (op : Int) (h : op < 0 ∨ 35 ≤ op) : row op = none := by
  unfold row
  split
  · have hl : tbl.length = 35 := rfl
    exact List.getElem?_eq_none (by omega)
  · rfl
/-- the place of the target among the operands -/
def tgt (op : Int) : Option Nat := (ops op).findIdx? (· == 116)
theorem ops_le (op : Int) : (ops op).length ≤ 4 := by
  unfold ops
  by_cases h0 : 0 ≤ op ∧ op < 35
  · obtain ⟨r, hr, _, h, _⟩ := row_some op h0.1 h0.2
    rw [hr]; exact h
  · rw [row_none op (by omega)]; simp
theorem tgt_some {op : Int} {k : Nat} (hk : k < (ops op).length) (h : (ops op).getD k 0 = 116) (hn : ∀ j, j < k → (ops op).getD j 0 ≠ 116) : tgt op = some k := by
  unfold tgt
  rw [List.findIdx?_eq_some_iff_getElem]
  refine ⟨hk, ?_, fun j hj => ?_⟩
  · rw [List.getD_eq_getElem?_getD, List.getElem?_eq_getElem hk] at h
    simpa using h
  · have := hn j hj
    rw [List.getD_eq_getElem?_getD, List.getElem?_eq_getElem (by omega)] at this
    simpa using this
theorem tgt_none {op : Int} (hn : ∀ j, j < (ops op).length → (ops op).getD j 0 ≠ 116) : tgt op = none := by
  unfold tgt
  rw [List.findIdx?_eq_none_iff]
  intro x hx
  obtain ⟨j, hj, rfl⟩ := List.getElem_of_mem hx
  have := hn j hj
  rw [List.getD_eq_getElem?_getD, List.getElem?_eq_getElem hj] at this
  simpa using this
theorem tgt_cases (op : Int) : tgt op = none ∨ tgt op = some 0 ∨ tgt op = some 1 := by
  by_cases h0 : 0 ≤ op ∧ op < 35
  · have hall : ∀ n : Fin 35, tgt (n.val : Int) = none ∨ tgt (n.val : Int) = some 0 ∨ tgt (n.val : Int) = some 1 := by decide
    have := hall ⟨op.toNat, by omega⟩
    rw [show ((op.toNat : Nat) : Int) = op from by omega] at this
    exact this
  · left
    unfold tgt ops
    rw [row_none op (by omega)]
    rfl
/-- the target of an instruction, and the instruction with another target -/
def tval (op a b : Int) : Int := if tgt op = some 0 then a else if tgt op = some 1 then b else 0
def reA (op a to : Int) : Int := if tgt op = some 0 then to else a
def reB (op b to : Int) : Int := if tgt op = some 1 then to else b
def isJ (op : Int) : Bool := op == 22 || op == 23 || op == 24
def isL (op : Int) : Bool := op == 25 || op == 26 || op == 27
/-- validity: each operand is of its class, operands that are not used are 0, some must differ -/
def okAt (l : List UInt8) (k : Nat) (x : Int) : Bool := if k < l.length then fitsB (l.getD k 0).toNat x else x == 0
def operand (a b c d : Int) (k : Nat) : Int := match k with | 0 => a | 1 => b | 2 => c | _ => d
def dist (op a b c : Int) : Bool := if op = 1 ∨ op = 2 ∨ op = 3 ∨ op = 11 then a != b else if op = 9 then a != b && a != c else true
def vld (op a b c d : Int) : Bool := (row op).isSome && (okAt (ops op) 0 a && okAt (ops op) 1 b && okAt (ops op) 2 c && okAt (ops op) 3 d) && dist op a b c
theorem vld_bad {op a b c d : Int} {k : Nat} (hk : k < 4) (h : okAt (ops op) k (operand a b c d k) = false) : vld op a b c d = false := by
  unfold vld
  match k, hk with
  | 0, _ => simp only [operand] at h; simp [h]
  | 1, _ => simp only [operand] at h; simp [h]
  | 2, _ => simp only [operand] at h; simp [h]
  | 3, _ => simp only [operand] at h; simp [h]
theorem vld_good {op a b c d : Int} (hr : (row op).isSome = true) (h : ∀ k, k < 4 → okAt (ops op) k (operand a b c d k) = true) : vld op a b c d = dist op a b c := by
  unfold vld
  have h0 := h 0 (by omega)
  have h1 := h 1 (by omega)
  have h2 := h 2 (by omega)
  have h3 := h 3 (by omega)
  simp only [operand] at h0 h1 h2 h3
  simp [hr, h0, h1, h2, h3]
theorem inv_some {op : Int} (h : (row op).isSome = true) : ((row op).map (·.2.2)).getD 0 = inv op := by
  unfold inv
  cases hr : row op with
  | none => rw [hr] at h; cases h
  | some r => rfl
theorem inv_none {op : Int} (h : (row op).isSome = false) : inv op = op := by
  unfold inv
  cases hr : row op with
  | none => rfl
  | some r => rw [hr] at h; cases h
theorem row_range (op : Int) : (∃ n : Fin 35, op = (n.val : Int)) ∨ row op = none := by
  by_cases h : 0 ≤ op ∧ op < 35
  · exact .inl ⟨⟨op.toNat, by omega⟩, by simp; omega⟩
  · exact .inr (row_none op (by omega))
theorem inv_inv (op : Int) : inv (inv op) = op := by
  rcases row_range op with ⟨n, rfl⟩ | h
  · revert n; decide
  · have e : inv op = op := inv_none (by rw [h]; rfl)
    rw [e, e]
theorem ops_inv (op : Int) : ops (inv op) = ops op := by
  rcases row_range op with ⟨n, rfl⟩ | h
  · revert n; decide
  · rw [inv_none (op := op) (by rw [h]; rfl)]
theorem isSome_inv (op : Int) : (row (inv op)).isSome = (row op).isSome := by
  rcases row_range op with ⟨n, rfl⟩ | h
  · revert n; decide
  · rw [inv_none (op := op) (by rw [h]; rfl)]
theorem tgt_inv (op : Int) : tgt (inv op) = tgt op := by unfold tgt; rw [ops_inv]
theorem tval_inv (op a b : Int) : tval (inv op) a b = tval op a b := by unfold tval; rw [tgt_inv]
theorem dist_inv (op a b c : Int) : dist (inv op) a b c = dist op a b c := by
  rcases row_range op with ⟨n, rfl⟩ | h
  · have hall : ∀ n : Fin 35, ((inv (n.val : Int) = 1 ∨ inv (n.val : Int) = 2 ∨ inv (n.val : Int) = 3 ∨ inv (n.val : Int) = 11) ↔ ((n.val : Int) = 1 ∨ (n.val : Int) = 2 ∨ (n.val : Int) = 3 ∨ (n.val : Int) = 11)) ∧ (inv (n.val : Int) = 9 ↔ (n.val : Int) = 9) := by decide
    unfold dist
    simp only [(hall n).1, (hall n).2]
  · rw [inv_none (op := op) (by rw [h]; rfl)]
theorem vld_inv (op a b c d : Int) : vld (inv op) a b c d = vld op a b c d := by unfold vld; rw [ops_inv, isSome_inv, dist_inv]
theorem isJ_inv (op : Int) : isJ (inv op) = isL op := by
  rcases row_range op with ⟨n, rfl⟩ | h
  · revert n; decide
  · have h' : op < 0 ∨ 35 ≤ op := by
      by_cases h1 : op < 0
      · exact .inl h1
      · by_cases h2 : op < 35
        · obtain ⟨r, hr, _⟩ := row_some op (by omega) h2
          rw [h] at hr; cases hr
        · exact .inr (by omega)
    rw [inv_none (op := op) (by rw [h]; rfl)]
    unfold isJ isL
    rw [Bool.eq_iff_iff]; simp; omega
theorem isL_inv (op : Int) : isL (inv op) = isJ op := by
  have := isJ_inv (inv op)
  rw [inv_inv] at this
  exact this.symm
theorem isJ_isL (op : Int) : (isJ op && isL op) = false := by
  unfold isJ isL
  cases h : (op == 22 || op == 23 || op == 24) && (op == 25 || op == 26 || op == 27)
  · rfl
  · simp at h; omega
theorem isJL_tgt (op : Int) (h : (isJ op || isL op) = true) : (tgt op).isSome = true := by
  unfold isJ isL at h
  simp only [Bool.or_eq_true, beq_iff_eq] at h
  rcases h with ((rfl | rfl) | rfl) | ((rfl | rfl) | rfl) <;> rfl
end Isa
end Go.Proofs.Yteonkfdmkgjpaaa
