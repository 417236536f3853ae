/- Layer 23 as plain functions on lists of instructions: partner, region, faults, check, inverse image. No program in sight. -/
import Derived.Test.YteonkfdmkgjpaaaIsaPure
namespace Go.Proofs.Yteonkfdmkgjpaaa

structure Ins where
  op : Int
  a : Int
  b : Int
  c : Int
  d : Int
deriving DecidableEq

namespace Img
def zero : Ins := ⟨0, 0, 0, 0, 0⟩
def at_ (l : List Ins) (i : Nat) : Ins := l.getD i zero
def vl (x : Ins) : Bool := Isa.vld x.op x.a x.b x.c x.d
def has (x : Ins) : Bool := (Isa.tgt x.op).isSome
def tg (x : Ins) : Int := Isa.tval x.op x.a x.b
def ret (x : Ins) (t : Int) : Ins := { x with a := Isa.reA x.op x.a t, b := Isa.reB x.op x.b t }
def inv (x : Ins) : Ins := { x with op := Isa.inv x.op }
def isS (x : Ins) : Bool := x.op == 32
def isE (x : Ins) : Bool := x.op == 33
def isC (x : Ins) : Bool := x.op == 30 || x.op == 31
def jl (x : Ins) : Bool := Isa.isJ x.op || Isa.isL x.op

/-- an index as Go tells it: 0 where there is none -/
def num (o : Option Nat) : Int := match o with | some p => (p : Int) | none => 0

/-- the kinds of two instructions, at i and t, make a pair -/
def kinds (i t : Nat) (x y : Ins) : Bool :=
  (Isa.isJ x.op && Isa.isL y.op) || (Isa.isL x.op && Isa.isJ y.op) || (if t < i then isS y && isE x else isS x && isE y)

/-- t is the partner of i (both indices of the code) -/
def isP (l : List Ins) (i t : Nat) : Bool :=
  decide (t ≠ i) && has (at_ l i) && (tg (at_ l i) == (t : Int)) && has (at_ l t) && (tg (at_ l t) == (i : Int)) && vl (at_ l i) && vl (at_ l t) && kinds i t (at_ l i) (at_ l t)

/-- the partner of the instruction i -/
def partner (l : List Ins) (i : Nat) : Option Nat :=
  if i < l.length ∧ 0 ≤ tg (at_ l i) ∧ tg (at_ l i) < l.length ∧ isP l i (tg (at_ l i)).toNat = true then some (tg (at_ l i)).toNat else none

/-- the partner at an index that may be none of the code's -/
def partnerI (l : List Ins) (i : Int) : Option Nat := if 0 ≤ i ∧ i < l.length then partner l i.toNat else none
theorem partnerI_nat {l : List Ins} {k : Nat} (h : k < l.length) : partnerI l (k : Int) = partner l k := by
  unfold partnerI
  rw [if_pos (by omega)]
  simp
theorem partner_lt {l : List Ins} {i j : Nat} (h : partner l i = some j) : i < l.length ∧ j < l.length := by
  unfold partner at h
  split at h
  · rename_i hh
    injection h with h
    omega
  · cases h
theorem partner_no {l : List Ins} {i : Nat} (h : ¬ (i < l.length ∧ 0 ≤ tg (at_ l i) ∧ tg (at_ l i) < l.length ∧ isP l i (tg (at_ l i)).toNat = true)) : partner l i = none := if_neg h
theorem partner_yes {l : List Ins} {i j : Nat} (hi : i < l.length) (hj : j < l.length) (ht : tg (at_ l i) = (j : Int)) (h : isP l i j = true) : partner l i = some j := by
  unfold partner
  rw [ht]
  simp [hi, hj, h]
theorem partner_not {l : List Ins} {i j : Nat} (ht : tg (at_ l i) = (j : Int)) (h : isP l i j = false) : partner l i = none := by
  refine partner_no fun hh => ?_
  rw [ht] at hh
  simp [h] at hh

theorem partner_kinds {l : List Ins} {i j : Nat} (hi : i < l.length) (hj : j < l.length) (hne : j ≠ i) (ht : tg (at_ l i) = (j : Int)) (hx : has (at_ l i) = true) (hy : has (at_ l j) = true) (hb : tg (at_ l j) = (i : Int))
    (vx : vl (at_ l i) = true) (vy : vl (at_ l j) = true) : partner l i = if kinds i j (at_ l i) (at_ l j) then some j else none := by
  cases hk : kinds i j (at_ l i) (at_ l j)
  · exact partner_not ht (by simp [isP, hk])
  · exact partner_yes hi hj ht (by simp [isP, hk, hne, ht, hx, hy, hb, vx, vy])

/-- the procedure that starts at s contains k -/
def covers (l : List Ins) (s k : Nat) : Bool := isS (at_ l s) && (match partner l s with | some e => decide (s ≤ k) && decide (k ≤ e) | none => false)

/-- the greatest start below m whose procedure contains k, or -1 -/
def regU (l : List Ins) : Nat → Nat → Int
  | 0, _ => -1
  | m + 1, k => if covers l m k then (m : Int) else regU l m k
def region (l : List Ins) (k : Nat) : Int := regU l l.length k
def nested (l : List Ins) (i : Nat) : Bool := decide (regU l i i ≠ -1)

/-- there is a procedure that starts at t -/
def startAt (l : List Ins) (t : Int) : Bool := decide (0 ≤ t) && decide (t < l.length) && isS (at_ l t.toNat) && (partner l t.toNat).isSome

def fault (l : List Ins) (i : Nat) : Int :=
  let x := at_ l i
  if vl x = false then 3
  else if has x = false then 0
  else if isC x then (if startAt l (tg x) then 0 else 23)
  else match partner l i with
    | none => 23
    | some p => if isS x && nested l i then 20 else if !isS x && !isE x && decide (region l i ≠ region l p) then 20 else 0

/-- the first fault from i on -/
def firstF (l : List Ins) : Nat → Nat → Int × Int
  | 0, _ => (-1, 0)
  | n + 1, i => if fault l i ≠ 0 then ((i : Int), fault l i) else firstF l n (i + 1)
def outside (l : List Ins) (mem st : Int) : Prop := 65536 < l.length ∨ mem < 0 ∨ 16384 < mem ∨ st < 1 ∨ 16384 < st
instance (l : List Ins) (mem st : Int) : Decidable (outside l mem st) := by unfold outside; exact inferInstance
def check (l : List Ins) (mem st : Int) : Int × Int := if outside l mem st then (-1, 2) else firstF l l.length 0
def valid (l : List Ins) (mem st : Int) : Bool := (check l mem st).2 == 0

/-- one instruction of the inverse image of a valid image -/
def invAt (l : List Ins) (i : Nat) : Ins :=
  let x := at_ l i
  let n : Int := l.length
  inv (if has x then ret x (if isC x then n - 1 - num (partner l (tg x).toNat) else n - 1 - tg x) else x)
def invert (l : List Ins) : List Ins := (List.range l.length).reverse.map (invAt l)

def procs (l : List Ins) : List Nat := (List.range l.length).filter fun i => isS (at_ l i)
def halt (l : List Ins) : Option Nat := l.findIdx? fun x => x.op == 34
end Img
end Go.Proofs.Yteonkfdmkgjpaaa
