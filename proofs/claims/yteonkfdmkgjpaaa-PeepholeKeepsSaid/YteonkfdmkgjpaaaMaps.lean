/- Laws on maps with small integer keys that a call makes and asks: an insert into a new map, a look-up in it. -/
import Derived.WalkKit
import Derived.Maps.Own
import Derived.MapKept
namespace Go.Proofs.Yteonkfdmkgjpaaa
open Go.MapKept

theorem push_set {α : Type} (h : Array α) (a b : α) : (h.push a).setIfInBounds h.size b = h.push b := by
  apply Array.ext'
  simp

theorem run_insert_new {P : Program} {t k e : TypeId} (w : World) (es : Array MapEntry) (c : Nat) (n : Int) (v : Value)
    (ht : P.underlying t = some (.map k e)) (hk : P.underlying k = some (.int .u8))
    (hf : Instr.findNow (.int .u8) (.int .u8 n) es.toList 0 = some none) :
    (Instr.mapUpdate t (.map (some w.heap.size)) (.int .u8 n) v).run P (w.alloc (.map es c)) = .ok () (w.alloc (.map (es.push ⟨.int .u8 n, v, c⟩) (c + 1))) := by
  have hb := (heap_alloc w (.map es c)).1
  have hkey : IsKey (.int .u8) (.int .u8 n) := by simp [IsKey]
  simp only [Instr.mapUpdate, Sem.run_bind, run_underlying ht, Result.andThen, Go.MapKept.run_getObj_map hb, run_checkKey hk hkey, run_findKey hk hf, Go.MapKept.run_setObj_map _ hb]
  exact congrArg (fun x => Result.ok () { w with heap := x }) (push_set w.heap _ _)

theorem wpList_insert_new {P : Program} {ops : Array Oper} {rest : List Oper} {dst : Option Tmp} {ty : TypeId} {pos : String} {af : Array Edge} {a : Act} {Q : Exit → Act → World → Prop}
    (w : World) {t k e : TypeId} {m y : Operand} (ht : P.underlying t = some (.map k e)) (hk : P.underlying k = some (.int .u8)) {es : Array MapEntry} {c : Nat} {n : Int}
    (hm : a.eval m = .map (some w.heap.size)) (hf : Instr.findNow (.int .u8) (.int .u8 n) es.toList 0 = some none)
    (hK : wpList P ops Q rest (a.put dst undef) (w.alloc (.map (es.push ⟨.int .u8 n, a.eval y, c⟩) (c + 1)))) :
    wpList P ops Q (⟨dst, Op.insert t m (.const (.int .u8 n)) y, ty, pos, af, none⟩ :: rest) a (w.alloc (.map es c)) := by
  refine wpList_plain rfl fun K' hK' => ?_
  have hrun := run_insert_new (P := P) w es c n (a.eval y) ht hk hf
  have hx : a.eval (.const (.int .u8 n)) = .int .u8 n := rfl
  unfold Oper.wp
  simp [execOp, hm, hx, hrun, Result.andThen]
  exact hK' _ _ hK

/-- a look-up with ', ok' in a map of small integer keys -/
theorem run_lookup_ok {P : Program} {t k e : TypeId} (w : World) (b : Nat) (es : Array MapEntry) (c : Nat) (n : Int) (z : Value)
    (ht : P.underlying t = some (.map k e)) (hk : P.underlying k = some (.int .u8)) (hz : (zeroValue e).run P w = .ok z w) (hb : w.heap[b]? = some (.map es c))
    (r : Option (Nat × Value)) (hf : Instr.findNow (.int .u8) (.int .u8 n) es.toList 0 = some r) :
    (Instr.lookup t (.map (some b)) (.int .u8 n) true).run P w = .ok (.tuple #[(r.map (·.2)).getD z, .bool r.isSome]) w := by
  have hkey : IsKey (.int .u8) (.int .u8 n) := by simp [IsKey]
  cases r <;> simp [Instr.lookup, run_underlying ht, Result.andThen, Go.MapKept.run_getObj_map hb, run_checkKey hk hkey, run_findKey hk hf, hz]

theorem run_lookup_at {P : Program} {t k e : TypeId} (w : World) (b : Nat) (es : Array MapEntry) (c : Nat) (n : Int) (z : Value)
    (ht : P.underlying t = some (.map k e)) (hk : P.underlying k = some (.int .u8)) (hz : (zeroValue e).run P w = .ok z w) (hb : w.heap[b]? = some (.map es c))
    (r : Option (Nat × Value)) (hf : Instr.findNow (.int .u8) (.int .u8 n) es.toList 0 = some r) :
    (Instr.lookup t (.map (some b)) (.int .u8 n) false).run P w = .ok ((r.map (·.2)).getD z) w := by
  have hkey : IsKey (.int .u8) (.int .u8 n) := by simp [IsKey]
  cases r <;> simp [Instr.lookup, run_underlying ht, Result.andThen, Go.MapKept.run_getObj_map hb, run_checkKey hk hkey, run_findKey hk hf, hz]

end Go.Proofs.Yteonkfdmkgjpaaa
