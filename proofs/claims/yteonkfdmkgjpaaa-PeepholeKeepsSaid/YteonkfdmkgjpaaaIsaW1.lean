/- Contracts of the small functions of layer 21: the operand classes, the table of rows. -/
import Derived.Test.YteonkfdmkgjpaaaRows
import Derived.Test.YteonkfdmkgjpaaaIsaPure
import Derived.Test.YteonkfdmkgjpaaaMaps
import Derived.WalkKit
import Derived.WalkSpells
import Derived.WalkLawsBesides
import Derived.Lib.Hide
namespace Go.Proofs.Yteonkfdmkgjpaaa
open Go.RowKit
set_option linter.unusedVariables false
set_option linter.unusedSimpArgs false

set_option maxHeartbeats 1000000 in
theorem fits_any (c x : Int) (w : World) :
    Calls Try.prog 53 #[.int .u8 c, .int .i64 x] w fun e w' => e = .returned (.bool (Isa.fitsB c x)) ∧ w = w' := by
  go_enter Try.func53, Try.ntmps53
  go_wp2
  all_goals go_ret
  all_goals refine ⟨?_, rfl⟩
  all_goals (simp only [beq_iff_eq, beq_eq_false_iff_ne, ne_eq] at *; congr 2; unfold Isa.fitsB; simp [*]; try omega)

/-- a row of the table as Go holds it -/
def rowVal (r : List UInt8 × List UInt8 × Int) : Value := .agg #[.string ⟨r.1.toArray⟩, .string ⟨r.2.1.toArray⟩, .int .u8 r.2.2]
/-- the table as Go's map -/
def rowEntries : Array MapEntry := (Isa.tbl.zipIdx.map fun (r, i) => ⟨.int .u8 i, rowVal r, i⟩).toArray

set_option maxHeartbeats 4000000 in
set_option maxRecDepth 100000 in
theorem rows_any (w : World) :
    Calls Try.prog 51 #[] w fun e w' => e = .returned (.map (some w.heap.size)) ∧ w' = w.alloc (.map rowEntries 35) := by
  have hmm := @run_makeMap Try.prog
  go_enter Try.func51, Try.ntmps51
  go_wp2_with (rw [run_insert_new w _ _ _ _ Try.underlying67 Try.underlying5]; rotate_left; exact rfl)
  go_ret
  exact ⟨rfl, rfl⟩
  all_goals go_goals
  all_goals sorry
end Go.Proofs.Yteonkfdmkgjpaaa
