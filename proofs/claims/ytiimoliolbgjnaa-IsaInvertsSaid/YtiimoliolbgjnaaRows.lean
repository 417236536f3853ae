/-
  No cell of these rows narrows 'for every input' (looked for: loops, veiled, ifaces, maps, wideKeys, modest, calm, conditions, laid).
  DERIVED. THE GIVEN ROWS OF THIS SEAT. 8 by the template 'for every input the law returns true; each argument reads behind the call as it read before'; 0 by the template 'total and deterministic' (their statements: YtiimoliolbgjnaaTotals.lean).
  GIVEN WITH THE SEED: the statements are not yours to turn. If you find one false, say at which input.
  Laid BY PROGRAM, IN A SANDBOX (cutbox-rows.mjs): the forced cells as the released guide's own fill.sh prints them over the translation ad9be3675d7d0d9b… (all of the seat's roots in one cut). By AI agents, Wed Nov 11 2026. No macro, syntax, notation, axiom, sorry.
-/
import Derived.Test.YtiimoliolbgjnaaChecked
import GoSem.Claim
import GoSem.ClaimJoined
import GoSem.ClaimMapViews
import Derived.JoinedTies
import Derived.KernelRfl
namespace Go.Proofs.Ytiimoliolbgjnaa
/- THE CELL 'sum', in the pinned program and in every row, IS THE sha256 OF THE DUMP (.gsa) THAT YtiimoliolbgjnaaProg.lean LOADS. Nothing in Lean hashes anything: it is a label: what it is worth is what the hold of that sum in a sandbox is worth. -/
noncomputable def Try.pinned : Pinned := { name := "ytiimoliolbgjnaa", sum := "ad9be3675d7d0d9b3bdc8616b0ffdad4ac72a5d1b7fb5ea7e95aa5bc9f00bf56", checked := Try.checked }
namespace Rows
def none {H : Type} : Left H := { results := [], args := [] }

/-- 'backsteplaw21.IsaValid': WHATEVER THE INPUT: true; the input reads as it did. -/
def isaValidSpec : ChangeSpec := { name := "isaValid", fn := fun _ => fun
  | [d] => { results := [.lit (.bool true)], args := [d] }
  | _ => none }
def isaValidRow : OpenClaim := { program := "ytiimoliolbgjnaa", sum := "ad9be3675d7d0d9b3bdc8616b0ffdad4ac72a5d1b7fb5ea7e95aa5bc9f00bf56", func := "backstep/backsteplaw21.IsaValid", spec := "isaValid", apart := false }
def IsaValidSaid : Prop := isaValidRow.holds Try.pinned (OpenSpec.ofChange isaValidSpec)

/-- ITS FALSE NEIGHBOUR: 'it returns false'. Refute it at one input. -/
def isaValidWrong : ChangeSpec := { name := "isaValid", fn := fun _ => fun
  | [d] => { results := [.lit (.bool false)], args := [d] }
  | _ => none }
def IsaValidWrongFalsely : Prop := isaValidRow.holds Try.pinned (OpenSpec.ofChange isaValidWrong)

/-- 'backsteplaw21.IsaInverts': WHATEVER THE INPUT: true; the input reads as it did. -/
def isaInvertsSpec : ChangeSpec := { name := "isaInverts", fn := fun _ => fun
  | [d] => { results := [.lit (.bool true)], args := [d] }
  | _ => none }
def isaInvertsRow : OpenClaim := { program := "ytiimoliolbgjnaa", sum := "ad9be3675d7d0d9b3bdc8616b0ffdad4ac72a5d1b7fb5ea7e95aa5bc9f00bf56", func := "backstep/backsteplaw21.IsaInverts", spec := "isaInverts", apart := false }
def IsaInvertsSaid : Prop := isaInvertsRow.holds Try.pinned (OpenSpec.ofChange isaInvertsSpec)

/-- ITS FALSE NEIGHBOUR: 'it returns false'. Refute it at one input. -/
def isaInvertsWrong : ChangeSpec := { name := "isaInverts", fn := fun _ => fun
  | [d] => { results := [.lit (.bool false)], args := [d] }
  | _ => none }
def IsaInvertsWrongFalsely : Prop := isaInvertsRow.holds Try.pinned (OpenSpec.ofChange isaInvertsWrong)

/-- 'backsteplaw21.IsaUnused': WHATEVER THE INPUT: true; the input reads as it did. -/
def isaUnusedSpec : ChangeSpec := { name := "isaUnused", fn := fun _ => fun
  | [d1, d2] => { results := [.lit (.bool true)], args := [d1, d2] }
  | _ => none }
def isaUnusedRow : OpenClaim := { program := "ytiimoliolbgjnaa", sum := "ad9be3675d7d0d9b3bdc8616b0ffdad4ac72a5d1b7fb5ea7e95aa5bc9f00bf56", func := "backstep/backsteplaw21.IsaUnused", spec := "isaUnused", apart := false }
def IsaUnusedSaid : Prop := isaUnusedRow.holds Try.pinned (OpenSpec.ofChange isaUnusedSpec)

/-- ITS FALSE NEIGHBOUR: 'it returns false'. Refute it at one input. -/
def isaUnusedWrong : ChangeSpec := { name := "isaUnused", fn := fun _ => fun
  | [d1, d2] => { results := [.lit (.bool false)], args := [d1, d2] }
  | _ => none }
def IsaUnusedWrongFalsely : Prop := isaUnusedRow.holds Try.pinned (OpenSpec.ofChange isaUnusedWrong)

/-- 'backsteplaw21.IsaNames': WHATEVER THE INPUT: true; the input reads as it did. -/
def isaNamesSpec : ChangeSpec := { name := "isaNames", fn := fun _ => fun
  | [d] => { results := [.lit (.bool true)], args := [d] }
  | _ => none }
def isaNamesRow : OpenClaim := { program := "ytiimoliolbgjnaa", sum := "ad9be3675d7d0d9b3bdc8616b0ffdad4ac72a5d1b7fb5ea7e95aa5bc9f00bf56", func := "backstep/backsteplaw21.IsaNames", spec := "isaNames", apart := false }
def IsaNamesSaid : Prop := isaNamesRow.holds Try.pinned (OpenSpec.ofChange isaNamesSpec)

/-- ITS FALSE NEIGHBOUR: 'it returns false'. Refute it at one input. -/
def isaNamesWrong : ChangeSpec := { name := "isaNames", fn := fun _ => fun
  | [d] => { results := [.lit (.bool false)], args := [d] }
  | _ => none }
def IsaNamesWrongFalsely : Prop := isaNamesRow.holds Try.pinned (OpenSpec.ofChange isaNamesWrong)

/-- 'backsteplaw21.IsaTwice': WHATEVER THE INPUT: true; the input reads as it did. -/
def isaTwiceSpec : ChangeSpec := { name := "isaTwice", fn := fun _ => fun
  | [d] => { results := [.lit (.bool true)], args := [d] }
  | _ => none }
def isaTwiceRow : OpenClaim := { program := "ytiimoliolbgjnaa", sum := "ad9be3675d7d0d9b3bdc8616b0ffdad4ac72a5d1b7fb5ea7e95aa5bc9f00bf56", func := "backstep/backsteplaw21.IsaTwice", spec := "isaTwice", apart := false }
def IsaTwiceSaid : Prop := isaTwiceRow.holds Try.pinned (OpenSpec.ofChange isaTwiceSpec)

/-- ITS FALSE NEIGHBOUR: 'it returns false'. Refute it at one input. -/
def isaTwiceWrong : ChangeSpec := { name := "isaTwice", fn := fun _ => fun
  | [d] => { results := [.lit (.bool false)], args := [d] }
  | _ => none }
def IsaTwiceWrongFalsely : Prop := isaTwiceRow.holds Try.pinned (OpenSpec.ofChange isaTwiceWrong)

/-- 'backsteplaw21.IsaJumps': WHATEVER THE INPUT: true; the input reads as it did. -/
def isaJumpsSpec : ChangeSpec := { name := "isaJumps", fn := fun _ => fun
  | [d] => { results := [.lit (.bool true)], args := [d] }
  | _ => none }
def isaJumpsRow : OpenClaim := { program := "ytiimoliolbgjnaa", sum := "ad9be3675d7d0d9b3bdc8616b0ffdad4ac72a5d1b7fb5ea7e95aa5bc9f00bf56", func := "backstep/backsteplaw21.IsaJumps", spec := "isaJumps", apart := false }
def IsaJumpsSaid : Prop := isaJumpsRow.holds Try.pinned (OpenSpec.ofChange isaJumpsSpec)

/-- ITS FALSE NEIGHBOUR: 'it returns false'. Refute it at one input. -/
def isaJumpsWrong : ChangeSpec := { name := "isaJumps", fn := fun _ => fun
  | [d] => { results := [.lit (.bool false)], args := [d] }
  | _ => none }
def IsaJumpsWrongFalsely : Prop := isaJumpsRow.holds Try.pinned (OpenSpec.ofChange isaJumpsWrong)

/-- 'backsteplaw21.IsaTargets': WHATEVER THE INPUT: true; the input reads as it did. -/
def isaTargetsSpec : ChangeSpec := { name := "isaTargets", fn := fun _ => fun
  | [d1, d2] => { results := [.lit (.bool true)], args := [d1, d2] }
  | _ => none }
def isaTargetsRow : OpenClaim := { program := "ytiimoliolbgjnaa", sum := "ad9be3675d7d0d9b3bdc8616b0ffdad4ac72a5d1b7fb5ea7e95aa5bc9f00bf56", func := "backstep/backsteplaw21.IsaTargets", spec := "isaTargets", apart := false }
def IsaTargetsSaid : Prop := isaTargetsRow.holds Try.pinned (OpenSpec.ofChange isaTargetsSpec)

/-- ITS FALSE NEIGHBOUR: 'it returns false'. Refute it at one input. -/
def isaTargetsWrong : ChangeSpec := { name := "isaTargets", fn := fun _ => fun
  | [d1, d2] => { results := [.lit (.bool false)], args := [d1, d2] }
  | _ => none }
def IsaTargetsWrongFalsely : Prop := isaTargetsRow.holds Try.pinned (OpenSpec.ofChange isaTargetsWrong)

/-- 'backsteplaw21.IsaMoves': WHATEVER THE INPUT: true; the input reads as it did. -/
def isaMovesSpec : ChangeSpec := { name := "isaMoves", fn := fun _ => fun
  | [d1, d2, d3] => { results := [.lit (.bool true)], args := [d1, d2, d3] }
  | _ => none }
def isaMovesRow : OpenClaim := { program := "ytiimoliolbgjnaa", sum := "ad9be3675d7d0d9b3bdc8616b0ffdad4ac72a5d1b7fb5ea7e95aa5bc9f00bf56", func := "backstep/backsteplaw21.IsaMoves", spec := "isaMoves", apart := false }
def IsaMovesSaid : Prop := isaMovesRow.holds Try.pinned (OpenSpec.ofChange isaMovesSpec)

/-- ITS FALSE NEIGHBOUR: 'it returns false'. Refute it at one input. -/
def isaMovesWrong : ChangeSpec := { name := "isaMoves", fn := fun _ => fun
  | [d1, d2, d3] => { results := [.lit (.bool false)], args := [d1, d2, d3] }
  | _ => none }
def IsaMovesWrongFalsely : Prop := isaMovesRow.holds Try.pinned (OpenSpec.ofChange isaMovesWrong)

/- THE SECOND FORM. 'bulk': how many values and letters a reading holds, each counted each time it is reached (what is shared counts as often as it is met; a slice's spare places count too). A statement '..UptoSaid' is the law's where the arguments, and the package variables that the reading takes, are together of bulk at most 1048576: NARROWER than '..Said'. Prove '..Said' where nothing that the law and all that it calls make is longer than what came in: it says more and counts as full. Else prove '..UptoSaid'. A law counts once. -/
mutual
def uptoBulk {H : Type} : DataW H → Nat
  | .lit (.string bytes) => bytes.length + 1
  | .lit _ => 1
  | .nil => 1
  | .ptr d => uptoBulk d + 1
  | .slice elems spare => uptoBulkAll elems + uptoBulkAll spare + 1
  | .agg parts => uptoBulkAll parts + 1
  | .iface _ d => uptoBulk d + 1
  | .map entries => uptoBulkEntries entries + 1
  | .held _ => 1
def uptoBulkAll {H : Type} : List (DataW H) → Nat
  | [] => 0
  | d :: r => uptoBulk d + uptoBulkAll r
def uptoBulkEntries {H : Type} : List (Lit × DataW H) → Nat
  | [] => 0
  | x :: r => uptoBulkEntry x + uptoBulkEntries r
def uptoBulkEntry {H : Type} : Lit × DataW H → Nat
  | (.string bytes, d) => bytes.length + uptoBulk d + 1
  | (_, d) => uptoBulk d + 1
 end
def uptoSmall : (H : Type) → List (DataW H) → Bool := fun _ ds => decide (uptoBulkAll ds ≤ 1048576)
def OpenSpec.upto (s : _root_.Go.ChangeSpec) : _root_.Go.OpenSpec := { _root_.Go.OpenSpec.ofChange s with cond := some uptoSmall }

/-- 'backsteplaw21.IsaValid', WHERE WHAT IT READS IS OF BULK AT MOST 1048576: true; the input reads as it did. -/
def isaValidUptoRow : OpenClaim := { program := "ytiimoliolbgjnaa", sum := "ad9be3675d7d0d9b3bdc8616b0ffdad4ac72a5d1b7fb5ea7e95aa5bc9f00bf56", func := "backstep/backsteplaw21.IsaValid", spec := "isaValid", apart := false, narrowed := true }
def IsaValidUptoSaid : Prop := isaValidUptoRow.holds Try.pinned (OpenSpec.upto isaValidSpec)

/-- 'backsteplaw21.IsaInverts', WHERE WHAT IT READS IS OF BULK AT MOST 1048576: true; the input reads as it did. -/
def isaInvertsUptoRow : OpenClaim := { program := "ytiimoliolbgjnaa", sum := "ad9be3675d7d0d9b3bdc8616b0ffdad4ac72a5d1b7fb5ea7e95aa5bc9f00bf56", func := "backstep/backsteplaw21.IsaInverts", spec := "isaInverts", apart := false, narrowed := true }
def IsaInvertsUptoSaid : Prop := isaInvertsUptoRow.holds Try.pinned (OpenSpec.upto isaInvertsSpec)

/-- 'backsteplaw21.IsaUnused', WHERE WHAT IT READS IS OF BULK AT MOST 1048576: true; the input reads as it did. -/
def isaUnusedUptoRow : OpenClaim := { program := "ytiimoliolbgjnaa", sum := "ad9be3675d7d0d9b3bdc8616b0ffdad4ac72a5d1b7fb5ea7e95aa5bc9f00bf56", func := "backstep/backsteplaw21.IsaUnused", spec := "isaUnused", apart := false, narrowed := true }
def IsaUnusedUptoSaid : Prop := isaUnusedUptoRow.holds Try.pinned (OpenSpec.upto isaUnusedSpec)

/-- 'backsteplaw21.IsaNames', WHERE WHAT IT READS IS OF BULK AT MOST 1048576: true; the input reads as it did. -/
def isaNamesUptoRow : OpenClaim := { program := "ytiimoliolbgjnaa", sum := "ad9be3675d7d0d9b3bdc8616b0ffdad4ac72a5d1b7fb5ea7e95aa5bc9f00bf56", func := "backstep/backsteplaw21.IsaNames", spec := "isaNames", apart := false, narrowed := true }
def IsaNamesUptoSaid : Prop := isaNamesUptoRow.holds Try.pinned (OpenSpec.upto isaNamesSpec)

/-- 'backsteplaw21.IsaTwice', WHERE WHAT IT READS IS OF BULK AT MOST 1048576: true; the input reads as it did. -/
def isaTwiceUptoRow : OpenClaim := { program := "ytiimoliolbgjnaa", sum := "ad9be3675d7d0d9b3bdc8616b0ffdad4ac72a5d1b7fb5ea7e95aa5bc9f00bf56", func := "backstep/backsteplaw21.IsaTwice", spec := "isaTwice", apart := false, narrowed := true }
def IsaTwiceUptoSaid : Prop := isaTwiceUptoRow.holds Try.pinned (OpenSpec.upto isaTwiceSpec)

/-- 'backsteplaw21.IsaJumps', WHERE WHAT IT READS IS OF BULK AT MOST 1048576: true; the input reads as it did. -/
def isaJumpsUptoRow : OpenClaim := { program := "ytiimoliolbgjnaa", sum := "ad9be3675d7d0d9b3bdc8616b0ffdad4ac72a5d1b7fb5ea7e95aa5bc9f00bf56", func := "backstep/backsteplaw21.IsaJumps", spec := "isaJumps", apart := false, narrowed := true }
def IsaJumpsUptoSaid : Prop := isaJumpsUptoRow.holds Try.pinned (OpenSpec.upto isaJumpsSpec)

/-- 'backsteplaw21.IsaTargets', WHERE WHAT IT READS IS OF BULK AT MOST 1048576: true; the input reads as it did. -/
def isaTargetsUptoRow : OpenClaim := { program := "ytiimoliolbgjnaa", sum := "ad9be3675d7d0d9b3bdc8616b0ffdad4ac72a5d1b7fb5ea7e95aa5bc9f00bf56", func := "backstep/backsteplaw21.IsaTargets", spec := "isaTargets", apart := false, narrowed := true }
def IsaTargetsUptoSaid : Prop := isaTargetsUptoRow.holds Try.pinned (OpenSpec.upto isaTargetsSpec)

/-- 'backsteplaw21.IsaMoves', WHERE WHAT IT READS IS OF BULK AT MOST 1048576: true; the input reads as it did. -/
def isaMovesUptoRow : OpenClaim := { program := "ytiimoliolbgjnaa", sum := "ad9be3675d7d0d9b3bdc8616b0ffdad4ac72a5d1b7fb5ea7e95aa5bc9f00bf56", func := "backstep/backsteplaw21.IsaMoves", spec := "isaMoves", apart := false, narrowed := true }
def IsaMovesUptoSaid : Prop := isaMovesUptoRow.holds Try.pinned (OpenSpec.upto isaMovesSpec)

end Rows
end Go.Proofs.Ytiimoliolbgjnaa
