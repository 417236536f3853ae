/-
  No cell of these rows narrows 'for every input' (looked for: loops, veiled, ifaces, maps, wideKeys, modest, calm, conditions, laid).
  DERIVED. THE GIVEN ROWS OF THIS SEAT. 15 by the template 'for every input the law returns true; each argument reads behind the call as it read before'; 0 by the template 'total and deterministic' (their statements: YteonkfdmkgjpaaaTotals.lean).
  GIVEN WITH THE SEED: the statements are not yours to turn. If you find one false, say at which input.
  Laid BY PROGRAM, IN A SANDBOX (cutbox-rows.mjs): the forced cells as the released guide's own fill.sh prints them over the translation 58535a6deda44aa3… (all of the seat's roots in one cut). By AI agents, Wed Nov 11 2026. No macro, syntax, notation, axiom, sorry.
-/
import Derived.Test.YteonkfdmkgjpaaaChecked
import GoSem.Claim
import GoSem.ClaimJoined
import GoSem.ClaimMapViews
import Derived.JoinedTies
import Derived.KernelRfl
namespace Go.Proofs.Yteonkfdmkgjpaaa
/- THE CELL 'sum', in the pinned program and in every row, IS THE sha256 OF THE DUMP (.gsa) THAT YteonkfdmkgjpaaaProg.lean LOADS. Nothing in Lean hashes anything: it is a label: what it is worth is what the hold of that sum in a sandbox is worth. -/
noncomputable def Try.pinned : Pinned := { name := "yteonkfdmkgjpaaa", sum := "58535a6deda44aa30ce7f2ce01e6fd16b582c0890a08615bab98e12dbeb27e58", checked := Try.checked }
namespace Rows
def none {H : Type} : Left H := { results := [], args := [] }

/-- 'backsteplaw23.ImageInvert': WHATEVER THE INPUT: true; the input reads as it did. -/
def imageInvertSpec : ChangeSpec := { name := "imageInvert", fn := fun _ => fun
  | [d] => { results := [.lit (.bool true)], args := [d] }
  | _ => none }
def imageInvertRow : OpenClaim := { program := "yteonkfdmkgjpaaa", sum := "58535a6deda44aa30ce7f2ce01e6fd16b582c0890a08615bab98e12dbeb27e58", func := "backstep/backsteplaw23.ImageInvert", spec := "imageInvert", apart := false }
def ImageInvertSaid : Prop := imageInvertRow.holds Try.pinned (OpenSpec.ofChange imageInvertSpec)

/-- ITS FALSE NEIGHBOUR: 'it returns false'. Refute it at one input. -/
def imageInvertWrong : ChangeSpec := { name := "imageInvert", fn := fun _ => fun
  | [d] => { results := [.lit (.bool false)], args := [d] }
  | _ => none }
def ImageInvertWrongFalsely : Prop := imageInvertRow.holds Try.pinned (OpenSpec.ofChange imageInvertWrong)

/-- 'backsteplaw23.ImageCheck': WHATEVER THE INPUT: true; the input reads as it did. -/
def imageCheckSpec : ChangeSpec := { name := "imageCheck", fn := fun _ => fun
  | [d] => { results := [.lit (.bool true)], args := [d] }
  | _ => none }
def imageCheckRow : OpenClaim := { program := "yteonkfdmkgjpaaa", sum := "58535a6deda44aa30ce7f2ce01e6fd16b582c0890a08615bab98e12dbeb27e58", func := "backstep/backsteplaw23.ImageCheck", spec := "imageCheck", apart := false }
def ImageCheckSaid : Prop := imageCheckRow.holds Try.pinned (OpenSpec.ofChange imageCheckSpec)

/-- ITS FALSE NEIGHBOUR: 'it returns false'. Refute it at one input. -/
def imageCheckWrong : ChangeSpec := { name := "imageCheck", fn := fun _ => fun
  | [d] => { results := [.lit (.bool false)], args := [d] }
  | _ => none }
def ImageCheckWrongFalsely : Prop := imageCheckRow.holds Try.pinned (OpenSpec.ofChange imageCheckWrong)

/-- 'backsteplaw23.ImageTwice': WHATEVER THE INPUT: true; the input reads as it did. -/
def imageTwiceSpec : ChangeSpec := { name := "imageTwice", fn := fun _ => fun
  | [d] => { results := [.lit (.bool true)], args := [d] }
  | _ => none }
def imageTwiceRow : OpenClaim := { program := "yteonkfdmkgjpaaa", sum := "58535a6deda44aa30ce7f2ce01e6fd16b582c0890a08615bab98e12dbeb27e58", func := "backstep/backsteplaw23.ImageTwice", spec := "imageTwice", apart := false }
def ImageTwiceSaid : Prop := imageTwiceRow.holds Try.pinned (OpenSpec.ofChange imageTwiceSpec)

/-- ITS FALSE NEIGHBOUR: 'it returns false'. Refute it at one input. -/
def imageTwiceWrong : ChangeSpec := { name := "imageTwice", fn := fun _ => fun
  | [d] => { results := [.lit (.bool false)], args := [d] }
  | _ => none }
def ImageTwiceWrongFalsely : Prop := imageTwiceRow.holds Try.pinned (OpenSpec.ofChange imageTwiceWrong)

/-- 'backsteplaw23.ImageJoin': WHATEVER THE INPUT: true; the input reads as it did. -/
def imageJoinSpec : ChangeSpec := { name := "imageJoin", fn := fun _ => fun
  | [d1, d2] => { results := [.lit (.bool true)], args := [d1, d2] }
  | _ => none }
def imageJoinRow : OpenClaim := { program := "yteonkfdmkgjpaaa", sum := "58535a6deda44aa30ce7f2ce01e6fd16b582c0890a08615bab98e12dbeb27e58", func := "backstep/backsteplaw23.ImageJoin", spec := "imageJoin", apart := false }
def ImageJoinSaid : Prop := imageJoinRow.holds Try.pinned (OpenSpec.ofChange imageJoinSpec)

/-- ITS FALSE NEIGHBOUR: 'it returns false'. Refute it at one input. -/
def imageJoinWrong : ChangeSpec := { name := "imageJoin", fn := fun _ => fun
  | [d1, d2] => { results := [.lit (.bool false)], args := [d1, d2] }
  | _ => none }
def ImageJoinWrongFalsely : Prop := imageJoinRow.holds Try.pinned (OpenSpec.ofChange imageJoinWrong)

/-- 'backsteplaw23.ImagePairs': WHATEVER THE INPUT: true; the input reads as it did. -/
def imagePairsSpec : ChangeSpec := { name := "imagePairs", fn := fun _ => fun
  | [d] => { results := [.lit (.bool true)], args := [d] }
  | _ => none }
def imagePairsRow : OpenClaim := { program := "yteonkfdmkgjpaaa", sum := "58535a6deda44aa30ce7f2ce01e6fd16b582c0890a08615bab98e12dbeb27e58", func := "backstep/backsteplaw23.ImagePairs", spec := "imagePairs", apart := false }
def ImagePairsSaid : Prop := imagePairsRow.holds Try.pinned (OpenSpec.ofChange imagePairsSpec)

/-- ITS FALSE NEIGHBOUR: 'it returns false'. Refute it at one input. -/
def imagePairsWrong : ChangeSpec := { name := "imagePairs", fn := fun _ => fun
  | [d] => { results := [.lit (.bool false)], args := [d] }
  | _ => none }
def ImagePairsWrongFalsely : Prop := imagePairsRow.holds Try.pinned (OpenSpec.ofChange imagePairsWrong)

/-- 'backsteplaw23.ImageSpoilt': WHATEVER THE INPUT: true; the input reads as it did. -/
def imageSpoiltSpec : ChangeSpec := { name := "imageSpoilt", fn := fun _ => fun
  | [d1, d2] => { results := [.lit (.bool true)], args := [d1, d2] }
  | _ => none }
def imageSpoiltRow : OpenClaim := { program := "yteonkfdmkgjpaaa", sum := "58535a6deda44aa30ce7f2ce01e6fd16b582c0890a08615bab98e12dbeb27e58", func := "backstep/backsteplaw23.ImageSpoilt", spec := "imageSpoilt", apart := false }
def ImageSpoiltSaid : Prop := imageSpoiltRow.holds Try.pinned (OpenSpec.ofChange imageSpoiltSpec)

/-- ITS FALSE NEIGHBOUR: 'it returns false'. Refute it at one input. -/
def imageSpoiltWrong : ChangeSpec := { name := "imageSpoilt", fn := fun _ => fun
  | [d1, d2] => { results := [.lit (.bool false)], args := [d1, d2] }
  | _ => none }
def ImageSpoiltWrongFalsely : Prop := imageSpoiltRow.holds Try.pinned (OpenSpec.ofChange imageSpoiltWrong)

/-- 'backsteplaw23.ImageMirror': WHATEVER THE INPUT: true; the input reads as it did. -/
def imageMirrorSpec : ChangeSpec := { name := "imageMirror", fn := fun _ => fun
  | [d] => { results := [.lit (.bool true)], args := [d] }
  | _ => none }
def imageMirrorRow : OpenClaim := { program := "yteonkfdmkgjpaaa", sum := "58535a6deda44aa30ce7f2ce01e6fd16b582c0890a08615bab98e12dbeb27e58", func := "backstep/backsteplaw23.ImageMirror", spec := "imageMirror", apart := false }
def ImageMirrorSaid : Prop := imageMirrorRow.holds Try.pinned (OpenSpec.ofChange imageMirrorSpec)

/-- ITS FALSE NEIGHBOUR: 'it returns false'. Refute it at one input. -/
def imageMirrorWrong : ChangeSpec := { name := "imageMirror", fn := fun _ => fun
  | [d] => { results := [.lit (.bool false)], args := [d] }
  | _ => none }
def ImageMirrorWrongFalsely : Prop := imageMirrorRow.holds Try.pinned (OpenSpec.ofChange imageMirrorWrong)

/-- 'backsteplaw23.ImageNested': WHATEVER THE INPUT: true; the input reads as it did. -/
def imageNestedSpec : ChangeSpec := { name := "imageNested", fn := fun _ => fun
  | [d] => { results := [.lit (.bool true)], args := [d] }
  | _ => none }
def imageNestedRow : OpenClaim := { program := "yteonkfdmkgjpaaa", sum := "58535a6deda44aa30ce7f2ce01e6fd16b582c0890a08615bab98e12dbeb27e58", func := "backstep/backsteplaw23.ImageNested", spec := "imageNested", apart := false }
def ImageNestedSaid : Prop := imageNestedRow.holds Try.pinned (OpenSpec.ofChange imageNestedSpec)

/-- ITS FALSE NEIGHBOUR: 'it returns false'. Refute it at one input. -/
def imageNestedWrong : ChangeSpec := { name := "imageNested", fn := fun _ => fun
  | [d] => { results := [.lit (.bool false)], args := [d] }
  | _ => none }
def ImageNestedWrongFalsely : Prop := imageNestedRow.holds Try.pinned (OpenSpec.ofChange imageNestedWrong)

/-- 'backsteplaw23.ImagePartner': WHATEVER THE INPUT: true; the input reads as it did. -/
def imagePartnerSpec : ChangeSpec := { name := "imagePartner", fn := fun _ => fun
  | [d1, d2] => { results := [.lit (.bool true)], args := [d1, d2] }
  | _ => none }
def imagePartnerRow : OpenClaim := { program := "yteonkfdmkgjpaaa", sum := "58535a6deda44aa30ce7f2ce01e6fd16b582c0890a08615bab98e12dbeb27e58", func := "backstep/backsteplaw23.ImagePartner", spec := "imagePartner", unfollowed := true, recurses := true, apart := false }
def ImagePartnerSaid : Prop := imagePartnerRow.holds Try.pinned (OpenSpec.ofChange imagePartnerSpec)

/-- ITS FALSE NEIGHBOUR: 'it returns false'. Refute it at one input. -/
def imagePartnerWrong : ChangeSpec := { name := "imagePartner", fn := fun _ => fun
  | [d1, d2] => { results := [.lit (.bool false)], args := [d1, d2] }
  | _ => none }
def ImagePartnerWrongFalsely : Prop := imagePartnerRow.holds Try.pinned (OpenSpec.ofChange imagePartnerWrong)

/-- 'backsteplaw32.PeepholeCancels': WHATEVER THE INPUT: true; the input reads as it did. -/
def peepholeCancelsSpec : ChangeSpec := { name := "peepholeCancels", fn := fun _ => fun
  | [d1, d2] => { results := [.lit (.bool true)], args := [d1, d2] }
  | _ => none }
def peepholeCancelsRow : OpenClaim := { program := "yteonkfdmkgjpaaa", sum := "58535a6deda44aa30ce7f2ce01e6fd16b582c0890a08615bab98e12dbeb27e58", func := "backstep/backsteplaw32.PeepholeCancels", spec := "peepholeCancels", apart := false }
def PeepholeCancelsSaid : Prop := peepholeCancelsRow.holds Try.pinned (OpenSpec.ofChange peepholeCancelsSpec)

/-- ITS FALSE NEIGHBOUR: 'it returns false'. Refute it at one input. -/
def peepholeCancelsWrong : ChangeSpec := { name := "peepholeCancels", fn := fun _ => fun
  | [d1, d2] => { results := [.lit (.bool false)], args := [d1, d2] }
  | _ => none }
def PeepholeCancelsWrongFalsely : Prop := peepholeCancelsRow.holds Try.pinned (OpenSpec.ofChange peepholeCancelsWrong)

/-- 'backsteplaw32.PeepholeVanishes': WHATEVER THE INPUT: true; the input reads as it did. -/
def peepholeVanishesSpec : ChangeSpec := { name := "peepholeVanishes", fn := fun _ => fun
  | [d1, d2, d3] => { results := [.lit (.bool true)], args := [d1, d2, d3] }
  | _ => none }
def peepholeVanishesRow : OpenClaim := { program := "yteonkfdmkgjpaaa", sum := "58535a6deda44aa30ce7f2ce01e6fd16b582c0890a08615bab98e12dbeb27e58", func := "backstep/backsteplaw32.PeepholeVanishes", spec := "peepholeVanishes", apart := false }
def PeepholeVanishesSaid : Prop := peepholeVanishesRow.holds Try.pinned (OpenSpec.ofChange peepholeVanishesSpec)

/-- ITS FALSE NEIGHBOUR: 'it returns false'. Refute it at one input. -/
def peepholeVanishesWrong : ChangeSpec := { name := "peepholeVanishes", fn := fun _ => fun
  | [d1, d2, d3] => { results := [.lit (.bool false)], args := [d1, d2, d3] }
  | _ => none }
def PeepholeVanishesWrongFalsely : Prop := peepholeVanishesRow.holds Try.pinned (OpenSpec.ofChange peepholeVanishesWrong)

/-- 'backsteplaw32.PeepholeOptimize': WHATEVER THE INPUT: true; the input reads as it did. -/
def peepholeOptimizeSpec : ChangeSpec := { name := "peepholeOptimize", fn := fun _ => fun
  | [d] => { results := [.lit (.bool true)], args := [d] }
  | _ => none }
def peepholeOptimizeRow : OpenClaim := { program := "yteonkfdmkgjpaaa", sum := "58535a6deda44aa30ce7f2ce01e6fd16b582c0890a08615bab98e12dbeb27e58", func := "backstep/backsteplaw32.PeepholeOptimize", spec := "peepholeOptimize", apart := false }
def PeepholeOptimizeSaid : Prop := peepholeOptimizeRow.holds Try.pinned (OpenSpec.ofChange peepholeOptimizeSpec)

/-- ITS FALSE NEIGHBOUR: 'it returns false'. Refute it at one input. -/
def peepholeOptimizeWrong : ChangeSpec := { name := "peepholeOptimize", fn := fun _ => fun
  | [d] => { results := [.lit (.bool false)], args := [d] }
  | _ => none }
def PeepholeOptimizeWrongFalsely : Prop := peepholeOptimizeRow.holds Try.pinned (OpenSpec.ofChange peepholeOptimizeWrong)

/-- 'backsteplaw32.PeepholeNormal': WHATEVER THE INPUT: true; the input reads as it did. -/
def peepholeNormalSpec : ChangeSpec := { name := "peepholeNormal", fn := fun _ => fun
  | [d] => { results := [.lit (.bool true)], args := [d] }
  | _ => none }
def peepholeNormalRow : OpenClaim := { program := "yteonkfdmkgjpaaa", sum := "58535a6deda44aa30ce7f2ce01e6fd16b582c0890a08615bab98e12dbeb27e58", func := "backstep/backsteplaw32.PeepholeNormal", spec := "peepholeNormal", apart := false }
def PeepholeNormalSaid : Prop := peepholeNormalRow.holds Try.pinned (OpenSpec.ofChange peepholeNormalSpec)

/-- ITS FALSE NEIGHBOUR: 'it returns false'. Refute it at one input. -/
def peepholeNormalWrong : ChangeSpec := { name := "peepholeNormal", fn := fun _ => fun
  | [d] => { results := [.lit (.bool false)], args := [d] }
  | _ => none }
def PeepholeNormalWrongFalsely : Prop := peepholeNormalRow.holds Try.pinned (OpenSpec.ofChange peepholeNormalWrong)

/-- 'backsteplaw32.PeepholeKeeps': WHATEVER THE INPUT: true; the input reads as it did. -/
def peepholeKeepsSpec : ChangeSpec := { name := "peepholeKeeps", fn := fun _ => fun
  | [d] => { results := [.lit (.bool true)], args := [d] }
  | _ => none }
def peepholeKeepsRow : OpenClaim := { program := "yteonkfdmkgjpaaa", sum := "58535a6deda44aa30ce7f2ce01e6fd16b582c0890a08615bab98e12dbeb27e58", func := "backstep/backsteplaw32.PeepholeKeeps", spec := "peepholeKeeps", unfollowed := true, recurses := true, apart := false }
def PeepholeKeepsSaid : Prop := peepholeKeepsRow.holds Try.pinned (OpenSpec.ofChange peepholeKeepsSpec)

/-- ITS FALSE NEIGHBOUR: 'it returns false'. Refute it at one input. -/
def peepholeKeepsWrong : ChangeSpec := { name := "peepholeKeeps", fn := fun _ => fun
  | [d] => { results := [.lit (.bool false)], args := [d] }
  | _ => none }
def PeepholeKeepsWrongFalsely : Prop := peepholeKeepsRow.holds Try.pinned (OpenSpec.ofChange peepholeKeepsWrong)

/-- 'backsteplaw32.PeepholeInverse': WHATEVER THE INPUT: true; the input reads as it did. -/
def peepholeInverseSpec : ChangeSpec := { name := "peepholeInverse", fn := fun _ => fun
  | [d] => { results := [.lit (.bool true)], args := [d] }
  | _ => none }
def peepholeInverseRow : OpenClaim := { program := "yteonkfdmkgjpaaa", sum := "58535a6deda44aa30ce7f2ce01e6fd16b582c0890a08615bab98e12dbeb27e58", func := "backstep/backsteplaw32.PeepholeInverse", spec := "peepholeInverse", apart := false }
def PeepholeInverseSaid : Prop := peepholeInverseRow.holds Try.pinned (OpenSpec.ofChange peepholeInverseSpec)

/-- ITS FALSE NEIGHBOUR: 'it returns false'. Refute it at one input. -/
def peepholeInverseWrong : ChangeSpec := { name := "peepholeInverse", fn := fun _ => fun
  | [d] => { results := [.lit (.bool false)], args := [d] }
  | _ => none }
def PeepholeInverseWrongFalsely : Prop := peepholeInverseRow.holds Try.pinned (OpenSpec.ofChange peepholeInverseWrong)

/- THE SECOND FORM. 'bulk': how many values and letters a reading holds, each counted each time it is reached (what is shared counts as often as it is met; a slice's spare places count too). A statement '..UptoSaid' is the law's where the arguments, and the package variables that the reading takes, are together of bulk at most 1048576: NARROWER than '..Said'. Prove '..Said' where nothing that the law and all that it calls make is longer than what came in: it says more and counts as full. Else prove '..UptoSaid'. A law counts once. -/
mutual
def uptoBulk {H : Type} : DataW H → Nat
  | .lit (.string bytes) => bytes.length + 1
  | .lit _ => 1
  | .nil => 1
  | .ptr d => uptoBulk d + 1
  | .slice elems spare => uptoBulkAll elems + uptoBulkAll spare + 1
  | .agg parts => uptoBulkAll parts + 1
  | .iface _ d => uptoBulk d + 1
  | .map entries => uptoBulkEntries entries + 1
  | .held _ => 1
def uptoBulkAll {H : Type} : List (DataW H) → Nat
  | [] => 0
  | d :: r => uptoBulk d + uptoBulkAll r
def uptoBulkEntries {H : Type} : List (Lit × DataW H) → Nat
  | [] => 0
  | x :: r => uptoBulkEntry x + uptoBulkEntries r
def uptoBulkEntry {H : Type} : Lit × DataW H → Nat
  | (.string bytes, d) => bytes.length + uptoBulk d + 1
  | (_, d) => uptoBulk d + 1
 end
def uptoSmall : (H : Type) → List (DataW H) → Bool := fun _ ds => decide (uptoBulkAll ds ≤ 1048576)
def OpenSpec.upto (s : _root_.Go.ChangeSpec) : _root_.Go.OpenSpec := { _root_.Go.OpenSpec.ofChange s with cond := some uptoSmall }

/-- 'backsteplaw23.ImageInvert', WHERE WHAT IT READS IS OF BULK AT MOST 1048576: true; the input reads as it did. -/
def imageInvertUptoRow : OpenClaim := { program := "yteonkfdmkgjpaaa", sum := "58535a6deda44aa30ce7f2ce01e6fd16b582c0890a08615bab98e12dbeb27e58", func := "backstep/backsteplaw23.ImageInvert", spec := "imageInvert", apart := false, narrowed := true }
def ImageInvertUptoSaid : Prop := imageInvertUptoRow.holds Try.pinned (OpenSpec.upto imageInvertSpec)

/-- 'backsteplaw23.ImageCheck', WHERE WHAT IT READS IS OF BULK AT MOST 1048576: true; the input reads as it did. -/
def imageCheckUptoRow : OpenClaim := { program := "yteonkfdmkgjpaaa", sum := "58535a6deda44aa30ce7f2ce01e6fd16b582c0890a08615bab98e12dbeb27e58", func := "backstep/backsteplaw23.ImageCheck", spec := "imageCheck", apart := false, narrowed := true }
def ImageCheckUptoSaid : Prop := imageCheckUptoRow.holds Try.pinned (OpenSpec.upto imageCheckSpec)

/-- 'backsteplaw23.ImageTwice', WHERE WHAT IT READS IS OF BULK AT MOST 1048576: true; the input reads as it did. -/
def imageTwiceUptoRow : OpenClaim := { program := "yteonkfdmkgjpaaa", sum := "58535a6deda44aa30ce7f2ce01e6fd16b582c0890a08615bab98e12dbeb27e58", func := "backstep/backsteplaw23.ImageTwice", spec := "imageTwice", apart := false, narrowed := true }
def ImageTwiceUptoSaid : Prop := imageTwiceUptoRow.holds Try.pinned (OpenSpec.upto imageTwiceSpec)

/-- 'backsteplaw23.ImageJoin', WHERE WHAT IT READS IS OF BULK AT MOST 1048576: true; the input reads as it did. -/
def imageJoinUptoRow : OpenClaim := { program := "yteonkfdmkgjpaaa", sum := "58535a6deda44aa30ce7f2ce01e6fd16b582c0890a08615bab98e12dbeb27e58", func := "backstep/backsteplaw23.ImageJoin", spec := "imageJoin", apart := false, narrowed := true }
def ImageJoinUptoSaid : Prop := imageJoinUptoRow.holds Try.pinned (OpenSpec.upto imageJoinSpec)

/-- 'backsteplaw23.ImagePairs', WHERE WHAT IT READS IS OF BULK AT MOST 1048576: true; the input reads as it did. -/
def imagePairsUptoRow : OpenClaim := { program := "yteonkfdmkgjpaaa", sum := "58535a6deda44aa30ce7f2ce01e6fd16b582c0890a08615bab98e12dbeb27e58", func := "backstep/backsteplaw23.ImagePairs", spec := "imagePairs", apart := false, narrowed := true }
def ImagePairsUptoSaid : Prop := imagePairsUptoRow.holds Try.pinned (OpenSpec.upto imagePairsSpec)

/-- 'backsteplaw23.ImageSpoilt', WHERE WHAT IT READS IS OF BULK AT MOST 1048576: true; the input reads as it did. -/
def imageSpoiltUptoRow : OpenClaim := { program := "yteonkfdmkgjpaaa", sum := "58535a6deda44aa30ce7f2ce01e6fd16b582c0890a08615bab98e12dbeb27e58", func := "backstep/backsteplaw23.ImageSpoilt", spec := "imageSpoilt", apart := false, narrowed := true }
def ImageSpoiltUptoSaid : Prop := imageSpoiltUptoRow.holds Try.pinned (OpenSpec.upto imageSpoiltSpec)

/-- 'backsteplaw23.ImageMirror', WHERE WHAT IT READS IS OF BULK AT MOST 1048576: true; the input reads as it did. -/
def imageMirrorUptoRow : OpenClaim := { program := "yteonkfdmkgjpaaa", sum := "58535a6deda44aa30ce7f2ce01e6fd16b582c0890a08615bab98e12dbeb27e58", func := "backstep/backsteplaw23.ImageMirror", spec := "imageMirror", apart := false, narrowed := true }
def ImageMirrorUptoSaid : Prop := imageMirrorUptoRow.holds Try.pinned (OpenSpec.upto imageMirrorSpec)

/-- 'backsteplaw23.ImageNested', WHERE WHAT IT READS IS OF BULK AT MOST 1048576: true; the input reads as it did. -/
def imageNestedUptoRow : OpenClaim := { program := "yteonkfdmkgjpaaa", sum := "58535a6deda44aa30ce7f2ce01e6fd16b582c0890a08615bab98e12dbeb27e58", func := "backstep/backsteplaw23.ImageNested", spec := "imageNested", apart := false, narrowed := true }
def ImageNestedUptoSaid : Prop := imageNestedUptoRow.holds Try.pinned (OpenSpec.upto imageNestedSpec)

/-- 'backsteplaw23.ImagePartner', WHERE WHAT IT READS IS OF BULK AT MOST 1048576: true; the input reads as it did. -/
def imagePartnerUptoRow : OpenClaim := { program := "yteonkfdmkgjpaaa", sum := "58535a6deda44aa30ce7f2ce01e6fd16b582c0890a08615bab98e12dbeb27e58", func := "backstep/backsteplaw23.ImagePartner", spec := "imagePartner", unfollowed := true, recurses := true, apart := false, narrowed := true }
def ImagePartnerUptoSaid : Prop := imagePartnerUptoRow.holds Try.pinned (OpenSpec.upto imagePartnerSpec)

/-- 'backsteplaw32.PeepholeCancels', WHERE WHAT IT READS IS OF BULK AT MOST 1048576: true; the input reads as it did. -/
def peepholeCancelsUptoRow : OpenClaim := { program := "yteonkfdmkgjpaaa", sum := "58535a6deda44aa30ce7f2ce01e6fd16b582c0890a08615bab98e12dbeb27e58", func := "backstep/backsteplaw32.PeepholeCancels", spec := "peepholeCancels", apart := false, narrowed := true }
def PeepholeCancelsUptoSaid : Prop := peepholeCancelsUptoRow.holds Try.pinned (OpenSpec.upto peepholeCancelsSpec)

/-- 'backsteplaw32.PeepholeVanishes', WHERE WHAT IT READS IS OF BULK AT MOST 1048576: true; the input reads as it did. -/
def peepholeVanishesUptoRow : OpenClaim := { program := "yteonkfdmkgjpaaa", sum := "58535a6deda44aa30ce7f2ce01e6fd16b582c0890a08615bab98e12dbeb27e58", func := "backstep/backsteplaw32.PeepholeVanishes", spec := "peepholeVanishes", apart := false, narrowed := true }
def PeepholeVanishesUptoSaid : Prop := peepholeVanishesUptoRow.holds Try.pinned (OpenSpec.upto peepholeVanishesSpec)

/-- 'backsteplaw32.PeepholeOptimize', WHERE WHAT IT READS IS OF BULK AT MOST 1048576: true; the input reads as it did. -/
def peepholeOptimizeUptoRow : OpenClaim := { program := "yteonkfdmkgjpaaa", sum := "58535a6deda44aa30ce7f2ce01e6fd16b582c0890a08615bab98e12dbeb27e58", func := "backstep/backsteplaw32.PeepholeOptimize", spec := "peepholeOptimize", apart := false, narrowed := true }
def PeepholeOptimizeUptoSaid : Prop := peepholeOptimizeUptoRow.holds Try.pinned (OpenSpec.upto peepholeOptimizeSpec)

/-- 'backsteplaw32.PeepholeNormal', WHERE WHAT IT READS IS OF BULK AT MOST 1048576: true; the input reads as it did. -/
def peepholeNormalUptoRow : OpenClaim := { program := "yteonkfdmkgjpaaa", sum := "58535a6deda44aa30ce7f2ce01e6fd16b582c0890a08615bab98e12dbeb27e58", func := "backstep/backsteplaw32.PeepholeNormal", spec := "peepholeNormal", apart := false, narrowed := true }
def PeepholeNormalUptoSaid : Prop := peepholeNormalUptoRow.holds Try.pinned (OpenSpec.upto peepholeNormalSpec)

/-- 'backsteplaw32.PeepholeKeeps', WHERE WHAT IT READS IS OF BULK AT MOST 1048576: true; the input reads as it did. -/
def peepholeKeepsUptoRow : OpenClaim := { program := "yteonkfdmkgjpaaa", sum := "58535a6deda44aa30ce7f2ce01e6fd16b582c0890a08615bab98e12dbeb27e58", func := "backstep/backsteplaw32.PeepholeKeeps", spec := "peepholeKeeps", unfollowed := true, recurses := true, apart := false, narrowed := true }
def PeepholeKeepsUptoSaid : Prop := peepholeKeepsUptoRow.holds Try.pinned (OpenSpec.upto peepholeKeepsSpec)

/-- 'backsteplaw32.PeepholeInverse', WHERE WHAT IT READS IS OF BULK AT MOST 1048576: true; the input reads as it did. -/
def peepholeInverseUptoRow : OpenClaim := { program := "yteonkfdmkgjpaaa", sum := "58535a6deda44aa30ce7f2ce01e6fd16b582c0890a08615bab98e12dbeb27e58", func := "backstep/backsteplaw32.PeepholeInverse", spec := "peepholeInverse", apart := false, narrowed := true }
def PeepholeInverseUptoSaid : Prop := peepholeInverseUptoRow.holds Try.pinned (OpenSpec.upto peepholeInverseSpec)

end Rows
end Go.Proofs.Yteonkfdmkgjpaaa
