/-
  No cell of these rows narrows 'for every input' (looked for: loops, veiled, ifaces, maps, wideKeys, modest, calm, conditions, laid).
  DERIVED. THE GIVEN ROWS OF THIS SEAT. 10 by the template 'for every input the law returns true; each argument reads behind the call as it read before'; 0 by the template 'total and deterministic' (their statements: YtfebkccdcbkdiaaTotals.lean).
  GIVEN WITH THE SEED: the statements are not yours to turn. If you find one false, say at which input.
  Laid BY PROGRAM, IN A SANDBOX (cutbox-rows.mjs): the forced cells as the released guide's own fill.sh prints them over the translation b672047747cbb913… (all of the seat's roots in one cut). By AI agents, Wed Nov 11 2026. No macro, syntax, notation, axiom, sorry.
-/
import Derived.Test.YtfebkccdcbkdiaaChecked
import GoSem.Claim
import GoSem.ClaimJoined
import GoSem.ClaimMapViews
import Derived.JoinedTies
import Derived.KernelRfl
namespace Go.Proofs.Ytfebkccdcbkdiaa
/- THE CELL 'sum', in the pinned program and in every row, IS THE sha256 OF THE DUMP (.gsa) THAT YtfebkccdcbkdiaaProg.lean LOADS. Nothing in Lean hashes anything: it is a label: what it is worth is what the hold of that sum in a sandbox is worth. -/
noncomputable def Try.pinned : Pinned := { name := "ytfebkccdcbkdiaa", sum := "b672047747cbb913f82b7a69d913449c8792be0d8f9fd34ca11cf9991c34aff3", checked := Try.checked }
namespace Rows
def none {H : Type} : Left H := { results := [], args := [] }

/-- 'systolelaw01.PolyPoints': WHATEVER THE INPUT: true; the input reads as it did. -/
def polyPointsSpec : ChangeSpec := { name := "polyPoints", fn := fun _ => fun
  | [d1, d2] => { results := [.lit (.bool true)], args := [d1, d2] }
  | _ => none }
def polyPointsRow : OpenClaim := { program := "ytfebkccdcbkdiaa", sum := "b672047747cbb913f82b7a69d913449c8792be0d8f9fd34ca11cf9991c34aff3", func := "systole/systolelaw01.PolyPoints", spec := "polyPoints", unfollowed := true, recurses := true, apart := false }
def PolyPointsSaid : Prop := polyPointsRow.holds Try.pinned (OpenSpec.ofChange polyPointsSpec)

/-- ITS FALSE NEIGHBOUR: 'it returns false'. Refute it at one input. -/
def polyPointsWrong : ChangeSpec := { name := "polyPoints", fn := fun _ => fun
  | [d1, d2] => { results := [.lit (.bool false)], args := [d1, d2] }
  | _ => none }
def PolyPointsWrongFalsely : Prop := polyPointsRow.holds Try.pinned (OpenSpec.ofChange polyPointsWrong)

/-- 'systolelaw01.PolyLists': WHATEVER THE INPUT: true; the input reads as it did. -/
def polyListsSpec : ChangeSpec := { name := "polyLists", fn := fun _ => fun
  | [d1, d2] => { results := [.lit (.bool true)], args := [d1, d2] }
  | _ => none }
def polyListsRow : OpenClaim := { program := "ytfebkccdcbkdiaa", sum := "b672047747cbb913f82b7a69d913449c8792be0d8f9fd34ca11cf9991c34aff3", func := "systole/systolelaw01.PolyLists", spec := "polyLists", unfollowed := true, recurses := true, apart := false }
def PolyListsSaid : Prop := polyListsRow.holds Try.pinned (OpenSpec.ofChange polyListsSpec)

/-- ITS FALSE NEIGHBOUR: 'it returns false'. Refute it at one input. -/
def polyListsWrong : ChangeSpec := { name := "polyLists", fn := fun _ => fun
  | [d1, d2] => { results := [.lit (.bool false)], args := [d1, d2] }
  | _ => none }
def PolyListsWrongFalsely : Prop := polyListsRow.holds Try.pinned (OpenSpec.ofChange polyListsWrong)

/-- 'systolelaw01.PolyBoxes': WHATEVER THE INPUT: true; the input reads as it did. -/
def polyBoxesSpec : ChangeSpec := { name := "polyBoxes", fn := fun _ => fun
  | [d] => { results := [.lit (.bool true)], args := [d] }
  | _ => none }
def polyBoxesRow : OpenClaim := { program := "ytfebkccdcbkdiaa", sum := "b672047747cbb913f82b7a69d913449c8792be0d8f9fd34ca11cf9991c34aff3", func := "systole/systolelaw01.PolyBoxes", spec := "polyBoxes", unfollowed := true, recurses := true, apart := false }
def PolyBoxesSaid : Prop := polyBoxesRow.holds Try.pinned (OpenSpec.ofChange polyBoxesSpec)

/-- ITS FALSE NEIGHBOUR: 'it returns false'. Refute it at one input. -/
def polyBoxesWrong : ChangeSpec := { name := "polyBoxes", fn := fun _ => fun
  | [d] => { results := [.lit (.bool false)], args := [d] }
  | _ => none }
def PolyBoxesWrongFalsely : Prop := polyBoxesRow.holds Try.pinned (OpenSpec.ofChange polyBoxesWrong)

/-- 'systolelaw01.PolyForms': WHATEVER THE INPUT: true; the input reads as it did. -/
def polyFormsSpec : ChangeSpec := { name := "polyForms", fn := fun _ => fun
  | [d1, d2] => { results := [.lit (.bool true)], args := [d1, d2] }
  | _ => none }
def polyFormsRow : OpenClaim := { program := "ytfebkccdcbkdiaa", sum := "b672047747cbb913f82b7a69d913449c8792be0d8f9fd34ca11cf9991c34aff3", func := "systole/systolelaw01.PolyForms", spec := "polyForms", unfollowed := true, recurses := true, apart := false }
def PolyFormsSaid : Prop := polyFormsRow.holds Try.pinned (OpenSpec.ofChange polyFormsSpec)

/-- ITS FALSE NEIGHBOUR: 'it returns false'. Refute it at one input. -/
def polyFormsWrong : ChangeSpec := { name := "polyForms", fn := fun _ => fun
  | [d1, d2] => { results := [.lit (.bool false)], args := [d1, d2] }
  | _ => none }
def PolyFormsWrongFalsely : Prop := polyFormsRow.holds Try.pinned (OpenSpec.ofChange polyFormsWrong)

/-- 'systolelaw01.PolyTurns': WHATEVER THE INPUT: true; the input reads as it did. -/
def polyTurnsSpec : ChangeSpec := { name := "polyTurns", fn := fun _ => fun
  | [d1, d2, d3] => { results := [.lit (.bool true)], args := [d1, d2, d3] }
  | _ => none }
def polyTurnsRow : OpenClaim := { program := "ytfebkccdcbkdiaa", sum := "b672047747cbb913f82b7a69d913449c8792be0d8f9fd34ca11cf9991c34aff3", func := "systole/systolelaw01.PolyTurns", spec := "polyTurns", unfollowed := true, recurses := true, apart := false }
def PolyTurnsSaid : Prop := polyTurnsRow.holds Try.pinned (OpenSpec.ofChange polyTurnsSpec)

/-- ITS FALSE NEIGHBOUR: 'it returns false'. Refute it at one input. -/
def polyTurnsWrong : ChangeSpec := { name := "polyTurns", fn := fun _ => fun
  | [d1, d2, d3] => { results := [.lit (.bool false)], args := [d1, d2, d3] }
  | _ => none }
def PolyTurnsWrongFalsely : Prop := polyTurnsRow.holds Try.pinned (OpenSpec.ofChange polyTurnsWrong)

/-- 'systolelaw01.PolyValues': WHATEVER THE INPUT: true; the input reads as it did. -/
def polyValuesSpec : ChangeSpec := { name := "polyValues", fn := fun _ => fun
  | [d1, d2, d3] => { results := [.lit (.bool true)], args := [d1, d2, d3] }
  | _ => none }
def polyValuesRow : OpenClaim := { program := "ytfebkccdcbkdiaa", sum := "b672047747cbb913f82b7a69d913449c8792be0d8f9fd34ca11cf9991c34aff3", func := "systole/systolelaw01.PolyValues", spec := "polyValues", unfollowed := true, recurses := true, apart := false }
def PolyValuesSaid : Prop := polyValuesRow.holds Try.pinned (OpenSpec.ofChange polyValuesSpec)

/-- ITS FALSE NEIGHBOUR: 'it returns false'. Refute it at one input. -/
def polyValuesWrong : ChangeSpec := { name := "polyValues", fn := fun _ => fun
  | [d1, d2, d3] => { results := [.lit (.bool false)], args := [d1, d2, d3] }
  | _ => none }
def PolyValuesWrongFalsely : Prop := polyValuesRow.holds Try.pinned (OpenSpec.ofChange polyValuesWrong)

/-- 'systolelaw01.PolyMeets': WHATEVER THE INPUT: true; the input reads as it did. -/
def polyMeetsSpec : ChangeSpec := { name := "polyMeets", fn := fun _ => fun
  | [d1, d2, d3] => { results := [.lit (.bool true)], args := [d1, d2, d3] }
  | _ => none }
def polyMeetsRow : OpenClaim := { program := "ytfebkccdcbkdiaa", sum := "b672047747cbb913f82b7a69d913449c8792be0d8f9fd34ca11cf9991c34aff3", func := "systole/systolelaw01.PolyMeets", spec := "polyMeets", unfollowed := true, recurses := true, apart := false }
def PolyMeetsSaid : Prop := polyMeetsRow.holds Try.pinned (OpenSpec.ofChange polyMeetsSpec)

/-- ITS FALSE NEIGHBOUR: 'it returns false'. Refute it at one input. -/
def polyMeetsWrong : ChangeSpec := { name := "polyMeets", fn := fun _ => fun
  | [d1, d2, d3] => { results := [.lit (.bool false)], args := [d1, d2, d3] }
  | _ => none }
def PolyMeetsWrongFalsely : Prop := polyMeetsRow.holds Try.pinned (OpenSpec.ofChange polyMeetsWrong)

/-- 'systolelaw01.PolyRefutes': WHATEVER THE INPUT: true; the input reads as it did. -/
def polyRefutesSpec : ChangeSpec := { name := "polyRefutes", fn := fun _ => fun
  | [d1, d2, d3] => { results := [.lit (.bool true)], args := [d1, d2, d3] }
  | _ => none }
def polyRefutesRow : OpenClaim := { program := "ytfebkccdcbkdiaa", sum := "b672047747cbb913f82b7a69d913449c8792be0d8f9fd34ca11cf9991c34aff3", func := "systole/systolelaw01.PolyRefutes", spec := "polyRefutes", unfollowed := true, recurses := true, apart := false }
def PolyRefutesSaid : Prop := polyRefutesRow.holds Try.pinned (OpenSpec.ofChange polyRefutesSpec)

/-- ITS FALSE NEIGHBOUR: 'it returns false'. Refute it at one input. -/
def polyRefutesWrong : ChangeSpec := { name := "polyRefutes", fn := fun _ => fun
  | [d1, d2, d3] => { results := [.lit (.bool false)], args := [d1, d2, d3] }
  | _ => none }
def PolyRefutesWrongFalsely : Prop := polyRefutesRow.holds Try.pinned (OpenSpec.ofChange polyRefutesWrong)

/-- 'systolelaw01.PolyBoth': WHATEVER THE INPUT: true; the input reads as it did. -/
def polyBothSpec : ChangeSpec := { name := "polyBoth", fn := fun _ => fun
  | [d1, d2, d3] => { results := [.lit (.bool true)], args := [d1, d2, d3] }
  | _ => none }
def polyBothRow : OpenClaim := { program := "ytfebkccdcbkdiaa", sum := "b672047747cbb913f82b7a69d913449c8792be0d8f9fd34ca11cf9991c34aff3", func := "systole/systolelaw01.PolyBoth", spec := "polyBoth", unfollowed := true, recurses := true, apart := false }
def PolyBothSaid : Prop := polyBothRow.holds Try.pinned (OpenSpec.ofChange polyBothSpec)

/-- ITS FALSE NEIGHBOUR: 'it returns false'. Refute it at one input. -/
def polyBothWrong : ChangeSpec := { name := "polyBoth", fn := fun _ => fun
  | [d1, d2, d3] => { results := [.lit (.bool false)], args := [d1, d2, d3] }
  | _ => none }
def PolyBothWrongFalsely : Prop := polyBothRow.holds Try.pinned (OpenSpec.ofChange polyBothWrong)

/-- 'systolelaw01.PolyProofs': WHATEVER THE INPUT: true; the input reads as it did. -/
def polyProofsSpec : ChangeSpec := { name := "polyProofs", fn := fun _ => fun
  | [d] => { results := [.lit (.bool true)], args := [d] }
  | _ => none }
def polyProofsRow : OpenClaim := { program := "ytfebkccdcbkdiaa", sum := "b672047747cbb913f82b7a69d913449c8792be0d8f9fd34ca11cf9991c34aff3", func := "systole/systolelaw01.PolyProofs", spec := "polyProofs", unfollowed := true, recurses := true, apart := false }
def PolyProofsSaid : Prop := polyProofsRow.holds Try.pinned (OpenSpec.ofChange polyProofsSpec)

/-- ITS FALSE NEIGHBOUR: 'it returns false'. Refute it at one input. -/
def polyProofsWrong : ChangeSpec := { name := "polyProofs", fn := fun _ => fun
  | [d] => { results := [.lit (.bool false)], args := [d] }
  | _ => none }
def PolyProofsWrongFalsely : Prop := polyProofsRow.holds Try.pinned (OpenSpec.ofChange polyProofsWrong)

/- THE SECOND FORM. 'bulk': how many values and letters a reading holds, each counted each time it is reached (what is shared counts as often as it is met; a slice's spare places count too). A statement '..UptoSaid' is the law's where the arguments, and the package variables that the reading takes, are together of bulk at most 1048576: NARROWER than '..Said'. Prove '..Said' where nothing that the law and all that it calls make is longer than what came in: it says more and counts as full. Else prove '..UptoSaid'. A law counts once. -/
mutual
def uptoBulk {H : Type} : DataW H → Nat
  | .lit (.string bytes) => bytes.length + 1
  | .lit _ => 1
  | .nil => 1
  | .ptr d => uptoBulk d + 1
  | .slice elems spare => uptoBulkAll elems + uptoBulkAll spare + 1
  | .agg parts => uptoBulkAll parts + 1
  | .iface _ d => uptoBulk d + 1
  | .map entries => uptoBulkEntries entries + 1
  | .held _ => 1
def uptoBulkAll {H : Type} : List (DataW H) → Nat
  | [] => 0
  | d :: r => uptoBulk d + uptoBulkAll r
def uptoBulkEntries {H : Type} : List (Lit × DataW H) → Nat
  | [] => 0
  | x :: r => uptoBulkEntry x + uptoBulkEntries r
def uptoBulkEntry {H : Type} : Lit × DataW H → Nat
  | (.string bytes, d) => bytes.length + uptoBulk d + 1
  | (_, d) => uptoBulk d + 1
 end
def uptoSmall : (H : Type) → List (DataW H) → Bool := fun _ ds => decide (uptoBulkAll ds ≤ 1048576)
def OpenSpec.upto (s : _root_.Go.ChangeSpec) : _root_.Go.OpenSpec := { _root_.Go.OpenSpec.ofChange s with cond := some uptoSmall }

/-- 'systolelaw01.PolyPoints', WHERE WHAT IT READS IS OF BULK AT MOST 1048576: true; the input reads as it did. -/
def polyPointsUptoRow : OpenClaim := { program := "ytfebkccdcbkdiaa", sum := "b672047747cbb913f82b7a69d913449c8792be0d8f9fd34ca11cf9991c34aff3", func := "systole/systolelaw01.PolyPoints", spec := "polyPoints", unfollowed := true, recurses := true, apart := false, narrowed := true }
def PolyPointsUptoSaid : Prop := polyPointsUptoRow.holds Try.pinned (OpenSpec.upto polyPointsSpec)

/-- 'systolelaw01.PolyLists', WHERE WHAT IT READS IS OF BULK AT MOST 1048576: true; the input reads as it did. -/
def polyListsUptoRow : OpenClaim := { program := "ytfebkccdcbkdiaa", sum := "b672047747cbb913f82b7a69d913449c8792be0d8f9fd34ca11cf9991c34aff3", func := "systole/systolelaw01.PolyLists", spec := "polyLists", unfollowed := true, recurses := true, apart := false, narrowed := true }
def PolyListsUptoSaid : Prop := polyListsUptoRow.holds Try.pinned (OpenSpec.upto polyListsSpec)

/-- 'systolelaw01.PolyBoxes', WHERE WHAT IT READS IS OF BULK AT MOST 1048576: true; the input reads as it did. -/
def polyBoxesUptoRow : OpenClaim := { program := "ytfebkccdcbkdiaa", sum := "b672047747cbb913f82b7a69d913449c8792be0d8f9fd34ca11cf9991c34aff3", func := "systole/systolelaw01.PolyBoxes", spec := "polyBoxes", unfollowed := true, recurses := true, apart := false, narrowed := true }
def PolyBoxesUptoSaid : Prop := polyBoxesUptoRow.holds Try.pinned (OpenSpec.upto polyBoxesSpec)

/-- 'systolelaw01.PolyForms', WHERE WHAT IT READS IS OF BULK AT MOST 1048576: true; the input reads as it did. -/
def polyFormsUptoRow : OpenClaim := { program := "ytfebkccdcbkdiaa", sum := "b672047747cbb913f82b7a69d913449c8792be0d8f9fd34ca11cf9991c34aff3", func := "systole/systolelaw01.PolyForms", spec := "polyForms", unfollowed := true, recurses := true, apart := false, narrowed := true }
def PolyFormsUptoSaid : Prop := polyFormsUptoRow.holds Try.pinned (OpenSpec.upto polyFormsSpec)

/-- 'systolelaw01.PolyTurns', WHERE WHAT IT READS IS OF BULK AT MOST 1048576: true; the input reads as it did. -/
def polyTurnsUptoRow : OpenClaim := { program := "ytfebkccdcbkdiaa", sum := "b672047747cbb913f82b7a69d913449c8792be0d8f9fd34ca11cf9991c34aff3", func := "systole/systolelaw01.PolyTurns", spec := "polyTurns", unfollowed := true, recurses := true, apart := false, narrowed := true }
def PolyTurnsUptoSaid : Prop := polyTurnsUptoRow.holds Try.pinned (OpenSpec.upto polyTurnsSpec)

/-- 'systolelaw01.PolyValues', WHERE WHAT IT READS IS OF BULK AT MOST 1048576: true; the input reads as it did. -/
def polyValuesUptoRow : OpenClaim := { program := "ytfebkccdcbkdiaa", sum := "b672047747cbb913f82b7a69d913449c8792be0d8f9fd34ca11cf9991c34aff3", func := "systole/systolelaw01.PolyValues", spec := "polyValues", unfollowed := true, recurses := true, apart := false, narrowed := true }
def PolyValuesUptoSaid : Prop := polyValuesUptoRow.holds Try.pinned (OpenSpec.upto polyValuesSpec)

/-- 'systolelaw01.PolyMeets', WHERE WHAT IT READS IS OF BULK AT MOST 1048576: true; the input reads as it did. -/
def polyMeetsUptoRow : OpenClaim := { program := "ytfebkccdcbkdiaa", sum := "b672047747cbb913f82b7a69d913449c8792be0d8f9fd34ca11cf9991c34aff3", func := "systole/systolelaw01.PolyMeets", spec := "polyMeets", unfollowed := true, recurses := true, apart := false, narrowed := true }
def PolyMeetsUptoSaid : Prop := polyMeetsUptoRow.holds Try.pinned (OpenSpec.upto polyMeetsSpec)

/-- 'systolelaw01.PolyRefutes', WHERE WHAT IT READS IS OF BULK AT MOST 1048576: true; the input reads as it did. -/
def polyRefutesUptoRow : OpenClaim := { program := "ytfebkccdcbkdiaa", sum := "b672047747cbb913f82b7a69d913449c8792be0d8f9fd34ca11cf9991c34aff3", func := "systole/systolelaw01.PolyRefutes", spec := "polyRefutes", unfollowed := true, recurses := true, apart := false, narrowed := true }
def PolyRefutesUptoSaid : Prop := polyRefutesUptoRow.holds Try.pinned (OpenSpec.upto polyRefutesSpec)

/-- 'systolelaw01.PolyBoth', WHERE WHAT IT READS IS OF BULK AT MOST 1048576: true; the input reads as it did. -/
def polyBothUptoRow : OpenClaim := { program := "ytfebkccdcbkdiaa", sum := "b672047747cbb913f82b7a69d913449c8792be0d8f9fd34ca11cf9991c34aff3", func := "systole/systolelaw01.PolyBoth", spec := "polyBoth", unfollowed := true, recurses := true, apart := false, narrowed := true }
def PolyBothUptoSaid : Prop := polyBothUptoRow.holds Try.pinned (OpenSpec.upto polyBothSpec)

/-- 'systolelaw01.PolyProofs', WHERE WHAT IT READS IS OF BULK AT MOST 1048576: true; the input reads as it did. -/
def polyProofsUptoRow : OpenClaim := { program := "ytfebkccdcbkdiaa", sum := "b672047747cbb913f82b7a69d913449c8792be0d8f9fd34ca11cf9991c34aff3", func := "systole/systolelaw01.PolyProofs", spec := "polyProofs", unfollowed := true, recurses := true, apart := false, narrowed := true }
def PolyProofsUptoSaid : Prop := polyProofsUptoRow.holds Try.pinned (OpenSpec.upto polyProofsSpec)

end Rows
end Go.Proofs.Ytfebkccdcbkdiaa
