/-
  No cell of these rows narrows 'for every input' (looked for: loops, veiled, ifaces, maps, wideKeys, modest, calm, conditions, laid).
  DERIVED. THE GIVEN ROWS OF THIS SEAT. 10 by the template 'for every input the law returns true; each argument reads behind the call as it read before'; 0 by the template 'total and deterministic' (their statements: YtadmnlkgefbhcaaTotals.lean).
  GIVEN WITH THE SEED: the statements are not yours to turn. If you find one false, say at which input.
  Laid BY PROGRAM, IN A SANDBOX (cutbox-rows.mjs): the forced cells as the released guide's own fill.sh prints them over the translation 0a770b9249f918ea… (all of the seat's roots in one cut). By AI agents, Wed Nov 11 2026. No macro, syntax, notation, axiom, sorry.
-/
import Derived.Test.YtadmnlkgefbhcaaChecked
import GoSem.Claim
import GoSem.ClaimJoined
import GoSem.ClaimMapViews
import Derived.JoinedTies
import Derived.KernelRfl
namespace Go.Proofs.Ytadmnlkgefbhcaa
/- THE CELL 'sum', in the pinned program and in every row, IS THE sha256 OF THE DUMP (.gsa) THAT YtadmnlkgefbhcaaProg.lean LOADS. Nothing in Lean hashes anything: it is a label: what it is worth is what the hold of that sum in a sandbox is worth. -/
noncomputable def Try.pinned : Pinned := { name := "ytadmnlkgefbhcaa", sum := "0a770b9249f918eaf30a41726bcb9c2686516593536d1ead9a7b7d07cb46d9ff", checked := Try.checked }
namespace Rows
def none {H : Type} : Left H := { results := [], args := [] }

/-- 'systolelaw02.RecTurns': WHATEVER THE INPUT: true; the input reads as it did. -/
def recTurnsSpec : ChangeSpec := { name := "recTurns", fn := fun _ => fun
  | [d1, d2] => { results := [.lit (.bool true)], args := [d1, d2] }
  | _ => none }
def recTurnsRow : OpenClaim := { program := "ytadmnlkgefbhcaa", sum := "0a770b9249f918eaf30a41726bcb9c2686516593536d1ead9a7b7d07cb46d9ff", func := "systole/systolelaw02.RecTurns", spec := "recTurns", unfollowed := true, recurses := true, plainKeys := false, apart := false }
def RecTurnsSaid : Prop := recTurnsRow.holds Try.pinned (OpenSpec.ofChange recTurnsSpec)

/-- ITS FALSE NEIGHBOUR: 'it returns false'. Refute it at one input. -/
def recTurnsWrong : ChangeSpec := { name := "recTurns", fn := fun _ => fun
  | [d1, d2] => { results := [.lit (.bool false)], args := [d1, d2] }
  | _ => none }
def RecTurnsWrongFalsely : Prop := recTurnsRow.holds Try.pinned (OpenSpec.ofChange recTurnsWrong)

/-- 'systolelaw02.RecFirsts': WHATEVER THE INPUT: true; the input reads as it did. -/
def recFirstsSpec : ChangeSpec := { name := "recFirsts", fn := fun _ => fun
  | [d1, d2] => { results := [.lit (.bool true)], args := [d1, d2] }
  | _ => none }
def recFirstsRow : OpenClaim := { program := "ytadmnlkgefbhcaa", sum := "0a770b9249f918eaf30a41726bcb9c2686516593536d1ead9a7b7d07cb46d9ff", func := "systole/systolelaw02.RecFirsts", spec := "recFirsts", unfollowed := true, recurses := true, plainKeys := false, apart := false }
def RecFirstsSaid : Prop := recFirstsRow.holds Try.pinned (OpenSpec.ofChange recFirstsSpec)

/-- ITS FALSE NEIGHBOUR: 'it returns false'. Refute it at one input. -/
def recFirstsWrong : ChangeSpec := { name := "recFirsts", fn := fun _ => fun
  | [d1, d2] => { results := [.lit (.bool false)], args := [d1, d2] }
  | _ => none }
def RecFirstsWrongFalsely : Prop := recFirstsRow.holds Try.pinned (OpenSpec.ofChange recFirstsWrong)

/-- 'systolelaw02.RecChains': WHATEVER THE INPUT: true; the input reads as it did. -/
def recChainsSpec : ChangeSpec := { name := "recChains", fn := fun _ => fun
  | [d1, d2] => { results := [.lit (.bool true)], args := [d1, d2] }
  | _ => none }
def recChainsRow : OpenClaim := { program := "ytadmnlkgefbhcaa", sum := "0a770b9249f918eaf30a41726bcb9c2686516593536d1ead9a7b7d07cb46d9ff", func := "systole/systolelaw02.RecChains", spec := "recChains", unfollowed := true, recurses := true, plainKeys := false, apart := false }
def RecChainsSaid : Prop := recChainsRow.holds Try.pinned (OpenSpec.ofChange recChainsSpec)

/-- ITS FALSE NEIGHBOUR: 'it returns false'. Refute it at one input. -/
def recChainsWrong : ChangeSpec := { name := "recChains", fn := fun _ => fun
  | [d1, d2] => { results := [.lit (.bool false)], args := [d1, d2] }
  | _ => none }
def RecChainsWrongFalsely : Prop := recChainsRow.holds Try.pinned (OpenSpec.ofChange recChainsWrong)

/-- 'systolelaw02.RecLevels': WHATEVER THE INPUT: true; the input reads as it did. -/
def recLevelsSpec : ChangeSpec := { name := "recLevels", fn := fun _ => fun
  | [d] => { results := [.lit (.bool true)], args := [d] }
  | _ => none }
def recLevelsRow : OpenClaim := { program := "ytadmnlkgefbhcaa", sum := "0a770b9249f918eaf30a41726bcb9c2686516593536d1ead9a7b7d07cb46d9ff", func := "systole/systolelaw02.RecLevels", spec := "recLevels", unfollowed := true, recurses := true, plainKeys := false, apart := false }
def RecLevelsSaid : Prop := recLevelsRow.holds Try.pinned (OpenSpec.ofChange recLevelsSpec)

/-- ITS FALSE NEIGHBOUR: 'it returns false'. Refute it at one input. -/
def recLevelsWrong : ChangeSpec := { name := "recLevels", fn := fun _ => fun
  | [d] => { results := [.lit (.bool false)], args := [d] }
  | _ => none }
def RecLevelsWrongFalsely : Prop := recLevelsRow.holds Try.pinned (OpenSpec.ofChange recLevelsWrong)

/-- 'systolelaw02.RecValues': WHATEVER THE INPUT: true; the input reads as it did. -/
def recValuesSpec : ChangeSpec := { name := "recValues", fn := fun _ => fun
  | [d] => { results := [.lit (.bool true)], args := [d] }
  | _ => none }
def recValuesRow : OpenClaim := { program := "ytadmnlkgefbhcaa", sum := "0a770b9249f918eaf30a41726bcb9c2686516593536d1ead9a7b7d07cb46d9ff", func := "systole/systolelaw02.RecValues", spec := "recValues", unfollowed := true, recurses := true, plainKeys := false, apart := false }
def RecValuesSaid : Prop := recValuesRow.holds Try.pinned (OpenSpec.ofChange recValuesSpec)

/-- ITS FALSE NEIGHBOUR: 'it returns false'. Refute it at one input. -/
def recValuesWrong : ChangeSpec := { name := "recValues", fn := fun _ => fun
  | [d] => { results := [.lit (.bool false)], args := [d] }
  | _ => none }
def RecValuesWrongFalsely : Prop := recValuesRow.holds Try.pinned (OpenSpec.ofChange recValuesWrong)

/-- 'systolelaw02.RecReads': WHATEVER THE INPUT: true; the input reads as it did. -/
def recReadsSpec : ChangeSpec := { name := "recReads", fn := fun _ => fun
  | [d] => { results := [.lit (.bool true)], args := [d] }
  | _ => none }
def recReadsRow : OpenClaim := { program := "ytadmnlkgefbhcaa", sum := "0a770b9249f918eaf30a41726bcb9c2686516593536d1ead9a7b7d07cb46d9ff", func := "systole/systolelaw02.RecReads", spec := "recReads", unfollowed := true, recurses := true, plainKeys := false, apart := false }
def RecReadsSaid : Prop := recReadsRow.holds Try.pinned (OpenSpec.ofChange recReadsSpec)

/-- ITS FALSE NEIGHBOUR: 'it returns false'. Refute it at one input. -/
def recReadsWrong : ChangeSpec := { name := "recReads", fn := fun _ => fun
  | [d] => { results := [.lit (.bool false)], args := [d] }
  | _ => none }
def RecReadsWrongFalsely : Prop := recReadsRow.holds Try.pinned (OpenSpec.ofChange recReadsWrong)

/-- 'systolelaw02.RecGrows': WHATEVER THE INPUT: true; the input reads as it did. -/
def recGrowsSpec : ChangeSpec := { name := "recGrows", fn := fun _ => fun
  | [d] => { results := [.lit (.bool true)], args := [d] }
  | _ => none }
def recGrowsRow : OpenClaim := { program := "ytadmnlkgefbhcaa", sum := "0a770b9249f918eaf30a41726bcb9c2686516593536d1ead9a7b7d07cb46d9ff", func := "systole/systolelaw02.RecGrows", spec := "recGrows", unfollowed := true, recurses := true, plainKeys := false, apart := false }
def RecGrowsSaid : Prop := recGrowsRow.holds Try.pinned (OpenSpec.ofChange recGrowsSpec)

/-- ITS FALSE NEIGHBOUR: 'it returns false'. Refute it at one input. -/
def recGrowsWrong : ChangeSpec := { name := "recGrows", fn := fun _ => fun
  | [d] => { results := [.lit (.bool false)], args := [d] }
  | _ => none }
def RecGrowsWrongFalsely : Prop := recGrowsRow.holds Try.pinned (OpenSpec.ofChange recGrowsWrong)

/-- 'systolelaw02.RecTurned': WHATEVER THE INPUT: true; the input reads as it did. -/
def recTurnedSpec : ChangeSpec := { name := "recTurned", fn := fun _ => fun
  | [d1, d2] => { results := [.lit (.bool true)], args := [d1, d2] }
  | _ => none }
def recTurnedRow : OpenClaim := { program := "ytadmnlkgefbhcaa", sum := "0a770b9249f918eaf30a41726bcb9c2686516593536d1ead9a7b7d07cb46d9ff", func := "systole/systolelaw02.RecTurned", spec := "recTurned", unfollowed := true, recurses := true, plainKeys := false, apart := false }
def RecTurnedSaid : Prop := recTurnedRow.holds Try.pinned (OpenSpec.ofChange recTurnedSpec)

/-- ITS FALSE NEIGHBOUR: 'it returns false'. Refute it at one input. -/
def recTurnedWrong : ChangeSpec := { name := "recTurned", fn := fun _ => fun
  | [d1, d2] => { results := [.lit (.bool false)], args := [d1, d2] }
  | _ => none }
def RecTurnedWrongFalsely : Prop := recTurnedRow.holds Try.pinned (OpenSpec.ofChange recTurnedWrong)

/-- 'systolelaw02.RecFinds': WHATEVER THE INPUT: true; the input reads as it did. -/
def recFindsSpec : ChangeSpec := { name := "recFinds", fn := fun _ => fun
  | [d] => { results := [.lit (.bool true)], args := [d] }
  | _ => none }
def recFindsRow : OpenClaim := { program := "ytadmnlkgefbhcaa", sum := "0a770b9249f918eaf30a41726bcb9c2686516593536d1ead9a7b7d07cb46d9ff", func := "systole/systolelaw02.RecFinds", spec := "recFinds", unfollowed := true, recurses := true, plainKeys := false, apart := false }
def RecFindsSaid : Prop := recFindsRow.holds Try.pinned (OpenSpec.ofChange recFindsSpec)

/-- ITS FALSE NEIGHBOUR: 'it returns false'. Refute it at one input. -/
def recFindsWrong : ChangeSpec := { name := "recFinds", fn := fun _ => fun
  | [d] => { results := [.lit (.bool false)], args := [d] }
  | _ => none }
def RecFindsWrongFalsely : Prop := recFindsRow.holds Try.pinned (OpenSpec.ofChange recFindsWrong)

/-- 'systolelaw02.RecCircles': WHATEVER THE INPUT: true; the input reads as it did. -/
def recCirclesSpec : ChangeSpec := { name := "recCircles", fn := fun _ => fun
  | [d1, d2] => { results := [.lit (.bool true)], args := [d1, d2] }
  | _ => none }
def recCirclesRow : OpenClaim := { program := "ytadmnlkgefbhcaa", sum := "0a770b9249f918eaf30a41726bcb9c2686516593536d1ead9a7b7d07cb46d9ff", func := "systole/systolelaw02.RecCircles", spec := "recCircles", unfollowed := true, recurses := true, plainKeys := false, apart := false }
def RecCirclesSaid : Prop := recCirclesRow.holds Try.pinned (OpenSpec.ofChange recCirclesSpec)

/-- ITS FALSE NEIGHBOUR: 'it returns false'. Refute it at one input. -/
def recCirclesWrong : ChangeSpec := { name := "recCircles", fn := fun _ => fun
  | [d1, d2] => { results := [.lit (.bool false)], args := [d1, d2] }
  | _ => none }
def RecCirclesWrongFalsely : Prop := recCirclesRow.holds Try.pinned (OpenSpec.ofChange recCirclesWrong)

/- THE SECOND FORM. 'bulk': how many values and letters a reading holds, each counted each time it is reached (what is shared counts as often as it is met; a slice's spare places count too). A statement '..UptoSaid' is the law's where the arguments, and the package variables that the reading takes, are together of bulk at most 1048576: NARROWER than '..Said'. Prove '..Said' where nothing that the law and all that it calls make is longer than what came in: it says more and counts as full. Else prove '..UptoSaid'. A law counts once. -/
mutual
def uptoBulk {H : Type} : DataW H → Nat
  | .lit (.string bytes) => bytes.length + 1
  | .lit _ => 1
  | .nil => 1
  | .ptr d => uptoBulk d + 1
  | .slice elems spare => uptoBulkAll elems + uptoBulkAll spare + 1
  | .agg parts => uptoBulkAll parts + 1
  | .iface _ d => uptoBulk d + 1
  | .map entries => uptoBulkEntries entries + 1
  | .held _ => 1
def uptoBulkAll {H : Type} : List (DataW H) → Nat
  | [] => 0
  | d :: r => uptoBulk d + uptoBulkAll r
def uptoBulkEntries {H : Type} : List (Lit × DataW H) → Nat
  | [] => 0
  | x :: r => uptoBulkEntry x + uptoBulkEntries r
def uptoBulkEntry {H : Type} : Lit × DataW H → Nat
  | (.string bytes, d) => bytes.length + uptoBulk d + 1
  | (_, d) => uptoBulk d + 1
 end
def uptoSmall : (H : Type) → List (DataW H) → Bool := fun _ ds => decide (uptoBulkAll ds ≤ 1048576)
def OpenSpec.upto (s : _root_.Go.ChangeSpec) : _root_.Go.OpenSpec := { _root_.Go.OpenSpec.ofChange s with cond := some uptoSmall }

/-- 'systolelaw02.RecTurns', WHERE WHAT IT READS IS OF BULK AT MOST 1048576: true; the input reads as it did. -/
def recTurnsUptoRow : OpenClaim := { program := "ytadmnlkgefbhcaa", sum := "0a770b9249f918eaf30a41726bcb9c2686516593536d1ead9a7b7d07cb46d9ff", func := "systole/systolelaw02.RecTurns", spec := "recTurns", unfollowed := true, recurses := true, plainKeys := false, apart := false, narrowed := true }
def RecTurnsUptoSaid : Prop := recTurnsUptoRow.holds Try.pinned (OpenSpec.upto recTurnsSpec)

/-- 'systolelaw02.RecFirsts', WHERE WHAT IT READS IS OF BULK AT MOST 1048576: true; the input reads as it did. -/
def recFirstsUptoRow : OpenClaim := { program := "ytadmnlkgefbhcaa", sum := "0a770b9249f918eaf30a41726bcb9c2686516593536d1ead9a7b7d07cb46d9ff", func := "systole/systolelaw02.RecFirsts", spec := "recFirsts", unfollowed := true, recurses := true, plainKeys := false, apart := false, narrowed := true }
def RecFirstsUptoSaid : Prop := recFirstsUptoRow.holds Try.pinned (OpenSpec.upto recFirstsSpec)

/-- 'systolelaw02.RecChains', WHERE WHAT IT READS IS OF BULK AT MOST 1048576: true; the input reads as it did. -/
def recChainsUptoRow : OpenClaim := { program := "ytadmnlkgefbhcaa", sum := "0a770b9249f918eaf30a41726bcb9c2686516593536d1ead9a7b7d07cb46d9ff", func := "systole/systolelaw02.RecChains", spec := "recChains", unfollowed := true, recurses := true, plainKeys := false, apart := false, narrowed := true }
def RecChainsUptoSaid : Prop := recChainsUptoRow.holds Try.pinned (OpenSpec.upto recChainsSpec)

/-- 'systolelaw02.RecLevels', WHERE WHAT IT READS IS OF BULK AT MOST 1048576: true; the input reads as it did. -/
def recLevelsUptoRow : OpenClaim := { program := "ytadmnlkgefbhcaa", sum := "0a770b9249f918eaf30a41726bcb9c2686516593536d1ead9a7b7d07cb46d9ff", func := "systole/systolelaw02.RecLevels", spec := "recLevels", unfollowed := true, recurses := true, plainKeys := false, apart := false, narrowed := true }
def RecLevelsUptoSaid : Prop := recLevelsUptoRow.holds Try.pinned (OpenSpec.upto recLevelsSpec)

/-- 'systolelaw02.RecValues', WHERE WHAT IT READS IS OF BULK AT MOST 1048576: true; the input reads as it did. -/
def recValuesUptoRow : OpenClaim := { program := "ytadmnlkgefbhcaa", sum := "0a770b9249f918eaf30a41726bcb9c2686516593536d1ead9a7b7d07cb46d9ff", func := "systole/systolelaw02.RecValues", spec := "recValues", unfollowed := true, recurses := true, plainKeys := false, apart := false, narrowed := true }
def RecValuesUptoSaid : Prop := recValuesUptoRow.holds Try.pinned (OpenSpec.upto recValuesSpec)

/-- 'systolelaw02.RecReads', WHERE WHAT IT READS IS OF BULK AT MOST 1048576: true; the input reads as it did. -/
def recReadsUptoRow : OpenClaim := { program := "ytadmnlkgefbhcaa", sum := "0a770b9249f918eaf30a41726bcb9c2686516593536d1ead9a7b7d07cb46d9ff", func := "systole/systolelaw02.RecReads", spec := "recReads", unfollowed := true, recurses := true, plainKeys := false, apart := false, narrowed := true }
def RecReadsUptoSaid : Prop := recReadsUptoRow.holds Try.pinned (OpenSpec.upto recReadsSpec)

/-- 'systolelaw02.RecGrows', WHERE WHAT IT READS IS OF BULK AT MOST 1048576: true; the input reads as it did. -/
def recGrowsUptoRow : OpenClaim := { program := "ytadmnlkgefbhcaa", sum := "0a770b9249f918eaf30a41726bcb9c2686516593536d1ead9a7b7d07cb46d9ff", func := "systole/systolelaw02.RecGrows", spec := "recGrows", unfollowed := true, recurses := true, plainKeys := false, apart := false, narrowed := true }
def RecGrowsUptoSaid : Prop := recGrowsUptoRow.holds Try.pinned (OpenSpec.upto recGrowsSpec)

/-- 'systolelaw02.RecTurned', WHERE WHAT IT READS IS OF BULK AT MOST 1048576: true; the input reads as it did. -/
def recTurnedUptoRow : OpenClaim := { program := "ytadmnlkgefbhcaa", sum := "0a770b9249f918eaf30a41726bcb9c2686516593536d1ead9a7b7d07cb46d9ff", func := "systole/systolelaw02.RecTurned", spec := "recTurned", unfollowed := true, recurses := true, plainKeys := false, apart := false, narrowed := true }
def RecTurnedUptoSaid : Prop := recTurnedUptoRow.holds Try.pinned (OpenSpec.upto recTurnedSpec)

/-- 'systolelaw02.RecFinds', WHERE WHAT IT READS IS OF BULK AT MOST 1048576: true; the input reads as it did. -/
def recFindsUptoRow : OpenClaim := { program := "ytadmnlkgefbhcaa", sum := "0a770b9249f918eaf30a41726bcb9c2686516593536d1ead9a7b7d07cb46d9ff", func := "systole/systolelaw02.RecFinds", spec := "recFinds", unfollowed := true, recurses := true, plainKeys := false, apart := false, narrowed := true }
def RecFindsUptoSaid : Prop := recFindsUptoRow.holds Try.pinned (OpenSpec.upto recFindsSpec)

/-- 'systolelaw02.RecCircles', WHERE WHAT IT READS IS OF BULK AT MOST 1048576: true; the input reads as it did. -/
def recCirclesUptoRow : OpenClaim := { program := "ytadmnlkgefbhcaa", sum := "0a770b9249f918eaf30a41726bcb9c2686516593536d1ead9a7b7d07cb46d9ff", func := "systole/systolelaw02.RecCircles", spec := "recCircles", unfollowed := true, recurses := true, plainKeys := false, apart := false, narrowed := true }
def RecCirclesUptoSaid : Prop := recCirclesUptoRow.holds Try.pinned (OpenSpec.upto recCirclesSpec)

end Rows
end Go.Proofs.Ytadmnlkgefbhcaa
