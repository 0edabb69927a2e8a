/-
  No cell of these rows narrows 'for every input' (looked for: loops, veiled, ifaces, maps, wideKeys, modest, calm, conditions, laid).
  DERIVED. THE GIVEN ROWS OF THIS SEAT. 13 by the template 'for every input the law returns true; each argument reads behind the call as it read before'; 0 by the template 'total and deterministic' (their statements: YtgeoehokojijdaaTotals.lean).
  GIVEN WITH THE SEED: the statements are not yours to turn. If you find one false, say at which input.
  Laid BY PROGRAM, IN A SANDBOX (cutbox-rows.mjs): the forced cells as the released guide's own fill.sh prints them over the translation 341e165da566ad49… (all of the seat's roots in one cut). By AI agents, Wed Nov 11 2026. No macro, syntax, notation, axiom, sorry.
-/
import Derived.Test.YtgeoehokojijdaaChecked
import GoSem.Claim
import GoSem.ClaimJoined
import GoSem.ClaimMapViews
import Derived.JoinedTies
import Derived.KernelRfl
namespace Go.Proofs.Ytgeoehokojijdaa
/- THE CELL 'sum', in the pinned program and in every row, IS THE sha256 OF THE DUMP (.gsa) THAT YtgeoehokojijdaaProg.lean LOADS. Nothing in Lean hashes anything: it is a label: what it is worth is what the hold of that sum in a sandbox is worth. -/
noncomputable def Try.pinned : Pinned := { name := "ytgeoehokojijdaa", sum := "341e165da566ad49481e9e9d4b992c9b82c82ca3bb5afc3517c68951fd051933", checked := Try.checked }
namespace Rows
def none {H : Type} : Left H := { results := [], args := [] }

/-- 'systolelaw09.MixLeast': WHATEVER THE INPUT: true; the input reads as it did. -/
def mixLeastSpec : ChangeSpec := { name := "mixLeast", fn := fun _ => fun
  | [d] => { results := [.lit (.bool true)], args := [d] }
  | _ => none }
def mixLeastRow : OpenClaim := { program := "ytgeoehokojijdaa", sum := "341e165da566ad49481e9e9d4b992c9b82c82ca3bb5afc3517c68951fd051933", func := "systole/systolelaw09.MixLeast", spec := "mixLeast", unfollowed := true, recurses := true, plainKeys := false, apart := false }
def MixLeastSaid : Prop := mixLeastRow.holds Try.pinned (OpenSpec.ofChange mixLeastSpec)

/-- ITS FALSE NEIGHBOUR: 'it returns false'. Refute it at one input. -/
def mixLeastWrong : ChangeSpec := { name := "mixLeast", fn := fun _ => fun
  | [d] => { results := [.lit (.bool false)], args := [d] }
  | _ => none }
def MixLeastWrongFalsely : Prop := mixLeastRow.holds Try.pinned (OpenSpec.ofChange mixLeastWrong)

/-- 'systolelaw09.MixStarts': WHATEVER THE INPUT: true; the input reads as it did. -/
def mixStartsSpec : ChangeSpec := { name := "mixStarts", fn := fun _ => fun
  | [d1, d2] => { results := [.lit (.bool true)], args := [d1, d2] }
  | _ => none }
def mixStartsRow : OpenClaim := { program := "ytgeoehokojijdaa", sum := "341e165da566ad49481e9e9d4b992c9b82c82ca3bb5afc3517c68951fd051933", func := "systole/systolelaw09.MixStarts", spec := "mixStarts", unfollowed := true, recurses := true, plainKeys := false, apart := false }
def MixStartsSaid : Prop := mixStartsRow.holds Try.pinned (OpenSpec.ofChange mixStartsSpec)

/-- ITS FALSE NEIGHBOUR: 'it returns false'. Refute it at one input. -/
def mixStartsWrong : ChangeSpec := { name := "mixStarts", fn := fun _ => fun
  | [d1, d2] => { results := [.lit (.bool false)], args := [d1, d2] }
  | _ => none }
def MixStartsWrongFalsely : Prop := mixStartsRow.holds Try.pinned (OpenSpec.ofChange mixStartsWrong)

/-- 'systolelaw09.MixLoads': WHATEVER THE INPUT: true; the input reads as it did. -/
def mixLoadsSpec : ChangeSpec := { name := "mixLoads", fn := fun _ => fun
  | [d1, d2] => { results := [.lit (.bool true)], args := [d1, d2] }
  | _ => none }
def mixLoadsRow : OpenClaim := { program := "ytgeoehokojijdaa", sum := "341e165da566ad49481e9e9d4b992c9b82c82ca3bb5afc3517c68951fd051933", func := "systole/systolelaw09.MixLoads", spec := "mixLoads", unfollowed := true, recurses := true, plainKeys := false, apart := false }
def MixLoadsSaid : Prop := mixLoadsRow.holds Try.pinned (OpenSpec.ofChange mixLoadsSpec)

/-- ITS FALSE NEIGHBOUR: 'it returns false'. Refute it at one input. -/
def mixLoadsWrong : ChangeSpec := { name := "mixLoads", fn := fun _ => fun
  | [d1, d2] => { results := [.lit (.bool false)], args := [d1, d2] }
  | _ => none }
def MixLoadsWrongFalsely : Prop := mixLoadsRow.holds Try.pinned (OpenSpec.ofChange mixLoadsWrong)

/-- 'systolelaw09.MixSums': WHATEVER THE INPUT: true; the input reads as it did. -/
def mixSumsSpec : ChangeSpec := { name := "mixSums", fn := fun _ => fun
  | [d1, d2] => { results := [.lit (.bool true)], args := [d1, d2] }
  | _ => none }
def mixSumsRow : OpenClaim := { program := "ytgeoehokojijdaa", sum := "341e165da566ad49481e9e9d4b992c9b82c82ca3bb5afc3517c68951fd051933", func := "systole/systolelaw09.MixSums", spec := "mixSums", unfollowed := true, recurses := true, plainKeys := false, apart := false }
def MixSumsSaid : Prop := mixSumsRow.holds Try.pinned (OpenSpec.ofChange mixSumsSpec)

/-- ITS FALSE NEIGHBOUR: 'it returns false'. Refute it at one input. -/
def mixSumsWrong : ChangeSpec := { name := "mixSums", fn := fun _ => fun
  | [d1, d2] => { results := [.lit (.bool false)], args := [d1, d2] }
  | _ => none }
def MixSumsWrongFalsely : Prop := mixSumsRow.holds Try.pinned (OpenSpec.ofChange mixSumsWrong)

/-- 'systolelaw09.MixTables': WHATEVER THE INPUT: true; the input reads as it did. -/
def mixTablesSpec : ChangeSpec := { name := "mixTables", fn := fun _ => fun
  | [d1, d2, d3, d4] => { results := [.lit (.bool true)], args := [d1, d2, d3, d4] }
  | _ => none }
def mixTablesRow : OpenClaim := { program := "ytgeoehokojijdaa", sum := "341e165da566ad49481e9e9d4b992c9b82c82ca3bb5afc3517c68951fd051933", func := "systole/systolelaw09.MixTables", spec := "mixTables", unfollowed := true, recurses := true, plainKeys := false, apart := false }
def MixTablesSaid : Prop := mixTablesRow.holds Try.pinned (OpenSpec.ofChange mixTablesSpec)

/-- ITS FALSE NEIGHBOUR: 'it returns false'. Refute it at one input. -/
def mixTablesWrong : ChangeSpec := { name := "mixTables", fn := fun _ => fun
  | [d1, d2, d3, d4] => { results := [.lit (.bool false)], args := [d1, d2, d3, d4] }
  | _ => none }
def MixTablesWrongFalsely : Prop := mixTablesRow.holds Try.pinned (OpenSpec.ofChange mixTablesWrong)

/-- 'systolelaw09.MixRepeats': WHATEVER THE INPUT: true; the input reads as it did. -/
def mixRepeatsSpec : ChangeSpec := { name := "mixRepeats", fn := fun _ => fun
  | [d1, d2, d3] => { results := [.lit (.bool true)], args := [d1, d2, d3] }
  | _ => none }
def mixRepeatsRow : OpenClaim := { program := "ytgeoehokojijdaa", sum := "341e165da566ad49481e9e9d4b992c9b82c82ca3bb5afc3517c68951fd051933", func := "systole/systolelaw09.MixRepeats", spec := "mixRepeats", unfollowed := true, recurses := true, plainKeys := false, apart := false }
def MixRepeatsSaid : Prop := mixRepeatsRow.holds Try.pinned (OpenSpec.ofChange mixRepeatsSpec)

/-- ITS FALSE NEIGHBOUR: 'it returns false'. Refute it at one input. -/
def mixRepeatsWrong : ChangeSpec := { name := "mixRepeats", fn := fun _ => fun
  | [d1, d2, d3] => { results := [.lit (.bool false)], args := [d1, d2, d3] }
  | _ => none }
def MixRepeatsWrongFalsely : Prop := mixRepeatsRow.holds Try.pinned (OpenSpec.ofChange mixRepeatsWrong)

/-- 'systolelaw09.MixForbids': WHATEVER THE INPUT: true; the input reads as it did. -/
def mixForbidsSpec : ChangeSpec := { name := "mixForbids", fn := fun _ => fun
  | [d1, d2, d3, d4] => { results := [.lit (.bool true)], args := [d1, d2, d3, d4] }
  | _ => none }
def mixForbidsRow : OpenClaim := { program := "ytgeoehokojijdaa", sum := "341e165da566ad49481e9e9d4b992c9b82c82ca3bb5afc3517c68951fd051933", func := "systole/systolelaw09.MixForbids", spec := "mixForbids", unfollowed := true, recurses := true, plainKeys := false, apart := false }
def MixForbidsSaid : Prop := mixForbidsRow.holds Try.pinned (OpenSpec.ofChange mixForbidsSpec)

/-- ITS FALSE NEIGHBOUR: 'it returns false'. Refute it at one input. -/
def mixForbidsWrong : ChangeSpec := { name := "mixForbids", fn := fun _ => fun
  | [d1, d2, d3, d4] => { results := [.lit (.bool false)], args := [d1, d2, d3, d4] }
  | _ => none }
def MixForbidsWrongFalsely : Prop := mixForbidsRow.holds Try.pinned (OpenSpec.ofChange mixForbidsWrong)

/-- 'systolelaw09.MixGood': WHATEVER THE INPUT: true; the input reads as it did. -/
def mixGoodSpec : ChangeSpec := { name := "mixGood", fn := fun _ => fun
  | [d1, d2, d3] => { results := [.lit (.bool true)], args := [d1, d2, d3] }
  | _ => none }
def mixGoodRow : OpenClaim := { program := "ytgeoehokojijdaa", sum := "341e165da566ad49481e9e9d4b992c9b82c82ca3bb5afc3517c68951fd051933", func := "systole/systolelaw09.MixGood", spec := "mixGood", unfollowed := true, recurses := true, plainKeys := false, apart := false }
def MixGoodSaid : Prop := mixGoodRow.holds Try.pinned (OpenSpec.ofChange mixGoodSpec)

/-- ITS FALSE NEIGHBOUR: 'it returns false'. Refute it at one input. -/
def mixGoodWrong : ChangeSpec := { name := "mixGood", fn := fun _ => fun
  | [d1, d2, d3] => { results := [.lit (.bool false)], args := [d1, d2, d3] }
  | _ => none }
def MixGoodWrongFalsely : Prop := mixGoodRow.holds Try.pinned (OpenSpec.ofChange mixGoodWrong)

/-- 'systolelaw09.MixMultiples': WHATEVER THE INPUT: true; the input reads as it did. -/
def mixMultiplesSpec : ChangeSpec := { name := "mixMultiples", fn := fun _ => fun
  | [d1, d2, d3, d4] => { results := [.lit (.bool true)], args := [d1, d2, d3, d4] }
  | _ => none }
def mixMultiplesRow : OpenClaim := { program := "ytgeoehokojijdaa", sum := "341e165da566ad49481e9e9d4b992c9b82c82ca3bb5afc3517c68951fd051933", func := "systole/systolelaw09.MixMultiples", spec := "mixMultiples", unfollowed := true, recurses := true, plainKeys := false, apart := false }
def MixMultiplesSaid : Prop := mixMultiplesRow.holds Try.pinned (OpenSpec.ofChange mixMultiplesSpec)

/-- ITS FALSE NEIGHBOUR: 'it returns false'. Refute it at one input. -/
def mixMultiplesWrong : ChangeSpec := { name := "mixMultiples", fn := fun _ => fun
  | [d1, d2, d3, d4] => { results := [.lit (.bool false)], args := [d1, d2, d3, d4] }
  | _ => none }
def MixMultiplesWrongFalsely : Prop := mixMultiplesRow.holds Try.pinned (OpenSpec.ofChange mixMultiplesWrong)

/-- 'systolelaw09.MixPairs': WHATEVER THE INPUT: true; the input reads as it did. -/
def mixPairsSpec : ChangeSpec := { name := "mixPairs", fn := fun _ => fun
  | [d1, d2, d3] => { results := [.lit (.bool true)], args := [d1, d2, d3] }
  | _ => none }
def mixPairsRow : OpenClaim := { program := "ytgeoehokojijdaa", sum := "341e165da566ad49481e9e9d4b992c9b82c82ca3bb5afc3517c68951fd051933", func := "systole/systolelaw09.MixPairs", spec := "mixPairs", unfollowed := true, recurses := true, plainKeys := false, apart := false }
def MixPairsSaid : Prop := mixPairsRow.holds Try.pinned (OpenSpec.ofChange mixPairsSpec)

/-- ITS FALSE NEIGHBOUR: 'it returns false'. Refute it at one input. -/
def mixPairsWrong : ChangeSpec := { name := "mixPairs", fn := fun _ => fun
  | [d1, d2, d3] => { results := [.lit (.bool false)], args := [d1, d2, d3] }
  | _ => none }
def MixPairsWrongFalsely : Prop := mixPairsRow.holds Try.pinned (OpenSpec.ofChange mixPairsWrong)

/-- 'systolelaw09.MixShifts': WHATEVER THE INPUT: true; the input reads as it did. -/
def mixShiftsSpec : ChangeSpec := { name := "mixShifts", fn := fun _ => fun
  | [d1, d2, d3, d4] => { results := [.lit (.bool true)], args := [d1, d2, d3, d4] }
  | _ => none }
def mixShiftsRow : OpenClaim := { program := "ytgeoehokojijdaa", sum := "341e165da566ad49481e9e9d4b992c9b82c82ca3bb5afc3517c68951fd051933", func := "systole/systolelaw09.MixShifts", spec := "mixShifts", unfollowed := true, recurses := true, plainKeys := false, apart := false }
def MixShiftsSaid : Prop := mixShiftsRow.holds Try.pinned (OpenSpec.ofChange mixShiftsSpec)

/-- ITS FALSE NEIGHBOUR: 'it returns false'. Refute it at one input. -/
def mixShiftsWrong : ChangeSpec := { name := "mixShifts", fn := fun _ => fun
  | [d1, d2, d3, d4] => { results := [.lit (.bool false)], args := [d1, d2, d3, d4] }
  | _ => none }
def MixShiftsWrongFalsely : Prop := mixShiftsRow.holds Try.pinned (OpenSpec.ofChange mixShiftsWrong)

/-- 'systolelaw09.MixMoved': WHATEVER THE INPUT: true; the input reads as it did. -/
def mixMovedSpec : ChangeSpec := { name := "mixMoved", fn := fun _ => fun
  | [d1, d2, d3] => { results := [.lit (.bool true)], args := [d1, d2, d3] }
  | _ => none }
def mixMovedRow : OpenClaim := { program := "ytgeoehokojijdaa", sum := "341e165da566ad49481e9e9d4b992c9b82c82ca3bb5afc3517c68951fd051933", func := "systole/systolelaw09.MixMoved", spec := "mixMoved", unfollowed := true, recurses := true, plainKeys := false, apart := false }
def MixMovedSaid : Prop := mixMovedRow.holds Try.pinned (OpenSpec.ofChange mixMovedSpec)

/-- ITS FALSE NEIGHBOUR: 'it returns false'. Refute it at one input. -/
def mixMovedWrong : ChangeSpec := { name := "mixMoved", fn := fun _ => fun
  | [d1, d2, d3] => { results := [.lit (.bool false)], args := [d1, d2, d3] }
  | _ => none }
def MixMovedWrongFalsely : Prop := mixMovedRow.holds Try.pinned (OpenSpec.ofChange mixMovedWrong)

/-- 'systolelaw09.MixPeriods': WHATEVER THE INPUT: true; the input reads as it did. -/
def mixPeriodsSpec : ChangeSpec := { name := "mixPeriods", fn := fun _ => fun
  | [d1, d2, d3] => { results := [.lit (.bool true)], args := [d1, d2, d3] }
  | _ => none }
def mixPeriodsRow : OpenClaim := { program := "ytgeoehokojijdaa", sum := "341e165da566ad49481e9e9d4b992c9b82c82ca3bb5afc3517c68951fd051933", func := "systole/systolelaw09.MixPeriods", spec := "mixPeriods", unfollowed := true, recurses := true, plainKeys := false, apart := false }
def MixPeriodsSaid : Prop := mixPeriodsRow.holds Try.pinned (OpenSpec.ofChange mixPeriodsSpec)

/-- ITS FALSE NEIGHBOUR: 'it returns false'. Refute it at one input. -/
def mixPeriodsWrong : ChangeSpec := { name := "mixPeriods", fn := fun _ => fun
  | [d1, d2, d3] => { results := [.lit (.bool false)], args := [d1, d2, d3] }
  | _ => none }
def MixPeriodsWrongFalsely : Prop := mixPeriodsRow.holds Try.pinned (OpenSpec.ofChange mixPeriodsWrong)

/- THE SECOND FORM. 'bulk': how many values and letters a reading holds, each counted each time it is reached (what is shared counts as often as it is met; a slice's spare places count too). A statement '..UptoSaid' is the law's where the arguments, and the package variables that the reading takes, are together of bulk at most 1048576: NARROWER than '..Said'. Prove '..Said' where nothing that the law and all that it calls make is longer than what came in: it says more and counts as full. Else prove '..UptoSaid'. A law counts once. -/
mutual
def uptoBulk {H : Type} : DataW H → Nat
  | .lit (.string bytes) => bytes.length + 1
  | .lit _ => 1
  | .nil => 1
  | .ptr d => uptoBulk d + 1
  | .slice elems spare => uptoBulkAll elems + uptoBulkAll spare + 1
  | .agg parts => uptoBulkAll parts + 1
  | .iface _ d => uptoBulk d + 1
  | .map entries => uptoBulkEntries entries + 1
  | .held _ => 1
def uptoBulkAll {H : Type} : List (DataW H) → Nat
  | [] => 0
  | d :: r => uptoBulk d + uptoBulkAll r
def uptoBulkEntries {H : Type} : List (Lit × DataW H) → Nat
  | [] => 0
  | x :: r => uptoBulkEntry x + uptoBulkEntries r
def uptoBulkEntry {H : Type} : Lit × DataW H → Nat
  | (.string bytes, d) => bytes.length + uptoBulk d + 1
  | (_, d) => uptoBulk d + 1
 end
def uptoSmall : (H : Type) → List (DataW H) → Bool := fun _ ds => decide (uptoBulkAll ds ≤ 1048576)
def OpenSpec.upto (s : _root_.Go.ChangeSpec) : _root_.Go.OpenSpec := { _root_.Go.OpenSpec.ofChange s with cond := some uptoSmall }

/-- 'systolelaw09.MixLeast', WHERE WHAT IT READS IS OF BULK AT MOST 1048576: true; the input reads as it did. -/
def mixLeastUptoRow : OpenClaim := { program := "ytgeoehokojijdaa", sum := "341e165da566ad49481e9e9d4b992c9b82c82ca3bb5afc3517c68951fd051933", func := "systole/systolelaw09.MixLeast", spec := "mixLeast", unfollowed := true, recurses := true, plainKeys := false, apart := false, narrowed := true }
def MixLeastUptoSaid : Prop := mixLeastUptoRow.holds Try.pinned (OpenSpec.upto mixLeastSpec)

/-- 'systolelaw09.MixStarts', WHERE WHAT IT READS IS OF BULK AT MOST 1048576: true; the input reads as it did. -/
def mixStartsUptoRow : OpenClaim := { program := "ytgeoehokojijdaa", sum := "341e165da566ad49481e9e9d4b992c9b82c82ca3bb5afc3517c68951fd051933", func := "systole/systolelaw09.MixStarts", spec := "mixStarts", unfollowed := true, recurses := true, plainKeys := false, apart := false, narrowed := true }
def MixStartsUptoSaid : Prop := mixStartsUptoRow.holds Try.pinned (OpenSpec.upto mixStartsSpec)

/-- 'systolelaw09.MixLoads', WHERE WHAT IT READS IS OF BULK AT MOST 1048576: true; the input reads as it did. -/
def mixLoadsUptoRow : OpenClaim := { program := "ytgeoehokojijdaa", sum := "341e165da566ad49481e9e9d4b992c9b82c82ca3bb5afc3517c68951fd051933", func := "systole/systolelaw09.MixLoads", spec := "mixLoads", unfollowed := true, recurses := true, plainKeys := false, apart := false, narrowed := true }
def MixLoadsUptoSaid : Prop := mixLoadsUptoRow.holds Try.pinned (OpenSpec.upto mixLoadsSpec)

/-- 'systolelaw09.MixSums', WHERE WHAT IT READS IS OF BULK AT MOST 1048576: true; the input reads as it did. -/
def mixSumsUptoRow : OpenClaim := { program := "ytgeoehokojijdaa", sum := "341e165da566ad49481e9e9d4b992c9b82c82ca3bb5afc3517c68951fd051933", func := "systole/systolelaw09.MixSums", spec := "mixSums", unfollowed := true, recurses := true, plainKeys := false, apart := false, narrowed := true }
def MixSumsUptoSaid : Prop := mixSumsUptoRow.holds Try.pinned (OpenSpec.upto mixSumsSpec)

/-- 'systolelaw09.MixTables', WHERE WHAT IT READS IS OF BULK AT MOST 1048576: true; the input reads as it did. -/
def mixTablesUptoRow : OpenClaim := { program := "ytgeoehokojijdaa", sum := "341e165da566ad49481e9e9d4b992c9b82c82ca3bb5afc3517c68951fd051933", func := "systole/systolelaw09.MixTables", spec := "mixTables", unfollowed := true, recurses := true, plainKeys := false, apart := false, narrowed := true }
def MixTablesUptoSaid : Prop := mixTablesUptoRow.holds Try.pinned (OpenSpec.upto mixTablesSpec)

/-- 'systolelaw09.MixRepeats', WHERE WHAT IT READS IS OF BULK AT MOST 1048576: true; the input reads as it did. -/
def mixRepeatsUptoRow : OpenClaim := { program := "ytgeoehokojijdaa", sum := "341e165da566ad49481e9e9d4b992c9b82c82ca3bb5afc3517c68951fd051933", func := "systole/systolelaw09.MixRepeats", spec := "mixRepeats", unfollowed := true, recurses := true, plainKeys := false, apart := false, narrowed := true }
def MixRepeatsUptoSaid : Prop := mixRepeatsUptoRow.holds Try.pinned (OpenSpec.upto mixRepeatsSpec)

/-- 'systolelaw09.MixForbids', WHERE WHAT IT READS IS OF BULK AT MOST 1048576: true; the input reads as it did. -/
def mixForbidsUptoRow : OpenClaim := { program := "ytgeoehokojijdaa", sum := "341e165da566ad49481e9e9d4b992c9b82c82ca3bb5afc3517c68951fd051933", func := "systole/systolelaw09.MixForbids", spec := "mixForbids", unfollowed := true, recurses := true, plainKeys := false, apart := false, narrowed := true }
def MixForbidsUptoSaid : Prop := mixForbidsUptoRow.holds Try.pinned (OpenSpec.upto mixForbidsSpec)

/-- 'systolelaw09.MixGood', WHERE WHAT IT READS IS OF BULK AT MOST 1048576: true; the input reads as it did. -/
def mixGoodUptoRow : OpenClaim := { program := "ytgeoehokojijdaa", sum := "341e165da566ad49481e9e9d4b992c9b82c82ca3bb5afc3517c68951fd051933", func := "systole/systolelaw09.MixGood", spec := "mixGood", unfollowed := true, recurses := true, plainKeys := false, apart := false, narrowed := true }
def MixGoodUptoSaid : Prop := mixGoodUptoRow.holds Try.pinned (OpenSpec.upto mixGoodSpec)

/-- 'systolelaw09.MixMultiples', WHERE WHAT IT READS IS OF BULK AT MOST 1048576: true; the input reads as it did. -/
def mixMultiplesUptoRow : OpenClaim := { program := "ytgeoehokojijdaa", sum := "341e165da566ad49481e9e9d4b992c9b82c82ca3bb5afc3517c68951fd051933", func := "systole/systolelaw09.MixMultiples", spec := "mixMultiples", unfollowed := true, recurses := true, plainKeys := false, apart := false, narrowed := true }
def MixMultiplesUptoSaid : Prop := mixMultiplesUptoRow.holds Try.pinned (OpenSpec.upto mixMultiplesSpec)

/-- 'systolelaw09.MixPairs', WHERE WHAT IT READS IS OF BULK AT MOST 1048576: true; the input reads as it did. -/
def mixPairsUptoRow : OpenClaim := { program := "ytgeoehokojijdaa", sum := "341e165da566ad49481e9e9d4b992c9b82c82ca3bb5afc3517c68951fd051933", func := "systole/systolelaw09.MixPairs", spec := "mixPairs", unfollowed := true, recurses := true, plainKeys := false, apart := false, narrowed := true }
def MixPairsUptoSaid : Prop := mixPairsUptoRow.holds Try.pinned (OpenSpec.upto mixPairsSpec)

/-- 'systolelaw09.MixShifts', WHERE WHAT IT READS IS OF BULK AT MOST 1048576: true; the input reads as it did. -/
def mixShiftsUptoRow : OpenClaim := { program := "ytgeoehokojijdaa", sum := "341e165da566ad49481e9e9d4b992c9b82c82ca3bb5afc3517c68951fd051933", func := "systole/systolelaw09.MixShifts", spec := "mixShifts", unfollowed := true, recurses := true, plainKeys := false, apart := false, narrowed := true }
def MixShiftsUptoSaid : Prop := mixShiftsUptoRow.holds Try.pinned (OpenSpec.upto mixShiftsSpec)

/-- 'systolelaw09.MixMoved', WHERE WHAT IT READS IS OF BULK AT MOST 1048576: true; the input reads as it did. -/
def mixMovedUptoRow : OpenClaim := { program := "ytgeoehokojijdaa", sum := "341e165da566ad49481e9e9d4b992c9b82c82ca3bb5afc3517c68951fd051933", func := "systole/systolelaw09.MixMoved", spec := "mixMoved", unfollowed := true, recurses := true, plainKeys := false, apart := false, narrowed := true }
def MixMovedUptoSaid : Prop := mixMovedUptoRow.holds Try.pinned (OpenSpec.upto mixMovedSpec)

/-- 'systolelaw09.MixPeriods', WHERE WHAT IT READS IS OF BULK AT MOST 1048576: true; the input reads as it did. -/
def mixPeriodsUptoRow : OpenClaim := { program := "ytgeoehokojijdaa", sum := "341e165da566ad49481e9e9d4b992c9b82c82ca3bb5afc3517c68951fd051933", func := "systole/systolelaw09.MixPeriods", spec := "mixPeriods", unfollowed := true, recurses := true, plainKeys := false, apart := false, narrowed := true }
def MixPeriodsUptoSaid : Prop := mixPeriodsUptoRow.holds Try.pinned (OpenSpec.upto mixPeriodsSpec)

end Rows
end Go.Proofs.Ytgeoehokojijdaa
