/-
  No cell of these rows narrows 'for every input' (looked for: loops, veiled, ifaces, maps, wideKeys, modest, calm, conditions, laid).
  DERIVED. THE GIVEN ROWS OF THIS SEAT. 10 by the template 'for every input the law returns true; each argument reads behind the call as it read before'; 0 by the template 'total and deterministic' (their statements: YtbabdoafpljdbaaTotals.lean).
  GIVEN WITH THE SEED: the statements are not yours to turn. If you find one false, say at which input.
  Laid BY PROGRAM, IN A SANDBOX (cutbox-rows.mjs): the forced cells as the released guide's own fill.sh prints them over the translation 9f61ef5905999a76… (all of the seat's roots in one cut). By AI agents, Wed Nov 11 2026. No macro, syntax, notation, axiom, sorry.
-/
import Derived.Test.YtbabdoafpljdbaaChecked
import GoSem.Claim
import GoSem.ClaimJoined
import GoSem.ClaimMapViews
import Derived.JoinedTies
import Derived.KernelRfl
namespace Go.Proofs.Ytbabdoafpljdbaa
/- THE CELL 'sum', in the pinned program and in every row, IS THE sha256 OF THE DUMP (.gsa) THAT YtbabdoafpljdbaaProg.lean LOADS. Nothing in Lean hashes anything: it is a label: what it is worth is what the hold of that sum in a sandbox is worth. -/
noncomputable def Try.pinned : Pinned := { name := "ytbabdoafpljdbaa", sum := "9f61ef5905999a760b03ececd5051e386f0ffa0b65c994073eacd286a4172d28", checked := Try.checked }
namespace Rows
def none {H : Type} : Left H := { results := [], args := [] }

/-- 'systolelaw07.MendMore': WHATEVER THE INPUT: true; the input reads as it did. -/
def mendMoreSpec : ChangeSpec := { name := "mendMore", fn := fun _ => fun
  | [d1, d2, d3] => { results := [.lit (.bool true)], args := [d1, d2, d3] }
  | _ => none }
def mendMoreRow : OpenClaim := { program := "ytbabdoafpljdbaa", sum := "9f61ef5905999a760b03ececd5051e386f0ffa0b65c994073eacd286a4172d28", func := "systole/systolelaw07.MendMore", spec := "mendMore", unfollowed := true, recurses := true, plainKeys := false, apart := false }
def MendMoreSaid : Prop := mendMoreRow.holds Try.pinned (OpenSpec.ofChange mendMoreSpec)

/-- ITS FALSE NEIGHBOUR: 'it returns false'. Refute it at one input. -/
def mendMoreWrong : ChangeSpec := { name := "mendMore", fn := fun _ => fun
  | [d1, d2, d3] => { results := [.lit (.bool false)], args := [d1, d2, d3] }
  | _ => none }
def MendMoreWrongFalsely : Prop := mendMoreRow.holds Try.pinned (OpenSpec.ofChange mendMoreWrong)

/-- 'systolelaw07.MendColumns': WHATEVER THE INPUT: true; the input reads as it did. -/
def mendColumnsSpec : ChangeSpec := { name := "mendColumns", fn := fun _ => fun
  | [d1, d2, d3] => { results := [.lit (.bool true)], args := [d1, d2, d3] }
  | _ => none }
def mendColumnsRow : OpenClaim := { program := "ytbabdoafpljdbaa", sum := "9f61ef5905999a760b03ececd5051e386f0ffa0b65c994073eacd286a4172d28", func := "systole/systolelaw07.MendColumns", spec := "mendColumns", unfollowed := true, recurses := true, plainKeys := false, apart := false }
def MendColumnsSaid : Prop := mendColumnsRow.holds Try.pinned (OpenSpec.ofChange mendColumnsSpec)

/-- ITS FALSE NEIGHBOUR: 'it returns false'. Refute it at one input. -/
def mendColumnsWrong : ChangeSpec := { name := "mendColumns", fn := fun _ => fun
  | [d1, d2, d3] => { results := [.lit (.bool false)], args := [d1, d2, d3] }
  | _ => none }
def MendColumnsWrongFalsely : Prop := mendColumnsRow.holds Try.pinned (OpenSpec.ofChange mendColumnsWrong)

/-- 'systolelaw07.MendPlaces': WHATEVER THE INPUT: true; the input reads as it did. -/
def mendPlacesSpec : ChangeSpec := { name := "mendPlaces", fn := fun _ => fun
  | [d1, d2, d3] => { results := [.lit (.bool true)], args := [d1, d2, d3] }
  | _ => none }
def mendPlacesRow : OpenClaim := { program := "ytbabdoafpljdbaa", sum := "9f61ef5905999a760b03ececd5051e386f0ffa0b65c994073eacd286a4172d28", func := "systole/systolelaw07.MendPlaces", spec := "mendPlaces", unfollowed := true, recurses := true, plainKeys := false, apart := false }
def MendPlacesSaid : Prop := mendPlacesRow.holds Try.pinned (OpenSpec.ofChange mendPlacesSpec)

/-- ITS FALSE NEIGHBOUR: 'it returns false'. Refute it at one input. -/
def mendPlacesWrong : ChangeSpec := { name := "mendPlaces", fn := fun _ => fun
  | [d1, d2, d3] => { results := [.lit (.bool false)], args := [d1, d2, d3] }
  | _ => none }
def MendPlacesWrongFalsely : Prop := mendPlacesRow.holds Try.pinned (OpenSpec.ofChange mendPlacesWrong)

/-- 'systolelaw07.MendMeant': WHATEVER THE INPUT: true; the input reads as it did. -/
def mendMeantSpec : ChangeSpec := { name := "mendMeant", fn := fun _ => fun
  | [d1, d2] => { results := [.lit (.bool true)], args := [d1, d2] }
  | _ => none }
def mendMeantRow : OpenClaim := { program := "ytbabdoafpljdbaa", sum := "9f61ef5905999a760b03ececd5051e386f0ffa0b65c994073eacd286a4172d28", func := "systole/systolelaw07.MendMeant", spec := "mendMeant", unfollowed := true, recurses := true, plainKeys := false, apart := false }
def MendMeantSaid : Prop := mendMeantRow.holds Try.pinned (OpenSpec.ofChange mendMeantSpec)

/-- ITS FALSE NEIGHBOUR: 'it returns false'. Refute it at one input. -/
def mendMeantWrong : ChangeSpec := { name := "mendMeant", fn := fun _ => fun
  | [d1, d2] => { results := [.lit (.bool false)], args := [d1, d2] }
  | _ => none }
def MendMeantWrongFalsely : Prop := mendMeantRow.holds Try.pinned (OpenSpec.ofChange mendMeantWrong)

/-- 'systolelaw07.MendCells': WHATEVER THE INPUT: true; the input reads as it did. -/
def mendCellsSpec : ChangeSpec := { name := "mendCells", fn := fun _ => fun
  | [d1, d2] => { results := [.lit (.bool true)], args := [d1, d2] }
  | _ => none }
def mendCellsRow : OpenClaim := { program := "ytbabdoafpljdbaa", sum := "9f61ef5905999a760b03ececd5051e386f0ffa0b65c994073eacd286a4172d28", func := "systole/systolelaw07.MendCells", spec := "mendCells", unfollowed := true, recurses := true, plainKeys := false, apart := false }
def MendCellsSaid : Prop := mendCellsRow.holds Try.pinned (OpenSpec.ofChange mendCellsSpec)

/-- ITS FALSE NEIGHBOUR: 'it returns false'. Refute it at one input. -/
def mendCellsWrong : ChangeSpec := { name := "mendCells", fn := fun _ => fun
  | [d1, d2] => { results := [.lit (.bool false)], args := [d1, d2] }
  | _ => none }
def MendCellsWrongFalsely : Prop := mendCellsRow.holds Try.pinned (OpenSpec.ofChange mendCellsWrong)

/-- 'systolelaw07.MendCounts': WHATEVER THE INPUT: true; the input reads as it did. -/
def mendCountsSpec : ChangeSpec := { name := "mendCounts", fn := fun _ => fun
  | [d1, d2] => { results := [.lit (.bool true)], args := [d1, d2] }
  | _ => none }
def mendCountsRow : OpenClaim := { program := "ytbabdoafpljdbaa", sum := "9f61ef5905999a760b03ececd5051e386f0ffa0b65c994073eacd286a4172d28", func := "systole/systolelaw07.MendCounts", spec := "mendCounts", unfollowed := true, recurses := true, plainKeys := false, apart := false }
def MendCountsSaid : Prop := mendCountsRow.holds Try.pinned (OpenSpec.ofChange mendCountsSpec)

/-- ITS FALSE NEIGHBOUR: 'it returns false'. Refute it at one input. -/
def mendCountsWrong : ChangeSpec := { name := "mendCounts", fn := fun _ => fun
  | [d1, d2] => { results := [.lit (.bool false)], args := [d1, d2] }
  | _ => none }
def MendCountsWrongFalsely : Prop := mendCountsRow.holds Try.pinned (OpenSpec.ofChange mendCountsWrong)

/-- 'systolelaw07.MendFirsts': WHATEVER THE INPUT: true; the input reads as it did. -/
def mendFirstsSpec : ChangeSpec := { name := "mendFirsts", fn := fun _ => fun
  | [d1, d2, d3] => { results := [.lit (.bool true)], args := [d1, d2, d3] }
  | _ => none }
def mendFirstsRow : OpenClaim := { program := "ytbabdoafpljdbaa", sum := "9f61ef5905999a760b03ececd5051e386f0ffa0b65c994073eacd286a4172d28", func := "systole/systolelaw07.MendFirsts", spec := "mendFirsts", unfollowed := true, recurses := true, plainKeys := false, apart := false }
def MendFirstsSaid : Prop := mendFirstsRow.holds Try.pinned (OpenSpec.ofChange mendFirstsSpec)

/-- ITS FALSE NEIGHBOUR: 'it returns false'. Refute it at one input. -/
def mendFirstsWrong : ChangeSpec := { name := "mendFirsts", fn := fun _ => fun
  | [d1, d2, d3] => { results := [.lit (.bool false)], args := [d1, d2, d3] }
  | _ => none }
def MendFirstsWrongFalsely : Prop := mendFirstsRow.holds Try.pinned (OpenSpec.ofChange mendFirstsWrong)

/-- 'systolelaw07.MendStands': WHATEVER THE INPUT: true; the input reads as it did. -/
def mendStandsSpec : ChangeSpec := { name := "mendStands", fn := fun _ => fun
  | [d1, d2, d3, d4] => { results := [.lit (.bool true)], args := [d1, d2, d3, d4] }
  | _ => none }
def mendStandsRow : OpenClaim := { program := "ytbabdoafpljdbaa", sum := "9f61ef5905999a760b03ececd5051e386f0ffa0b65c994073eacd286a4172d28", func := "systole/systolelaw07.MendStands", spec := "mendStands", unfollowed := true, recurses := true, plainKeys := false, apart := false }
def MendStandsSaid : Prop := mendStandsRow.holds Try.pinned (OpenSpec.ofChange mendStandsSpec)

/-- ITS FALSE NEIGHBOUR: 'it returns false'. Refute it at one input. -/
def mendStandsWrong : ChangeSpec := { name := "mendStands", fn := fun _ => fun
  | [d1, d2, d3, d4] => { results := [.lit (.bool false)], args := [d1, d2, d3, d4] }
  | _ => none }
def MendStandsWrongFalsely : Prop := mendStandsRow.holds Try.pinned (OpenSpec.ofChange mendStandsWrong)

/-- 'systolelaw07.MendProofs': WHATEVER THE INPUT: true; the input reads as it did. -/
def mendProofsSpec : ChangeSpec := { name := "mendProofs", fn := fun _ => fun
  | [d1, d2] => { results := [.lit (.bool true)], args := [d1, d2] }
  | _ => none }
def mendProofsRow : OpenClaim := { program := "ytbabdoafpljdbaa", sum := "9f61ef5905999a760b03ececd5051e386f0ffa0b65c994073eacd286a4172d28", func := "systole/systolelaw07.MendProofs", spec := "mendProofs", unfollowed := true, recurses := true, plainKeys := false, apart := false }
def MendProofsSaid : Prop := mendProofsRow.holds Try.pinned (OpenSpec.ofChange mendProofsSpec)

/-- ITS FALSE NEIGHBOUR: 'it returns false'. Refute it at one input. -/
def mendProofsWrong : ChangeSpec := { name := "mendProofs", fn := fun _ => fun
  | [d1, d2] => { results := [.lit (.bool false)], args := [d1, d2] }
  | _ => none }
def MendProofsWrongFalsely : Prop := mendProofsRow.holds Try.pinned (OpenSpec.ofChange mendProofsWrong)

/-- 'systolelaw07.MendBounds': WHATEVER THE INPUT: true; the input reads as it did. -/
def mendBoundsSpec : ChangeSpec := { name := "mendBounds", fn := fun _ => fun
  | [d1, d2, d3, d4] => { results := [.lit (.bool true)], args := [d1, d2, d3, d4] }
  | _ => none }
def mendBoundsRow : OpenClaim := { program := "ytbabdoafpljdbaa", sum := "9f61ef5905999a760b03ececd5051e386f0ffa0b65c994073eacd286a4172d28", func := "systole/systolelaw07.MendBounds", spec := "mendBounds", unfollowed := true, recurses := true, plainKeys := false, apart := false }
def MendBoundsSaid : Prop := mendBoundsRow.holds Try.pinned (OpenSpec.ofChange mendBoundsSpec)

/-- ITS FALSE NEIGHBOUR: 'it returns false'. Refute it at one input. -/
def mendBoundsWrong : ChangeSpec := { name := "mendBounds", fn := fun _ => fun
  | [d1, d2, d3, d4] => { results := [.lit (.bool false)], args := [d1, d2, d3, d4] }
  | _ => none }
def MendBoundsWrongFalsely : Prop := mendBoundsRow.holds Try.pinned (OpenSpec.ofChange mendBoundsWrong)

/- THE SECOND FORM. 'bulk': how many values and letters a reading holds, each counted each time it is reached (what is shared counts as often as it is met; a slice's spare places count too). A statement '..UptoSaid' is the law's where the arguments, and the package variables that the reading takes, are together of bulk at most 1048576: NARROWER than '..Said'. Prove '..Said' where nothing that the law and all that it calls make is longer than what came in: it says more and counts as full. Else prove '..UptoSaid'. A law counts once. -/
mutual
def uptoBulk {H : Type} : DataW H → Nat
  | .lit (.string bytes) => bytes.length + 1
  | .lit _ => 1
  | .nil => 1
  | .ptr d => uptoBulk d + 1
  | .slice elems spare => uptoBulkAll elems + uptoBulkAll spare + 1
  | .agg parts => uptoBulkAll parts + 1
  | .iface _ d => uptoBulk d + 1
  | .map entries => uptoBulkEntries entries + 1
  | .held _ => 1
def uptoBulkAll {H : Type} : List (DataW H) → Nat
  | [] => 0
  | d :: r => uptoBulk d + uptoBulkAll r
def uptoBulkEntries {H : Type} : List (Lit × DataW H) → Nat
  | [] => 0
  | x :: r => uptoBulkEntry x + uptoBulkEntries r
def uptoBulkEntry {H : Type} : Lit × DataW H → Nat
  | (.string bytes, d) => bytes.length + uptoBulk d + 1
  | (_, d) => uptoBulk d + 1
 end
def uptoSmall : (H : Type) → List (DataW H) → Bool := fun _ ds => decide (uptoBulkAll ds ≤ 1048576)
def OpenSpec.upto (s : _root_.Go.ChangeSpec) : _root_.Go.OpenSpec := { _root_.Go.OpenSpec.ofChange s with cond := some uptoSmall }

/-- 'systolelaw07.MendMore', WHERE WHAT IT READS IS OF BULK AT MOST 1048576: true; the input reads as it did. -/
def mendMoreUptoRow : OpenClaim := { program := "ytbabdoafpljdbaa", sum := "9f61ef5905999a760b03ececd5051e386f0ffa0b65c994073eacd286a4172d28", func := "systole/systolelaw07.MendMore", spec := "mendMore", unfollowed := true, recurses := true, plainKeys := false, apart := false, narrowed := true }
def MendMoreUptoSaid : Prop := mendMoreUptoRow.holds Try.pinned (OpenSpec.upto mendMoreSpec)

/-- 'systolelaw07.MendColumns', WHERE WHAT IT READS IS OF BULK AT MOST 1048576: true; the input reads as it did. -/
def mendColumnsUptoRow : OpenClaim := { program := "ytbabdoafpljdbaa", sum := "9f61ef5905999a760b03ececd5051e386f0ffa0b65c994073eacd286a4172d28", func := "systole/systolelaw07.MendColumns", spec := "mendColumns", unfollowed := true, recurses := true, plainKeys := false, apart := false, narrowed := true }
def MendColumnsUptoSaid : Prop := mendColumnsUptoRow.holds Try.pinned (OpenSpec.upto mendColumnsSpec)

/-- 'systolelaw07.MendPlaces', WHERE WHAT IT READS IS OF BULK AT MOST 1048576: true; the input reads as it did. -/
def mendPlacesUptoRow : OpenClaim := { program := "ytbabdoafpljdbaa", sum := "9f61ef5905999a760b03ececd5051e386f0ffa0b65c994073eacd286a4172d28", func := "systole/systolelaw07.MendPlaces", spec := "mendPlaces", unfollowed := true, recurses := true, plainKeys := false, apart := false, narrowed := true }
def MendPlacesUptoSaid : Prop := mendPlacesUptoRow.holds Try.pinned (OpenSpec.upto mendPlacesSpec)

/-- 'systolelaw07.MendMeant', WHERE WHAT IT READS IS OF BULK AT MOST 1048576: true; the input reads as it did. -/
def mendMeantUptoRow : OpenClaim := { program := "ytbabdoafpljdbaa", sum := "9f61ef5905999a760b03ececd5051e386f0ffa0b65c994073eacd286a4172d28", func := "systole/systolelaw07.MendMeant", spec := "mendMeant", unfollowed := true, recurses := true, plainKeys := false, apart := false, narrowed := true }
def MendMeantUptoSaid : Prop := mendMeantUptoRow.holds Try.pinned (OpenSpec.upto mendMeantSpec)

/-- 'systolelaw07.MendCells', WHERE WHAT IT READS IS OF BULK AT MOST 1048576: true; the input reads as it did. -/
def mendCellsUptoRow : OpenClaim := { program := "ytbabdoafpljdbaa", sum := "9f61ef5905999a760b03ececd5051e386f0ffa0b65c994073eacd286a4172d28", func := "systole/systolelaw07.MendCells", spec := "mendCells", unfollowed := true, recurses := true, plainKeys := false, apart := false, narrowed := true }
def MendCellsUptoSaid : Prop := mendCellsUptoRow.holds Try.pinned (OpenSpec.upto mendCellsSpec)

/-- 'systolelaw07.MendCounts', WHERE WHAT IT READS IS OF BULK AT MOST 1048576: true; the input reads as it did. -/
def mendCountsUptoRow : OpenClaim := { program := "ytbabdoafpljdbaa", sum := "9f61ef5905999a760b03ececd5051e386f0ffa0b65c994073eacd286a4172d28", func := "systole/systolelaw07.MendCounts", spec := "mendCounts", unfollowed := true, recurses := true, plainKeys := false, apart := false, narrowed := true }
def MendCountsUptoSaid : Prop := mendCountsUptoRow.holds Try.pinned (OpenSpec.upto mendCountsSpec)

/-- 'systolelaw07.MendFirsts', WHERE WHAT IT READS IS OF BULK AT MOST 1048576: true; the input reads as it did. -/
def mendFirstsUptoRow : OpenClaim := { program := "ytbabdoafpljdbaa", sum := "9f61ef5905999a760b03ececd5051e386f0ffa0b65c994073eacd286a4172d28", func := "systole/systolelaw07.MendFirsts", spec := "mendFirsts", unfollowed := true, recurses := true, plainKeys := false, apart := false, narrowed := true }
def MendFirstsUptoSaid : Prop := mendFirstsUptoRow.holds Try.pinned (OpenSpec.upto mendFirstsSpec)

/-- 'systolelaw07.MendStands', WHERE WHAT IT READS IS OF BULK AT MOST 1048576: true; the input reads as it did. -/
def mendStandsUptoRow : OpenClaim := { program := "ytbabdoafpljdbaa", sum := "9f61ef5905999a760b03ececd5051e386f0ffa0b65c994073eacd286a4172d28", func := "systole/systolelaw07.MendStands", spec := "mendStands", unfollowed := true, recurses := true, plainKeys := false, apart := false, narrowed := true }
def MendStandsUptoSaid : Prop := mendStandsUptoRow.holds Try.pinned (OpenSpec.upto mendStandsSpec)

/-- 'systolelaw07.MendProofs', WHERE WHAT IT READS IS OF BULK AT MOST 1048576: true; the input reads as it did. -/
def mendProofsUptoRow : OpenClaim := { program := "ytbabdoafpljdbaa", sum := "9f61ef5905999a760b03ececd5051e386f0ffa0b65c994073eacd286a4172d28", func := "systole/systolelaw07.MendProofs", spec := "mendProofs", unfollowed := true, recurses := true, plainKeys := false, apart := false, narrowed := true }
def MendProofsUptoSaid : Prop := mendProofsUptoRow.holds Try.pinned (OpenSpec.upto mendProofsSpec)

/-- 'systolelaw07.MendBounds', WHERE WHAT IT READS IS OF BULK AT MOST 1048576: true; the input reads as it did. -/
def mendBoundsUptoRow : OpenClaim := { program := "ytbabdoafpljdbaa", sum := "9f61ef5905999a760b03ececd5051e386f0ffa0b65c994073eacd286a4172d28", func := "systole/systolelaw07.MendBounds", spec := "mendBounds", unfollowed := true, recurses := true, plainKeys := false, apart := false, narrowed := true }
def MendBoundsUptoSaid : Prop := mendBoundsUptoRow.holds Try.pinned (OpenSpec.upto mendBoundsSpec)

end Rows
end Go.Proofs.Ytbabdoafpljdbaa
