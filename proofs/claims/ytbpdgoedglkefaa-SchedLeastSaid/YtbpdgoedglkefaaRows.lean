/-
  No cell of these rows narrows 'for every input' (looked for: loops, veiled, ifaces, maps, wideKeys, modest, calm, conditions, laid).
  DERIVED. THE GIVEN ROWS OF THIS SEAT. 13 by the template 'for every input the law returns true; each argument reads behind the call as it read before'; 0 by the template 'total and deterministic' (their statements: YtbpdgoedglkefaaTotals.lean).
  GIVEN WITH THE SEED: the statements are not yours to turn. If you find one false, say at which input.
  Laid BY PROGRAM, IN A SANDBOX (cutbox-rows.mjs): the forced cells as the released guide's own fill.sh prints them over the translation 8bceaf5df73963c0… (all of the seat's roots in one cut). By AI agents, Wed Nov 11 2026. No macro, syntax, notation, axiom, sorry.
-/
import Derived.Test.YtbpdgoedglkefaaChecked
import GoSem.Claim
import GoSem.ClaimJoined
import GoSem.ClaimMapViews
import Derived.JoinedTies
import Derived.KernelRfl
namespace Go.Proofs.Ytbpdgoedglkefaa
/- THE CELL 'sum', in the pinned program and in every row, IS THE sha256 OF THE DUMP (.gsa) THAT YtbpdgoedglkefaaProg.lean LOADS. Nothing in Lean hashes anything: it is a label: what it is worth is what the hold of that sum in a sandbox is worth. -/
noncomputable def Try.pinned : Pinned := { name := "ytbpdgoedglkefaa", sum := "8bceaf5df73963c03caae881db25a8101b1c63bdd2a1860a04aed008575ba544", checked := Try.checked }
namespace Rows
def none {H : Type} : Left H := { results := [], args := [] }

/-- 'systolelaw03.SchedTimes': WHATEVER THE INPUT: true; the input reads as it did. -/
def schedTimesSpec : ChangeSpec := { name := "schedTimes", fn := fun _ => fun
  | [d1, d2, d3] => { results := [.lit (.bool true)], args := [d1, d2, d3] }
  | _ => none }
def schedTimesRow : OpenClaim := { program := "ytbpdgoedglkefaa", sum := "8bceaf5df73963c03caae881db25a8101b1c63bdd2a1860a04aed008575ba544", func := "systole/systolelaw03.SchedTimes", spec := "schedTimes", unfollowed := true, recurses := true, plainKeys := false, apart := false }
def SchedTimesSaid : Prop := schedTimesRow.holds Try.pinned (OpenSpec.ofChange schedTimesSpec)

/-- ITS FALSE NEIGHBOUR: 'it returns false'. Refute it at one input. -/
def schedTimesWrong : ChangeSpec := { name := "schedTimes", fn := fun _ => fun
  | [d1, d2, d3] => { results := [.lit (.bool false)], args := [d1, d2, d3] }
  | _ => none }
def SchedTimesWrongFalsely : Prop := schedTimesRow.holds Try.pinned (OpenSpec.ofChange schedTimesWrong)

/-- 'systolelaw03.SchedForms': WHATEVER THE INPUT: true; the input reads as it did. -/
def schedFormsSpec : ChangeSpec := { name := "schedForms", fn := fun _ => fun
  | [d1, d2] => { results := [.lit (.bool true)], args := [d1, d2] }
  | _ => none }
def schedFormsRow : OpenClaim := { program := "ytbpdgoedglkefaa", sum := "8bceaf5df73963c03caae881db25a8101b1c63bdd2a1860a04aed008575ba544", func := "systole/systolelaw03.SchedForms", spec := "schedForms", unfollowed := true, recurses := true, plainKeys := false, apart := false }
def SchedFormsSaid : Prop := schedFormsRow.holds Try.pinned (OpenSpec.ofChange schedFormsSpec)

/-- ITS FALSE NEIGHBOUR: 'it returns false'. Refute it at one input. -/
def schedFormsWrong : ChangeSpec := { name := "schedForms", fn := fun _ => fun
  | [d1, d2] => { results := [.lit (.bool false)], args := [d1, d2] }
  | _ => none }
def SchedFormsWrongFalsely : Prop := schedFormsRow.holds Try.pinned (OpenSpec.ofChange schedFormsWrong)

/-- 'systolelaw03.SchedCircles': WHATEVER THE INPUT: true; the input reads as it did. -/
def schedCirclesSpec : ChangeSpec := { name := "schedCircles", fn := fun _ => fun
  | [d1, d2, d3] => { results := [.lit (.bool true)], args := [d1, d2, d3] }
  | _ => none }
def schedCirclesRow : OpenClaim := { program := "ytbpdgoedglkefaa", sum := "8bceaf5df73963c03caae881db25a8101b1c63bdd2a1860a04aed008575ba544", func := "systole/systolelaw03.SchedCircles", spec := "schedCircles", unfollowed := true, recurses := true, plainKeys := false, apart := false }
def SchedCirclesSaid : Prop := schedCirclesRow.holds Try.pinned (OpenSpec.ofChange schedCirclesSpec)

/-- ITS FALSE NEIGHBOUR: 'it returns false'. Refute it at one input. -/
def schedCirclesWrong : ChangeSpec := { name := "schedCircles", fn := fun _ => fun
  | [d1, d2, d3] => { results := [.lit (.bool false)], args := [d1, d2, d3] }
  | _ => none }
def SchedCirclesWrongFalsely : Prop := schedCirclesRow.holds Try.pinned (OpenSpec.ofChange schedCirclesWrong)

/-- 'systolelaw03.SchedProofs': WHATEVER THE INPUT: true; the input reads as it did. -/
def schedProofsSpec : ChangeSpec := { name := "schedProofs", fn := fun _ => fun
  | [d1, d2] => { results := [.lit (.bool true)], args := [d1, d2] }
  | _ => none }
def schedProofsRow : OpenClaim := { program := "ytbpdgoedglkefaa", sum := "8bceaf5df73963c03caae881db25a8101b1c63bdd2a1860a04aed008575ba544", func := "systole/systolelaw03.SchedProofs", spec := "schedProofs", unfollowed := true, recurses := true, plainKeys := false, apart := false }
def SchedProofsSaid : Prop := schedProofsRow.holds Try.pinned (OpenSpec.ofChange schedProofsSpec)

/-- ITS FALSE NEIGHBOUR: 'it returns false'. Refute it at one input. -/
def schedProofsWrong : ChangeSpec := { name := "schedProofs", fn := fun _ => fun
  | [d1, d2] => { results := [.lit (.bool false)], args := [d1, d2] }
  | _ => none }
def SchedProofsWrongFalsely : Prop := schedProofsRow.holds Try.pinned (OpenSpec.ofChange schedProofsWrong)

/-- 'systolelaw03.SchedBest': WHATEVER THE INPUT: true; the input reads as it did. -/
def schedBestSpec : ChangeSpec := { name := "schedBest", fn := fun _ => fun
  | [d1, d2] => { results := [.lit (.bool true)], args := [d1, d2] }
  | _ => none }
def schedBestRow : OpenClaim := { program := "ytbpdgoedglkefaa", sum := "8bceaf5df73963c03caae881db25a8101b1c63bdd2a1860a04aed008575ba544", func := "systole/systolelaw03.SchedBest", spec := "schedBest", unfollowed := true, recurses := true, plainKeys := false, apart := false }
def SchedBestSaid : Prop := schedBestRow.holds Try.pinned (OpenSpec.ofChange schedBestSpec)

/-- ITS FALSE NEIGHBOUR: 'it returns false'. Refute it at one input. -/
def schedBestWrong : ChangeSpec := { name := "schedBest", fn := fun _ => fun
  | [d1, d2] => { results := [.lit (.bool false)], args := [d1, d2] }
  | _ => none }
def SchedBestWrongFalsely : Prop := schedBestRow.holds Try.pinned (OpenSpec.ofChange schedBestWrong)

/-- 'systolelaw03.SchedSums': WHATEVER THE INPUT: true; the input reads as it did. -/
def schedSumsSpec : ChangeSpec := { name := "schedSums", fn := fun _ => fun
  | [d1, d2, d3, d4] => { results := [.lit (.bool true)], args := [d1, d2, d3, d4] }
  | _ => none }
def schedSumsRow : OpenClaim := { program := "ytbpdgoedglkefaa", sum := "8bceaf5df73963c03caae881db25a8101b1c63bdd2a1860a04aed008575ba544", func := "systole/systolelaw03.SchedSums", spec := "schedSums", unfollowed := true, recurses := true, plainKeys := false, apart := false }
def SchedSumsSaid : Prop := schedSumsRow.holds Try.pinned (OpenSpec.ofChange schedSumsSpec)

/-- ITS FALSE NEIGHBOUR: 'it returns false'. Refute it at one input. -/
def schedSumsWrong : ChangeSpec := { name := "schedSums", fn := fun _ => fun
  | [d1, d2, d3, d4] => { results := [.lit (.bool false)], args := [d1, d2, d3, d4] }
  | _ => none }
def SchedSumsWrongFalsely : Prop := schedSumsRow.holds Try.pinned (OpenSpec.ofChange schedSumsWrong)

/-- 'systolelaw03.SchedAdds': WHATEVER THE INPUT: true; the input reads as it did. -/
def schedAddsSpec : ChangeSpec := { name := "schedAdds", fn := fun _ => fun
  | [d1, d2, d3, d4] => { results := [.lit (.bool true)], args := [d1, d2, d3, d4] }
  | _ => none }
def schedAddsRow : OpenClaim := { program := "ytbpdgoedglkefaa", sum := "8bceaf5df73963c03caae881db25a8101b1c63bdd2a1860a04aed008575ba544", func := "systole/systolelaw03.SchedAdds", spec := "schedAdds", unfollowed := true, recurses := true, plainKeys := false, apart := false }
def SchedAddsSaid : Prop := schedAddsRow.holds Try.pinned (OpenSpec.ofChange schedAddsSpec)

/-- ITS FALSE NEIGHBOUR: 'it returns false'. Refute it at one input. -/
def schedAddsWrong : ChangeSpec := { name := "schedAdds", fn := fun _ => fun
  | [d1, d2, d3, d4] => { results := [.lit (.bool false)], args := [d1, d2, d3, d4] }
  | _ => none }
def SchedAddsWrongFalsely : Prop := schedAddsRow.holds Try.pinned (OpenSpec.ofChange schedAddsWrong)

/-- 'systolelaw03.SchedOffsets': WHATEVER THE INPUT: true; the input reads as it did. -/
def schedOffsetsSpec : ChangeSpec := { name := "schedOffsets", fn := fun _ => fun
  | [d1, d2] => { results := [.lit (.bool true)], args := [d1, d2] }
  | _ => none }
def schedOffsetsRow : OpenClaim := { program := "ytbpdgoedglkefaa", sum := "8bceaf5df73963c03caae881db25a8101b1c63bdd2a1860a04aed008575ba544", func := "systole/systolelaw03.SchedOffsets", spec := "schedOffsets", unfollowed := true, recurses := true, plainKeys := false, apart := false }
def SchedOffsetsSaid : Prop := schedOffsetsRow.holds Try.pinned (OpenSpec.ofChange schedOffsetsSpec)

/-- ITS FALSE NEIGHBOUR: 'it returns false'. Refute it at one input. -/
def schedOffsetsWrong : ChangeSpec := { name := "schedOffsets", fn := fun _ => fun
  | [d1, d2] => { results := [.lit (.bool false)], args := [d1, d2] }
  | _ => none }
def SchedOffsetsWrongFalsely : Prop := schedOffsetsRow.holds Try.pinned (OpenSpec.ofChange schedOffsetsWrong)

/-- 'systolelaw03.SchedLeast': WHATEVER THE INPUT: true; the input reads as it did. -/
def schedLeastSpec : ChangeSpec := { name := "schedLeast", fn := fun _ => fun
  | [d1, d2, d3] => { results := [.lit (.bool true)], args := [d1, d2, d3] }
  | _ => none }
def schedLeastRow : OpenClaim := { program := "ytbpdgoedglkefaa", sum := "8bceaf5df73963c03caae881db25a8101b1c63bdd2a1860a04aed008575ba544", func := "systole/systolelaw03.SchedLeast", spec := "schedLeast", unfollowed := true, recurses := true, plainKeys := false, apart := false }
def SchedLeastSaid : Prop := schedLeastRow.holds Try.pinned (OpenSpec.ofChange schedLeastSpec)

/-- ITS FALSE NEIGHBOUR: 'it returns false'. Refute it at one input. -/
def schedLeastWrong : ChangeSpec := { name := "schedLeast", fn := fun _ => fun
  | [d1, d2, d3] => { results := [.lit (.bool false)], args := [d1, d2, d3] }
  | _ => none }
def SchedLeastWrongFalsely : Prop := schedLeastRow.holds Try.pinned (OpenSpec.ofChange schedLeastWrong)

/-- 'systolelaw03.SchedBounds': WHATEVER THE INPUT: true; the input reads as it did. -/
def schedBoundsSpec : ChangeSpec := { name := "schedBounds", fn := fun _ => fun
  | [d] => { results := [.lit (.bool true)], args := [d] }
  | _ => none }
def schedBoundsRow : OpenClaim := { program := "ytbpdgoedglkefaa", sum := "8bceaf5df73963c03caae881db25a8101b1c63bdd2a1860a04aed008575ba544", func := "systole/systolelaw03.SchedBounds", spec := "schedBounds", unfollowed := true, recurses := true, plainKeys := false, apart := false }
def SchedBoundsSaid : Prop := schedBoundsRow.holds Try.pinned (OpenSpec.ofChange schedBoundsSpec)

/-- ITS FALSE NEIGHBOUR: 'it returns false'. Refute it at one input. -/
def schedBoundsWrong : ChangeSpec := { name := "schedBounds", fn := fun _ => fun
  | [d] => { results := [.lit (.bool false)], args := [d] }
  | _ => none }
def SchedBoundsWrongFalsely : Prop := schedBoundsRow.holds Try.pinned (OpenSpec.ofChange schedBoundsWrong)

/-- 'systolelaw03.SchedLatency': WHATEVER THE INPUT: true; the input reads as it did. -/
def schedLatencySpec : ChangeSpec := { name := "schedLatency", fn := fun _ => fun
  | [d1, d2] => { results := [.lit (.bool true)], args := [d1, d2] }
  | _ => none }
def schedLatencyRow : OpenClaim := { program := "ytbpdgoedglkefaa", sum := "8bceaf5df73963c03caae881db25a8101b1c63bdd2a1860a04aed008575ba544", func := "systole/systolelaw03.SchedLatency", spec := "schedLatency", unfollowed := true, recurses := true, plainKeys := false, apart := false }
def SchedLatencySaid : Prop := schedLatencyRow.holds Try.pinned (OpenSpec.ofChange schedLatencySpec)

/-- ITS FALSE NEIGHBOUR: 'it returns false'. Refute it at one input. -/
def schedLatencyWrong : ChangeSpec := { name := "schedLatency", fn := fun _ => fun
  | [d1, d2] => { results := [.lit (.bool false)], args := [d1, d2] }
  | _ => none }
def SchedLatencyWrongFalsely : Prop := schedLatencyRow.holds Try.pinned (OpenSpec.ofChange schedLatencyWrong)

/-- 'systolelaw03.SchedOrders': WHATEVER THE INPUT: true; the input reads as it did. -/
def schedOrdersSpec : ChangeSpec := { name := "schedOrders", fn := fun _ => fun
  | [d1, d2] => { results := [.lit (.bool true)], args := [d1, d2] }
  | _ => none }
def schedOrdersRow : OpenClaim := { program := "ytbpdgoedglkefaa", sum := "8bceaf5df73963c03caae881db25a8101b1c63bdd2a1860a04aed008575ba544", func := "systole/systolelaw03.SchedOrders", spec := "schedOrders", unfollowed := true, recurses := true, plainKeys := false, apart := false }
def SchedOrdersSaid : Prop := schedOrdersRow.holds Try.pinned (OpenSpec.ofChange schedOrdersSpec)

/-- ITS FALSE NEIGHBOUR: 'it returns false'. Refute it at one input. -/
def schedOrdersWrong : ChangeSpec := { name := "schedOrders", fn := fun _ => fun
  | [d1, d2] => { results := [.lit (.bool false)], args := [d1, d2] }
  | _ => none }
def SchedOrdersWrongFalsely : Prop := schedOrdersRow.holds Try.pinned (OpenSpec.ofChange schedOrdersWrong)

/-- 'systolelaw03.SchedOrdered': WHATEVER THE INPUT: true; the input reads as it did. -/
def schedOrderedSpec : ChangeSpec := { name := "schedOrdered", fn := fun _ => fun
  | [d1, d2] => { results := [.lit (.bool true)], args := [d1, d2] }
  | _ => none }
def schedOrderedRow : OpenClaim := { program := "ytbpdgoedglkefaa", sum := "8bceaf5df73963c03caae881db25a8101b1c63bdd2a1860a04aed008575ba544", func := "systole/systolelaw03.SchedOrdered", spec := "schedOrdered", unfollowed := true, recurses := true, plainKeys := false, apart := false }
def SchedOrderedSaid : Prop := schedOrderedRow.holds Try.pinned (OpenSpec.ofChange schedOrderedSpec)

/-- ITS FALSE NEIGHBOUR: 'it returns false'. Refute it at one input. -/
def schedOrderedWrong : ChangeSpec := { name := "schedOrdered", fn := fun _ => fun
  | [d1, d2] => { results := [.lit (.bool false)], args := [d1, d2] }
  | _ => none }
def SchedOrderedWrongFalsely : Prop := schedOrderedRow.holds Try.pinned (OpenSpec.ofChange schedOrderedWrong)

/- THE SECOND FORM. 'bulk': how many values and letters a reading holds, each counted each time it is reached (what is shared counts as often as it is met; a slice's spare places count too). A statement '..UptoSaid' is the law's where the arguments, and the package variables that the reading takes, are together of bulk at most 1048576: NARROWER than '..Said'. Prove '..Said' where nothing that the law and all that it calls make is longer than what came in: it says more and counts as full. Else prove '..UptoSaid'. A law counts once. -/
mutual
def uptoBulk {H : Type} : DataW H → Nat
  | .lit (.string bytes) => bytes.length + 1
  | .lit _ => 1
  | .nil => 1
  | .ptr d => uptoBulk d + 1
  | .slice elems spare => uptoBulkAll elems + uptoBulkAll spare + 1
  | .agg parts => uptoBulkAll parts + 1
  | .iface _ d => uptoBulk d + 1
  | .map entries => uptoBulkEntries entries + 1
  | .held _ => 1
def uptoBulkAll {H : Type} : List (DataW H) → Nat
  | [] => 0
  | d :: r => uptoBulk d + uptoBulkAll r
def uptoBulkEntries {H : Type} : List (Lit × DataW H) → Nat
  | [] => 0
  | x :: r => uptoBulkEntry x + uptoBulkEntries r
def uptoBulkEntry {H : Type} : Lit × DataW H → Nat
  | (.string bytes, d) => bytes.length + uptoBulk d + 1
  | (_, d) => uptoBulk d + 1
 end
def uptoSmall : (H : Type) → List (DataW H) → Bool := fun _ ds => decide (uptoBulkAll ds ≤ 1048576)
def OpenSpec.upto (s : _root_.Go.ChangeSpec) : _root_.Go.OpenSpec := { _root_.Go.OpenSpec.ofChange s with cond := some uptoSmall }

/-- 'systolelaw03.SchedTimes', WHERE WHAT IT READS IS OF BULK AT MOST 1048576: true; the input reads as it did. -/
def schedTimesUptoRow : OpenClaim := { program := "ytbpdgoedglkefaa", sum := "8bceaf5df73963c03caae881db25a8101b1c63bdd2a1860a04aed008575ba544", func := "systole/systolelaw03.SchedTimes", spec := "schedTimes", unfollowed := true, recurses := true, plainKeys := false, apart := false, narrowed := true }
def SchedTimesUptoSaid : Prop := schedTimesUptoRow.holds Try.pinned (OpenSpec.upto schedTimesSpec)

/-- 'systolelaw03.SchedForms', WHERE WHAT IT READS IS OF BULK AT MOST 1048576: true; the input reads as it did. -/
def schedFormsUptoRow : OpenClaim := { program := "ytbpdgoedglkefaa", sum := "8bceaf5df73963c03caae881db25a8101b1c63bdd2a1860a04aed008575ba544", func := "systole/systolelaw03.SchedForms", spec := "schedForms", unfollowed := true, recurses := true, plainKeys := false, apart := false, narrowed := true }
def SchedFormsUptoSaid : Prop := schedFormsUptoRow.holds Try.pinned (OpenSpec.upto schedFormsSpec)

/-- 'systolelaw03.SchedCircles', WHERE WHAT IT READS IS OF BULK AT MOST 1048576: true; the input reads as it did. -/
def schedCirclesUptoRow : OpenClaim := { program := "ytbpdgoedglkefaa", sum := "8bceaf5df73963c03caae881db25a8101b1c63bdd2a1860a04aed008575ba544", func := "systole/systolelaw03.SchedCircles", spec := "schedCircles", unfollowed := true, recurses := true, plainKeys := false, apart := false, narrowed := true }
def SchedCirclesUptoSaid : Prop := schedCirclesUptoRow.holds Try.pinned (OpenSpec.upto schedCirclesSpec)

/-- 'systolelaw03.SchedProofs', WHERE WHAT IT READS IS OF BULK AT MOST 1048576: true; the input reads as it did. -/
def schedProofsUptoRow : OpenClaim := { program := "ytbpdgoedglkefaa", sum := "8bceaf5df73963c03caae881db25a8101b1c63bdd2a1860a04aed008575ba544", func := "systole/systolelaw03.SchedProofs", spec := "schedProofs", unfollowed := true, recurses := true, plainKeys := false, apart := false, narrowed := true }
def SchedProofsUptoSaid : Prop := schedProofsUptoRow.holds Try.pinned (OpenSpec.upto schedProofsSpec)

/-- 'systolelaw03.SchedBest', WHERE WHAT IT READS IS OF BULK AT MOST 1048576: true; the input reads as it did. -/
def schedBestUptoRow : OpenClaim := { program := "ytbpdgoedglkefaa", sum := "8bceaf5df73963c03caae881db25a8101b1c63bdd2a1860a04aed008575ba544", func := "systole/systolelaw03.SchedBest", spec := "schedBest", unfollowed := true, recurses := true, plainKeys := false, apart := false, narrowed := true }
def SchedBestUptoSaid : Prop := schedBestUptoRow.holds Try.pinned (OpenSpec.upto schedBestSpec)

/-- 'systolelaw03.SchedSums', WHERE WHAT IT READS IS OF BULK AT MOST 1048576: true; the input reads as it did. -/
def schedSumsUptoRow : OpenClaim := { program := "ytbpdgoedglkefaa", sum := "8bceaf5df73963c03caae881db25a8101b1c63bdd2a1860a04aed008575ba544", func := "systole/systolelaw03.SchedSums", spec := "schedSums", unfollowed := true, recurses := true, plainKeys := false, apart := false, narrowed := true }
def SchedSumsUptoSaid : Prop := schedSumsUptoRow.holds Try.pinned (OpenSpec.upto schedSumsSpec)

/-- 'systolelaw03.SchedAdds', WHERE WHAT IT READS IS OF BULK AT MOST 1048576: true; the input reads as it did. -/
def schedAddsUptoRow : OpenClaim := { program := "ytbpdgoedglkefaa", sum := "8bceaf5df73963c03caae881db25a8101b1c63bdd2a1860a04aed008575ba544", func := "systole/systolelaw03.SchedAdds", spec := "schedAdds", unfollowed := true, recurses := true, plainKeys := false, apart := false, narrowed := true }
def SchedAddsUptoSaid : Prop := schedAddsUptoRow.holds Try.pinned (OpenSpec.upto schedAddsSpec)

/-- 'systolelaw03.SchedOffsets', WHERE WHAT IT READS IS OF BULK AT MOST 1048576: true; the input reads as it did. -/
def schedOffsetsUptoRow : OpenClaim := { program := "ytbpdgoedglkefaa", sum := "8bceaf5df73963c03caae881db25a8101b1c63bdd2a1860a04aed008575ba544", func := "systole/systolelaw03.SchedOffsets", spec := "schedOffsets", unfollowed := true, recurses := true, plainKeys := false, apart := false, narrowed := true }
def SchedOffsetsUptoSaid : Prop := schedOffsetsUptoRow.holds Try.pinned (OpenSpec.upto schedOffsetsSpec)

/-- 'systolelaw03.SchedLeast', WHERE WHAT IT READS IS OF BULK AT MOST 1048576: true; the input reads as it did. -/
def schedLeastUptoRow : OpenClaim := { program := "ytbpdgoedglkefaa", sum := "8bceaf5df73963c03caae881db25a8101b1c63bdd2a1860a04aed008575ba544", func := "systole/systolelaw03.SchedLeast", spec := "schedLeast", unfollowed := true, recurses := true, plainKeys := false, apart := false, narrowed := true }
def SchedLeastUptoSaid : Prop := schedLeastUptoRow.holds Try.pinned (OpenSpec.upto schedLeastSpec)

/-- 'systolelaw03.SchedBounds', WHERE WHAT IT READS IS OF BULK AT MOST 1048576: true; the input reads as it did. -/
def schedBoundsUptoRow : OpenClaim := { program := "ytbpdgoedglkefaa", sum := "8bceaf5df73963c03caae881db25a8101b1c63bdd2a1860a04aed008575ba544", func := "systole/systolelaw03.SchedBounds", spec := "schedBounds", unfollowed := true, recurses := true, plainKeys := false, apart := false, narrowed := true }
def SchedBoundsUptoSaid : Prop := schedBoundsUptoRow.holds Try.pinned (OpenSpec.upto schedBoundsSpec)

/-- 'systolelaw03.SchedLatency', WHERE WHAT IT READS IS OF BULK AT MOST 1048576: true; the input reads as it did. -/
def schedLatencyUptoRow : OpenClaim := { program := "ytbpdgoedglkefaa", sum := "8bceaf5df73963c03caae881db25a8101b1c63bdd2a1860a04aed008575ba544", func := "systole/systolelaw03.SchedLatency", spec := "schedLatency", unfollowed := true, recurses := true, plainKeys := false, apart := false, narrowed := true }
def SchedLatencyUptoSaid : Prop := schedLatencyUptoRow.holds Try.pinned (OpenSpec.upto schedLatencySpec)

/-- 'systolelaw03.SchedOrders', WHERE WHAT IT READS IS OF BULK AT MOST 1048576: true; the input reads as it did. -/
def schedOrdersUptoRow : OpenClaim := { program := "ytbpdgoedglkefaa", sum := "8bceaf5df73963c03caae881db25a8101b1c63bdd2a1860a04aed008575ba544", func := "systole/systolelaw03.SchedOrders", spec := "schedOrders", unfollowed := true, recurses := true, plainKeys := false, apart := false, narrowed := true }
def SchedOrdersUptoSaid : Prop := schedOrdersUptoRow.holds Try.pinned (OpenSpec.upto schedOrdersSpec)

/-- 'systolelaw03.SchedOrdered', WHERE WHAT IT READS IS OF BULK AT MOST 1048576: true; the input reads as it did. -/
def schedOrderedUptoRow : OpenClaim := { program := "ytbpdgoedglkefaa", sum := "8bceaf5df73963c03caae881db25a8101b1c63bdd2a1860a04aed008575ba544", func := "systole/systolelaw03.SchedOrdered", spec := "schedOrdered", unfollowed := true, recurses := true, plainKeys := false, apart := false, narrowed := true }
def SchedOrderedUptoSaid : Prop := schedOrderedUptoRow.holds Try.pinned (OpenSpec.upto schedOrderedSpec)

end Rows
end Go.Proofs.Ytbpdgoedglkefaa
