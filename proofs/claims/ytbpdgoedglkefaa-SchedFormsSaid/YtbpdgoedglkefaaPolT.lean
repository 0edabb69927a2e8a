/- Domains that came in: the contracts of layer 1, in terms of them (for other layers' seats). -/
import Derived.Test.YtbpdgoedglkefaaPoly8
namespace Go.Proofs.Ytbpdgoedglkefaa
open Go.RowKit

def vE (n : Int) (l : List Iq) : Int := if validB n l then 0 else 10
def cntN (n : Int) (l : List Iq) : Int := if validB n l then (pts n l).length else 0
theorem hasR_t (n : Int) (l : List Iq) (p : Pt) : hasR n l p = .tuple #[.bool (validB n l && hasB n l p), .int .i64 (vE n l)] := by
  unfold hasR vE; cases validB n l <;> rfl
theorem cntR_t (n : Int) (l : List Iq) : cntR n l = .tuple #[.int .i64 (cntN n l), .int .i64 (vE n l)] := by
  unfold cntR cntN vE; cases validB n l <;> rfl
/-- A domain that came in. -/
structure Dom (w : World) (s : Option Addr) (l : List Iq) : Prop where
  iq : IqS w s l
  len : l.length ≤ 9223372036854775807
  wf : ∀ q ∈ l, -9223372036854775808 ≤ q.b ∧ q.b ≤ 9223372036854775807
theorem Up.dom {W W' : World} (h : Below W.heap.size W W') {s : Option Addr} {l : List Iq} (c : Dom W s l) : Dom W' s l := ⟨Up.iq h c.iq, c.len, c.wf⟩
theorem Up.domB {N : Nat} {W W' : World} (h : Below N W W') {s : Option Addr} {l : List Iq} (hN : W.heap.size ≤ N) (c : Dom W s l) : Dom W' s l := Up.dom (h.mono hN) c

section
variable (n : Int) (s : Option Addr) (cap : Nat) (l : List Iq) (p : Pt) (w : World) (h : Dom w s l)
include h
theorem Valid_t : Calls Try.prog 103 #[.agg #[.int .i64 n, .slice s l.length cap]] w fun e w' => e = .returned (.bool (validB n l)) ∧ Below w.heap.size w w' := valid_c n s cap l w h.iq h.len
theorem rValid_t : Calls Try.prog 105 #[.agg #[.int .i64 n, .slice s l.length cap]] w fun e w' => e = .returned (.bool (validB n l)) ∧ Below w.heap.size w w' := rvalid_c n s cap l w h.iq h.len
theorem Has_t : Calls Try.prog 58 #[.agg #[.int .i64 n, .slice s l.length cap], .agg #[.int .i64 p.x, .int .i64 p.y, .int .i64 p.z]] w fun e w' => e = .returned (.tuple #[.bool (validB n l && hasB n l p), .int .i64 (vE n l)]) ∧ Below w.heap.size w w' := by
  rw [← hasR_t]; exact Has_c n s cap l p w h.iq h.len
theorem rHas_t : Calls Try.prog 62 #[.agg #[.int .i64 n, .slice s l.length cap], .agg #[.int .i64 p.x, .int .i64 p.y, .int .i64 p.z]] w fun e w' => e = .returned (.tuple #[.bool (validB n l && hasB n l p), .int .i64 (vE n l)]) ∧ Below w.heap.size w w' := by
  rw [← hasR_t]; exact rHas_c n s cap l p w h.iq h.len h.wf
theorem Count_t : Calls Try.prog 113 #[.agg #[.int .i64 n, .slice s l.length cap]] w fun e w' => e = .returned (.tuple #[.int .i64 (cntN n l), .int .i64 (vE n l)]) ∧ Below w.heap.size w w' := by
  rw [← cntR_t]; exact Count_c n s cap l w h.iq h.len
end
theorem PtsRet.mono {n : Int} {l : List Iq} {w : World} {e : Ending} {w' : World} (h : PtsRet n l w e w') : ∃ s cap, e = .returned (.tuple #[.slice s (ptsL n l).length cap, .int .i64 (ptsE n l)]) ∧ PtS w' s (ptsL n l) ∧ Below w.heap.size w w' := by
  obtain ⟨s, cap, rfl, ho, hb⟩ := h
  exact ⟨s, cap, rfl, owns_pt ho, hb⟩
theorem ptsL_len (n : Int) (l : List Iq) : (ptsL n l).length ≤ 9223372036854775807 := by
  have := pts_len n l
  unfold ptsL; split
  · omega
  · simp
end Go.Proofs.Ytbpdgoedglkefaa
