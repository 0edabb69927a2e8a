/- The best schedule, as exported: both answer alike. -/
import Derived.Test.YtbpdgoedglkefaaSch41
import Derived.Test.YtbpdgoedglkefaaSch38
namespace Go.Proofs.Ytbpdgoedglkefaa
open Go.RowKit

/-- What Best hands back: a form, offsets, an error. -/
def bsF (n : Int) (l : List Iq) (K : List Vv) (m : Int) : Pt × List Int × Int :=
  if recB n l K = true then (if bw 0 m 3 = true then (match bstP K (pts n l) (frm n m) with | none => (⟨0, 0, 0⟩, [], 5) | some (g, u) => (g, u, 0)) else (⟨0, 0, 0⟩, [], 2)) else (⟨0, 0, 0⟩, [], 20)
theorem rec_dim {n : Int} {l : List Iq} {K : List Vv} (h : recB n l K = true) : 1 ≤ n ∧ n ≤ 3 := by
  unfold recB at h
  rw [Bool.and_eq_true] at h
  have h1 := h.1
  simp only [validB, Bool.and_eq_true, bw_iff] at h1
  exact h1.1
theorem Best_all (n : Int) (s : Option Addr) (cap : Nat) (l : List Iq) (s2 : Option Addr) (cq : Nat) (K : List Vv) (m : Int) (w : World) (hr : RecM w s l s2 cq K) :
    Calls Try.prog 35 #[.agg #[.int .i64 n, .slice s l.length cap, .slice s2 K.length cq], .int .i64 m] w (SdRet (bsF n l K m).1 (bsF n l K m).2.1 (bsF n l K m).2.2 w) := by
  unfold bsF
  by_cases h : recB n l K = true
  · rw [if_pos h]
    by_cases hm : bw 0 m 3 = true
    · rw [if_pos hm]
      have := Best_c n s cap l s2 cq K m w hr h (bw_iff.1 hm) (rec_dim h)
      cases hb : bstP K (pts n l) (frm n m) with
      | none => rw [hb] at this; exact this
      | some x => obtain ⟨g, u⟩ := x; rw [hb] at this; exact this
    · rw [if_neg hm]
      exact Best_arg n s cap l s2 cq K m w hr h (by simpa using hm)
  · rw [if_neg h]
    exact Best_rec n s cap l s2 cq K m w hr (by simpa using h)
theorem rBest_all (n : Int) (s : Option Addr) (cap : Nat) (l : List Iq) (s2 : Option Addr) (cq : Nat) (K : List Vv) (m : Int) (w : World) (hr : RecM w s l s2 cq K) :
    Calls Try.prog 36 #[.agg #[.int .i64 n, .slice s l.length cap, .slice s2 K.length cq], .int .i64 m] w (SdRet (bsF n l K m).1 (bsF n l K m).2.1 (bsF n l K m).2.2 w) := by
  unfold bsF
  by_cases h : recB n l K = true
  · rw [if_pos h]
    by_cases hm : bw 0 m 3 = true
    · rw [if_pos hm]
      by_cases hP : pts n l = []
      · have := rBest_nil n s cap l s2 cq K m w hr h (bw_iff.1 hm) hP (rec_dim h)
        have hb : bstP K (pts n l) (frm n m) = none := by unfold bstP; rw [if_pos hP]
        rw [hb]; exact this
      · have := rBest_c n s cap l s2 cq K m w hr h (bw_iff.1 hm) hP (rec_dim h)
        have hb : bstP K (pts n l) (frm n m) = bstL K (pts n l) (frm n m) := by unfold bstP; rw [if_neg hP]
        rw [hb]
        cases hb2 : bstL K (pts n l) (frm n m) with
        | none => rw [hb2] at this; exact this
        | some x => obtain ⟨g, u⟩ := x; rw [hb2] at this; exact this
    · rw [if_neg hm]
      exact rBest_arg n s cap l s2 cq K m w hr h (by
        have : ¬ (0 ≤ m ∧ m ≤ 3) := fun h => hm (bw_iff.2 h)
        omega)
  · rw [if_neg h]
    exact rBest_rec n s cap l s2 cq K m w hr (by simpa using h)
theorem bsF_len (n : Int) (l : List Iq) (K : List Vv) (m : Int) : (bsF n l K m).2.1.length ≤ 4 := by
  unfold bsF
  by_cases h : recB n l K = true
  · rw [if_pos h]
    by_cases hm : bw 0 m 3 = true
    · rw [if_pos hm]
      cases hb : bstP K (pts n l) (frm n m) with
      | none => simp
      | some x =>
        obtain ⟨g, u⟩ := x
        have h1 := bstP_in hb
        have h2 := (bf_small (n := n) (l := l) h (rec_dim h) (bw_iff.1 hm) h1.1 h1.2).1
        have h3 := rec_vars h
        show u.length ≤ 4
        omega
    · rw [if_neg hm]; simp
  · rw [if_neg h]; simp
end Go.Proofs.Ytbpdgoedglkefaa
