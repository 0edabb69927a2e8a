/- The best schedule is legal, and no legal one is shorter: the law. -/
import Derived.Test.YtbpdgoedglkefaaSch42
import Derived.Test.YtbpdgoedglkefaaB5
namespace Go.Proofs.Ytbpdgoedglkefaa
open Go.RowKit

section
variable {n : Int} {l : List Iq} {K : List Vv}
theorem lat_val {q : Sd} (hc : chkE n l K [q] = 0) (hP : pts n l ≠ []) : latR n l K q = .tuple #[.int .i64 (latF (pts n l) q.f q.off), .int .i64 0] := by
  obtain ⟨hrb, -, hk1, hk4, -, -, hf, hol, hob⟩ := chk_ok hc
  have ho : q.off ≠ [] := fun e => by rw [e] at hol; simp at hol; omega
  obtain ⟨a, b, c, d, ea, eb, ec, ed, el, hab, hcd⟩ := lat_parts (n := n) (l := l) (flat_abs hf) hP ho (fun x hx => off_bd hob hx)
  have hE : spanE n l K q = 0 := by
    unfold spanE
    rw [if_neg (by simpa using hc), if_neg (by simpa using hP)]
  have hlo : spLo q (pts n l) = a + c := by unfold spLo; rw [ea, ec, IntKind.wrap_i64]; omega
  have hhi : spHi q (pts n l) = b + d := by unfold spHi; rw [eb, ed, IntKind.wrap_i64]; omega
  unfold latR spanH spanL
  rw [hE]
  simp only [ne_eq, not_true_eq_false, if_false, if_true]
  rw [hlo, hhi, el]
  have : wrap64 (wrap64 (b + d - (a + c)) + 1) = b - a + (d - c) + 1 := by unfold wrap64; omega
  rw [this]
theorem lat_nil {q : Sd} (hc : chkE n l K [q] = 0) (hP : pts n l = []) : latR n l K q = .tuple #[.int .i64 0, .int .i64 5] := by
  have hE : spanE n l K q = 5 := by unfold spanE; rw [if_neg (by simpa using hc), hP]; rfl
  unfold latR; rw [hE]; rfl
theorem lat_bad {q : Sd} (hc : chkE n l K [q] ≠ 0) : latR n l K q = .tuple #[.int .i64 0, .int .i64 (chkE n l K [q])] := by
  have hE : spanE n l K q = chkE n l K [q] := by unfold spanE; rw [if_pos hc]
  unfold latR; rw [hE, if_pos hc]
theorem flat_frm {q : Sd} {m : Int} (hc : chkE n l K [q] = 0) (h : flatB q.f 3 m = true) : q.f ∈ frm n m := by
  obtain ⟨hrb, -, -, -, hn, -, hf, -, -⟩ := chk_ok hc
  simp only [flatB, flatC, Bool.and_eq_true, bw_iff, Bool.or_eq_true, decide_eq_true_eq] at h hf
  obtain ⟨⟨a1, -⟩, ⟨a3, -⟩, a5, -⟩ := h
  obtain ⟨⟨-, b2⟩, ⟨-, b4⟩, -, b6⟩ := hf
  refine frm_mem.2 ⟨?_, ?_, ?_⟩ <;> (unfold fa; split <;> omega)
theorem frm_flat {g : Pt} {m : Int} (hm : 0 ≤ m ∧ m ≤ 3) (h : g ∈ frm n m) : flatB g 3 m = true := by
  have h1 := frm_mem.1 h
  simp only [fa] at h1
  simp only [flatB, flatC, Bool.and_eq_true, bw_iff, Bool.or_eq_true, decide_eq_true_eq]
  repeat' split at h1
  all_goals omega
/-- Within: no legal one with such a form is shorter than the best. -/
theorem least_in {q : Sd} {m : Int} (hc : chkE n l K [q] = 0) (hl : legB K q = true) (hP : pts n l ≠ []) (hf : flatB q.f 3 m = true) : ∃ g u, bstP K (pts n l) (frm n m) = some (g, u) ∧ latF (pts n l) g u ≤ latF (pts n l) q.f q.off := by
  obtain ⟨g, u, h1, h2⟩ := bst_least hc hl (flat_frm hc hf) (pts n l)
  exact ⟨g, u, by unfold bstP; rw [if_neg hP]; exact h1, h2⟩
theorem best_legal (hrb : recB n l K = true) {m : Int} (hm : 0 ≤ m ∧ m ≤ 3) {g : Pt} {u : List Int} (h : bstP K (pts n l) (frm n m) = some (g, u)) (s : Option Addr) (c : Nat) : chkE n l K [⟨g, u, s, c⟩] = 0 ∧ legB K ⟨g, u, s, c⟩ = true ∧ pts n l ≠ [] ∧ flatB g 3 m = true ∧ u.length ≤ 4 := by
  have hP : pts n l ≠ [] := fun e => by unfold bstP at h; rw [if_pos e] at h; cases h
  have h2 : bstL K (pts n l) (frm n m) = some (g, u) := by unfold bstP at h; rwa [if_neg hP] at h
  obtain ⟨c1, c2, c3⟩ := bst_legal hrb (rec_dim hrb) hm h2 s c
  have := rec_vars hrb
  exact ⟨c1, c2, hP, frm_flat hm (bst_some h2).1, by omega⟩
end
end Go.Proofs.Ytbpdgoedglkefaa
