/- The best schedule: its numbers are small. -/
import Derived.Test.YtbpdgoedglkefaaSchBst
import Derived.Test.YtbpdgoedglkefaaSchLaw2
namespace Go.Proofs.Ytbpdgoedglkefaa
open Go.RowKit

theorem frm_abs {n m : Int} (hm : 0 ≤ m ∧ m ≤ 3) {f : Pt} (h : f ∈ frm n m) : f.x.natAbs ≤ 9 ∧ f.y.natAbs ≤ 9 ∧ f.z.natAbs ≤ 9 := by
  have hfm := frm_mem.1 h
  simp only [fa] at hfm
  repeat' split at hfm
  all_goals omega
theorem bf_small {n : Int} {l : List Iq} {K : List Vv} (hrb : recB n l K = true) {m : Int} (hn : 1 ≤ n ∧ n ≤ 3) (hm : 0 ≤ m ∧ m ≤ 3) {f : Pt} (hf : f ∈ frm n m) {o : List Int} (hb : bfR K f = some o) : o.length = K.length ∧ ∀ x ∈ o, 0 ≤ x ∧ x ≤ 1000 := by
  have h1 : bstL K [] (frm n m) = bstL K [] (frm n m) := rfl
  have hk := rec_vars hrb
  have hfl : flatB f n 9 = true := by
    have hfm := frm_mem.1 hf
    simp only [flatB, flatC, Bool.and_eq_true, bw_iff, fa] at hfm ⊢
    repeat' split at hfm
    all_goals simp only [decide_eq_true_eq, Bool.or_eq_true]
    all_goals omega
  have h0 : chkE n l K [⟨f, zeros K.length, none, 0⟩] = 0 := chk_one hrb (by
    unfold fitB
    rw [hfl, decide_eq_true (zeros_len _)]
    show offB _ = true
    unfold offB
    rw [List.all_eq_true]
    intro x hx
    rw [zeros, List.mem_replicate] at hx
    rw [hx.2]; decide)
  obtain ⟨c1, c2, c3, -⟩ := bf_prf h0 hb none 0
  obtain ⟨-, -, -, -, -, -, -, -, hob⟩ := chk_ok c1
  exact ⟨c3, fun x hx => off_bd hob hx⟩
theorem lat_parts {n : Int} {l : List Iq} {f : Pt} {o : List Int} (hf : f.x.natAbs ≤ 9 ∧ f.y.natAbs ≤ 9 ∧ f.z.natAbs ≤ 9) (hP : pts n l ≠ []) (ho : o ≠ []) (hob : ∀ x ∈ o, 0 ≤ x ∧ x ≤ 1000) :
    ∃ a b c d, loL ((pts n l).map (tmP f)) = a ∧ hiL ((pts n l).map (tmP f)) = b ∧ loL o = c ∧ hiL o = d ∧ latF (pts n l) f o = b - a + (d - c) + 1 ∧ (-540 ≤ a ∧ a ≤ b ∧ b ≤ 540) ∧ (0 ≤ c ∧ c ≤ d ∧ d ≤ 1000) := by
  have hPm : (pts n l).map (tmP f) ≠ [] := by simpa using hP
  obtain ⟨l1, l2⟩ := loL_spec hPm
  obtain ⟨u1, u2⟩ := hiL_spec hPm
  obtain ⟨c1, c2⟩ := loL_spec ho
  obtain ⟨d1, d2⟩ := hiL_spec ho
  have hb : ∀ x ∈ (pts n l).map (tmP f), -540 ≤ x ∧ x ≤ 540 := fun x hx => by
    obtain ⟨p, hp, rfl⟩ := List.mem_map.1 hx
    have := tm_small hf (pts_abs hp)
    unfold tmP
    omega
  refine ⟨_, _, _, _, rfl, rfl, rfl, rfl, rfl, ⟨(hb _ l1).1, u2 _ l1, (hb _ u1).2⟩, (hob _ c1).1, d2 _ c1, (hob _ d1).2⟩
end Go.Proofs.Ytbpdgoedglkefaa
