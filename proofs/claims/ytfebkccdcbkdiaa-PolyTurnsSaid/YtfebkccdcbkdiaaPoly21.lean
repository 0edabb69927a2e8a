/- PolyValues: what the least and the greatest values are like, and the walk. -/
import Derived.Test.YtfebkccdcbkdiaaPoly20
namespace Go.Proofs.Ytfebkccdcbkdiaa
open Go.RowKit

theorem foldM_mem (f : Pt) : ∀ (l : List Pt) (p : Pt), l.foldl (stepM f) p ∈ p :: l
  | [], p => by simp
  | q :: l, p => by
    have h := foldM_mem f l (stepM f p q)
    simp only [List.foldl_cons]
    rcases List.mem_cons.1 h with h | h
    · rw [h]; unfold stepM; split <;> simp
    · exact List.mem_cons_of_mem _ (List.mem_cons_of_mem _ h)
theorem foldM_le (f : Pt) : ∀ (l : List Pt) (p : Pt), ∀ q ∈ p :: l, vf f (l.foldl (stepM f) p) ≤ vf f q
  | [], p, q, h => by simp at h; subst h; exact Int.le_refl _
  | r :: l, p, q, h => by
    have ih := foldM_le f l (stepM f p r)
    simp only [List.foldl_cons]
    have h0 := ih (stepM f p r) (by simp)
    have h1 : vf f (stepM f p r) ≤ vf f p ∧ vf f (stepM f p r) ≤ vf f r := by unfold stepM; split <;> omega
    rcases List.mem_cons.1 h with rfl | h
    · omega
    rcases List.mem_cons.1 h with rfl | h
    · omega
    · exact ih q (List.mem_cons_of_mem _ h)
theorem minM_mem (f : Pt) {L : List Pt} (h : L ≠ []) : minM f L ∈ L := by
  cases L with
  | nil => exact absurd rfl h
  | cons p l => exact foldM_mem f l p
theorem minM_le (f : Pt) {L : List Pt} {q : Pt} (h : q ∈ L) : vf f (minM f L) ≤ vf f q := by
  cases L with
  | nil => cases h
  | cons p l => exact foldM_le f l p q h

theorem mul_bd {a b A B : Int} (hA : 0 ≤ A) (ha : -A ≤ a ∧ a ≤ A) (hb : -B ≤ b ∧ b ≤ B) : -(A * B) ≤ a * b ∧ a * b ≤ A * B := by
  have h1 : (A - a) * (B - b) ≥ 0 := Int.mul_nonneg (by omega) (by omega)
  have h2 : (A + a) * (B + b) ≥ 0 := Int.mul_nonneg (by omega) (by omega)
  have h3 : (A - a) * (B + b) ≥ 0 := Int.mul_nonneg (by omega) (by omega)
  have h4 : (A + a) * (B - b) ≥ 0 := Int.mul_nonneg (by omega) (by omega)
  simp only [Int.sub_mul, Int.add_mul, Int.mul_sub, Int.mul_add] at h1 h2 h3 h4
  omega
theorem flatB_bd {p : Pt} {n m : Int} (h : flatB p n m = true) : (-m ≤ p.x ∧ p.x ≤ m) ∧ (-m ≤ p.y ∧ p.y ≤ m) ∧ (-m ≤ p.z ∧ p.z ≤ m) := by
  simp only [flatB, flatC, Bool.and_eq_true, bw_iff] at h
  exact ⟨h.1.1, h.2.1.1, h.2.2.1⟩
theorem dot_bd {f q : Pt} {n : Int} (hf : flatB f n 100 = true) (hq : flatB q n 20 = true) : -6000 ≤ dotZ f q ∧ dotZ f q ≤ 6000 := by
  obtain ⟨f0, f1, f2⟩ := flatB_bd hf
  obtain ⟨q0, q1, q2⟩ := flatB_bd hq
  have h0 := mul_bd (by omega) f0 q0
  have h1 := mul_bd (by omega) f1 q1
  have h2 := mul_bd (by omega) f2 q2
  unfold dotZ; omega
theorem vf_dot {f q : Pt} {n : Int} (hf : flatB f n 100 = true) (hq : flatB q n 20 = true) : vf f q = dotZ f q := by
  have := dot_bd hf hq
  unfold vf wrap64; omega
theorem negP_flat {f : Pt} {n : Int} (h : flatB f n 100 = true) : negP f = ⟨-f.x, -f.y, -f.z⟩ := by
  obtain ⟨f0, f1, f2⟩ := flatB_bd h
  have e : ∀ a : Int, -100 ≤ a ∧ a ≤ 100 → wrap64 (-a) = -a := fun a ha => by unfold wrap64; omega
  simp [negP, e _ f0, e _ f1, e _ f2]
theorem negP_ok {f : Pt} {n : Int} (h : flatB f n 100 = true) : flatB (negP f) n 100 = true := by
  rw [negP_flat h]
  simp only [flatB, flatC, Bool.and_eq_true, bw_iff, Bool.or_eq_true, decide_eq_true_eq] at h ⊢
  omega
theorem negP_neg {f : Pt} {n : Int} (h : flatB f n 100 = true) : negP (negP f) = f := by
  rw [negP_flat (negP_ok h), negP_flat h]
  simp
theorem dot_neg {f q : Pt} {n : Int} (h : flatB f n 100 = true) : dotZ (negP f) q = -dotZ f q := by
  rw [negP_flat h]; unfold dotZ; simp only [Int.neg_mul]; omega

/-- All that PolyValues asks, of a domain that has points. -/
theorem values_law {n : Int} {l : List Iq} {f : Pt} (hv : validB n l = true) (hf : flatB f n 100 = true) (hL : pts n l ≠ []) :
    ∃ a b : Pt, ∃ v m : Int, leastP n l f = a ∧ leastN n l f = v ∧ leastE n l f = 0 ∧ greatP n l f = b ∧ greatN n l f = m ∧ greatE n l f = 0 ∧
      greatP n l (negP f) = a ∧ greatN n l (negP f) = wrap64 (-v) ∧ greatE n l (negP f) = 0 ∧ hasB n l a = true ∧ hasB n l b = true ∧ wrap64 (dotZ f a) = v ∧ wrap64 (dotZ f b) = m ∧ v ≤ m ∧
      ∀ p, hasB n l p = true → v ≤ wrap64 (dotZ f p) ∧ wrap64 (dotZ f p) ≤ m := by
  have hs : someL (pts n l) = true := by
    unfold someL; cases h : pts n l with
    | nil => exact absurd h hL
    | cons a b => rfl
  have fl : ∀ q ∈ pts n l, flatB q n 20 = true := fun q hq => by
    have := mem_pts.1 hq
    simp only [hasB, Bool.and_eq_true] at this
    exact this.1
  have hnf := negP_ok hf
  have g1 : leastG n l f = true := by simp [leastG, hv, hf, hs]
  have g2 : leastG n l (negP f) = true := by simp [leastG, hv, hnf, hs]
  have b1 : greatB n l f = false := by simp [greatB, hf]
  have b2 : greatB n l (negP f) = false := by simp [greatB, hnf]
  have ma := minM_mem f hL
  have mb := minM_mem (negP f) hL
  have dv : ∀ q ∈ pts n l, vf f q = dotZ f q := fun q hq => vf_dot hf (fl q hq)
  have dn : ∀ q ∈ pts n l, vf (negP f) q = -dotZ f q := fun q hq => by rw [vf_dot hnf (fl q hq), dot_neg hf]
  have bd : ∀ q ∈ pts n l, -6000 ≤ dotZ f q ∧ dotZ f q ≤ 6000 := fun q hq => dot_bd hf (fl q hq)
  have em : wrap64 (-vf (negP f) (minM (negP f) (pts n l))) = dotZ f (minM (negP f) (pts n l)) := by
    rw [dn _ mb]; have := bd _ mb; unfold wrap64; omega
  refine ⟨minM f (pts n l), minM (negP f) (pts n l), vf f (minM f (pts n l)), dotZ f (minM (negP f) (pts n l)), by simp [leastP, g1], by simp [leastN, g1], by simp [leastE, hv, hf, hs],
    by simp [greatP, b1, leastP, g2], by simp [greatN, b1, leastN, g2, em], by simp [greatE, b1, leastE, hv, hnf, hs], ?_, ?_, ?_, mem_pts.1 ma, mem_pts.1 mb, rfl, dv _ mb, ?_, ?_⟩
  · simp [greatP, b2, negP_neg hf, leastP, g1]
  · simp [greatN, b2, negP_neg hf, leastN, g1]
  · simp [greatE, b2, negP_neg hf, leastE, hv, hf, hs]
  · have := minM_le f mb; rw [dv _ mb] at this; exact this
  · intro p hp
    have hq := mem_pts.2 hp
    have h1 := minM_le f hq
    have h2 := minM_le (negP f) hq
    rw [dn _ mb, dn _ hq] at h2
    have h3 : vf f p = dotZ f p := dv _ hq
    unfold vf at h3 h1
    rw [h3] at h1
    rw [h3]
    exact ⟨h1, by omega⟩
theorem values_none {n : Int} {l : List Iq} {f : Pt} (hv : validB n l = true) (hf : flatB f n 100 = true) (hL : pts n l = []) : leastE n l f = 5 ∧ greatE n l f = 5 ∧ greatE n l (negP f) = 5 := by
  have hs : someL (pts n l) = false := by rw [hL]; rfl
  have hnf := negP_ok hf
  have b1 : greatB n l f = false := by simp [greatB, hf]
  have b2 : greatB n l (negP f) = false := by simp [greatB, hnf]
  exact ⟨by simp [leastE, hv, hf, hs], by simp [greatE, b1, leastE, hv, hnf, hs], by simp [greatE, b2, negP_neg hf, leastE, hv, hf, hs]⟩
end Go.Proofs.Ytfebkccdcbkdiaa
