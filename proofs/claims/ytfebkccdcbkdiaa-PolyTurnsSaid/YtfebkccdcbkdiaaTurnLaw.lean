/- A turned domain: plain laws. It has as many points, which are those turned, and is the domain again if it is turned back. -/
import Derived.Test.YtfebkccdcbkdiaaPoly11
import Derived.Test.YtfebkccdcbkdiaaPoly34
namespace Go.Proofs.Ytfebkccdcbkdiaa
open Go.RowKit

def backP (n : Int) (p : Pt) : Pt := turnP n p ⟨0, 1, 2⟩
theorem turn_flat {n m : Int} {p a : Pt} (hn : 1 ≤ n ∧ n ≤ 3) (ho : isOrd n p = true) (h : flatB a n m = true) : flatB (turnP n p a) n m = true := by
  obtain ⟨x, y, z⟩ := a
  rcases ord_cases hn ho with ⟨rfl, rfl⟩ | ⟨rfl, rfl | rfl⟩ | ⟨rfl, rfl | rfl | rfl | rfl | rfl | rfl⟩ <;>
    simp [flatB, flatC, bw, turnP, turnTo, setP, Pt.get] at h ⊢ <;> omega
theorem turn_twice {n m : Int} {p a : Pt} (hn : 1 ≤ n ∧ n ≤ 3) (ho : isOrd n p = true) (h : flatB a n m = true) : turnP n (backP n p) (turnP n p a) = a := by
  obtain ⟨x, y, z⟩ := a
  rcases ord_cases hn ho with ⟨rfl, rfl⟩ | ⟨rfl, rfl | rfl⟩ | ⟨rfl, rfl | rfl | rfl | rfl | rfl | rfl⟩ <;>
    simp [flatB, flatC, bw, backP, turnP, turnTo, setP, Pt.get] at h ⊢ <;> omega
theorem back_ord {n : Int} {p : Pt} (hn : 1 ≤ n ∧ n ≤ 3) (ho : isOrd n p = true) : isOrd n (backP n p) = true := by
  rcases ord_cases hn ho with ⟨rfl, rfl⟩ | ⟨rfl, rfl | rfl⟩ | ⟨rfl, rfl | rfl | rfl | rfl | rfl | rfl⟩ <;> decide
theorem turn_dot {n m k : Int} {p a q : Pt} (hn : 1 ≤ n ∧ n ≤ 3) (ho : isOrd n p = true) (ha : flatB a n m = true) (hq : flatB q n k = true) : dotZ (turnP n p a) (turnP n p q) = dotZ a q := by
  obtain ⟨x, y, z⟩ := a
  obtain ⟨u, v, w⟩ := q
  rcases ord_cases hn ho with ⟨rfl, rfl⟩ | ⟨rfl, rfl | rfl⟩ | ⟨rfl, rfl | rfl | rfl | rfl | rfl | rfl⟩ <;>
    simp [flatB, flatC, bw, turnP, turnTo, setP, Pt.get, dotZ] at ha hq ⊢ <;>
    (try (obtain ⟨-, ⟨-, ha2⟩, -, ha3⟩ := ha; subst ha2)) <;> (try (obtain ⟨-, -, -, ha3⟩ := ha; subst ha3)) <;> (try subst ha3) <;> (try simp) <;> (try omega)
theorem turn_hold {n : Int} {p q : Pt} {l : List Iq} {k b : Int} (hn : 1 ≤ n ∧ n ≤ 3) (ho : isOrd n p = true) (hl : l.all (okQ n) = true) (hq : flatB q n k = true) : holdsB (turnL n p l) (turnP n p q) b = holdsB l q b := by
  induction l with
  | nil => rfl
  | cons x l ih =>
    simp only [List.all_cons, Bool.and_eq_true] at hl
    have h1 := ih hl.2
    have h2 : flatB x.a n 20 = true := by have := hl.1; simp only [okQ, Bool.and_eq_true] at this; exact this.1
    simp only [holdsB, turnL, List.map_cons, List.all_cons] at h1 ⊢
    rw [h1]
    congr 1
    have h3 := turn_dot hn ho h2 hq
    show (!decide (wrap64 (x.b * b) < wrap64 (dotZ (turnP n p x.a) (turnP n p q)))) = _
    simp only [h3, holdQ]
theorem turn_valid {n : Int} {p : Pt} {l : List Iq} (ho : isOrd n p = true) (h : validB n l = true) : validB n (turnL n p l) = true := by
  simp only [validB, Bool.and_eq_true, bw_iff, decide_eq_true_eq, List.all_eq_true] at h ⊢
  refine ⟨h.1, by rw [turn_len]; exact h.2.1, fun q hq => ?_⟩
  simp only [turnL, List.mem_map] at hq
  obtain ⟨x, hx, rfl⟩ := hq
  have := h.2.2 x hx
  simp only [okQ, turnQ, Bool.and_eq_true] at this ⊢
  exact ⟨turn_flat h.1 ho this.1, this.2⟩
theorem turn_again {n : Int} {p : Pt} {l : List Iq} (ho : isOrd n p = true) (h : validB n l = true) : turnL n (backP n p) (turnL n p l) = l := by
  simp only [validB, Bool.and_eq_true, bw_iff, decide_eq_true_eq, List.all_eq_true] at h
  simp only [turnL, List.map_map]
  conv => rhs; rw [← List.map_id l]
  refine List.map_congr_left fun q hq => ?_
  have := h.2.2 q hq
  simp only [okQ, Bool.and_eq_true] at this
  simp only [Function.comp, turnQ, id]
  rw [turn_twice h.1 ho this.1]
theorem turn_has {n k : Int} {p q : Pt} {l : List Iq} (ho : isOrd n p = true) (h : validB n l = true) (hq : flatB q n k = true) : hasB n (turnL n p l) (turnP n p q) = hasB n l q := by
  have hv := h
  simp only [validB, Bool.and_eq_true, bw_iff, decide_eq_true_eq] at h
  simp only [hasB]
  rw [turn_hold h.1 ho h.2.2 hq]
  congr 1
  obtain ⟨x, y, z⟩ := q
  rw [Bool.eq_iff_iff]
  rcases ord_cases h.1 ho with ⟨rfl, rfl⟩ | ⟨rfl, rfl | rfl⟩ | ⟨rfl, rfl | rfl | rfl | rfl | rfl | rfl⟩ <;>
    simp [flatB, flatC, bw, turnP, turnTo, setP, Pt.get] at hq ⊢ <;> omega
theorem nodup_le {α : Type} [DecidableEq α] : ∀ (l m : List α), l.Nodup → (∀ x ∈ l, x ∈ m) → l.length ≤ m.length
  | [], _, _, _ => by simp
  | x :: l, m, hn, hs => by
    have hx := hs x (by simp)
    rw [List.nodup_cons] at hn
    have := nodup_le l (m.erase x) hn.2 (fun y hy => (List.mem_erase_of_ne (by rintro rfl; exact hn.1 hy)).2 (hs y (by simp [hy])))
    rw [List.length_erase_of_mem hx] at this
    have := List.length_pos_of_mem hx
    simp only [List.length_cons]; omega
theorem turn_le {n : Int} {p : Pt} {l : List Iq} (ho : isOrd n p = true) (h : validB n l = true) : (pts n l).length ≤ (pts n (turnL n p l)).length := by
  have hn : 1 ≤ n ∧ n ≤ 3 := by simp only [validB, Bool.and_eq_true, bw_iff] at h; exact h.1
  have hfl : ∀ q ∈ pts n l, flatB q n 20 = true := fun q hq => by have := mem_pts.1 hq; simp only [hasB, Bool.and_eq_true] at this; exact this.1
  have h1 : ((pts n l).map (turnP n p)).Nodup := by
    unfold List.Nodup
    rw [List.pairwise_map]
    refine List.Pairwise.imp_of_mem (fun {a b} ha hb hab e => ?_) (pts_sorted n l)
    have e2 := congrArg (turnP n (backP n p)) e
    rw [turn_twice hn ho (hfl a ha), turn_twice hn ho (hfl b hb)] at e2
    subst e2
    have := ltP_iff.1 hab
    omega
  have h2 := nodup_le _ (pts n (turnL n p l)) h1 fun x hx => by
    obtain ⟨q, hq, rfl⟩ := List.mem_map.1 hx
    rw [mem_pts, turn_has ho h (hfl q hq)]
    exact mem_pts.1 hq
  rwa [List.length_map] at h2
theorem turn_count {n : Int} {p : Pt} {l : List Iq} (ho : isOrd n p = true) (h : validB n l = true) : (pts n (turnL n p l)).length = (pts n l).length := by
  have hn : 1 ≤ n ∧ n ≤ 3 := by simp only [validB, Bool.and_eq_true, bw_iff] at h; exact h.1
  have h1 := turn_le ho h
  have h2 := turn_le (back_ord hn ho) (turn_valid ho h)
  rw [turn_again ho h] at h2
  omega
end Go.Proofs.Ytfebkccdcbkdiaa
