/- The list of all points: ascending, and just the points of the domain. -/
import Derived.Test.YtbpdgoedglkefaaPolySpec
namespace Go.Proofs.Ytbpdgoedglkefaa
open Go.RowKit

def ltP (p q : Pt) : Bool := if p.x ≠ q.x then decide (p.x < q.x) else if p.y ≠ q.y then decide (p.y < q.y) else decide (p.z < q.z)
theorem ltP_iff {p q : Pt} : ltP p q = true ↔ p.x < q.x ∨ (p.x = q.x ∧ (p.y < q.y ∨ (p.y = q.y ∧ p.z < q.z))) := by
  unfold ltP
  by_cases h0 : p.x = q.x <;> by_cases h1 : p.y = q.y <;> simp [h0, h1] <;> omega
theorem mem_ptsZ {l : List Iq} {x y : Int} {zs : List Int} {q : Pt} : q ∈ ptsZ l x y zs ↔ q.x = x ∧ q.y = y ∧ q.z ∈ zs ∧ holdsB l q 1 = true := by
  unfold ptsZ
  simp only [List.mem_flatMap]
  constructor
  · rintro ⟨z, hz, h⟩
    split at h
    · rename_i hh; simp at h; subst h; exact ⟨rfl, rfl, hz, hh⟩
    · cases h
  · rintro ⟨rfl, rfl, hz, hh⟩
    exact ⟨q.z, hz, by rw [if_pos hh]; simp⟩
theorem mem_ptsY {n : Int} {l : List Iq} {x : Int} {ys : List Int} {q : Pt} : q ∈ ptsY n l x ys ↔ q.x = x ∧ q.y ∈ ys ∧ q.z ∈ up (-far n 2) (far n 2) ∧ holdsB l q 1 = true := by
  unfold ptsY
  simp only [List.mem_flatMap, mem_ptsZ]
  constructor
  · rintro ⟨y, hy, h0, rfl, h1, h2⟩; exact ⟨h0, hy, h1, h2⟩
  · rintro ⟨h0, hy, h1, h2⟩; exact ⟨_, hy, h0, rfl, h1, h2⟩
theorem mem_ptsX {n : Int} {l : List Iq} {xs : List Int} {q : Pt} : q ∈ ptsX n l xs ↔ q.x ∈ xs ∧ q.y ∈ up (-far n 1) (far n 1) ∧ q.z ∈ up (-far n 2) (far n 2) ∧ holdsB l q 1 = true := by
  unfold ptsX
  simp only [List.mem_flatMap, mem_ptsY]
  constructor
  · rintro ⟨x, hx, rfl, h⟩; exact ⟨hx, h⟩
  · rintro ⟨hx, h⟩; exact ⟨_, hx, rfl, h⟩
theorem flatB_far {n : Int} {q : Pt} : flatB q n 20 = true ↔ (-far n 0 ≤ q.x ∧ q.x ≤ far n 0) ∧ (-far n 1 ≤ q.y ∧ q.y ≤ far n 1) ∧ (-far n 2 ≤ q.z ∧ q.z ≤ far n 2) := by
  have e : ∀ i x, flatC i x n 20 = true ↔ -far n i ≤ x ∧ x ≤ far n i := fun i x => by
    simp only [flatC, bw, far, Bool.and_eq_true, Bool.or_eq_true, decide_eq_true_eq]
    split <;> omega
  simp only [flatB, Bool.and_eq_true, e]
theorem mem_pts {n : Int} {l : List Iq} {q : Pt} : q ∈ pts n l ↔ hasB n l q = true := by
  unfold pts
  rw [mem_ptsX, mem_up, mem_up, mem_up, hasB, Bool.and_eq_true, flatB_far]
  constructor
  · rintro ⟨a, b, c, d⟩; exact ⟨⟨a, b, c⟩, d⟩
  · rintro ⟨⟨a, b, c⟩, d⟩; exact ⟨a, b, c, d⟩
theorem upTo_sorted : ∀ (k : Nat) (lo : Int), (upTo k lo).Pairwise (· < ·)
  | 0, lo => .nil
  | k + 1, lo => by
    simp only [upTo, List.pairwise_cons]
    exact ⟨fun x hx => by have := (mem_upTo k (lo + 1)).1 hx; omega, upTo_sorted k (lo + 1)⟩
theorem flatMap_sorted {α β : Type} {r : α → α → Prop} {s : β → β → Prop} (f : α → List β) (hin : ∀ a, (f a).Pairwise s) (hx : ∀ a b, r a b → ∀ x ∈ f a, ∀ y ∈ f b, s x y) :
    ∀ l : List α, l.Pairwise r → (l.flatMap f).Pairwise s
  | [], _ => by simp
  | a :: l, h => by
    rw [List.pairwise_cons] at h
    rw [List.flatMap_cons, List.pairwise_append]
    refine ⟨hin a, flatMap_sorted f hin hx l h.2, fun x hxa y hy => ?_⟩
    obtain ⟨b, hb, hy⟩ := List.mem_flatMap.1 hy
    exact hx a b (h.1 b hb) x hxa y hy
theorem ptsZ_sorted (l : List Iq) (x y : Int) (zs : List Int) (h : zs.Pairwise (· < ·)) : (ptsZ l x y zs).Pairwise (fun p q => ltP p q = true) := by
  unfold ptsZ
  refine flatMap_sorted _ (fun z => by split <;> simp) (fun a b hab p hp q hq => ?_) zs h
  have e1 : p.x = x ∧ p.y = y ∧ p.z = a := by split at hp <;> simp at hp; subst hp; simp
  have e2 : q.x = x ∧ q.y = y ∧ q.z = b := by split at hq <;> simp at hq; subst hq; simp
  rw [ltP_iff]; omega
theorem ptsY_sorted (n : Int) (l : List Iq) (x : Int) (ys : List Int) (h : ys.Pairwise (· < ·)) : (ptsY n l x ys).Pairwise (fun p q => ltP p q = true) := by
  unfold ptsY
  refine flatMap_sorted _ (fun y => ptsZ_sorted l x y _ (upTo_sorted _ _)) (fun a b hab p hp q hq => ?_) ys h
  have e1 := mem_ptsZ.1 hp
  have e2 := mem_ptsZ.1 hq
  rw [ltP_iff]; omega
theorem pts_sorted (n : Int) (l : List Iq) : (pts n l).Pairwise (fun p q => ltP p q = true) := by
  unfold pts ptsX
  refine flatMap_sorted _ (fun x => ptsY_sorted n l x _ (upTo_sorted _ _)) (fun a b hab p hp q hq => ?_) _ (upTo_sorted _ _)
  have e1 := mem_ptsY.1 hp
  have e2 := mem_ptsY.1 hq
  rw [ltP_iff]; omega
theorem pts_step {n : Int} {l : List Iq} {k : Nat} (hk : k + 1 < (pts n l).length) : ltP (pts n l)[k] (pts n l)[k + 1] = true :=
  List.pairwise_iff_getElem.1 (pts_sorted n l) k (k + 1) (by omega) hk (by omega)
end Go.Proofs.Ytbpdgoedglkefaa
