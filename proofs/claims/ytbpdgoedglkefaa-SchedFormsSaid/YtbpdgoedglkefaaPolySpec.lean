/- What the functions of layer 1 compute: plain functions on lists and numbers. -/
import Derived.Test.YtbpdgoedglkefaaCore
namespace Go.Proofs.Ytbpdgoedglkefaa
open Go.RowKit

def bw (lo n hi : Int) : Bool := decide (lo ≤ n) && decide (n ≤ hi)
theorem bw_iff {lo n hi : Int} : bw lo n hi = true ↔ lo ≤ n ∧ n ≤ hi := by simp [bw]
def dotZ (a p : Pt) : Int := a.x * p.x + a.y * p.y + a.z * p.z
def flatC (i : Int) (x n most : Int) : Bool := bw (-most) x most && (decide (i < n) || decide (x = 0))
def flatB (p : Pt) (n most : Int) : Bool := flatC 0 p.x n most && (flatC 1 p.y n most && flatC 2 p.z n most)
/-- One inequality, B taken so many times, as the machine reckons it. -/
def holdQ (p : Pt) (by_ : Int) (q : Iq) : Bool := !decide (wrap64 (q.b * by_) < wrap64 (dotZ q.a p))
def holdsB (l : List Iq) (p : Pt) (by_ : Int) : Bool := l.all (holdQ p by_)
def okQ (n : Int) (q : Iq) : Bool := flatB q.a n 20 && bw (-1000) q.b 1000
def validB (n : Int) (l : List Iq) : Bool := bw 1 n 3 && (decide (l.length ≤ 6) && l.all (okQ n))
def hasB (n : Int) (l : List Iq) (p : Pt) : Bool := flatB p n 20 && holdsB l p 1

/-- The index of the first element with a property; -1: there is none. -/
def fidx {α : Type} (pr : α → Bool) (l : List α) : Int := match l.findIdx? pr with | some i => (i : Int) | none => -1
theorem fidx_none {α : Type} {pr : α → Bool} {l : List α} (h : ∀ j (hj : j < l.length), pr l[j] = false) : fidx pr l = -1 := by
  have : l.findIdx? pr = none := by
    rw [List.findIdx?_eq_none_iff]
    intro x hx
    obtain ⟨j, hj, rfl⟩ := List.getElem_of_mem hx
    exact h j hj
  simp [fidx, this]
theorem fidx_at {α : Type} {pr : α → Bool} {l : List α} {k : Nat} (hk : k < l.length) (h : ∀ j (hj : j < k), pr (l[j]'(by omega)) = false) (hp : pr l[k] = true) : fidx pr l = k := by
  have : l.findIdx? pr = some k := by
    rw [List.findIdx?_eq_some_iff_getElem]
    exact ⟨hk, hp, fun j hj => by simp [h j hj]⟩
  simp [fidx, this]
theorem fidx_any {α : Type} (pr : α → Bool) (l : List α) : decide (0 ≤ fidx pr l) = l.any pr := by
  unfold fidx
  cases h : l.findIdx? pr with
  | none =>
    rw [List.findIdx?_eq_none_iff] at h
    have : l.any pr = false := by
      rw [List.any_eq_false]; intro x hx; simp [h x hx]
    simp [this]
  | some i =>
    rw [List.findIdx?_eq_some_iff_getElem] at h
    obtain ⟨hi, hp, _⟩ := h
    have : l.any pr = true := by rw [List.any_eq_true]; exact ⟨_, List.getElem_mem hi, hp⟩
    rw [this]
    simp

/-- The numbers from lo to hi. -/
def upTo : Nat → Int → List Int
  | 0, _ => []
  | k + 1, lo => lo :: upTo k (lo + 1)
def up (lo hi : Int) : List Int := upTo (hi + 1 - lo).toNat lo
theorem up_nil {lo hi : Int} (h : hi < lo) : up lo hi = [] := by
  unfold up; rw [show (hi + 1 - lo).toNat = 0 by omega]; rfl
theorem up_cons {lo hi : Int} (h : lo ≤ hi) : up lo hi = lo :: up (lo + 1) hi := by
  unfold up
  rw [show (hi + 1 - lo).toNat = (hi + 1 - (lo + 1)).toNat + 1 by omega]; rfl
theorem mem_upTo {x : Int} : ∀ (k : Nat) (lo : Int), x ∈ upTo k lo ↔ lo ≤ x ∧ x < lo + k
  | 0, lo => by simp [upTo]
  | k + 1, lo => by simp only [upTo, List.mem_cons, mem_upTo k (lo + 1)]; omega
theorem mem_up {x lo hi : Int} : x ∈ up lo hi ↔ lo ≤ x ∧ x ≤ hi := by
  unfold up; rw [mem_upTo]; omega
theorem upTo_len (k : Nat) (lo : Int) : (upTo k lo).length = k := by
  induction k generalizing lo with
  | zero => rfl
  | succ k ih => simp [upTo, ih]
theorem up_len (lo hi : Int) : (up lo hi).length = (hi + 1 - lo).toNat := upTo_len _ _

/-- How far a coordinate goes. -/
def far (n : Int) (i : Int) : Int := if i < n then 20 else 0
def ptsZ (l : List Iq) (x y : Int) (zs : List Int) : List Pt := zs.flatMap fun z => if holdsB l ⟨x, y, z⟩ 1 then [⟨x, y, z⟩] else []
def ptsY (n : Int) (l : List Iq) (x : Int) (ys : List Int) : List Pt := ys.flatMap fun y => ptsZ l x y (up (-far n 2) (far n 2))
def ptsX (n : Int) (l : List Iq) (xs : List Int) : List Pt := xs.flatMap fun x => ptsY n l x (up (-far n 1) (far n 1))
/-- All points, in ascending order. -/
def pts (n : Int) (l : List Iq) : List Pt := ptsX n l (up (-far n 0) (far n 0))

theorem flatMap_len_le {α β : Type} (f : α → List β) (k : Nat) (l : List α) (h : ∀ x ∈ l, (f x).length ≤ k) : (l.flatMap f).length ≤ l.length * k := by
  induction l with
  | nil => simp
  | cons x l ih =>
    have h1 := h x (by simp)
    have h2 := ih (fun y hy => h y (by simp [hy]))
    simp only [List.flatMap_cons, List.length_append, List.length_cons, Nat.add_mul]
    omega
theorem far_le (n i : Int) : far n i ≤ 20 := by unfold far; split <;> omega
theorem far_nn (n i : Int) : 0 ≤ far n i := by unfold far; split <;> omega
theorem up_far_len (n i : Int) : (up (-far n i) (far n i)).length ≤ 41 := by
  rw [up_len]; have := far_le n i; omega
theorem pts_len (n : Int) (l : List Iq) : (pts n l).length ≤ 68921 := by
  have hz : ∀ x y, (ptsZ l x y (up (-far n 2) (far n 2))).length ≤ 41 := fun x y => by
    have h1 := flatMap_len_le (fun z => if holdsB l ⟨x, y, z⟩ 1 then [(⟨x, y, z⟩ : Pt)] else []) 1 (up (-far n 2) (far n 2)) (fun z _ => by split <;> simp)
    have h2 := up_far_len n 2
    unfold ptsZ; omega
  have hy : ∀ x, (ptsY n l x (up (-far n 1) (far n 1))).length ≤ 1681 := fun x => by
    have h1 := flatMap_len_le (fun y => ptsZ l x y (up (-far n 2) (far n 2))) 41 (up (-far n 1) (far n 1)) (fun y _ => hz x y)
    have h2 := up_far_len n 1
    unfold ptsY; omega
  have h1 := flatMap_len_le (fun x => ptsY n l x (up (-far n 1) (far n 1))) 1681 (up (-far n 0) (far n 0)) (fun x _ => hy x)
  have h2 := up_far_len n 0
  unfold pts ptsX; omega
end Go.Proofs.Ytbpdgoedglkefaa
