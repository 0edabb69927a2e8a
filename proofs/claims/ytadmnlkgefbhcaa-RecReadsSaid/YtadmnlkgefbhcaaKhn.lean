/- Counts and users, while they are gathered: lists of numbers. -/
import Derived.Test.YtadmnlkgefbhcaaRecGr
namespace Go.Proofs.Ytadmnlkgefbhcaa

def toI (l : List Nat) : List Int := l.map fun n : Nat => (n : Int)
theorem toI_len (l : List Nat) : (toI l).length = l.length := by simp [toI]
theorem toI_at {l : List Nat} {i : Nat} (h : i < (toI l).length) (h' : i < l.length) : (toI l)[i] = (l[i] : Int) := by simp [toI]
theorem toI_snoc (l : List Nat) (x : Nat) : toI (l ++ [x]) = toI l ++ [(x : Int)] := by simp [toI]
/-- The counts: those of the first k are whole, that of k is c. -/
def wtK (us : Uses) (N k c : Nat) : List Int := (List.range N).map fun j => if j < k then ((us j).length : Int) else if j = k then (c : Int) else 0
theorem wtK_len (us : Uses) (N k c : Nat) : (wtK us N k c).length = N := by simp [wtK]
theorem wtK_zero (us : Uses) (N : Nat) : wtK us N 0 0 = List.replicate N 0 := by
  refine List.ext_getElem (by simp [wtK]) fun i h1 h2 => ?_
  simp [wtK]
theorem wtK_at {us : Uses} {N k c : Nat} (hk : k < N) (h : k < (wtK us N k c).length) : (wtK us N k c)[k] = (c : Int) := by simp [wtK]
theorem wtK_set {us : Uses} {N k c : Nat} (hk : k < N) : (wtK us N k c).set k ((c : Int) + 1) = wtK us N k (c + 1) := by
  refine List.ext_getElem (by simp [wtK]) fun i h1 h2 => ?_
  rw [List.getElem_set]
  by_cases e : k = i
  · subst e; simp [wtK]
  · rw [if_neg e]
    have e' : ¬ i = k := fun h => e h.symm
    simp [wtK, e']
theorem wtK_next {us : Uses} {N k : Nat} : wtK us N k (us k).length = wtK us N (k + 1) 0 := by
  refine List.ext_getElem (by simp [wtK]) fun i h1 h2 => ?_
  simp only [wtK, List.getElem_map, List.getElem_range]
  by_cases e : i < k
  · rw [if_pos e, if_pos (by omega)]
  · rw [if_neg e]
    by_cases e2 : i = k
    · subst e2; rw [if_pos rfl, if_pos (by omega)]
    · rw [if_neg e2, if_neg (by omega)]
      by_cases e3 : i = k + 1
      · rw [if_pos e3]; rfl
      · rw [if_neg e3]
theorem wtK_all {us : Uses} {N k : Nat} (hk : k < N) : (wtK us N N 0).getD k 0 = ((us k).length : Int) := by
  rw [List.getD_eq_getElem?_getD, List.getElem?_eq_getElem (by rw [wtK_len]; exact hk)]
  simp [wtK, hk]
/-- The users: of the first k, and of k so far. -/
def usK (us : Uses) (N k : Nat) (pre : List Nat) : List (List Int) := (List.range N).map fun u => toI (usrs us k u ++ List.replicate (pre.count u) k)
theorem usK_len (us : Uses) (N k : Nat) (pre : List Nat) : (usK us N k pre).length = N := by simp [usK]
theorem usK_zero (us : Uses) (N : Nat) : usK us N 0 [] = List.replicate N [] := by
  refine List.ext_getElem (by simp [usK]) fun i h1 h2 => ?_
  simp [usK, usrs_zero, toI]
theorem usK_at {us : Uses} {N k : Nat} {pre : List Nat} {u : Nat} (hu : u < N) (h : u < (usK us N k pre).length) : (usK us N k pre)[u] = toI (usrs us k u ++ List.replicate (pre.count u) k) := by simp [usK]
theorem usK_set {us : Uses} {N k : Nat} {pre : List Nat} {u : Nat} (hu : u < N) (h : u < (usK us N k pre).length) : (usK us N k pre).set u ((usK us N k pre)[u] ++ [(k : Int)]) = usK us N k (pre ++ [u]) := by
  refine List.ext_getElem (by simp [usK]) fun i h1 h2 => ?_
  rw [List.getElem_set]
  by_cases e : u = i
  · subst e
    rw [if_pos rfl, usK_at hu, usK_at hu, ← toI_snoc, List.append_assoc]
    congr 2
    rw [List.count_append]
    simp [List.replicate_succ']
  · rw [if_neg e]
    simp [usK, List.count_cons, e]
theorem usK_next {us : Uses} {N k : Nat} : usK us N k (us k) = usK us N (k + 1) [] := by
  refine List.ext_getElem (by simp [usK]) fun i h1 h2 => ?_
  simp [usK, usrs_succ]
theorem usK_all {us : Uses} {N u : Nat} (hu : u < N) (h : u < (usK us N N []).length) : (usK us N N [])[u] = toI (usrs us N u) := by simp [usK]
theorem usrs_len {us : Uses} {B : Nat} (hB : ∀ k, (us k).length ≤ B) (k u : Nat) : (usrs us k u).length ≤ k * B := by
  induction k with
  | zero => simp [usrs_zero]
  | succ k ih =>
    rw [usrs_succ, List.length_append, List.length_replicate, Nat.succ_mul]
    have : (us k).count u ≤ (us k).length := List.count_le_length
    have := hB k
    omega
theorem count_pre_le {us : Uses} {k u : Nat} {pre : List Nat} (h : pre <+: us k) : pre.count u ≤ (us k).length := Nat.le_trans List.count_le_length h.length_le
/-- Those that use nothing. -/
def free (us : Uses) (k : Nat) : List Nat := (List.range k).filter fun k => decide ((us k).length = 0)
theorem free_succ (us : Uses) (k : Nat) : free us (k + 1) = if (us k).length = 0 then free us k ++ [k] else free us k := by
  unfold free
  rw [List.range_succ, List.filter_append]
  by_cases h : (us k).length = 0
  · rw [if_pos h, List.filter_cons_of_pos (by simpa using h)]; rfl
  · rw [if_neg h, List.filter_cons_of_neg (by simpa using h)]; simp
theorem free_len (us : Uses) (k : Nat) : (free us k).length ≤ k := by
  have := List.length_filter_le (fun k => decide ((us k).length = 0)) (List.range k)
  rw [List.length_range] at this
  exact this
end Go.Proofs.Ytadmnlkgefbhcaa
