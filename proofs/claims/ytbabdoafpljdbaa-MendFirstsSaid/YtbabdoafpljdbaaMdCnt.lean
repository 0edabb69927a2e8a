/- Columns counted from the first row on are as many as columns counted from the last one. -/
import Derived.Test.YtbabdoafpljdbaaMd33
namespace Go.Proofs.Ytbabdoafpljdbaa
open Go.RowKit

def sumF (g : Nat → Int) : Nat → Int
  | 0 => 0
  | n + 1 => sumF g n + g n
theorem sumF_congr {g h : Nat → Int} : ∀ {n : Nat}, (∀ k, k < n → g k = h k) → sumF g n = sumF h n
  | 0, _ => rfl
  | n + 1, e => by rw [sumF, sumF, sumF_congr (n := n) (fun k hk => e k (by omega)), e n (by omega)]
theorem sumF_zero : ∀ n, sumF (fun _ => 0) n = 0
  | 0 => rfl
  | n + 1 => by rw [sumF, sumF_zero n]; rfl
theorem sumF_add (g h : Nat → Int) : ∀ n, sumF (fun k => g k + h k) n = sumF g n + sumF h n
  | 0 => rfl
  | n + 1 => by rw [sumF, sumF, sumF, sumF_add g h n]; omega
theorem sumF_mul (c : Int) (g : Nat → Int) : ∀ n, sumF (fun k => g k * c) n = sumF g n * c
  | 0 => by simp [sumF]
  | n + 1 => by rw [sumF, sumF, sumF_mul c g n, Int.add_mul]
theorem sumF_mul' (c : Int) (g : Nat → Int) : ∀ n, sumF (fun k => c * g k) n = c * sumF g n
  | 0 => by simp [sumF]
  | n + 1 => by rw [sumF, sumF, sumF_mul' c g n, Int.mul_add]
theorem sumF_swap (a : Nat → Nat → Int) (m : Nat) : ∀ n, sumF (fun x => sumF (a x) m) n = sumF (fun k => sumF (fun x => a x k) n) m
  | 0 => by simp only [sumF]; rw [sumF_zero]
  | n + 1 => by
    have e : sumF (fun x => sumF (a x) m) (n + 1) = sumF (fun x => sumF (a x) m) n + sumF (a n) m := rfl
    have e2 : (fun k => sumF (fun x => a x k) (n + 1)) = fun k => sumF (fun x => a x k) n + a n k := rfl
    rw [e, sumF_swap a m n, e2, sumF_add]
theorem nsum_F (r : Int) (o : List Int) (x : Int) : ∀ n, nsum r o x n = sumF (fun k => if nearB x k r then o.getD k 0 else 0) n
  | 0 => rfl
  | n + 1 => by rw [nsum, sumF, nsum_F r o x n]
theorem sumN_F (q : List Int) : ∀ n, sumN q n = sumF (fun k => q.getD k 0) n
  | 0 => rfl
  | n + 1 => by rw [sumN, sumF, sumN_F q n]
theorem near_symm (a b r : Int) : nearB a b r = nearB b a r := by
  unfold nearB
  rw [Bool.eq_iff_iff, bw_iff, bw_iff]; omega
/-- How many columns go on behind a row, from each place of it. -/
def contR (r : Int) (wd : Nat) : List (List Bool) → Nat → Int
  | [], _ => 1
  | row :: rest, k => nsum r (wayRow r row (wayL r rest)) k wd
def runF (r : Int) (q : List Int) : List (List Bool) → List Int
  | [] => q
  | row :: rest => runF r (fwdRow r 0 row q) rest
theorem wayRow_get {r : Int} {wd : Nat} {row : List Bool} {rest : List (List Bool)} (hr : row.length = wd) (hw : ∀ row ∈ rest, row.length = wd) {x : Nat} (hx : x < wd) : (wayRow r row (wayL r rest)).getD x 0 = if row.getD x false then contR r wd rest x else 0 := by
  have hx1 : x < row.length := by omega
  rw [List.getD_eq_getElem?_getD, List.getElem?_eq_getElem (by rw [wayRow_len]; exact hx1), Option.getD_some, wayRow_at hx1, List.getD_eq_getElem?_getD, List.getElem?_eq_getElem hx1, Option.getD_some]
  cases row[x]
  · rfl
  · simp only [if_true]
    cases rest with
    | nil => rfl
    | cons a l =>
      simp only [wayL, contR]
      rw [wayRow_len, hw a (by simp)]
theorem fwdRow_get {r f : Int} {wd : Nat} {row : List Bool} {q : List Int} (hr : row.length = wd) (hq : q.length = wd) {x : Nat} (hx : x < wd) : (fwdRow r f row q).getD x 0 = if row.getD x false then f + nsum r q x wd else 0 := by
  have hx1 : x < row.length := by omega
  rw [List.getD_eq_getElem?_getD, List.getElem?_eq_getElem (by rw [fwdRow_len]; exact hx1), Option.getD_some, fwdRow_at hx1, List.getD_eq_getElem?_getD, List.getElem?_eq_getElem hx1, Option.getD_some, hq]
theorem run_sum (r : Int) (wd : Nat) : ∀ (rest : List (List Bool)), (∀ row ∈ rest, row.length = wd) → ∀ (q : List Int), q.length = wd → sumN (runF r q rest) wd = sumF (fun k => q.getD k 0 * contR r wd rest k) wd
  | [], _, q, _ => by
    rw [runF, sumN_F]
    exact sumF_congr fun k _ => by rw [contR, Int.mul_one]
  | row :: rest, hw, q, hq => by
    have hr : row.length = wd := hw row (by simp)
    have hw2 : ∀ row ∈ rest, row.length = wd := fun x hx => hw x (by simp [hx])
    rw [runF, run_sum r wd rest hw2 _ (by rw [fwdRow_len]; exact hr)]
    have e1 : sumF (fun x => (fwdRow r 0 row q).getD x 0 * contR r wd rest x) wd = sumF (fun x => sumF (fun k => if nearB x k r then q.getD k 0 * (wayRow r row (wayL r rest)).getD x 0 else 0) wd) wd := by
      refine sumF_congr fun x hx => ?_
      rw [fwdRow_get hr hq hx]
      have e2 : sumF (fun k => if nearB x k r then q.getD k 0 * (wayRow r row (wayL r rest)).getD x 0 else 0) wd = nsum r q x wd * (wayRow r row (wayL r rest)).getD x 0 := by
        rw [nsum_F, ← sumF_mul]
        refine sumF_congr fun k _ => ?_
        split
        · rfl
        · rw [Int.zero_mul]
      rw [e2, wayRow_get hr hw2 hx]
      split
      · rw [Int.zero_add]
      · rw [Int.zero_mul, Int.mul_zero]
    rw [e1, sumF_swap]
    refine sumF_congr fun k _ => ?_
    rw [contR, nsum_F, ← sumF_mul']
    refine sumF_congr fun x _ => ?_
    rw [near_symm x k]
    split
    · rfl
    · rw [Int.mul_zero]
theorem run_fwd (r : Int) (R : List (List Bool)) : ∀ (n y : Nat), 1 ≤ y → y + n = R.length → runF r (fwdP r R y) (R.drop y) = fwdP r R R.length
  | 0, y, _, h => by
    rw [List.drop_of_length_le (by omega), runF]
    rw [show y = R.length by omega]
  | n + 1, y, h1, h => by
    have hy : y < R.length := by omega
    rw [List.drop_eq_getElem_cons hy, runF]
    have e : fwdRow r 0 R[y] (fwdP r R y) = fwdP r R (y + 1) := by rw [fwdP_succ hy, if_neg (by omega)]
    rw [e]
    exact run_fwd r R n (y + 1) (by omega) (by omega)
theorem nsum_nil (r x : Int) : ∀ n, nsum r [] x n = 0
  | 0 => rfl
  | n + 1 => by rw [nsum, nsum_nil r x n]; simp
theorem fct_eq (r : Int) {wd : Nat} {R : List (List Bool)} (hw : ∀ row ∈ R, row.length = wd) (hl : 1 ≤ R.length) : fctR r R = cntR r R := by
  obtain ⟨row, rest, rfl⟩ : ∃ a l, R = a :: l := by
    cases R with
    | nil => simp at hl
    | cons a l => exact ⟨a, l, rfl⟩
  have hr : row.length = wd := hw row (by simp)
  have hw2 : ∀ row ∈ rest, row.length = wd := fun x hx => hw x (by simp [hx])
  have h1 : fwdP r (row :: rest) 1 = fwdRow r 1 row [] := by simp [fwdP]
  have h2 := run_fwd r (row :: rest) rest.length 1 (by omega) (by simp; omega)
  simp only [List.drop_succ_cons, List.drop_zero] at h2
  have hlen : (fwdP r (row :: rest) (row :: rest).length).length = wd := by
    rw [List.length_cons, fwdP_succ (R := row :: rest) (y := rest.length) (by simp), fwdRow_len]
    exact hw _ (List.getElem_mem _)
  unfold fctR
  rw [hlen, ← h2, h1, run_sum r wd rest hw2 _ (by rw [fwdRow_len]; exact hr)]
  unfold cntR
  simp only [wayL, List.headD_cons]
  rw [wayRow_len, hr, sumN_F]
  refine sumF_congr fun x hx => ?_
  rw [wayRow_get hr hw2 hx]
  have hx1 : x < row.length := by omega
  rw [List.getD_eq_getElem?_getD (l := fwdRow r 1 row []), List.getElem?_eq_getElem (by rw [fwdRow_len]; exact hx1), Option.getD_some, fwdRow_at hx1, nsum_nil, List.getD_eq_getElem?_getD, List.getElem?_eq_getElem hx1, Option.getD_some]
  cases row[x]
  · simp
  · simp
end Go.Proofs.Ytbabdoafpljdbaa
