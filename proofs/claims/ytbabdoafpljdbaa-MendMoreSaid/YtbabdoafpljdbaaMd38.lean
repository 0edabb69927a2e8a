/- Which columns stand: both. -/
import Derived.Test.YtbabdoafpljdbaaMd15
import Derived.Test.YtbabdoafpljdbaaMdOpenG
import Derived.BigRegion
namespace Go.Proofs.Ytbabdoafpljdbaa
open Go.RowKit

set_option maxRecDepth 100000 in
theorem isColumn_x (s : Option Addr) (cap : Nat) (R : List (List Bool)) (r : Int) (wd : Nat) (t : Option Addr) (ct : Nat) (c : List Int) (w : World) (h : SlSS boolE w s R) (g : SlS intE w t c) (hl : R.length ≤ 8) (hw : ∀ row ∈ R, row.length = wd) (hwd : 1 ≤ wd ∧ wd ≤ 12) (hr : 0 ≤ r ∧ r ≤ 3) (hcb : ∀ n ∈ c, I64 n) :
    Calls Try.prog 49 #[.slice s R.length cap, .int .i64 r, .slice t c.length ct] w fun e w' => e = .returned (.bool (isColB R r c)) ∧ Below w.heap.size w w' := by
  by_cases hlen : c.length = R.length
  case neg =>
    have hz : isColB R r c = false := by unfold isColB; rw [decide_eq_false hlen]; rfl
    have hne : ((c.length : Int) != (R.length : Int)) = true := by rw [bne_iff_ne]; omega
    rw [hz]
    clear hz hlen
    go_enter Try.func49, Try.ntmps49
    go_wp2
    go_ret
    exact ⟨rfl, Below.refl _ _⟩
  exact isColumn_c s cap R r wd t ct c w h g hl hw hwd hr (by omega) hcb
set_option maxRecDepth 100000 in
theorem rIsCol_x (s : Option Addr) (cap : Nat) (R : List (List Bool)) (r : Int) (wd : Nat) (t : Option Addr) (ct : Nat) (c : List Int) (w : World) (h : SlSS boolE w s R) (g : SlS intE w t c) (hl : R.length ≤ 8) (hw : ∀ row ∈ R, row.length = wd) (hwd : 1 ≤ wd ∧ wd ≤ 12) (hr : 0 ≤ r ∧ r ≤ 3) (hcb : ∀ n ∈ c, I64 n) :
    Calls Try.prog 52 #[.slice s R.length cap, .int .i64 r, .slice t c.length ct] w fun e w' => e = .returned (.bool (isColB R r c)) ∧ Below w.heap.size w w' := by
  by_cases hlen : c.length = R.length
  case neg =>
    have hz : isColB R r c = false := by unfold isColB; rw [decide_eq_false hlen]; rfl
    have hne : ((c.length : Int) != (R.length : Int)) = true := by rw [bne_iff_ne]; omega
    rw [hz]
    clear hz hlen
    go_enter Try.func52, Try.ntmps52
    go_wp2
    go_ret
    exact ⟨rfl, Below.refl _ _⟩
  exact rIsCol_c s cap R r wd t ct c w h g hl hw hwd hr (by omega) hcb

/-! ### What it is to stand -/
def colN (k : List (List Int)) (i : Nat) : List Int := k.getD i []
theorem colN_at {k : List (List Int)} {i : Nat} (h : i < k.length) : colN k i = k[i] := by unfold colN; rw [List.getD_eq_getElem?_getD, List.getElem?_eq_getElem h]; rfl
/-- Each number is greater than that of the column before. -/
def gtB (k : List (List Int)) (i : Nat) : Bool := decide (i = 0) || (List.range (colN k i).length).all fun y => decide ((colN k (i - 1)).getD y 0 < (colN k i).getD y 0)
def standB (R : List (List Bool)) (r : Int) (k : List (List Int)) : Bool := (List.range k.length).all fun i => isColB R r (colN k i) && gtB k i
theorem stand_iff {R : List (List Bool)} {r : Int} {k : List (List Int)} : standB R r k = true ↔ ∀ i, i < k.length → isColB R r (colN k i) = true ∧ gtB k i = true := by
  simp [standB]
theorem gtB_iff {k : List (List Int)} {i : Nat} : gtB k i = true ↔ (i = 0 ∨ ∀ y, y < (colN k i).length → (colN k (i - 1)).getD y 0 < (colN k i).getD y 0) := by
  simp [gtB]
theorem st_no1 {R : List (List Bool)} {r : Int} {k : List (List Int)} {i : Nat} (hi : i < k.length) (h : isColB R r k[i] = false) : standB R r k = false := by
  rw [Bool.eq_false_iff]; intro hh
  have := (stand_iff.1 hh i hi).1
  rw [colN_at hi, h] at this; cases this
theorem st_no2 {R : List (List Bool)} {r : Int} {k : List (List Int)} {i : Nat} (hi : i < k.length) (hi0 : i ≠ 0) {y : Nat} (hy : y < k[i].length) {a : Int} (ha : (k[i - 1]'(by omega)).getD y 0 = a) (h : k[i][y] ≤ a) : standB R r k = false := by
  rw [Bool.eq_false_iff]; intro hh
  have h2 := (stand_iff.1 hh i hi).2
  rcases gtB_iff.1 h2 with e | h3
  · exact hi0 e
  · have := h3 y (by rw [colN_at hi]; exact hy)
    rw [colN_at hi, colN_at (show i - 1 < k.length by omega), List.getD_eq_getElem?_getD (l := k[i]), List.getElem?_eq_getElem hy, ha] at this
    simp only [Option.getD_some] at this
    omega
theorem st_yes {R : List (List Bool)} {r : Int} {k : List (List Int)} (h : ∀ i, i < k.length → isColB R r (colN k i) = true ∧ gtB k i = true) : standB R r k = true := stand_iff.2 h
theorem isCol_facts {R : List (List Bool)} {r : Int} {c : List Int} (h : isColB R r c = true) : c.length = R.length ∧ ∀ j, j < c.length → colAt R r c j = true := by
  simp only [isColB, Bool.and_eq_true, decide_eq_true_eq, List.all_eq_true, List.mem_range] at h
  exact h
theorem isCol_rng {R : List (List Bool)} {r : Int} {c : List Int} {wd : Nat} (hw : ∀ row ∈ R, row.length = wd) (h : isColB R r c = true) {j : Nat} (hj : j < c.length) : 0 ≤ c[j] ∧ c[j] < wd := by
  obtain ⟨h1, h2⟩ := isCol_facts h
  have h3 := h2 j hj
  rw [colAt_at hj, Bool.and_eq_true] at h3
  exact cellR_rng hw (by omega) h3.1
/-- Columns that stand are at most as many as a row has cells. -/
theorem stand_le {R : List (List Bool)} {r : Int} {k : List (List Int)} {wd : Nat} (hw : ∀ row ∈ R, row.length = wd) (hR : 1 ≤ R.length) (h : standB R r k = true) : k.length ≤ wd := by
  have hk := stand_iff.1 h
  have h1 : ∀ i, i < k.length → (i : Int) ≤ (colN k i).getD 0 0 := by
    intro i
    induction i with
    | zero =>
      intro hi
      obtain ⟨h2, -⟩ := hk 0 hi
      have h3 := (isCol_facts h2).1
      have := isCol_rng hw h2 (j := 0) (by omega)
      rw [List.getD_eq_getElem?_getD, List.getElem?_eq_getElem (show 0 < (colN k 0).length by omega), Option.getD_some]
      omega
    | succ i ih =>
      intro hi
      have ih := ih (by omega)
      obtain ⟨h2, h4⟩ := hk (i + 1) hi
      have h3 := (isCol_facts h2).1
      rcases gtB_iff.1 h4 with e | h5
      · omega
      · have := h5 0 (by omega)
        simp only [Nat.add_sub_cancel] at this
        omega
  by_cases h0 : k.length = 0
  · omega
  · have h2 := h1 (k.length - 1) (by omega)
    obtain ⟨h3, -⟩ := hk (k.length - 1) (by omega)
    have h4 := (isCol_facts h3).1
    have := isCol_rng hw h3 (j := 0) (by omega)
    rw [List.getD_eq_getElem?_getD, List.getElem?_eq_getElem (show 0 < (colN k (k.length - 1)).length by omega), Option.getD_some] at h2
    omega
def stB (wd ht : Int) (F : List Cel) (r : Int) (k : List (List Int)) : Bool := if opE wd ht F r = 0 then standB (fld wd.toNat ht.toNat F) r k else false
end Go.Proofs.Ytbabdoafpljdbaa
