/- How many columns there are: the reference, and the program, which goes the other way. -/
import Derived.Test.YtbabdoafpljdbaaMd31
namespace Go.Proofs.Ytbabdoafpljdbaa
open Go.RowKit

/-- The sum of the first n numbers. -/
def sumN (q : List Int) : Nat → Int
  | 0 => 0
  | k + 1 => sumN q k + q.getD k 0
theorem sumN_bnd {q : List Int} {B : Int} (h : ∀ z ∈ q, 0 ≤ z ∧ z ≤ B) (hB : 0 ≤ B) : ∀ n, 0 ≤ sumN q n ∧ sumN q n ≤ n * B
  | 0 => by simp [sumN]
  | n + 1 => by
    have ih := sumN_bnd h hB n
    have hg : 0 ≤ q.getD n 0 ∧ q.getD n 0 ≤ B := by
      rw [List.getD_eq_getElem?_getD]
      by_cases hn : n < q.length
      · rw [List.getElem?_eq_getElem hn]; exact h _ (List.getElem_mem hn)
      · rw [List.getElem?_eq_none (by omega)]; exact ⟨Int.le_refl _, hB⟩
    have e : ((n + 1 : Nat) : Int) * B = n * B + B := by rw [Int.natCast_add, Int.add_mul]; simp
    rw [sumN, e]; omega
theorem sumN_at {q : List Int} {k : Nat} (h : k < q.length) : sumN q (k + 1) = sumN q k + q[k] := by
  rw [sumN, List.getD_eq_getElem?_getD, List.getElem?_eq_getElem h]; rfl
/-- How many columns there are. -/
def cntR (r : Int) (R : List (List Bool)) : Int := sumN ((wayL r R).headD []) ((wayL r R).headD []).length
def ctN (wd ht : Int) (F : List Cel) (r : Int) : Int := if opE wd ht F r = 0 then cntR r (fld wd.toNat ht.toNat F) else 0
set_option maxRecDepth 100000 in
set_option maxHeartbeats 1000000 in
theorem count_c (s : Option Addr) (cap : Nat) (R : List (List Bool)) (r wd : Nat) (w : World) (h : SlSS boolE w s R) (hl : 1 ≤ R.length ∧ R.length ≤ 8) (hw : ∀ row ∈ R, row.length = wd) (hwd : 1 ≤ wd ∧ wd ≤ 12) (hr : r ≤ 3) :
    Calls Try.prog 64 #[.slice s R.length cap, .int .i64 r] w fun e w' => e = .returned (.int .i64 (cntR r R)) ∧ Below w.heap.size w w' := by
  have c1 := ways_c s cap R r wd w h hl hw hwd hr
  unfold TbiRet at c1
  have hWl := wayL_len (r : Int) R
  have hWr := wayL_rows (r : Int) hw
  have hWb : ∀ row ∈ wayL (r : Int) R, ∀ z ∈ row, 0 ≤ z ∧ z ≤ 429981696 := fun row hr z hz => by
    have h1 := wayL_bnd (r : Int) (R := R) (fun x hx => by rw [hw x hx]; omega) row hr z hz
    have h2 := pow_le (a := R.length) (b := 8) hl.2
    have h3 : ((12 ^ 8 : Nat) : Int) = 429981696 := by decide
    omega
  obtain ⟨S, hS⟩ : ∃ x, cntR (r : Int) R = x := ⟨_, rfl⟩
  have hS2 : sumN ((wayL (r : Int) R).headD []) ((wayL (r : Int) R).headD []).length = S := hS
  rw [hS]
  obtain ⟨W, hW⟩ : ∃ x, wayL (r : Int) R = x := ⟨_, rfl⟩
  simp only [hW] at c1 hWl hWr hWb hS2
  have hW0 : 0 < W.length := by omega
  have hd : W.headD [] = W[0] := by cases W with
    | nil => simp at hW0
    | cons a l => rfl
  rw [hd] at hS2
  have hq12 := hWr _ (List.getElem_mem hW0)
  have hqb := hWb _ (List.getElem_mem hW0)
  replace c1 := Lib.hid c1; replace hS := Lib.hid hS; replace hS2 := Lib.hid hS2; replace hd := Lib.hid hd; replace hW := Lib.hid hW; replace hqb := Lib.hid hqb; replace hWl := Lib.hid hWl; have hq12w := hq12; replace hq12w := Lib.hid hq12w; clear hq12
  clear hWr hWb h hw
  go_enter Try.func64, Try.ntmps64
  go_upto_region 3 with (go_at_call 61; refine c1.out.mono ?_; clear c1; rintro e A1 ⟨⟨s1, k1, rfl, hv1⟩, hb⟩; have hv := hv1.at hW0; obtain ⟨bd, od, sd, cd, rfl, hbd, q0, hsd, -, -⟩ := hv; rw [Nat.add_zero] at q0; have i1 : (0 : Int) < (W.length : Int) := (by omega))
  obtain ⟨q, hq⟩ : ∃ q, W[0] = q := ⟨_, rfl⟩
  have hq12 := hq12w.out
  simp only [hq] at hS2 hq12 hqb hsd ⊢
  clear hq12w
  have hql : q.length ≤ 12 := by omega
  have hst := fun (k : Nat) (hk : k < q.length) => sumN_at hk
  have hbn := fun k => sumN_bnd hqb.out (by omega) k
  replace hst := Lib.hid hst; replace hbn := Lib.hid hbn; replace hq := Lib.hid hq; replace hq12 := Lib.hid hq12; replace hsd := Lib.hid hsd
  clear q0 hv1
  go_wp2
  go_loop [5, 14] (fun n x => ∃ (k : Nat) (m : Int), k ≤ q.length ∧ x = .int .i64 k ∧ n = .int .i64 m ∧ Hid (sumN q k = m)) (fun _ x => q.length - (intOf x).toNat)
  case atStart => exact ⟨0, 0, by omega, rfl, rfl, rfl⟩
  case round =>
    obtain ⟨k, m, hk, rfl, rfl, hm⟩ := hrel
    by_cases hlk : k < q.length
    · obtain ⟨ba, oa, ea, hba, p0⟩ := hsd.out.int_at hlk
      have h1 := hst.out k hlk
      have h2 := hbn.out k
      have h3 := hqb.out _ (List.getElem_mem hlk)
      rw [hm.out] at h1 h2
      obtain ⟨z, hz⟩ : ∃ z, q[k] = z := ⟨_, rfl⟩
      rw [hz] at p0 h1 h3
      have j1 : (0 : Int) ≤ (k : Int) := by omega
      have j2 : (k : Int) < (q.length : Int) := by omega
      have w1 := i64_small (n := m + z) (by have := h2.2; omega)
      replace h1 := Lib.hid h1; replace hz := Lib.hid hz
      subst ea
      go_wp2
      go_round
      case rel => exact ⟨k + 1, m + z, by omega, by go_num, rfl, h1⟩
      case measure => exact meas hlk
    · obtain rfl : k = q.length := by omega
      have hz := hm.out.symm.trans hS2.out
      subst hz
      go_wp2
      go_ret
      exact ⟨rfl, hb⟩
set_option maxRecDepth 100000 in
set_option maxHeartbeats 1000000 in
theorem rCount_c (wd ht r : Int) (s : Option Addr) (cap : Nat) (F : List Cel) (w : World) (h : Cels w s cap F) :
    Calls Try.prog 38 #[.agg #[.int .i64 wd, .int .i64 ht, .slice s F.length cap], .int .i64 r] w fun e w' => e = .returned (.tuple #[.int .i64 (ctN wd ht F r), .int .i64 (opE wd ht F r)]) ∧ Below w.heap.size w w' := by
  have hop := fun V (h : Cels V s cap F) => asked_c wd ht r s cap F V h
  have hl := h.len
  by_cases h1 : opE wd ht F r = 0
  case neg =>
    rw [show ctN wd ht F r = 0 by simp [ctN, h1]]
    obtain ⟨E, hE⟩ : ∃ E, opE wd ht F r = E := ⟨_, rfl⟩
    rw [hE] at hop h1 ⊢
    have h2 : (E != 0) = true := by simpa using h1
    replace hop := Lib.hid hop
    clear hE h1
    go_enter Try.func38, Try.ntmps38
    go_upto_region 1 with (fail)
    refine wp_world fun W HW => ?_
    have hB : Below w.heap.size w W := by rw [HW.out]; (repeat (first | exact Below.refl _ _ | refine Below.alloc ?_ (by simp; try omega) _ | refine Below.setCell ?_ (by simp) _ | refine Below.drew ?_))
    have g0 : W.cell? ⟨w.heap.size, 0, none⟩ = some (.int .i64 wd) := by rw [HW.out]; simp [go_sem]
    have g1 : W.cell? ⟨w.heap.size, 1, none⟩ = some (.int .i64 ht) := by rw [HW.out]; simp [go_sem]
    have g2 : W.cell? ⟨w.heap.size, 2, none⟩ = some (.slice s F.length cap) := by rw [HW.out]; simp [go_sem]
    have gl : w.heap.size < W.heap.size := World.block_lt_of_cell? W _ g0
    try replace h := up_of hB h
    go_wp2_with (first | (go_at_call 50; refine (hop.out _ h).mono ?_; rintro e W1 ⟨rfl, hb⟩; (try replace h := up_of hb h); (try replace hB := up_of hb hB); (try replace g0 := up_of hb g0); (try replace g1 := up_of hb g1); (try replace g2 := up_of hb g2); (try replace gl := up_of hb gl)))
    go_ret2
    exact ⟨rfl, hB⟩
  obtain ⟨hv, hr⟩ := opE_ok h1
  obtain ⟨f1, f2, f3⟩ := fld_facts hv
  obtain ⟨g1, g2, g3, -⟩ := gv_nat hv
  rw [show ctN wd ht F r = cntR r (fld wd.toNat ht.toNat F) by simp [ctN, h1], h1]
  rw [h1] at hop
  obtain ⟨wd, rfl⟩ : ∃ n : Nat, wd = n := ⟨wd.toNat, g1.symm⟩
  obtain ⟨ht, rfl⟩ : ∃ n : Nat, ht = n := ⟨ht.toNat, g2.symm⟩
  simp only [Int.toNat_natCast] at f1 f2 f3 g3 ⊢
  obtain ⟨r, rfl⟩ : ∃ n : Nat, r = n := ⟨r.toNat, by omega⟩
  have hfo := fun V (h : Cels V s cap F) => (fieldOf_c wd ht s cap F V h hv).mono (R' := fun e w' => (∃ s cap ss, e = .returned (.slice s (fld wd ht F).length cap) ∧ Tbl boolE 75 4 w' V.heap.size (.slice s (fld wd ht F).length cap) ss (fld wd ht F)) ∧ Below V.heap.size V w') (fun e w' ⟨s, cap, ss, he, ht, hb⟩ => ⟨⟨s, cap, ss, he, ht⟩, hb⟩)
  have hwy := fun V s c (h : SlSS boolE V s (fld wd ht F)) => count_c s c (fld wd ht F) r wd V h f1 f2 ⟨g3, f3⟩ (by omega)
  obtain ⟨R, hR⟩ : ∃ x, fld wd ht F = x := ⟨_, rfl⟩
  simp only [hR] at hfo hwy ⊢
  obtain ⟨S, hS⟩ : ∃ x, cntR (r : Int) R = x := ⟨_, rfl⟩
  simp only [hS] at hwy ⊢
  replace hop := Lib.hid hop; replace hfo := Lib.hid hfo; replace hwy := Lib.hid hwy; replace hR := Lib.hid hR; replace hS := Lib.hid hS
  clear h1 hv f1 f2 f3 g1 g2
  go_enter Try.func38, Try.ntmps38
  go_upto_region 1 with (fail)
  refine wp_world fun W HW => ?_
  have hB : Below w.heap.size w W := by rw [HW.out]; (repeat (first | exact Below.refl _ _ | refine Below.alloc ?_ (by simp; try omega) _ | refine Below.setCell ?_ (by simp) _ | refine Below.drew ?_))
  have g0 : W.cell? ⟨w.heap.size, 0, none⟩ = some (.int .i64 wd) := by rw [HW.out]; simp [go_sem]
  have g1 : W.cell? ⟨w.heap.size, 1, none⟩ = some (.int .i64 ht) := by rw [HW.out]; simp [go_sem]
  have g2 : W.cell? ⟨w.heap.size, 2, none⟩ = some (.slice s F.length cap) := by rw [HW.out]; simp [go_sem]
  have gl : w.heap.size < W.heap.size := World.block_lt_of_cell? W _ g0
  try replace h := up_of hB h
  go_upto_region 4 with (first | (go_at_call 50; refine (hop.out _ h).mono ?_; rintro e W1 ⟨rfl, hb⟩; (try replace h := up_of hb h); (try replace hB := up_of hb hB); (try replace g0 := up_of hb g0); (try replace g1 := up_of hb g1); (try replace g2 := up_of hb g2); (try replace gl := up_of hb gl)))
  clear hb
  have hBs := hB.size
  go_wp2_with (first
    | (go_at_call 51; refine (hfo.out _ h).mono ?_; rintro e A1 ⟨⟨s1, k1, ss1, rfl, ht1⟩, hb1⟩; have hc1 := Lib.hid (hwy.out _ _ k1 ht1.seen); have hBA := Lib.hid (hB.trans (hb1.mono hBs)); clear ht1 hb1)
    | (go_at_call 64; refine hc1.out.mono ?_; rintro e A2 ⟨rfl, hb2⟩; have hBC := hBA.out.trans (hb2.mono hBA.out.size); clear hb2 hBA hc1))
  go_ret2
  exact ⟨rfl, hBC⟩

/-! ### From the first row on -/
def fwdRow (r : Int) (f : Int) (row : List Bool) (q : List Int) : List Int := (List.range row.length).map fun (x : Nat) => if row.getD x false then f + nsum r q x q.length else 0
/-- How many columns come to each cell of row y - 1. -/
def fwdP (r : Int) (R : List (List Bool)) : Nat → List Int
  | 0 => []
  | y + 1 => fwdRow r (if y = 0 then 1 else 0) (R.getD y []) (fwdP r R y)
theorem fwdRow_len (r f : Int) (row : List Bool) (q : List Int) : (fwdRow r f row q).length = row.length := by simp [fwdRow]
theorem fwdRow_at {r f : Int} {row : List Bool} {q : List Int} {x : Nat} (h : x < row.length) : (fwdRow r f row q)[x]'(by rw [fwdRow_len]; exact h) = if row[x] then f + nsum r q x q.length else 0 := by
  simp [fwdRow, List.getElem?_eq_getElem h]
theorem fwdP_succ {r : Int} {R : List (List Bool)} {y : Nat} (h : y < R.length) : fwdP r R (y + 1) = fwdRow r (if y = 0 then 1 else 0) R[y] (fwdP r R y) := by
  rw [fwdP, List.getD_eq_getElem?_getD, List.getElem?_eq_getElem h]; rfl
theorem fwdP_bnd {r : Int} {R : List (List Bool)} (hw : ∀ row ∈ R, row.length ≤ 12) : ∀ y, y ≤ R.length → (fwdP r R y).length ≤ 12 ∧ ∀ z ∈ fwdP r R y, 0 ≤ z ∧ z ≤ ((13 ^ y : Nat) : Int)
  | 0, _ => by simp [fwdP]
  | y + 1, h => by
    have ih := fwdP_bnd hw y (by omega) (r := r)
    rw [fwdP_succ (by omega)]
    refine ⟨by rw [fwdRow_len]; exact hw _ (List.getElem_mem (by omega)), fun z hz => ?_⟩
    obtain ⟨x, hx, rfl⟩ := List.getElem_of_mem hz
    rw [fwdRow_len] at hx
    rw [fwdRow_at hx]
    have h0 : (1 : Int) ≤ ((13 ^ y : Nat) : Int) := by have := Nat.pow_pos (n := y) (show 0 < 13 by decide); exact_mod_cast this
    have e2 : ((13 ^ (y + 1) : Nat) : Int) = 13 * ((13 ^ y : Nat) : Int) := by rw [Nat.pow_succ]; push_cast; omega
    have hb := nsum_bnd (r := r) (by omega) ih.2 x (fwdP r R y).length
    have h3 : ((fwdP r R y).length : Int) * ((13 ^ y : Nat) : Int) ≤ 12 * ((13 ^ y : Nat) : Int) := Int.mul_le_mul_of_nonneg_right (by omega) (by omega)
    split
    · split <;> omega
    · omega
def fctR (r : Int) (R : List (List Bool)) : Int := sumN (fwdP r R R.length) (fwdP r R R.length).length
end Go.Proofs.Ytbabdoafpljdbaa
