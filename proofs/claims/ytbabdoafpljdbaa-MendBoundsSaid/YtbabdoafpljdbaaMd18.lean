/- By how much columns bend: both; lists that are too long. -/
import Derived.Test.YtbabdoafpljdbaaMd15
import Derived.BigRegion
import Derived.Lib.MinMax
namespace Go.Proofs.Ytbabdoafpljdbaa
open Go.RowKit

def bsN (c : List Int) : Nat → Int
  | 0 => 0
  | y + 1 => bsN c y + if y = 0 then 0 else max (c.getD y 0 - c.getD (y - 1) 0) (c.getD (y - 1) 0 - c.getD y 0)
def okB (c : List Int) : Bool := decide (c.length ≤ 100) && !c.any fun x => !bw (-1000) x 1000
def btN (k : List (List Int)) : Nat → Int
  | 0 => 0
  | i + 1 => btN k i + bsN (k.getD i []) (k.getD i []).length
def btE (k : List (List Int)) : Int := if decide (k.length ≤ 100) && k.all okB then 0 else 2
def btV (k : List (List Int)) : Int := if btE k = 0 then btN k k.length else 0
theorem okB_at {c : List Int} (h : okB c = true) : c.length ≤ 100 ∧ ∀ (y : Nat) (hy : y < c.length), -1000 ≤ c[y] ∧ c[y] ≤ 1000 := by
  unfold okB at h
  rw [Bool.and_eq_true, decide_eq_true_iff, Bool.not_eq_true'] at h
  refine ⟨h.1, fun y hy => ?_⟩
  have := List.any_eq_false.1 h.2 _ (List.getElem_mem hy)
  simp only [Bool.not_eq_true, Bool.not_eq_false'] at this
  exact bw_iff.1 this
theorem bsN_bnd {c : List Int} (h : okB c = true) : ∀ y, y ≤ c.length → 0 ≤ bsN c y ∧ bsN c y ≤ 2000 * (y : Int)
  | 0, _ => by simp [bsN]
  | y + 1, hy => by
    have ih := bsN_bnd h y (by omega)
    unfold bsN
    by_cases h0 : y = 0
    · rw [if_pos h0]; omega
    · rw [if_neg h0]
      have h1 := (okB_at h).2 y (by omega)
      have h2 := (okB_at h).2 (y - 1) (by omega)
      rw [List.getD_eq_getElem?_getD, List.getElem?_eq_getElem (show y < c.length by omega), List.getD_eq_getElem?_getD, List.getElem?_eq_getElem (show y - 1 < c.length by omega)]
      simp only [Option.getD_some]
      omega
theorem btN_bnd {k : List (List Int)} (h : k.all okB = true) : ∀ i, i ≤ k.length → 0 ≤ btN k i ∧ btN k i ≤ 200000 * (i : Int)
  | 0, _ => by simp [btN]
  | i + 1, hi => by
    have ih := btN_bnd h i (by omega)
    unfold btN
    have e : k.getD i [] = k[i]'(by omega) := by rw [List.getD_eq_getElem?_getD, List.getElem?_eq_getElem (by omega)]; rfl
    rw [e]
    have hk := List.all_eq_true.1 h _ (List.getElem_mem (show i < k.length by omega))
    have h1 := bsN_bnd hk _ (Nat.le_refl _)
    have h2 := (okB_at hk).1
    omega
set_option maxRecDepth 100000 in
theorem Bent1_c (x : Int) (w : World) : Calls Try.prog 55 #[.int .i64 x] w fun e w' => e = .returned (.bool (!bw (-1000) x 1000)) ∧ w = w' := by
  go_enter Try.func55, Try.ntmps55
  go_wp2_with (first | (go_at_call 53; refine (between_c _ _ _ _).mono ?_; rintro e w' ⟨rfl, rfl⟩))
  go_ret
  exact ⟨rfl, rfl⟩
def talB (k : List (List Int)) : Bool := (k.any fun l => decide (200 < l.length)) || decide (200 < k.length)
theorem talB_no {k : List (List Int)} (h : talB k = false) : k.length ≤ 200 ∧ ∀ l ∈ k, l.length ≤ 200 := by
  unfold talB at h
  rw [Bool.or_eq_false_iff, decide_eq_false_iff_not] at h
  refine ⟨by omega, fun l hl => ?_⟩
  have := List.any_eq_false.1 h.1 l hl
  rw [decide_eq_true_iff] at this
  omega
set_option maxRecDepth 100000 in
theorem tall_c (t : Option Addr) (ct : Nat) (k : List (List Int)) (w : World) (g : SlSS intE w t k) (hkl : k.length ≤ 9223372036854775807) (hll : ∀ l ∈ k, l.length ≤ 9223372036854775807) :
    Calls Try.prog 21 #[.slice t k.length ct] w fun e w' => e = .returned (.bool (talB k)) ∧ w = w' := by
  have g0 := Lib.hid g
  have hyes : ∀ i (h : i < k.length), 200 < k[i].length → talB k = true := fun i h h2 => by
    unfold talB
    rw [List.any_eq_true.2 ⟨_, List.getElem_mem h, by simpa using h2⟩]; rfl
  have hno : (∀ i (h : i < k.length), k[i].length ≤ 200) → talB k = decide (200 < k.length) := fun h => by
    unfold talB
    rw [List.any_eq_false.2 (fun l hl => by
      obtain ⟨j, hj, rfl⟩ := List.getElem_of_mem hl
      have := h j hj
      simpa using this), Bool.false_or]
  obtain ⟨B, hB⟩ : ∃ x, talB k = x := ⟨_, rfl⟩
  simp only [hB] at hyes hno ⊢
  replace hyes := Lib.hid hyes; replace hno := Lib.hid hno
  clear hB
  replace hll := Lib.hid hll
  clear g
  go_enter Try.func21, Try.ntmps21
  go_wp2
  go_loop [7] (fun ii => ∃ i : Nat, i ≤ k.length ∧ ii = .int .i64 i ∧ Hid (∀ j (h : j < k.length), j < i → k[j].length ≤ 200)) (fun ii => k.length - (intOf ii).toNat)
  case atStart => exact ⟨0, by omega, rfl, fun j _ h => absurd h (by omega)⟩
  case round =>
    obtain ⟨i, hi, rfl, hall⟩ := hrel
    by_cases hlt : i < k.length
    · obtain ⟨gb, go, ga, gc, e2, hgl, x0, gs, -, -⟩ := g0.out.at hlt
      have hbl := hll.out _ (List.getElem_mem hlt)
      obtain ⟨L, hL⟩ : ∃ x, k[i] = x := ⟨_, rfl⟩
      rw [hL] at x0 gs hbl
      have i1 : (0 : Int) ≤ (i : Int) := by omega
      have i2 : (i : Int) < (k.length : Int) := by omega
      subst e2
      replace hL := Lib.hid hL
      by_cases h2 : 200 < L.length
      · have h3 : (200 : Int) < (L.length : Int) := by omega
        obtain rfl := hyes.out i hlt (by rw [hL.out]; exact h2)
        go_wp2
        go_ret
        exact ⟨rfl, rfl⟩
      · have h3 : ¬ (200 : Int) < (L.length : Int) := by omega
        go_wp2
        go_round
        case rel => exact ⟨i + 1, by omega, by go_num, fun j hj hji => by
          by_cases h : j < i
          · exact hall.out j hj h
          · obtain rfl : j = i := by omega
            rw [hL.out]; omega⟩
        case measure => exact meas hlt
    · obtain rfl : i = k.length := by omega
      go_wp2
      go_ret
      have h5 := hno.out fun j hj => hall.out j hj hj
      exact ⟨ret_bool (by rw [h5]; simp; try omega), rfl⟩
theorem bsN_next {c : List Int} {y m : Nat} (hy : y < c.length) (hm : m + 1 = y) : bsN c (y + 1) = bsN c y + max (c[y] - c[m]'(by omega)) (c[m]'(by omega) - c[y]) := by
  subst hm
  rw [bsN, if_neg (by omega)]
  rw [List.getD_eq_getElem?_getD, List.getElem?_eq_getElem hy, List.getD_eq_getElem?_getD, Nat.add_sub_cancel, List.getElem?_eq_getElem (show m < c.length by omega)]
  rfl
theorem bt_bad {k : List (List Int)} {i : Nat} (hi : i < k.length) (h : okB k[i] = false) : btV k = 0 ∧ btE k = 2 := by
  have e : btE k = 2 := by
    unfold btE
    rw [if_neg]
    intro hh
    rw [Bool.and_eq_true] at hh
    rw [List.all_eq_true.1 hh.2 _ (List.getElem_mem hi)] at h; cases h
  exact ⟨by simp [btV, e], e⟩
theorem bt_good {k : List (List Int)} (hk : ¬ 100 < k.length) (h : ∀ i (h : i < k.length), okB k[i] = true) : btV k = btN k k.length ∧ btE k = 0 := by
  have e : btE k = 0 := by
    unfold btE
    rw [if_pos]
    rw [Bool.and_eq_true, decide_eq_true_iff, List.all_eq_true]
    refine ⟨by omega, fun l hl => ?_⟩
    obtain ⟨j, hj, rfl⟩ := List.getElem_of_mem hl
    exact h j hj
  exact ⟨by simp [btV, e], e⟩
theorem bt_all {k : List (List Int)} {i : Nat} (hi : i ≤ k.length) (h : ∀ j (h : j < k.length), j < i → okB k[j] = true) : 0 ≤ btN k i ∧ btN k i ≤ 200000 * (i : Int) := by
  have hm : ∀ j, j ≤ i → btN (k.take i) j = btN k j := fun j hj => by
    induction j with
    | zero => rfl
    | succ j ih =>
      rw [btN, btN, ih (by omega)]
      simp only [List.getD_eq_getElem?_getD, List.getElem?_take, if_pos (show j < i by omega)]
  have := btN_bnd (k := k.take i) (List.all_eq_true.2 fun l hl => by
    obtain ⟨j, hj, rfl⟩ := List.getElem_of_mem hl
    rw [List.length_take] at hj
    rw [List.getElem_take]
    exact h j (by omega) (by omega)) i (by rw [List.length_take]; omega)
  rwa [hm i (Nat.le_refl _)] at this
set_option maxRecDepth 100000 in
set_option maxHeartbeats 1000000 in
theorem Bent_c (t : Option Addr) (ct : Nat) (k : List (List Int)) (w : World) (g : SlSS intE w t k) (hkl : k.length ≤ 9223372036854775807) (hll : ∀ l ∈ k, l.length ≤ 9223372036854775807) :
    Calls Try.prog 24 #[.slice t k.length ct] w fun e w' => e = .returned (.tuple #[.int .i64 (btV k), .int .i64 (btE k)]) ∧ Below w.heap.size w w' := by
  by_cases h100 : 100 < k.length
  · have e1 : btE k = 2 := by unfold btE; rw [decide_eq_false (by omega)]; rfl
    have e2 : btV k = 0 := by simp [btV, e1]
    rw [e1, e2]
    have h41 : (100 : Int) < (k.length : Int) := by omega
    clear e1 e2
    go_enter Try.func24, Try.ntmps24
    go_wp2
    go_ret2
    exact ⟨rfl, Below.refl _ _⟩
  have h41 : ¬ (100 : Int) < (k.length : Int) := by omega
  have hbad := fun i hi hh => bt_bad (k := k) (i := i) hi hh
  have hgood := bt_good h100
  have hbn := fun i hi hh => bt_all (k := k) (i := i) hi hh
  have hnx : ∀ i, btN k (i + 1) = btN k i + bsN (k.getD i []) (k.getD i []).length := fun i => rfl
  obtain ⟨VV, hVV⟩ : ∃ x, btV k = x := ⟨_, rfl⟩
  obtain ⟨VE, hVE⟩ : ∃ x, btE k = x := ⟨_, rfl⟩
  rw [hVV, hVE]
  simp only [hVV, hVE] at hbad hgood
  replace hbad := Lib.hid hbad; replace hgood := Lib.hid hgood; replace hbn := Lib.hid hbn; replace hnx := Lib.hid hnx; replace hll := Lib.hid hll
  have g0 := Lib.hid g
  have h0 : btN k 0 = 0 := rfl
  obtain ⟨z0, hz0⟩ : ∃ x, btN k 0 = x := ⟨_, rfl⟩
  rw [hz0] at h0
  subst h0
  replace hz0 := Lib.hid hz0
  clear hVV hVE g h100
  go_enter Try.func24, Try.ntmps24
  go_wp2
  go_loopw [4, 13] (fun nn ii V => ∃ (i : Nat) (n : Int), i ≤ k.length ∧ ii = .int .i64 i ∧ nn = .int .i64 n ∧ Hid (btN k i = n) ∧ Hid (∀ j (h : j < k.length), j < i → okB k[j] = true) ∧ Below w.heap.size w V) (fun _ ii _ => k.length - (intOf ii).toNat)
  case atStart => exact ⟨0, 0, by omega, rfl, rfl, hz0, fun j _ h => absurd h (by omega), Below.refl _ _⟩
  case round =>
    obtain ⟨i, n, hi, rfl, rfl, hn, hall, hbl⟩ := hrel
    by_cases hlt : i < k.length
    · obtain ⟨gb, go, ga, gc, e2, hgl, x0, gs, -, -⟩ := (up_of hbl g0.out).at hlt
      have hLb := hll.out _ (List.getElem_mem hlt)
      have hnb := hbn.out i (by omega) hall.out
      rw [hn.out] at hnb
      have hnn := hnx.out i
      have hbd := hbad.out i hlt
      rw [hn.out, show k.getD i [] = k[i] by rw [List.getD_eq_getElem?_getD, List.getElem?_eq_getElem hlt]; rfl] at hnn
      obtain ⟨L, hL⟩ : ∃ x, k[i] = x := ⟨_, rfl⟩
      rw [hL] at x0 gs hLb hnn hbd
      have i1 : (0 : Int) ≤ (i : Int) := by omega
      have i2 : (i : Int) < (k.length : Int) := by omega
      subst e2
      replace hL := Lib.hid hL; replace hnn := Lib.hid hnn; replace hbd := Lib.hid hbd
      by_cases h2 : 100 < L.length
      · have h3 : (100 : Int) < (L.length : Int) := by omega
        obtain ⟨rfl, rfl⟩ := hbd.out (by unfold okB; rw [decide_eq_false (by omega)]; rfl)
        go_wp2
        go_ret2
        exact ⟨rfl, hbl⟩
      have h3 : ¬ (100 : Int) < (L.length : Int) := by omega
      have hcf := fun V (gs : SlS intE V ga L) => int_containsf 55 #[] (fun _ _ => rfl) ga gc L (fun x => !bw (-1000) x 1000) V gs hLb (fun q _ W _ => (Bent1_c q W).mono fun e w' ⟨he, hw⟩ => ⟨he, hw ▸ Below.refl _ _⟩)
      have hsz := hbl.size
      cases h4 : L.any (fun x => !bw (-1000) x 1000)
      case true =>
        obtain ⟨rfl, rfl⟩ := hbd.out (by unfold okB; rw [h4]; simp)
        rw [h4] at hcf
        replace hcf := Lib.hid hcf
        clear h4
        go_wp2_with (go_at_call 54; refine (hcf.out _ gs).mono ?_; rintro e W1 ⟨rfl, hb⟩)
        go_ret2
        exact ⟨rfl, hbl.trans (hb.mono hsz)⟩
      rw [h4] at hcf
      have hok : okB L = true := by unfold okB; rw [h4, decide_eq_true (by omega)]; rfl
      have hsb := fun y hy => bsN_bnd hok y hy
      have hsn := fun (y m : Nat) hy hm => bsN_next (c := L) (y := y) (m := m) hy hm
      have hob := (okB_at hok).2
      have hz1 : bsN L 1 = 0 := by simp [bsN]
      have hz2 : bsN L 0 = 0 := rfl
      replace hcf := Lib.hid hcf; replace hok := Lib.hid hok; replace hsb := Lib.hid hsb; replace hsn := Lib.hid hsn; replace hob := Lib.hid hob; replace hz1 := Lib.hid hz1; replace hz2 := Lib.hid hz2
      have gs0 := Lib.hid gs
      clear h4
      go_wp2_with (go_at_call 54; refine (hcf.out _ gs).mono ?_; rintro e W1 ⟨rfl, hb⟩)
      have hblN := hbl.trans (hb.mono hsz)
      have gsN := Lib.hid (up_of hb gs0.out)
      clear gs gs0 hcf x0 hbl hb
      go_loopw [4, 7] (fun nn yy V => ∃ (y : Nat) (a : Int), 1 ≤ y ∧ (y ≤ L.length ∨ y = 1) ∧ yy = .int .i64 y ∧ nn = .int .i64 (n + a) ∧ Hid (bsN L y = a) ∧ Below W1.heap.size W1 V) (fun _ yy _ => L.length - (intOf yy).toNat)
      case atStart => exact ⟨1, 0, by omega, .inr rfl, rfl, by rw [Int.add_zero], hz1, Below.refl _ _⟩
      case round =>
        obtain ⟨y, a, hy1, hy, rfl, rfl, ha, hbv⟩ := hrel
        have gsV := up_of hbv gsN.out
        by_cases hyl : y < L.length
        · obtain ⟨m, rfl⟩ : ∃ m, y = m + 1 := ⟨y - 1, by omega⟩
          obtain ⟨bc, oc, e1, hbc, q0⟩ := gsV.int_at hyl
          obtain ⟨bm, om, em, hbm, q1⟩ := gsV.int_at (show m < L.length by omega)
          subst e1
          cases em
          have hb0 := hob.out (m + 1) hyl
          have hb1 := hob.out m (by omega)
          have hba := hsb.out (m + 1) (by omega)
          have hsx := hsn.out (m + 1) m hyl rfl
          rw [ha.out] at hba hsx
          obtain ⟨p, hp⟩ : ∃ x, L[m + 1] = x := ⟨_, rfl⟩
          obtain ⟨q, hq⟩ : ∃ x, L[m] = x := ⟨_, rfl⟩
          simp only [hp] at q0 hb0 hsx
          simp only [hq] at q1 hb1 hsx
          have w1 := i64_small (n := p - q) (by omega)
          have w2 := i64_small (n := q - p) (by omega)
          have w3 : IntKind.i64.wrap (((m + 1 : Nat) : Int) - 1) = (m : Int) := by rw [i64_small (by omega)]; omega
          obtain ⟨M, hM⟩ : ∃ x, max (p - q) (q - p) = x := ⟨_, rfl⟩
          rw [hM] at hsx
          have w4 := i64_small (n := n + a + M) (by omega)
          have m1 : (0 : Int) ≤ (m : Int) := by omega
          have m2 : (m : Int) < (L.length : Int) := by omega
          have m3 : (0 : Int) ≤ ((m + 1 : Nat) : Int) := by omega
          have m4 : ((m + 1 : Nat) : Int) < (L.length : Int) := by omega
          replace hp := Lib.hid hp; replace hq := Lib.hid hq; replace hsx := Lib.hid hsx
          go_upto_region 12 with (fail)
          go_region
          all_goals
            go_wp2
            go_roundw
            case rel => exact ⟨m + 2, a + M, by omega, by omega, by go_num, by rw [Int.add_assoc], hsx, hbv.drew⟩
            case measure => exact meas hyl
        · have e5 : bsN L L.length = a := by
            rcases hy with h | h
            · obtain rfl : y = L.length := by omega
              exact ha.out
            · by_cases h0 : L.length = 0
              · rw [h0, hz2.out, ← ha.out, h, hz1.out]
              · obtain rfl : y = L.length := by omega
                exact ha.out
          have e6 : btN k (i + 1) = n + a := by rw [hnn.out, e5]
          replace e5 := Lib.hid e5; replace e6 := Lib.hid e6
          have m4 : ¬ (y : Int) < (L.length : Int) := by omega
          go_wp2
          go_roundw
          case rel => exact ⟨i + 1, n + a, by omega, by go_num, rfl, e6, fun j hj hji => by
            by_cases h : j < i
            · exact hall.out j hj h
            · obtain rfl : j = i := by omega
              rw [hL.out]; exact hok.out, hblN.trans (hbv.mono hblN.size)⟩
          case measure => exact meas hlt
    · obtain rfl : i = k.length := by omega
      obtain ⟨e5, rfl⟩ := hgood.out fun j hj => hall.out j hj hj
      rw [hn.out] at e5
      subst e5
      go_wp2
      go_ret2
      exact ⟨rfl, hbl⟩
end Go.Proofs.Ytbabdoafpljdbaa
