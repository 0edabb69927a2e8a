/- By how much columns bend: the reference. -/
import Derived.Test.YtbabdoafpljdbaaMd18
namespace Go.Proofs.Ytbabdoafpljdbaa
open Go.RowKit

theorem bsN_bnd2 {c : List Int} : ∀ y, y ≤ c.length → (∀ j (h : j < c.length), j < y → -1000 ≤ c[j] ∧ c[j] ≤ 1000) → 0 ≤ bsN c y ∧ bsN c y ≤ 2000 * (y : Int)
  | 0, _, _ => by simp [bsN]
  | y + 1, hy, h => by
    have ih := bsN_bnd2 y (by omega) (fun j hj hjy => h j hj (by omega))
    unfold bsN
    by_cases h0 : y = 0
    · rw [if_pos h0]; omega
    · rw [if_neg h0]
      have h1 := h y (by omega) (by omega)
      have h2 := h (y - 1) (by omega) (by omega)
      rw [List.getD_eq_getElem?_getD, List.getElem?_eq_getElem (show y < c.length by omega), List.getD_eq_getElem?_getD, List.getElem?_eq_getElem (show y - 1 < c.length by omega)]
      simp only [Option.getD_some]
      omega
theorem okB_bad {c : List Int} {y : Nat} (hy : y < c.length) (h : ¬ (-1000 ≤ c[y] ∧ c[y] ≤ 1000)) : okB c = false := by
  rw [← Bool.not_eq_true]
  intro hh
  exact h ((okB_at hh).2 y hy)
theorem okB_good {c : List Int} (hl : ¬ 100 < c.length) (h : ∀ j (h : j < c.length), -1000 ≤ c[j] ∧ c[j] ≤ 1000) : okB c = true := by
  unfold okB
  rw [decide_eq_true (by omega), Bool.true_and, Bool.not_eq_true', List.any_eq_false]
  intro x hx
  obtain ⟨j, hj, rfl⟩ := List.getElem_of_mem hx
  rw [bw_iff.2 (h j hj)]; simp
set_option maxRecDepth 100000 in
set_option maxHeartbeats 1000000 in
theorem rBent_c (t : Option Addr) (ct : Nat) (k : List (List Int)) (w : World) (g : SlSS intE w t k) (hkl : k.length ≤ 9223372036854775807) (hll : ∀ l ∈ k, l.length ≤ 9223372036854775807) :
    Calls Try.prog 25 #[.slice t k.length ct] w fun e w' => e = .returned (.tuple #[.int .i64 (btV k), .int .i64 (btE k)]) ∧ Below w.heap.size w w' := by
  by_cases h100 : 100 < k.length
  · have e1 : btE k = 2 := by unfold btE; rw [decide_eq_false (by omega)]; rfl
    have e2 : btV k = 0 := by simp [btV, e1]
    rw [e1, e2]
    have h41 : (100 : Int) < (k.length : Int) := by omega
    clear e1 e2
    go_enter Try.func25, Try.ntmps25
    go_wp2
    go_ret2
    exact ⟨rfl, Below.refl _ _⟩
  have h41 : ¬ (100 : Int) < (k.length : Int) := by omega
  have hbad := fun i hi hh => bt_bad (k := k) (i := i) hi hh
  have hgood := bt_good h100
  have hbn := fun i hi hh => bt_all (k := k) (i := i) hi hh
  have hnx : ∀ i, btN k (i + 1) = btN k i + bsN (k.getD i []) (k.getD i []).length := fun i => rfl
  obtain ⟨VV, hVV⟩ : ∃ x, btV k = x := ⟨_, rfl⟩
  obtain ⟨VE, hVE⟩ : ∃ x, btE k = x := ⟨_, rfl⟩
  rw [hVV, hVE]
  simp only [hVV, hVE] at hbad hgood
  replace hbad := Lib.hid hbad; replace hgood := Lib.hid hgood; replace hbn := Lib.hid hbn; replace hnx := Lib.hid hnx; replace hll := Lib.hid hll
  have g0 := Lib.hid g
  have h0 : btN k 0 = 0 := rfl
  obtain ⟨z0, hz0⟩ : ∃ x, btN k 0 = x := ⟨_, rfl⟩
  rw [hz0] at h0
  subst h0
  replace hz0 := Lib.hid hz0
  clear hVV hVE g h100
  go_enter Try.func25, Try.ntmps25
  go_wp2
  go_loopw [4, 14] (fun nn ii V => ∃ (i : Nat) (n : Int), i ≤ k.length ∧ ii = .int .i64 i ∧ nn = .int .i64 n ∧ Hid (btN k i = n) ∧ Hid (∀ j (h : j < k.length), j < i → okB k[j] = true) ∧ Below w.heap.size w V) (fun _ ii _ => k.length - (intOf ii).toNat)
  case atStart => exact ⟨0, 0, by omega, rfl, rfl, hz0, fun j _ h => absurd h (by omega), Below.refl _ _⟩
  case round =>
    obtain ⟨i, n, hi, rfl, rfl, hn, hall, hbl⟩ := hrel
    by_cases hlt : i < k.length
    · obtain ⟨gb, go, ga, gc, e2, hgl, x0, gs, -, -⟩ := (up_of hbl g0.out).at hlt
      have hLb := hll.out _ (List.getElem_mem hlt)
      have hnb := hbn.out i (by omega) hall.out
      rw [hn.out] at hnb
      have hnn := hnx.out i
      have hbd := hbad.out i hlt
      rw [hn.out, show k.getD i [] = k[i] by rw [List.getD_eq_getElem?_getD, List.getElem?_eq_getElem hlt]; rfl] at hnn
      obtain ⟨L, hL⟩ : ∃ x, k[i] = x := ⟨_, rfl⟩
      rw [hL] at x0 gs hLb hnn hbd
      have i1 : (0 : Int) ≤ (i : Int) := by omega
      have i2 : (i : Int) < (k.length : Int) := by omega
      subst e2
      replace hL := Lib.hid hL; replace hnn := Lib.hid hnn; replace hbd := Lib.hid hbd
      by_cases h2 : 100 < L.length
      · have h3 : (100 : Int) < (L.length : Int) := by omega
        obtain ⟨rfl, rfl⟩ := hbd.out (by unfold okB; rw [decide_eq_false (by omega)]; rfl)
        go_wp2
        go_ret2
        exact ⟨rfl, hbl⟩
      have h3 : ¬ (100 : Int) < (L.length : Int) := by omega
      have hsz := hbl.size
      have hsb := fun y hy hh => bsN_bnd2 (c := L) y hy hh
      have hsn := fun (y m : Nat) hy hm => bsN_next (c := L) (y := y) (m := m) hy hm
      have hob := fun y hy hh => okB_bad (c := L) (y := y) hy hh
      have hog := fun hh => okB_good (c := L) h2 hh
      have hz1 : bsN L 1 = 0 := by simp [bsN]
      have hz2 : bsN L 0 = 0 := rfl
      replace hsb := Lib.hid hsb; replace hsn := Lib.hid hsn; replace hob := Lib.hid hob; replace hog := Lib.hid hog; replace hz1 := Lib.hid hz1; replace hz2 := Lib.hid hz2
      have gs0 := Lib.hid gs
      clear gs
      go_wp2
      go_loopw [4, 23] (fun nn yy V => ∃ (y : Nat) (a : Int), y ≤ L.length ∧ yy = .int .i64 y ∧ nn = .int .i64 (n + a) ∧ Hid (bsN L y = a) ∧ Hid (∀ j (h : j < L.length), j < y → -1000 ≤ L[j] ∧ L[j] ≤ 1000) ∧ Below wr.heap.size wr V) (fun _ yy _ => L.length - (intOf yy).toNat)
      case atStart => exact ⟨0, 0, by omega, rfl, by rw [Int.add_zero], hz2, fun j _ h => absurd h (by omega), Below.refl _ _⟩
      case round =>
        clear x0
        obtain ⟨y, a, hy, rfl, rfl, ha, hra, hbv⟩ := hrel
        have hblN := hbl.trans (hbv.mono hsz)
        by_cases hyl : y < L.length
        · obtain ⟨bc, oc, e1, hbc, q0⟩ := (up_of hbv gs0.out).int_at hyl
          have hob1 := hob.out y hyl
          have hba := hsb.out y (by omega) hra.out
          have hsx := fun m hm => hsn.out y m hyl hm
          have hrn : (-1000 ≤ L[y] ∧ L[y] ≤ 1000) → Hid (∀ j (h : j < L.length), j < y + 1 → -1000 ≤ L[j] ∧ L[j] ≤ 1000) := fun hh => Lib.hid fun j hj hjy => by
            by_cases h : j < y
            · exact hra.out j hj h
            · obtain rfl : j = y := by omega
              exact hh
          rw [ha.out] at hba
          simp only [ha.out] at hsx
          obtain ⟨p, hp⟩ : ∃ x, L[y] = x := ⟨_, rfl⟩
          simp only [hp] at q0 hob1 hsx hrn
          replace hp := Lib.hid hp; replace hsx := Lib.hid hsx; replace hob1 := Lib.hid hob1; replace hrn := Lib.hid hrn
          have m3 : (0 : Int) ≤ (y : Int) := by omega
          have m4 : (y : Int) < (L.length : Int) := by omega
          by_cases hp1 : p < -1000
          · obtain ⟨rfl, rfl⟩ := hbd.out (hob1.out (by omega))
            subst e1
            go_wp2
            go_ret2
            exact ⟨rfl, hblN⟩
          by_cases hp2 : 1000 < p
          · obtain ⟨rfl, rfl⟩ := hbd.out (hob1.out (by omega))
            subst e1
            go_wp2
            go_ret2
            exact ⟨rfl, hblN⟩
          have hrN := hrn.out (by omega)
          by_cases hy0 : y = 0
          · have e7 : a = 0 := by rw [← ha.out, hy0]; exact hz2.out
            have e8 : bsN L (y + 1) = 0 := by rw [hy0]; exact hz1.out
            have m5 : ¬ (0 : Int) < (y : Int) := by omega
            subst e7
            subst e1
            replace e8 := Lib.hid e8; replace hy0 := Lib.hid hy0
            go_wp2
            go_roundw
            case rel => exact ⟨y + 1, 0, by omega, by go_num, rfl, e8, hrN, hbv⟩
            case measure => exact meas hyl
          · obtain ⟨m, rfl⟩ : ∃ m, y = m + 1 := ⟨y - 1, by omega⟩
            have m5 : (0 : Int) < ((m + 1 : Nat) : Int) := by omega
            obtain ⟨bm, om, em, hbm, q1⟩ := (up_of hbv gs0.out).int_at (show m < L.length by omega)
            have hb1 := hra.out m (by omega) (by omega)
            have hsy := hsx.out m rfl
            subst e1
            cases em
            obtain ⟨q, hq⟩ : ∃ x, L[m] = x := ⟨_, rfl⟩
            simp only [hq] at q1 hb1 hsy
            have w1 := i64_small (n := p - q) (by omega)
            have w2 := i64_small (n := q - p) (by omega)
            have w3 : IntKind.i64.wrap (((m + 1 : Nat) : Int) - 1) = (m : Int) := by rw [i64_small (by omega)]; omega
            obtain ⟨M, hM⟩ : ∃ x, max (p - q) (q - p) = x := ⟨_, rfl⟩
            rw [hM] at hsy
            have w4 := i64_small (n := n + a + M) (by omega)
            have m1 : (0 : Int) ≤ (m : Int) := by omega
            have m2 : (m : Int) < (L.length : Int) := by omega
            replace hq := Lib.hid hq; replace hsy := Lib.hid hsy
            go_upto_region 15 with (fail)
            go_region
            all_goals
              go_wp2
              go_roundw
              case rel => exact ⟨m + 2, a + M, by omega, by go_num, by rw [Int.add_assoc], hsy, hrN, hbv.drew⟩
              case measure => exact meas hyl
        · obtain rfl : y = L.length := by omega
          have e6 : btN k (i + 1) = n + a := by rw [hnn.out, ha.out]
          have hok := hog.out fun j hj => hra.out j hj hj
          replace e6 := Lib.hid e6; replace hok := Lib.hid hok
          go_wp2
          go_roundw
          case rel => exact ⟨i + 1, n + a, by omega, by go_num, rfl, e6, fun j hj hji => by
            by_cases h : j < i
            · exact hall.out j hj h
            · obtain rfl : j = i := by omega
              rw [hL.out]; exact hok.out, hblN⟩
          case measure => exact meas hlt
    · obtain rfl : i = k.length := by omega
      obtain ⟨e5, rfl⟩ := hgood.out fun j hj => hall.out j hj hj
      rw [hn.out] at e5
      subst e5
      go_wp2
      go_ret2
      exact ⟨rfl, hbl⟩
end Go.Proofs.Ytbabdoafpljdbaa
