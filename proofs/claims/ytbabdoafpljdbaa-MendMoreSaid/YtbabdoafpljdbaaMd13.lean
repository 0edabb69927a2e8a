/- Which lists are columns: the program and the reference, on rows. -/
import Derived.Test.YtbabdoafpljdbaaMd12
namespace Go.Proofs.Ytbabdoafpljdbaa
open Go.RowKit

theorem isCol_no {R : List (List Bool)} {r : Int} {c : List Int} {j : Nat} (hj : j < c.length) (h : colAt R r c j = false) : isColB R r c = false := by
  unfold isColB
  rw [Bool.and_eq_false_iff]
  right
  rw [List.all_eq_false]
  exact ⟨j, List.mem_range.2 hj, by rw [h]; simp⟩
theorem isCol_yes {R : List (List Bool)} {r : Int} {c : List Int} (hl : c.length = R.length) (h : ∀ j, j < c.length → colAt R r c j = true) : isColB R r c = true := by
  unfold isColB
  rw [decide_eq_true hl, Bool.true_and, List.all_eq_true]
  intro j hj
  exact h j (List.mem_range.1 hj)
theorem colAt_at {R : List (List Bool)} {r : Int} {c : List Int} {j : Nat} (hj : j < c.length) : colAt R r c j = (cellR R j c[j] && (decide (j = 0) || nearB c[j] (c.getD (j - 1) 0) r)) := by
  unfold colAt
  rw [List.getD_eq_getElem?_getD (l := c) (i := j), List.getElem?_eq_getElem hj]; rfl
theorem cellR_at {R : List (List Bool)} {j : Nat} (hj : j < R.length) (x : Int) : cellR R j x = (decide (0 ≤ x) && R[j].getD x.toNat false) := by
  unfold cellR
  rw [List.getD_eq_getElem?_getD (l := R), List.getElem?_eq_getElem hj]; rfl
theorem cellR_rng {R : List (List Bool)} {wd j : Nat} (hw : ∀ row ∈ R, row.length = wd) (hj : j < R.length) {x : Int} (h : cellR R j x = true) : 0 ≤ x ∧ x < wd := by
  rw [cellR_at hj, Bool.and_eq_true, decide_eq_true_iff] at h
  refine ⟨h.1, ?_⟩
  have h2 := h.2
  have hl := hw _ (List.getElem_mem hj)
  by_cases hx : x.toNat < R[j].length
  · omega
  · rw [List.getD_eq_getElem?_getD, List.getElem?_eq_none (by omega)] at h2; cases h2
set_option maxRecDepth 100000 in
set_option maxHeartbeats 1000000 in
theorem isColumn_c (s : Option Addr) (cap : Nat) (R : List (List Bool)) (r : Int) (wd : Nat) (t : Option Addr) (ct : Nat) (c : List Int) (w : World) (h : SlSS boolE w s R) (g : SlS intE w t c) (hl : R.length ≤ 8) (hw : ∀ row ∈ R, row.length = wd) (hwd : 1 ≤ wd ∧ wd ≤ 12) (hr : 0 ≤ r ∧ r ≤ 3) (hc : c.length ≤ 100) (hcb : ∀ n ∈ c, -9223372036854775808 ≤ n ∧ n ≤ 9223372036854775807) :
    Calls Try.prog 49 #[.slice s R.length cap, .int .i64 r, .slice t c.length ct] w fun e w' => e = .returned (.bool (isColB R r c)) ∧ Below w.heap.size w w' := by
  by_cases hlen : c.length = R.length
  case neg =>
    have hz : isColB R r c = false := by unfold isColB; rw [decide_eq_false hlen]; rfl
    have hne : ((c.length : Int) != (R.length : Int)) = true := by rw [bne_iff_ne]; omega
    rw [hz]
    clear hz hlen
    go_enter Try.func49, Try.ntmps49
    go_wp2
    go_ret
    exact ⟨rfl, Below.refl _ _⟩
  have hne : ((c.length : Int) != (R.length : Int)) = false := by rw [hlen]; simp
  have hno := fun (j : Nat) (hj : j < c.length) hh => isCol_no (R := R) (r := r) hj hh
  have hyes := isCol_yes (R := R) (r := r) (c := c) hlen
  have hat := fun (j : Nat) (hj : j < c.length) => colAt_at (R := R) (r := r) hj
  have hce := fun (j : Nat) (hj : j < R.length) x => cellR_at hj x
  have hrg := fun (j : Nat) (hj : j < R.length) x hh => cellR_rng hw hj (x := x) hh
  obtain ⟨B, hB0⟩ : ∃ B, isColB R r c = B := ⟨_, rfl⟩
  rw [hB0] at hyes ⊢
  simp only [hB0] at hno
  have h0 := Lib.hid h; have g0 := Lib.hid g
  replace hno := Lib.hid hno; replace hyes := Lib.hid hyes; replace hat := Lib.hid hat; replace hce := Lib.hid hce; replace hrg := Lib.hid hrg; replace hw := Lib.hid hw; replace hcb := Lib.hid hcb; replace hlen := Lib.hid hlen
  clear hB0 h g
  go_enter Try.func49, Try.ntmps49
  go_wp2
  go_loop [16] (fun ii => ∃ i : Nat, i ≤ c.length ∧ ii = .int .i64 i ∧ Hid (∀ j, j < i → colAt R r c j = true)) (fun ii => c.length - (intOf ii).toNat)
  case atStart => exact ⟨0, by omega, rfl, fun j h => absurd h (by omega)⟩
  case round =>
    obtain ⟨i, hi, rfl, hall⟩ := hrel
    by_cases hlt : i < c.length
    · have hiR : i < R.length := by have := hlen.out; omega
      obtain ⟨bc, oc, e1, hbc, q0⟩ := g0.out.int_at hlt
      obtain ⟨bk, ok, sa, sc, e2, hbk, x0, hsl, -, -⟩ := h0.out.at hiR
      have hrl := hw.out _ (List.getElem_mem hiR)
      have hxb := hcb.out _ (List.getElem_mem hlt)
      have hca := hat.out i hlt
      have hcx := hce.out i hiR c[i]
      have hpv : i ≠ 0 → ∃ m : Nat, (m : Int) = (i : Int) - 1 ∧ ∃ (hm : m < c.length), (0 ≤ c[m] ∧ c[m] < wd) ∧ c.getD (i - 1) 0 = c[m] := fun hi0 => by
        have hm : i - 1 < c.length := by omega
        have h1 := hall.out (i - 1) (by omega)
        rw [hat.out (i - 1) hm, Bool.and_eq_true] at h1
        exact ⟨i - 1, by omega, hm, hrg.out (i - 1) (by omega) _ h1.1, by rw [List.getD_eq_getElem?_getD, List.getElem?_eq_getElem hm]; rfl⟩
      have hbad : colAt R r c i = false → B = false := hno.out i hlt
      obtain ⟨row, hrow⟩ : ∃ x, R[i] = x := ⟨_, rfl⟩
      obtain ⟨x, hx⟩ : ∃ x, c[i] = x := ⟨_, rfl⟩
      rw [hrow] at x0 hsl hrl hcx
      rw [hx] at q0 hxb hca hcx
      rw [hcx] at hca
      have i1 : (0 : Int) ≤ (i : Int) := by omega
      have i2 : (i : Int) < (c.length : Int) := by omega
      have i3 : (i : Int) < (R.length : Int) := by omega
      have w1 : IntKind.i64.wrap ((row.length : Int) - 1) = (row.length : Int) - 1 := i64_small (by omega)
      have hrl1 : 1 ≤ row.length ∧ row.length ≤ 12 := by omega
      replace hrow := Lib.hid hrow; replace hx := Lib.hid hx; replace hpv := Lib.hid hpv; replace hbad := Lib.hid hbad; replace hrl := Lib.hid hrl
      subst e1 e2
      clear hcx
      cases hbw : bw 0 x ((row.length : Int) - 1)
      · have hz : colAt R r c i = false := by
          rw [hca]
          by_cases h0x : 0 ≤ x
          · have : ¬ x ≤ (row.length : Int) - 1 := fun h => by rw [bw_iff.2 ⟨h0x, h⟩] at hbw; cases hbw
            rw [List.getD_eq_getElem?_getD, List.getElem?_eq_none (by omega)]; simp
          · simp [h0x]
        obtain rfl := hbad.out hz
        clear hz hca hsl
        go_wp2_with (first | (go_at_call 53; refine (between_c _ _ _ _).mono ?_; rintro e w' ⟨rfl, rfl⟩))
        go_ret
        exact ⟨rfl, Below.refl _ _⟩
      have hxr := bw_iff.1 hbw
      obtain ⟨k, rfl⟩ : ∃ k : Nat, x = k := ⟨x.toNat, by omega⟩
      have hkr : k < row.length := by omega
      obtain ⟨ba, oa, ea, hba, p0⟩ := hsl.bool_at hkr
      rw [decide_eq_true (show (0 : Int) ≤ (k : Int) by omega), Bool.true_and, Int.toNat_natCast, List.getD_eq_getElem?_getD, List.getElem?_eq_getElem hkr, Option.getD_some] at hca
      obtain ⟨b0, hb0⟩ : ∃ b, row[k] = b := ⟨_, rfl⟩
      rw [hb0] at p0 hca
      have k1 : (0 : Int) ≤ (k : Int) := by omega
      have k2 : (k : Int) < (row.length : Int) := by omega
      replace hb0 := Lib.hid hb0
      subst ea
      clear hsl
      cases b0
      · obtain rfl := hbad.out hca
        clear hca
        go_wp2_with (first | (go_at_call 53; refine (between_c _ _ _ _).mono ?_; rintro e w' ⟨rfl, rfl⟩))
        go_ret
        exact ⟨rfl, Below.refl _ _⟩
      rw [Bool.true_and] at hca
      by_cases hi0 : i = 0
      · have h0i : ¬ (0 : Int) < (i : Int) := by omega
        have hok : Hid (colAt R r c i = true) := Lib.hid (by rw [hca, decide_eq_true hi0]; rfl)
        replace hi0 := Lib.hid hi0
        clear hca
        go_wp2_with (first | (go_at_call 53; refine (between_c _ _ _ _).mono ?_; rintro e w' ⟨rfl, rfl⟩))
        go_round
        case rel => exact ⟨i + 1, by omega, by go_num, fun j hj => by
          rcases Nat.lt_succ_iff_lt_or_eq.1 hj with h | h
          · exact hall.out j h
          · subst h; exact hok.out⟩
        case measure => exact meas hlt
      · have h0i : (0 : Int) < (i : Int) := by omega
        obtain ⟨m, hm, hmc, hmb, hme⟩ := hpv.out hi0
        obtain ⟨bm, om, em, hbm, m0⟩ := g0.out.int_at hmc
        cases em
        rw [decide_eq_false hi0, Bool.false_or, hme] at hca
        obtain ⟨z, hz⟩ : ∃ z, c[m] = z := ⟨_, rfl⟩
        rw [hz] at m0 hmb hca
        have w2 : IntKind.i64.wrap ((i : Int) - 1) = (m : Int) := by rw [i64_small (by omega)]; omega
        have m1 : (0 : Int) ≤ (m : Int) := by omega
        have m2 : (m : Int) < (c.length : Int) := by omega
        replace hz := Lib.hid hz; replace hme := Lib.hid hme; replace hi0 := Lib.hid hi0; replace hm := Lib.hid hm
        obtain ⟨nb, hnb⟩ : ∃ b, nearB (k : Int) z r = b := ⟨_, rfl⟩
        rw [hnb] at hca
        cases nb
        · obtain rfl := hbad.out hca
          clear hca
          go_wp2_with (first | (go_at_call 53; refine (between_c _ _ _ _).mono ?_; rintro e w' ⟨rfl, rfl⟩) | (go_at_call 63; refine (near_c _ _ _ _ (by omega) (by omega) hr).mono ?_; rintro e w' ⟨rfl, rfl⟩))
          go_ret
          exact ⟨rfl, Below.refl _ _⟩
        · have hok := Lib.hid hca
          clear hca
          go_wp2_with (first | (go_at_call 53; refine (between_c _ _ _ _).mono ?_; rintro e w' ⟨rfl, rfl⟩) | (go_at_call 63; refine (near_c _ _ _ _ (by omega) (by omega) hr).mono ?_; rintro e w' ⟨rfl, rfl⟩))
          go_round
          case rel => exact ⟨i + 1, by omega, by go_num, fun j hj => by
            rcases Nat.lt_succ_iff_lt_or_eq.1 hj with h | h
            · exact hall.out j h
            · subst h; exact hok.out⟩
          case measure => exact meas hlt
    · obtain rfl : i = c.length := by omega
      obtain rfl := hyes.out hall.out
      go_wp2
      go_ret
      exact ⟨rfl, Below.refl _ _⟩
set_option maxRecDepth 100000 in
set_option maxHeartbeats 1000000 in
theorem rIsCol_c (s : Option Addr) (cap : Nat) (R : List (List Bool)) (r : Int) (wd : Nat) (t : Option Addr) (ct : Nat) (c : List Int) (w : World) (h : SlSS boolE w s R) (g : SlS intE w t c) (hl : R.length ≤ 8) (hw : ∀ row ∈ R, row.length = wd) (hwd : 1 ≤ wd ∧ wd ≤ 12) (hr : 0 ≤ r ∧ r ≤ 3) (hc : c.length ≤ 100) (hcb : ∀ n ∈ c, -9223372036854775808 ≤ n ∧ n ≤ 9223372036854775807) :
    Calls Try.prog 52 #[.slice s R.length cap, .int .i64 r, .slice t c.length ct] w fun e w' => e = .returned (.bool (isColB R r c)) ∧ Below w.heap.size w w' := by
  by_cases hlen : c.length = R.length
  case neg =>
    have hz : isColB R r c = false := by unfold isColB; rw [decide_eq_false hlen]; rfl
    have hne : ((c.length : Int) != (R.length : Int)) = true := by rw [bne_iff_ne]; omega
    rw [hz]
    clear hz hlen
    go_enter Try.func52, Try.ntmps52
    go_wp2
    go_ret
    exact ⟨rfl, Below.refl _ _⟩
  have hne : ((c.length : Int) != (R.length : Int)) = false := by rw [hlen]; simp
  have hno := fun (j : Nat) (hj : j < c.length) hh => isCol_no (R := R) (r := r) hj hh
  have hyes := isCol_yes (R := R) (r := r) (c := c) hlen
  have hat := fun (j : Nat) (hj : j < c.length) => colAt_at (R := R) (r := r) hj
  have hce := fun (j : Nat) (hj : j < R.length) x => cellR_at hj x
  have hrg := fun (j : Nat) (hj : j < R.length) x hh => cellR_rng hw hj (x := x) hh
  obtain ⟨B, hB0⟩ : ∃ B, isColB R r c = B := ⟨_, rfl⟩
  rw [hB0] at hyes ⊢
  simp only [hB0] at hno
  have h0 := Lib.hid h; have g0 := Lib.hid g
  replace hno := Lib.hid hno; replace hyes := Lib.hid hyes; replace hat := Lib.hid hat; replace hce := Lib.hid hce; replace hrg := Lib.hid hrg; replace hw := Lib.hid hw; replace hcb := Lib.hid hcb; replace hlen := Lib.hid hlen
  clear hB0 h g
  go_enter Try.func52, Try.ntmps52
  go_wp2
  go_loop [16] (fun ii => ∃ i : Nat, i ≤ c.length ∧ ii = .int .i64 i ∧ Hid (∀ j, j < i → colAt R r c j = true)) (fun ii => c.length - (intOf ii).toNat)
  case atStart => exact ⟨0, by omega, rfl, fun j h => absurd h (by omega)⟩
  case round =>
    obtain ⟨i, hi, rfl, hall⟩ := hrel
    by_cases hlt : i < c.length
    · have hiR : i < R.length := by have := hlen.out; omega
      obtain ⟨bc, oc, e1, hbc, q0⟩ := g0.out.int_at hlt
      obtain ⟨bk, ok, sa, sc, e2, hbk, x0, hsl, -, -⟩ := h0.out.at hiR
      have hrl := hw.out _ (List.getElem_mem hiR)
      have hxb := hcb.out _ (List.getElem_mem hlt)
      have hca := hat.out i hlt
      have hcx := hce.out i hiR c[i]
      have hpv : i ≠ 0 → ∃ m : Nat, (m : Int) = (i : Int) - 1 ∧ ∃ (hm : m < c.length), (0 ≤ c[m] ∧ c[m] < wd) ∧ c.getD (i - 1) 0 = c[m] := fun hi0 => by
        have hm : i - 1 < c.length := by omega
        have h1 := hall.out (i - 1) (by omega)
        rw [hat.out (i - 1) hm, Bool.and_eq_true] at h1
        exact ⟨i - 1, by omega, hm, hrg.out (i - 1) (by omega) _ h1.1, by rw [List.getD_eq_getElem?_getD, List.getElem?_eq_getElem hm]; rfl⟩
      have hbad : colAt R r c i = false → B = false := hno.out i hlt
      obtain ⟨row, hrow⟩ : ∃ x, R[i] = x := ⟨_, rfl⟩
      obtain ⟨x, hx⟩ : ∃ x, c[i] = x := ⟨_, rfl⟩
      rw [hrow] at x0 hsl hrl hcx
      rw [hx] at q0 hxb hca hcx
      rw [hcx] at hca
      have i1 : (0 : Int) ≤ (i : Int) := by omega
      have i2 : (i : Int) < (c.length : Int) := by omega
      have i3 : (i : Int) < (R.length : Int) := by omega
      have w1 : IntKind.i64.wrap ((row.length : Int) - 1) = (row.length : Int) - 1 := i64_small (by omega)
      have hrl1 : 1 ≤ row.length ∧ row.length ≤ 12 := by omega
      replace hrow := Lib.hid hrow; replace hx := Lib.hid hx; replace hpv := Lib.hid hpv; replace hbad := Lib.hid hbad; replace hrl := Lib.hid hrl
      subst e1 e2
      clear hcx
      by_cases hx0 : x < 0
      · have hz : colAt R r c i = false := by rw [hca, decide_eq_false (show ¬ 0 ≤ x by omega)]; rfl
        obtain rfl := hbad.out hz
        clear hz hca hsl
        go_wp2
        go_ret
        exact ⟨rfl, Below.refl _ _⟩
      by_cases hx1 : (row.length : Int) ≤ x
      · have hz : colAt R r c i = false := by rw [hca, List.getD_eq_getElem?_getD, List.getElem?_eq_none (by omega)]; simp
        obtain rfl := hbad.out hz
        clear hz hca hsl
        go_wp2
        go_ret
        exact ⟨rfl, Below.refl _ _⟩
      have hxr : 0 ≤ x ∧ x ≤ (row.length : Int) - 1 := by omega
      obtain ⟨k, rfl⟩ : ∃ k : Nat, x = k := ⟨x.toNat, by omega⟩
      have hkr : k < row.length := by omega
      obtain ⟨ba, oa, ea, hba, p0⟩ := hsl.bool_at hkr
      rw [decide_eq_true (show (0 : Int) ≤ (k : Int) by omega), Bool.true_and, Int.toNat_natCast, List.getD_eq_getElem?_getD, List.getElem?_eq_getElem hkr, Option.getD_some] at hca
      obtain ⟨b0, hb0⟩ : ∃ b, row[k] = b := ⟨_, rfl⟩
      rw [hb0] at p0 hca
      have k1 : (0 : Int) ≤ (k : Int) := by omega
      have k2 : (k : Int) < (row.length : Int) := by omega
      replace hb0 := Lib.hid hb0
      subst ea
      clear hsl
      cases b0
      · obtain rfl := hbad.out hca
        clear hca
        go_wp2_with (first | (fail))
        go_ret
        exact ⟨rfl, Below.refl _ _⟩
      rw [Bool.true_and] at hca
      by_cases hi0 : i = 0
      · have h0i : ¬ (0 : Int) < (i : Int) := by omega
        have hok : Hid (colAt R r c i = true) := Lib.hid (by rw [hca, decide_eq_true hi0]; rfl)
        replace hi0 := Lib.hid hi0
        clear hca
        go_wp2_with (first | (fail))
        go_round
        case rel => exact ⟨i + 1, by omega, by go_num, fun j hj => by
          rcases Nat.lt_succ_iff_lt_or_eq.1 hj with h | h
          · exact hall.out j h
          · subst h; exact hok.out⟩
        case measure => exact meas hlt
      · have h0i : (0 : Int) < (i : Int) := by omega
        obtain ⟨m, hm, hmc, hmb, hme⟩ := hpv.out hi0
        obtain ⟨bm, om, em, hbm, m0⟩ := g0.out.int_at hmc
        cases em
        rw [decide_eq_false hi0, Bool.false_or, hme] at hca
        obtain ⟨z, hz⟩ : ∃ z, c[m] = z := ⟨_, rfl⟩
        rw [hz] at m0 hmb hca
        have w2 : IntKind.i64.wrap ((i : Int) - 1) = (m : Int) := by rw [i64_small (by omega)]; omega
        have m1 : (0 : Int) ≤ (m : Int) := by omega
        have m2 : (m : Int) < (c.length : Int) := by omega
        replace hz := Lib.hid hz; replace hme := Lib.hid hme; replace hi0 := Lib.hid hi0; replace hm := Lib.hid hm
        obtain ⟨nb, hnb⟩ : ∃ b, nearB (k : Int) z r = b := ⟨_, rfl⟩
        rw [hnb] at hca
        cases nb
        · obtain rfl := hbad.out hca
          clear hca
          go_wp2_with (first | (go_at_call 62; refine (rnear_c _ _ _ _ (by omega) (by omega)).mono ?_; rintro e w' ⟨rfl, rfl⟩))
          go_ret
          exact ⟨rfl, Below.refl _ _⟩
        · have hok := Lib.hid hca
          clear hca
          go_wp2_with (first | (go_at_call 62; refine (rnear_c _ _ _ _ (by omega) (by omega)).mono ?_; rintro e w' ⟨rfl, rfl⟩))
          go_round
          case rel => exact ⟨i + 1, by omega, by go_num, fun j hj => by
            rcases Nat.lt_succ_iff_lt_or_eq.1 hj with h | h
            · exact hall.out j h
            · subst h; exact hok.out⟩
          case measure => exact meas hlt
    · obtain rfl : i = c.length := by omega
      obtain rfl := hyes.out hall.out
      go_wp2
      go_ret
      exact ⟨rfl, Below.refl _ _⟩
end Go.Proofs.Ytbabdoafpljdbaa
