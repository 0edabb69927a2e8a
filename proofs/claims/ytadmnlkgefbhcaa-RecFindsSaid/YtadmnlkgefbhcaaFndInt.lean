/- The greatest of a list of numbers, where one stands, where one is positive. -/
import Derived.Test.YtadmnlkgefbhcaaFndLaw
import Derived.Test.YtadmnlkgefbhcaaB3
namespace Go.Proofs.Ytadmnlkgefbhcaa
open Go.RowKit Go.Maps

set_option maxRecDepth 100000 in
theorem imax_c (s : Option Addr) (cap : Nat) (L : List Int) (w : World) (hn : 1 ≤ L.length ∧ L.length ≤ 100000) (hs : SlS intE w s L) :
    Calls Try.prog 87 #[.slice s L.length cap] w fun e w' => (∃ M, e = .returned (.int .i64 M) ∧ M ∈ L ∧ ∀ x ∈ L, x ≤ M) ∧ w = w' := by
  have hc : ∀ i (hi : i < L.length), ∃ b off, s = some ⟨b, off, none⟩ ∧ w.cell? ⟨b, off + i, none⟩ = some (.int .i64 L[i]) := fun i hi => by
    obtain ⟨b, off, e, hb, h⟩ := hs.int_at (i := i) hi
    exact ⟨b, off, e, h⟩
  obtain ⟨b, off, rfl, h0⟩ := hc 0 (by omega)
  have hc2 : ∀ i (hi : i < L.length), w.cell? ⟨b, off + i, none⟩ = some (.int .i64 L[i]) := fun i hi => by
    obtain ⟨b2, off2, e, h⟩ := hc i hi
    cases e; exact h
  have hstep : ∀ j (hj : j < L.length), L.take (j + 1) = L.take j ++ [L[j]] := fun j hj => List.take_succ_eq_append_getElem hj
  have hone : L.take 1 = [L[0]'(by omega)] := by
    have := hstep 0 (by omega)
    simpa using this
  have hall : L.take L.length = L := List.take_length
  obtain ⟨x0, hx0⟩ : ∃ x, L[0]'(by omega) = x := ⟨_, rfl⟩
  rw [hx0] at h0 hone
  simp only [Nat.add_zero] at h0
  have hI0 : x0 ∈ L.take 1 ∧ ∀ x ∈ L.take 1, x ≤ x0 := by rw [hone]; simp
  obtain ⟨n, hn0⟩ : ∃ n, n = L.length := ⟨_, rfl⟩
  rw [← hn0] at hn
  simp only [← hn0]
  replace hc2 := Lib.hid hc2; replace hstep := Lib.hid hstep; replace hone := Lib.hid hone; replace hall := Lib.hid hall; replace hI0 := Lib.hid hI0; replace hn0 := Lib.hid hn0
  clear hc hs hx0
  have h1 : ¬ (n : Int) < 1 := by omega
  go_enter Try.func87, Try.ntmps87
  go_wp2
  go_loop [3, 4] (fun v i => ∃ (j : Nat) (M : Int), 1 ≤ j ∧ j ≤ n ∧ i = .int .i64 j ∧ v = .int .i64 M ∧ Hid (M ∈ L.take j ∧ ∀ x ∈ L.take j, x ≤ M)) (fun _ i => n - (intOf i).toNat)
  case atStart => exact ⟨1, x0, by omega, by omega, rfl, rfl, hI0⟩
  case round =>
    clear h0 hI0
    obtain ⟨j, M, hj1, hj, rfl, rfl, hM⟩ := hrel
    by_cases hlt : j < n
    · have hlt2 : j < L.length := by rw [← hn0.out]; exact hlt
      have e0 := hc2.out j hlt2
      have e1 := hstep.out j hlt2
      obtain ⟨x, hx⟩ : ∃ x, L[j] = x := ⟨_, rfl⟩
      rw [hx] at e0 e1
      have i4 : (0 : Int) ≤ (j : Int) := by omega
      have i5 : (j : Int) < (n : Int) := by omega
      replace hx := Lib.hid hx; replace e1 := Lib.hid e1
      by_cases hm : M < x
      · have hM2 : x ∈ L.take (j + 1) ∧ ∀ y ∈ L.take (j + 1), y ≤ x := by
          rw [e1.out]
          refine ⟨by simp, fun y hy => ?_⟩
          rcases List.mem_append.1 hy with hy | hy
          · have := hM.out.2 y hy; omega
          · simp at hy; omega
        replace hM2 := Lib.hid hM2
        go_wp2
        go_round
        case rel => exact ⟨j + 1, x, by omega, by omega, by go_num, congrArg (Value.int .i64) (Int.max_eq_right (by omega)), hM2⟩
        case measure => simp [intOf]; omega
      · have hM2 : M ∈ L.take (j + 1) ∧ ∀ y ∈ L.take (j + 1), y ≤ M := by
          rw [e1.out]
          refine ⟨List.mem_append_left _ hM.out.1, fun y hy => ?_⟩
          rcases List.mem_append.1 hy with hy | hy
          · exact hM.out.2 y hy
          · simp at hy; omega
        replace hM2 := Lib.hid hM2
        go_wp2
        go_round
        case rel => exact ⟨j + 1, M, by omega, by omega, by go_num, congrArg (Value.int .i64) (Int.max_eq_left (by omega)), hM2⟩
        case measure => simp [intOf]; omega
    · obtain rfl : j = n := by omega
      have hM2 := hM.out
      rw [hn0.out, hall.out] at hM2
      replace hM2 := Lib.hid hM2
      go_wp2
      go_ret
      exact ⟨⟨M, rfl, hM2.out⟩, rfl⟩
set_option maxRecDepth 100000 in
set_option maxHeartbeats 400000 in
theorem iindex_c (c : Int) (s : Option Addr) (cap : Nat) (l : List Int) (w : World) (hs : SlS intE w s l) (hl : l.length ≤ 100000) :
    Calls Try.prog 86 #[.slice s l.length cap, .int .i64 c] w fun e w' => e = .returned (.int .i64 (fidx (fun x => c == x) l)) ∧ w = w' := by
  have hs0 := Lib.hid hs
  obtain ⟨pr, hpr⟩ : ∃ p : Int → Bool, (fun x => c == x) = p := ⟨_, rfl⟩
  have hpx : ∀ x, (c == x) = pr x := fun x => by rw [← hpr]
  rw [hpr]
  replace hpr := Lib.hid hpr; replace hpx := Lib.hid hpx
  clear hs
  go_enter Try.func86, Try.ntmps86
  go_wp2
  go_loop [8] (fun i => ∃ k : Nat, k ≤ l.length ∧ i = .int .i64 k ∧ Hid (∀ j (hj : j < l.length), j < k → pr l[j] = false)) (fun i => l.length - (intOf i).toNat)
  case atStart => exact ⟨0, by omega, rfl, fun j _ h => absurd h (by omega)⟩
  case round =>
    obtain ⟨k, hk, rfl, hno⟩ := hrel
    by_cases hlt : k < l.length
    · obtain ⟨b, off, rfl, hb, h0⟩ := hs0.out.int_at hlt
      have hp := hpx.out l[k]
      have hat := hno.out
      obtain ⟨x, hx⟩ : ∃ x, l[k] = x := ⟨_, rfl⟩
      rw [hx] at h0 hp
      have i4 : (0 : Int) ≤ (k : Int) := by omega
      have i5 : (k : Int) < (l.length : Int) := by omega
      replace hx := Lib.hid hx; replace hat := Lib.hid hat
      cases hq : pr x
      · rw [hq] at hp
        go_wp2
        go_round
        case rel => exact ⟨k + 1, by omega, by go_num, fun j hj h => by
          rcases Nat.lt_succ_iff_lt_or_eq.1 h with h | rfl
          · exact hat.out j hj h
          · rw [hx.out]; exact hq⟩
        case measure => simp [intOf]; omega
      · rw [hq] at hp
        go_wp2
        go_ret
        exact ⟨ret_int (fidx_at hlt (fun j hj => hat.out j (by omega) hj) (by rw [hx.out]; exact hq)).symm, rfl⟩
    · obtain rfl : k = l.length := by omega
      go_wp2
      go_ret
      exact ⟨ret_int (fidx_none fun j hj => hno.out j hj hj).symm, rfl⟩
theorem circle1_c (n : Int) (w : World) : Calls Try.prog 83 #[.int .i64 n] w fun e w' => e = .returned (.bool (decide (0 < n))) ∧ Below w.heap.size w w' := by
  go_enter Try.func83, Try.ntmps83
  go_wp2
  go_ret
  exact ⟨rfl, Below.refl _ _⟩
end Go.Proofs.Ytadmnlkgefbhcaa
