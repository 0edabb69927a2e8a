/- The least and the greatest of numbers. -/
import Derived.Test.YtbpdgoedglkefaaSch4
namespace Go.Proofs.Ytbpdgoedglkefaa
open Go.RowKit

def loL (l : List Int) : Int := l.foldl min (l.headD 0)
def hiL (l : List Int) : Int := l.foldl max (l.headD 0)
theorem loL_snoc {l : List Int} {x : Int} (h : l ≠ []) : loL (l ++ [x]) = min (loL l) x := by
  cases l with
  | nil => exact absurd rfl h
  | cons a l => simp [loL, List.foldl_append]
theorem hiL_snoc {l : List Int} {x : Int} (h : l ≠ []) : hiL (l ++ [x]) = max (hiL l) x := by
  cases l with
  | nil => exact absurd rfl h
  | cons a l => simp [hiL, List.foldl_append]
theorem lo_succ {l : List Int} {j : Nat} (h1 : 1 ≤ j) (hj : j < l.length) : loL (l.take (j + 1)) = min (loL (l.take j)) l[j] := by
  rw [List.take_succ_eq_append_getElem hj]
  exact loL_snoc (fun h => by have := congrArg List.length h; rw [List.length_take, List.length_nil] at this; omega)
theorem hi_succ {l : List Int} {j : Nat} (h1 : 1 ≤ j) (hj : j < l.length) : hiL (l.take (j + 1)) = max (hiL (l.take j)) l[j] := by
  rw [List.take_succ_eq_append_getElem hj]
  exact hiL_snoc (fun h => by have := congrArg List.length h; rw [List.length_take, List.length_nil] at this; omega)
theorem lo_one {l : List Int} (h : 0 < l.length) : loL (l.take 1) = l[0] := by
  cases l with
  | nil => simp at h
  | cons a l => simp [loL]
theorem hi_one {l : List Int} (h : 0 < l.length) : hiL (l.take 1) = l[0] := by
  cases l with
  | nil => simp at h
  | cons a l => simp [hiL]
set_option maxRecDepth 100000 in
theorem sMin_c (s : Option Addr) (cap : Nat) (l : List Int) (w : World) (hs : SlS intE w s l) (h1 : 1 ≤ l.length) (hl : l.length ≤ 9223372036854775807) :
    Calls Try.prog 107 #[.slice s l.length cap] w fun e w' => e = .returned (.int .i64 (loL l)) ∧ w = w' := by
  have h0 := lo_one (l := l) (by omega)
  have hsx := fun j h1 hj => lo_succ (l := l) (j := j) h1 hj
  have hfull : loL (l.take l.length) = loL l := by rw [List.take_length]
  have h2 : ¬ (l.length : Int) < 1 := by omega
  have hs0 := Lib.hid hs
  obtain ⟨b, off, rfl, hb, q0⟩ := hs.int_at (i := 0) (by omega)
  rw [← h0] at q0
  simp only [Nat.add_zero] at q0
  rw [← hfull]
  replace hsx := Lib.hid hsx
  clear hs h0 hfull
  go_enter Try.func107, Try.ntmps107
  go_wp2
  go_loop [3, 4] (fun v i => ∃ j : Nat, 1 ≤ j ∧ j ≤ l.length ∧ i = .int .i64 j ∧ v = .int .i64 (loL (l.take j))) (fun _ i => l.length - (intOf i).toNat)
  case atStart => exact ⟨1, by omega, by omega, rfl, rfl⟩
  case round =>
    clear q0
    obtain ⟨j, hj1, hj, rfl, rfl⟩ := hrel
    by_cases hlt : j < l.length
    · have e1 := hsx.out j hj1 hlt
      obtain ⟨b', off', e', hb', e0⟩ := hs0.out.int_at hlt
      cases e'
      obtain ⟨C, hCe⟩ : ∃ C, l[j] = C := ⟨_, rfl⟩
      rw [hCe] at e1 e0
      obtain ⟨G, hG⟩ : ∃ G, loL (l.take j) = G := ⟨_, rfl⟩
      rw [hG] at e1 ⊢
      replace hCe := Lib.hid hCe; replace hG := Lib.hid hG; replace e1 := Lib.hid e1
      have i4 : (0 : Int) ≤ (j : Int) := by omega
      have i5 : (j : Int) < (l.length : Int) := by omega
      go_wp2
      go_round
      case rel => exact ⟨j + 1, by omega, by omega, by go_num, congrArg (Value.int .i64) (by rw [e1.out]; (first | rfl | ((repeat' split) <;> omega)))⟩
      case measure => simp [intOf]; omega
    · obtain rfl : j = l.length := by omega
      go_wp2
      go_ret
      exact ⟨rfl, rfl⟩
set_option maxRecDepth 100000 in
theorem sMax_c (s : Option Addr) (cap : Nat) (l : List Int) (w : World) (hs : SlS intE w s l) (h1 : 1 ≤ l.length) (hl : l.length ≤ 9223372036854775807) :
    Calls Try.prog 108 #[.slice s l.length cap] w fun e w' => e = .returned (.int .i64 (hiL l)) ∧ w = w' := by
  have h0 := hi_one (l := l) (by omega)
  have hsx := fun j h1 hj => hi_succ (l := l) (j := j) h1 hj
  have hfull : hiL (l.take l.length) = hiL l := by rw [List.take_length]
  have h2 : ¬ (l.length : Int) < 1 := by omega
  have hs0 := Lib.hid hs
  obtain ⟨b, off, rfl, hb, q0⟩ := hs.int_at (i := 0) (by omega)
  rw [← h0] at q0
  simp only [Nat.add_zero] at q0
  rw [← hfull]
  replace hsx := Lib.hid hsx
  clear hs h0 hfull
  go_enter Try.func108, Try.ntmps108
  go_wp2
  go_loop [3, 4] (fun v i => ∃ j : Nat, 1 ≤ j ∧ j ≤ l.length ∧ i = .int .i64 j ∧ v = .int .i64 (hiL (l.take j))) (fun _ i => l.length - (intOf i).toNat)
  case atStart => exact ⟨1, by omega, by omega, rfl, rfl⟩
  case round =>
    clear q0
    obtain ⟨j, hj1, hj, rfl, rfl⟩ := hrel
    by_cases hlt : j < l.length
    · have e1 := hsx.out j hj1 hlt
      obtain ⟨b', off', e', hb', e0⟩ := hs0.out.int_at hlt
      cases e'
      obtain ⟨C, hCe⟩ : ∃ C, l[j] = C := ⟨_, rfl⟩
      rw [hCe] at e1 e0
      obtain ⟨G, hG⟩ : ∃ G, hiL (l.take j) = G := ⟨_, rfl⟩
      rw [hG] at e1 ⊢
      replace hCe := Lib.hid hCe; replace hG := Lib.hid hG; replace e1 := Lib.hid e1
      have i4 : (0 : Int) ≤ (j : Int) := by omega
      have i5 : (j : Int) < (l.length : Int) := by omega
      go_wp2
      go_round
      case rel => exact ⟨j + 1, by omega, by omega, by go_num, congrArg (Value.int .i64) (by rw [e1.out]; (first | rfl | ((repeat' split) <;> omega)))⟩
      case measure => simp [intOf]; omega
    · obtain rfl : j = l.length := by omega
      go_wp2
      go_ret
      exact ⟨rfl, rfl⟩
end Go.Proofs.Ytbpdgoedglkefaa
