/- The greatest number of a table. -/
import Derived.Test.YtadmnlkgefbhcaaRecSame
import Derived.Test.YtadmnlkgefbhcaaMostL
namespace Go.Proofs.Ytadmnlkgefbhcaa
open Go.RowKit Go.Maps

set_option maxRecDepth 100000 in
set_option maxHeartbeats 1000000 in
theorem most_c (s1 : Option Addr) (c1 : Nat) (T : List (List Int)) (w : World) (h1 : SlSS intE w s1 T) (hl : T.length ≤ 9223372036854775807) (hr : ∀ r ∈ T, r.length ≤ 9223372036854775807) :
    Calls Try.prog 33 #[.slice s1 T.length c1] w fun e w' => e = .returned (.int .i64 (mostL T)) ∧ Below w.heap.size w w' := by
  obtain ⟨Z, hZ⟩ : ∃ x, mostL T = x := ⟨_, rfl⟩
  rw [hZ]
  have hB0 := Below.refl w.heap.size w
  replace hr := Lib.hid hr; replace hZ := Lib.hid hZ; replace h1 := Lib.hid h1
  go_enter Try.func33, Try.ntmps33
  go_wp2
  go_loopw [3, 4] (fun m i wr => ∃ (k : Nat) (F : Int), k ≤ T.length ∧ i = .int .i64 k ∧ m = .int .i64 F ∧ Hid (F = (T.take k).foldl mxL 0) ∧ Below w.heap.size w wr) (fun _ i _ => T.length - (intOf i).toNat)
  case atStart => exact ⟨0, 0, by omega, rfl, rfl, Lib.hid (by simp), hB0⟩
  case round =>
    obtain ⟨k, F, hk, rfl, rfl, hF, hR⟩ := hrel
    by_cases hlt : k < T.length
    · obtain ⟨b1, o1, ta1, tc1, rfl, hb1, p0, hs1, -, -⟩ := (up_of hR h1).out.at hlt
      have hrl := hr.out _ (List.getElem_mem hlt)
      have hTk : T.take (k + 1) = T.take k ++ [T[k]] := List.take_succ_eq_append_getElem hlt
      obtain ⟨c, hc⟩ : ∃ x, T[k] = x := ⟨_, rfl⟩
      rw [hc] at p0 hs1 hrl hTk
      have g1 : (0 : Int) ≤ (k : Int) := by omega
      have g2 : (k : Int) < (T.length : Int) := by omega
      have hF0 : F = mxL F (c.take 0) := by simp [mxL]
      have hfin : mxL F c = (T.take (k + 1)).foldl mxL 0 := by rw [hTk, List.foldl_append, hF.out]; rfl
      replace hc := Lib.hid hc; replace hF0 := Lib.hid hF0; replace hfin := Lib.hid hfin
      clear hTk hF
      obtain ⟨X1, rfl⟩ : ∃ X, X = wr := ⟨wr, rfl⟩
      have hp0 := Lib.hid p0
      have hs0 := Lib.hid hs1
      clear p0 hs1
      go_wp2
      go_loopw [3, 5] (fun mm i wr => ∃ (m : Nat) (G : Int), m ≤ c.length ∧ i = .int .i64 m ∧ mm = .int .i64 G ∧ Hid (G = mxL F (c.take m)) ∧ Below X1.heap.size X1 wr) (fun _ i _ => c.length - (intOf i).toNat)
      case atStart => exact ⟨0, F, by omega, rfl, rfl, hF0, Below.refl _ _⟩
      case round =>
        obtain ⟨m, G, hm, rfl, rfl, hG, hR2⟩ := hrel
        have p0 := up_of hR2 hp0.out
        by_cases hlt2 : m < c.length
        · obtain ⟨d1, e1, rfl, hd1, u0⟩ := (up_of hR2 hs0.out).int_at hlt2
          have g3 : (0 : Int) ≤ (m : Int) := by omega
          have g4 : (m : Int) < (c.length : Int) := by omega
          have hct : c.take (m + 1) = c.take m ++ [c[m]] := List.take_succ_eq_append_getElem hlt2
          obtain ⟨x, hx⟩ : ∃ x, c[m] = x := ⟨_, rfl⟩
          rw [hx] at u0 hct
          have hGn : max G x = mxL F (c.take (m + 1)) := by rw [hct, mxL_snoc, ← hG.out]
          replace hx := Lib.hid hx
          clear hct hG
          by_cases hmx : G < x
          · have e : max G x = x := by omega
            rw [e] at hGn
            replace hGn := Lib.hid hGn
            clear e
            go_wp2
            go_roundw
            case rel => exact ⟨m + 1, x, by omega, rfl, rfl, hGn, hR2⟩
            case measure => exact meas hlt2
          · have e : max G x = G := by omega
            rw [e] at hGn
            replace hGn := Lib.hid hGn
            clear e
            go_wp2
            go_roundw
            case rel => exact ⟨m + 1, G, by omega, rfl, rfl, hGn, hR2⟩
            case measure => exact meas hlt2
        · obtain rfl : m = c.length := by omega
          have hG2 : G = (T.take (k + 1)).foldl mxL 0 := by rw [hG.out, List.take_length]; exact hfin.out
          replace hG2 := Lib.hid hG2
          have hR3 := hR.trans (hR2.mono hR.size)
          clear hG
          go_wp2
          go_roundw
          case rel => exact ⟨k + 1, G, by omega, rfl, rfl, hG2, hR3⟩
          case measure => exact meas hlt
    · obtain rfl : k = T.length := by omega
      have hFZ : F = Z := by rw [hF.out, List.take_length]; exact hZ.out
      subst hFZ
      clear hF
      go_wp2
      go_ret
      exact ⟨rfl, hR⟩
end Go.Proofs.Ytadmnlkgefbhcaa
