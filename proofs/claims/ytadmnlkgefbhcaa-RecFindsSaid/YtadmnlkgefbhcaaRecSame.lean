/- Tables of equal content are the same. -/
import Derived.Test.YtadmnlkgefbhcaaRLv2
namespace Go.Proofs.Ytadmnlkgefbhcaa
open Go.RowKit Go.Maps

set_option maxRecDepth 100000 in
set_option maxHeartbeats 1000000 in
theorem SameAll_eq (s1 s2 : Option Addr) (c1 c2 : Nat) (T : List (List Int)) (w : World) (h1 : SlSS intE w s1 T) (h2 : SlSS intE w s2 T) (hl : T.length ≤ 9223372036854775807) (hr : ∀ r ∈ T, r.length ≤ 9223372036854775807) :
    Calls Try.prog 26 #[.slice s1 T.length c1, .slice s2 T.length c2] w fun e w' => e = .returned (.bool true) ∧ Below w.heap.size w w' := by
  have hb : ((T.length : Int) != T.length) = false := by simp
  replace h1 := Lib.hid h1; replace h2 := Lib.hid h2; replace hr := Lib.hid hr
  go_enter Try.func26, Try.ntmps26
  go_wp2
  go_loopw [5] (fun i wr => ∃ k : Nat, k ≤ T.length ∧ i = .int .i64 k ∧ Below w.heap.size w wr) (fun i _ => T.length - (intOf i).toNat)
  case atStart => exact ⟨0, by omega, rfl, Below.refl _ _⟩
  case round =>
    obtain ⟨k, hk, rfl, hR⟩ := hrel
    by_cases hlt : k < T.length
    · obtain ⟨b1, o1, ta1, tc1, rfl, hb1, p0, hs1, -, -⟩ := (up_of hR h1).out.at hlt
      obtain ⟨b2, o2, ta2, tc2, rfl, hb2, q0, hs2, -, -⟩ := (up_of hR h2).out.at hlt
      have hrl := hr.out _ (List.getElem_mem hlt)
      obtain ⟨c, hc⟩ : ∃ x, T[k] = x := ⟨_, rfl⟩
      rw [hc] at p0 q0 hs1 hs2 hrl
      have hbc : ((c.length : Int) != c.length) = false := by simp
      replace hc := Lib.hid hc
      have g1 : (0 : Int) ≤ (k : Int) := by omega
      have g2 : (k : Int) < (T.length : Int) := by omega
      go_upto_region 6 with (fail)
      try have ld_p0 := World.block_lt_of_cell? _ _ p0
      try have ld_q0 := World.block_lt_of_cell? _ _ q0
      refine region_q (by kernel_rfl) (by kernel_rfl) ?_
      dsimp only [List.toList_toArray]
      repeat (first
       | go_big_quiet_skip
       | (go_big_quiet_want
          first
          | (refine qq_det ?_
             apply Exists.intro; refine ⟨fun W' hW' => ?_, ?_⟩
             (· have hk := cellB hW'; go_simp; try (first | rfl | rw [if_pos (by omega)]))
             simp only [Act.put, List.setIfInBounds_toArray, List.set_cons_zero, List.set_cons_succ]; go_big_quiet_on)))
      refine wpQuiet_nil ?_
      intro X1 hb
      try replace hR := up_of hb hR
      try replace p0 := up_of hb p0
      try replace q0 := up_of hb q0
      try replace hs1 := up_of hb hs1
      try replace hs2 := up_of hb hs2
      go_wp2
      go_loopw [6] (fun i wr => ∃ m : Nat, m ≤ c.length ∧ i = .int .i64 m ∧ Below X1.heap.size X1 wr) (fun i _ => c.length - (intOf i).toNat)
      case atStart => exact ⟨0, by omega, rfl, Below.refl _ _⟩
      case round =>
        obtain ⟨m, hm, rfl, hR2⟩ := hrel
        try replace hR := up_of hR2 hR
        try replace p0 := up_of hR2 p0
        try replace q0 := up_of hR2 q0
        try replace hs1 := up_of hR2 hs1
        try replace hs2 := up_of hR2 hs2
        by_cases hlt2 : m < c.length
        · obtain ⟨d1, e1, rfl, hd1, u0⟩ := hs1.int_at hlt2
          obtain ⟨d2, e2, rfl, hd2, v0⟩ := hs2.int_at hlt2
          have g3 : (0 : Int) ≤ (m : Int) := by omega
          have g4 : (m : Int) < (c.length : Int) := by omega
          have he : (c[m] != c[m]) = false := by simp
          go_upto_region 11 with (fail)
          try have ld_p0 := World.block_lt_of_cell? _ _ p0
          try have ld_q0 := World.block_lt_of_cell? _ _ q0
          try have ld_u0 := World.block_lt_of_cell? _ _ u0
          try have ld_v0 := World.block_lt_of_cell? _ _ v0
          refine region_q (by kernel_rfl) (by kernel_rfl) ?_
          dsimp only [List.toList_toArray]
          repeat (first
           | go_big_quiet_skip
           | (go_big_quiet_want
              first
              | (refine qq_det ?_
                 apply Exists.intro; refine ⟨fun W' hW' => ?_, ?_⟩
                 (· have hk := cellB hW'; go_simp; try (first | rfl | rw [if_pos (by omega)]))
                 simp only [Act.put, List.setIfInBounds_toArray, List.set_cons_zero, List.set_cons_succ]; go_big_quiet_on)))
          refine wpQuiet_nil ?_
          intro W1 hb
          try replace hR := up_of hb hR
          try replace p0 := up_of hb p0
          try replace q0 := up_of hb q0
          try replace hs1 := up_of hb hs1
          try replace hs2 := up_of hb hs2
          try replace hR2 := up_of hb hR2
          try replace u0 := up_of hb u0
          try replace v0 := up_of hb v0
          go_wp2
          go_roundw
          case rel => exact ⟨m + 1, by omega, rfl, hR2⟩
          case measure => exact meas hlt2
        · obtain rfl : m = c.length := by omega
          go_wp2
          go_roundw
          case rel => exact ⟨k + 1, by omega, rfl, hR⟩
          case measure => exact meas hlt
    · obtain rfl : k = T.length := by omega
      go_wp2
      go_ret
      exact ⟨rfl, hR⟩
end Go.Proofs.Ytadmnlkgefbhcaa
