/- The walk of MixMultiples. -/
import Derived.Test.YtgeoehokojijdaaMix32
import Derived.Test.YtgeoehokojijdaaMix14
import Derived.Test.YtgeoehokojijdaaMix23
namespace Go.Proofs.Ytgeoehokojijdaa
open Go.RowKit

set_option maxRecDepth 100000 in
set_option maxHeartbeats 1000000 in
theorem MixMultiples_c (s : Option Addr) (cap : Nat) (k : List (List Clm)) (p : Int) (t : Option Addr) (ct : Nat) (st : List Int) (q : Nat) (w : World) (h : Ker w s cap k) (g : Ints w t st) (hq : q ≤ 255) :
    Calls Try.prog 11 #[.slice s k.length cap, .int .i64 p, .slice t st.length ct, .int .u8 q] w fun e w' => e = .returned (.bool true) ∧ Below w.heap.size w w' := by
  have hkl := h.len
  have hsl := g.len
  have hlo := fun W (h : Ker W s cap k) => Long_c s cap k W h
  cases h1 : longB k
  case true =>
    rw [h1] at hlo
    replace hlo := Lib.hid hlo
    clear h1
    go_enter Try.func11, Try.ntmps11
    go_wp2_with (first | (go_at_call 16; refine (hlo.out _ h).mono ?_; rintro e w' ⟨rfl, rfl⟩) | (go_at_call 17; refine (Awake_c _).mono ?_; rintro e W1 ⟨rfl, hb⟩; (try replace h := up_of hb h)))
    go_ret
    exact ⟨rfl, hb⟩
  rw [h1] at hlo
  replace hlo := Lib.hid hlo
  clear h1
  by_cases h40 : 40 < st.length
  · have h41 : (40 : Int) < (st.length : Int) := by omega
    go_enter Try.func11, Try.ntmps11
    go_wp2_with (first | (go_at_call 16; refine (hlo.out _ h).mono ?_; rintro e w' ⟨rfl, rfl⟩) | (go_at_call 17; refine (Awake_c _).mono ?_; rintro e W1 ⟨rfl, hb⟩; (try replace h := up_of hb h)))
    go_ret
    exact ⟨rfl, hb⟩
  have h41 : ¬ (40 : Int) < (st.length : Int) := by omega
  have c1 := fun W (h : Ker W s cap k) (g : Ints W t st) => Good_c s cap k p t ct st W h g
  by_cases hE : askE k p st = 0
  case neg =>
    obtain ⟨R, hR⟩ : ∃ R, rgB k p st = R := ⟨_, rfl⟩
    obtain ⟨E, hEe⟩ : ∃ E, askE k p st = E := ⟨_, rfl⟩
    rw [hR, hEe] at c1
    rw [hEe] at hE
    have hE1 : (E != 0) = true := by simpa using hE
    replace c1 := Lib.hid c1
    clear hR hEe hE
    go_enter Try.func11, Try.ntmps11
    go_upto_region 4 with (first | (go_at_call 16; refine (hlo.out _ h).mono ?_; rintro e w' ⟨rfl, rfl⟩) | (go_at_call 34; refine (c1.out _ h g).mono ?_; rintro e A1 ⟨rfl, hb⟩; (try replace h := up_of hb h); (try replace g := up_of hb g)))
    have hB := hb
    clear hb
    go_wp2_with (first | (go_at_call 17; refine (Awake_c _).mono ?_; rintro e W1 ⟨rfl, hb⟩; (try replace h := up_of hb h); (try replace g := up_of hb g); (try replace hB := up_of hb hB)))
    go_ret
    exact ⟨rfl, hB⟩
  cases hG : rgB k p st
  · rw [hG, hE] at c1
    replace c1 := Lib.hid c1
    clear hG hE
    go_enter Try.func11, Try.ntmps11
    go_upto_region 4 with (first | (go_at_call 16; refine (hlo.out _ h).mono ?_; rintro e w' ⟨rfl, rfl⟩) | (go_at_call 34; refine (c1.out _ h g).mono ?_; rintro e A1 ⟨rfl, hb⟩; (try replace h := up_of hb h); (try replace g := up_of hb g)))
    have hB := hb
    clear hb
    go_wp2_with (first | (go_at_call 17; refine (Awake_c _).mono ?_; rintro e W1 ⟨rfl, hb⟩; (try replace h := up_of hb h); (try replace g := up_of hb g); (try replace hB := up_of hb hB)))
    go_ret
    exact ⟨rfl, hB⟩
  obtain ⟨hvl, hp, hst, hsr⟩ := askE_ok hE
  have hgood : goodB k p st = true := by
    unfold rgB at hG
    rw [Bool.and_eq_true] at hG
    exact hG.2
  rw [hG, hE] at c1
  obtain ⟨p, rfl⟩ : ∃ n : Nat, p = n := ⟨p.toNat, by omega⟩
  obtain ⟨FL, hf1, hf2, hfl, hcmp⟩ := starts_le (k := k) (p := p) (st := st) (by omega) hst hsr hgood
  have hpb : bw 1 (p : Int) 20 = true := by rw [bw_iff]; exact hp
  have c3 := fun W (h : Ker W s cap k) => Starts_c s cap k p W h
  rw [show startsR k p = FL by simp [startsR, hvl, hpb, hf2], show startsE k p = 0 by
    simp only [startsE, hvl, hpb, if_true, Int.toNat_natCast]
    rw [if_pos (Option.isSome_iff_ne_none.2 hf1)]] at c3
  obtain ⟨m, hm, hme⟩ : ∃ m : Nat, (1 ≤ m ∧ m ≤ 4) ∧ m = 1 + q % 4 := ⟨1 + q % 4, by omega, rfl⟩
  obtain ⟨P, hP⟩ : ∃ P, p * m = P := ⟨_, rfl⟩
  have hPb : 1 ≤ P ∧ P ≤ 80 ∧ p ≤ P := by
    subst hP
    have a1 := Nat.mul_le_mul (show p ≤ 20 by omega) hm.2
    have a2 := Nat.mul_le_mul (show 1 ≤ p by omega) hm.1
    have a3 := Nat.mul_le_mul (Nat.le_refl p) hm.1
    omega
  have c2 : P ≤ 20 → ∀ W, Ker W s cap k → Ints W t st → Calls Try.prog 34 #[.slice s k.length cap, .int .i64 (P : Int), .slice t st.length ct] W fun e w' => e = .returned (.tuple #[.bool true, .int .i64 0]) ∧ Below W.heap.size W w' := fun hP20 W h g => by
    have h1 := Good_c s cap k (P : Int) t ct st W h g
    have hask : askE k (P : Int) st = 0 := by
      have hb : bw 1 (P : Int) 20 = true := by rw [bw_iff]; omega
      have ht : timB k (P : Int) st = true := by
        simp only [timB, Bool.and_eq_true, decide_eq_true_iff, List.all_eq_true]
        exact ⟨hst, fun n hn => by rw [bw_iff]; have := hsr n hn; omega⟩
      simp [askE, hvl, hb, ht]
    have hgm : goodB k (P : Int) st = true := by rw [← hP]; exact good_mul hst hgood
    rw [hask, show rgB k (P : Int) st = true by simp [rgB, hask, hgm]] at h1
    exact h1
  have hwm : IntKind.i64.wrap (1 + ((q : Int) % 4)) = (m : Int) := by rw [i64_small (by omega)]; omega
  have hwq : (q : Int).tmod 4 = (q : Int) % 4 := Int.tmod_eq_emod_of_nonneg (by omega)
  have hwP : IntKind.i64.wrap ((p : Int) * (m : Int)) = (P : Int) := by
    have : (p : Int) * (m : Int) = ((p * m : Nat) : Int) := by simp
    rw [this, hP, i64_small (by omega)]
  have htk : ∀ u (h1 : u < FL.length) (h2 : u < st.length), FL.take u = st.take u → FL[u] = st[u] → FL.take (u + 1) = st.take (u + 1) := fun u h1 h2 e1 e2 => by
    rw [List.take_succ_eq_append_getElem h1, List.take_succ_eq_append_getElem h2, e1, e2]
  have ht0 : FL.take 0 = st.take 0 := rfl
  have hlne : ((FL.length : Int) != (st.length : Int)) = false := by rw [hfl]; simp
  replace c1 := Lib.hid c1; replace c2 := Lib.hid c2; replace c3 := Lib.hid c3; replace hst := Lib.hid hst; replace hsr := Lib.hid hsr; replace hcmp := Lib.hid hcmp; replace htk := Lib.hid htk; replace ht0 := Lib.hid ht0; replace hfl := Lib.hid hfl; replace hme := Lib.hid hme; replace hP := Lib.hid hP
  clear hE hG hvl hgood hf1 hf2 hpb
  have hFl : FL.length ≤ 40 := by have := hfl.out; omega
  by_cases hP20 : P ≤ 20
  case pos =>
    have c5 := Lib.hid (c2.out hP20)
    have hP22 : (P : Int) ≤ 20 := by omega
    go_enter Try.func11, Try.ntmps11
    go_upto_region 4 with (first | (go_at_call 16; refine (hlo.out _ h).mono ?_; rintro e w' ⟨rfl, rfl⟩) | (go_at_call 34; refine (c1.out _ h g).mono ?_; rintro e A1 ⟨rfl, hb⟩; (try replace h := up_of hb h); (try replace g := up_of hb g)))
    have hB := hb
    clear hb
    go_upto_region 11 with (first | (go_at_call 34; refine (c5.out _ h g).mono ?_; rintro e A2 ⟨rfl, hb⟩; (try replace h := up_of hb h); (try replace g := up_of hb g); (try replace hB := up_of hb hB)))
    clear hb
    go_upto_region 12 with (first | (go_at_call 23; refine (c3.out _ h).mono ?_; rintro e A3 ⟨⟨s3, k3, rfl, hown⟩, hb⟩; (try replace h := up_of hb h); (try replace g := up_of hb g); (try replace hB := up_of hb hB)))
    have i3 := SlS.of_own (E := intE) hown
    clear hb hown
    go_wp2
    go_loopw [77] (fun ii V => ∃ u : Nat, u ≤ FL.length ∧ ii = .int .i64 u ∧ Below A3.heap.size A3 V ∧ Hid (FL.take u = st.take u)) (fun ii _ => FL.length - (intOf ii).toNat)
    case atStart => exact ⟨0, by omega, rfl, Below.refl _ _, ht0⟩
    case round =>
      obtain ⟨u, hu, rfl, hR, hpre⟩ := hrel
      try replace h := up_of hR h
      try replace g := up_of hR g
      try replace hB := up_of hR hB
      try replace i3 := up_of hR i3
      by_cases hlt : u < FL.length
      · have hlt2 : u < st.length := by have := hfl.out; omega
        obtain ⟨b1, o1, rfl, hb1, p0⟩ := i3.int_at hlt
        obtain ⟨b2, o2, rfl, hb2, q0⟩ := g.sl.int_at hlt2
        have hle := hcmp.out u hlt hlt2 hpre.out
        have htk1 := htk.out u hlt hlt2 hpre.out
        obtain ⟨x, hx⟩ : ∃ x, FL[u] = x := ⟨_, rfl⟩
        obtain ⟨y, hy⟩ : ∃ y, st[u] = y := ⟨_, rfl⟩
        rw [hx] at p0 hle htk1
        rw [hy] at q0 hle htk1
        replace hx := Lib.hid hx; replace hy := Lib.hid hy
        have g1 : (0 : Int) ≤ (u : Int) := by omega
        have g2 : (u : Int) < (FL.length : Int) := by omega
        have g3 : (u : Int) < (st.length : Int) := by omega
        by_cases hxy : x = y
        · have hpre2 := Lib.hid (htk1 hxy)
          subst hxy
          clear htk1 hpre hle
          go_upto_region 17 with (fail)
          try have ld_p0 := World.block_lt_of_cell? _ _ p0
          try have ld_q0 := World.block_lt_of_cell? _ _ q0
          refine region_q (by kernel_rfl) (by kernel_rfl) ?_
          dsimp only [List.toList_toArray]
          repeat (first
           | go_big_quiet_skip
           | (go_big_quiet_want
              first
              | (refine qq_det ?_
                 apply Exists.intro; refine ⟨fun W' hW' => ?_, ?_⟩
                 (· have hk := cellB hW'; go_simp; try (first | rfl | rw [if_pos (by omega)]))
                 simp only [Act.put, List.setIfInBounds_toArray, List.set_cons_zero, List.set_cons_succ]; go_big_quiet_on)))
          refine wpQuiet_nil ?_
          intro W1 hb
          try replace h := up_of hb h
          try replace g := up_of hb g
          try replace hB := up_of hb hB
          try replace i3 := up_of hb i3
          try replace hR := up_of hb hR
          try replace p0 := up_of hb p0
          try replace q0 := up_of hb q0
          go_wp2
          go_roundw
          case rel => exact ⟨u + 1, by omega, rfl, hR, hpre2⟩
          case measure => exact meas hlt
        · have hne : (x != y) = true := by simpa using hxy
          have hne2 : (x == y) = false := by simpa using hxy
          have hlt3 : x < y := by omega
          have hlt4 : decide (x < y) = true := by simpa using hlt3
          clear htk1 hpre hle hxy
          go_upto_region 17 with (fail)
          try have ld_p0 := World.block_lt_of_cell? _ _ p0
          try have ld_q0 := World.block_lt_of_cell? _ _ q0
          refine region_q (by kernel_rfl) (by kernel_rfl) ?_
          dsimp only [List.toList_toArray]
          repeat (first
           | go_big_quiet_skip
           | (go_big_quiet_want
              first
              | (refine qq_det ?_
                 apply Exists.intro; refine ⟨fun W' hW' => ?_, ?_⟩
                 (· have hk := cellB hW'; go_simp; try (first | rfl | rw [if_pos (by omega)]))
                 simp only [Act.put, List.setIfInBounds_toArray, List.set_cons_zero, List.set_cons_succ]; go_big_quiet_on)))
          refine wpQuiet_nil ?_
          intro W1 hb
          try replace h := up_of hb h
          try replace g := up_of hb g
          try replace hB := up_of hb hB
          try replace i3 := up_of hb i3
          try replace hR := up_of hb hR
          try replace p0 := up_of hb p0
          try replace q0 := up_of hb q0
          go_upto_region 18 with (fail)
          try have ld_p0 := World.block_lt_of_cell? _ _ p0
          try have ld_q0 := World.block_lt_of_cell? _ _ q0
          refine region_q (by kernel_rfl) (by kernel_rfl) ?_
          dsimp only [List.toList_toArray]
          repeat (first
           | go_big_quiet_skip
           | (go_big_quiet_want
              first
              | (refine qq_det ?_
                 apply Exists.intro; refine ⟨fun W' hW' => ?_, ?_⟩
                 (· have hk := cellB hW'; go_simp; try (first | rfl | rw [if_pos (by omega)]))
                 simp only [Act.put, List.setIfInBounds_toArray, List.set_cons_zero, List.set_cons_succ]; go_big_quiet_on)
              | (refine qq_call ?_
                 apply Exists.intro; apply Exists.intro; refine ⟨fun W' hW' => ?_, ?_⟩
                 (· have hk := cellB hW'; go_simp; exact ⟨rfl, rfl⟩)
                 apply Exists.intro; refine ⟨fun W' hW' => ?_, ?_⟩
                 (· first | (go_at_call 17; exact qc hW' (Awake_c _)))
                 simp only [Act.put, List.setIfInBounds_toArray, List.set_cons_zero, List.set_cons_succ]; go_big_quiet_on)))
          refine wpQuiet_nil ?_
          intro W1 hb
          try replace h := up_of hb h
          try replace g := up_of hb g
          try replace hB := up_of hb hB
          try replace i3 := up_of hb i3
          try replace hR := up_of hb hR
          try replace p0 := up_of hb p0
          try replace q0 := up_of hb q0
          go_wp2
          go_ret
          exact ⟨rfl, hB⟩
      · obtain rfl : u = FL.length := by omega
        go_wp2_with (first | (go_at_call 17; refine (Awake_c _).mono ?_; rintro e W1 ⟨rfl, hb⟩; (try replace h := up_of hb h); (try replace g := up_of hb g); (try replace hB := up_of hb hB); (try replace i3 := up_of hb i3); (try replace hR := up_of hb hR); (try replace p0 := up_of hb p0); (try replace q0 := up_of hb q0)))
        go_ret
        exact ⟨rfl, hB⟩

  case neg =>
    have hP22 : ¬ (P : Int) ≤ 20 := by omega
    go_enter Try.func11, Try.ntmps11
    go_upto_region 4 with (first | (go_at_call 16; refine (hlo.out _ h).mono ?_; rintro e w' ⟨rfl, rfl⟩) | (go_at_call 34; refine (c1.out _ h g).mono ?_; rintro e A1 ⟨rfl, hb⟩; (try replace h := up_of hb h); (try replace g := up_of hb g)))
    have hB := hb
    clear hb
    go_upto_region 11 with (fail)
    go_upto_region 12 with (first | (go_at_call 23; refine (c3.out _ h).mono ?_; rintro e A3 ⟨⟨s3, k3, rfl, hown⟩, hb⟩; (try replace h := up_of hb h); (try replace g := up_of hb g); (try replace hB := up_of hb hB)))
    have i3 := SlS.of_own (E := intE) hown
    clear hb hown
    go_wp2
    go_loopw [77] (fun ii V => ∃ u : Nat, u ≤ FL.length ∧ ii = .int .i64 u ∧ Below A3.heap.size A3 V ∧ Hid (FL.take u = st.take u)) (fun ii _ => FL.length - (intOf ii).toNat)
    case atStart => exact ⟨0, by omega, rfl, Below.refl _ _, ht0⟩
    case round =>
      obtain ⟨u, hu, rfl, hR, hpre⟩ := hrel
      try replace h := up_of hR h
      try replace g := up_of hR g
      try replace hB := up_of hR hB
      try replace i3 := up_of hR i3
      by_cases hlt : u < FL.length
      · have hlt2 : u < st.length := by have := hfl.out; omega
        obtain ⟨b1, o1, rfl, hb1, p0⟩ := i3.int_at hlt
        obtain ⟨b2, o2, rfl, hb2, q0⟩ := g.sl.int_at hlt2
        have hle := hcmp.out u hlt hlt2 hpre.out
        have htk1 := htk.out u hlt hlt2 hpre.out
        obtain ⟨x, hx⟩ : ∃ x, FL[u] = x := ⟨_, rfl⟩
        obtain ⟨y, hy⟩ : ∃ y, st[u] = y := ⟨_, rfl⟩
        rw [hx] at p0 hle htk1
        rw [hy] at q0 hle htk1
        replace hx := Lib.hid hx; replace hy := Lib.hid hy
        have g1 : (0 : Int) ≤ (u : Int) := by omega
        have g2 : (u : Int) < (FL.length : Int) := by omega
        have g3 : (u : Int) < (st.length : Int) := by omega
        by_cases hxy : x = y
        · have hpre2 := Lib.hid (htk1 hxy)
          subst hxy
          clear htk1 hpre hle
          go_upto_region 17 with (fail)
          try have ld_p0 := World.block_lt_of_cell? _ _ p0
          try have ld_q0 := World.block_lt_of_cell? _ _ q0
          refine region_q (by kernel_rfl) (by kernel_rfl) ?_
          dsimp only [List.toList_toArray]
          repeat (first
           | go_big_quiet_skip
           | (go_big_quiet_want
              first
              | (refine qq_det ?_
                 apply Exists.intro; refine ⟨fun W' hW' => ?_, ?_⟩
                 (· have hk := cellB hW'; go_simp; try (first | rfl | rw [if_pos (by omega)]))
                 simp only [Act.put, List.setIfInBounds_toArray, List.set_cons_zero, List.set_cons_succ]; go_big_quiet_on)))
          refine wpQuiet_nil ?_
          intro W1 hb
          try replace h := up_of hb h
          try replace g := up_of hb g
          try replace hB := up_of hb hB
          try replace i3 := up_of hb i3
          try replace hR := up_of hb hR
          try replace p0 := up_of hb p0
          try replace q0 := up_of hb q0
          go_wp2
          go_roundw
          case rel => exact ⟨u + 1, by omega, rfl, hR, hpre2⟩
          case measure => exact meas hlt
        · have hne : (x != y) = true := by simpa using hxy
          have hne2 : (x == y) = false := by simpa using hxy
          have hlt3 : x < y := by omega
          have hlt4 : decide (x < y) = true := by simpa using hlt3
          clear htk1 hpre hle hxy
          go_upto_region 17 with (fail)
          try have ld_p0 := World.block_lt_of_cell? _ _ p0
          try have ld_q0 := World.block_lt_of_cell? _ _ q0
          refine region_q (by kernel_rfl) (by kernel_rfl) ?_
          dsimp only [List.toList_toArray]
          repeat (first
           | go_big_quiet_skip
           | (go_big_quiet_want
              first
              | (refine qq_det ?_
                 apply Exists.intro; refine ⟨fun W' hW' => ?_, ?_⟩
                 (· have hk := cellB hW'; go_simp; try (first | rfl | rw [if_pos (by omega)]))
                 simp only [Act.put, List.setIfInBounds_toArray, List.set_cons_zero, List.set_cons_succ]; go_big_quiet_on)))
          refine wpQuiet_nil ?_
          intro W1 hb
          try replace h := up_of hb h
          try replace g := up_of hb g
          try replace hB := up_of hb hB
          try replace i3 := up_of hb i3
          try replace hR := up_of hb hR
          try replace p0 := up_of hb p0
          try replace q0 := up_of hb q0
          go_upto_region 18 with (fail)
          try have ld_p0 := World.block_lt_of_cell? _ _ p0
          try have ld_q0 := World.block_lt_of_cell? _ _ q0
          refine region_q (by kernel_rfl) (by kernel_rfl) ?_
          dsimp only [List.toList_toArray]
          repeat (first
           | go_big_quiet_skip
           | (go_big_quiet_want
              first
              | (refine qq_det ?_
                 apply Exists.intro; refine ⟨fun W' hW' => ?_, ?_⟩
                 (· have hk := cellB hW'; go_simp; try (first | rfl | rw [if_pos (by omega)]))
                 simp only [Act.put, List.setIfInBounds_toArray, List.set_cons_zero, List.set_cons_succ]; go_big_quiet_on)
              | (refine qq_call ?_
                 apply Exists.intro; apply Exists.intro; refine ⟨fun W' hW' => ?_, ?_⟩
                 (· have hk := cellB hW'; go_simp; exact ⟨rfl, rfl⟩)
                 apply Exists.intro; refine ⟨fun W' hW' => ?_, ?_⟩
                 (· first | (go_at_call 17; exact qc hW' (Awake_c _)))
                 simp only [Act.put, List.setIfInBounds_toArray, List.set_cons_zero, List.set_cons_succ]; go_big_quiet_on)))
          refine wpQuiet_nil ?_
          intro W1 hb
          try replace h := up_of hb h
          try replace g := up_of hb g
          try replace hB := up_of hb hB
          try replace i3 := up_of hb i3
          try replace hR := up_of hb hR
          try replace p0 := up_of hb p0
          try replace q0 := up_of hb q0
          go_wp2
          go_ret
          exact ⟨rfl, hB⟩
      · obtain rfl : u = FL.length := by omega
        go_wp2_with (first | (go_at_call 17; refine (Awake_c _).mono ?_; rintro e W1 ⟨rfl, hb⟩; (try replace h := up_of hb h); (try replace g := up_of hb g); (try replace hB := up_of hb hB); (try replace i3 := up_of hb i3); (try replace hR := up_of hb hR); (try replace p0 := up_of hb p0); (try replace q0 := up_of hb q0)))
        go_ret
        exact ⟨rfl, hB⟩

end Go.Proofs.Ytgeoehokojijdaa
