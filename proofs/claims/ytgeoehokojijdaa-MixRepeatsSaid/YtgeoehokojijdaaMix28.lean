/- The walk of MixRepeats. -/
import Derived.Test.YtgeoehokojijdaaMix27
namespace Go.Proofs.Ytgeoehokojijdaa
open Go.RowKit

theorem tab_zero {k : List (List Clm)} {p : Int} {st : List Int} {T : Int} (h : tabE k p st T = 0) : askE k p st = 0 ∧ tabL k p st T = (List.range T.toNat).map (rowG k p st k.length) := by
  refine ⟨?_, by simp [tabL, h]⟩
  unfold tabE at h
  split at h
  · assumption
  · exact h
set_option maxRecDepth 100000 in
set_option maxHeartbeats 1000000 in
theorem MixRepeats_c (s : Option Addr) (cap : Nat) (k : List (List Clm)) (p : Int) (t : Option Addr) (ct : Nat) (st : List Int) (w : World) (h : Ker w s cap k) (g : Ints w t st) :
    Calls Try.prog 8 #[.slice s k.length cap, .int .i64 p, .slice t st.length ct] w fun e w' => e = .returned (.bool true) ∧ Below w.heap.size w w' := by
  have hkl := h.len
  have hsl := g.len
  have hlo := fun W (h : Ker W s cap k) => Long_c s cap k W h
  have c3 := fun W (h : Ker W s cap k) (g : Ints W t st) => Timetable_c s cap k p t ct st 130 W h g
  cases h1 : longB k
  case true =>
    rw [h1] at hlo
    replace hlo := Lib.hid hlo
    clear h1 c3
    go_enter Try.func8, Try.ntmps8
    go_wp2_with (first | (go_at_call 16; refine (hlo.out _ h).mono ?_; rintro e w' ⟨rfl, rfl⟩) | (go_at_call 17; refine (Awake_c _).mono ?_; rintro e W1 ⟨rfl, hb⟩; (try replace h := up_of hb h)))
    go_ret
    exact ⟨rfl, hb⟩
  rw [h1] at hlo
  replace hlo := Lib.hid hlo
  clear h1
  by_cases h40 : 40 < st.length
  · have h41 : (40 : Int) < (st.length : Int) := by omega
    clear c3
    go_enter Try.func8, Try.ntmps8
    go_wp2_with (first | (go_at_call 16; refine (hlo.out _ h).mono ?_; rintro e w' ⟨rfl, rfl⟩) | (go_at_call 17; refine (Awake_c _).mono ?_; rintro e W1 ⟨rfl, hb⟩; (try replace h := up_of hb h)))
    go_ret
    exact ⟨rfl, hb⟩
  have h41 : ¬ (40 : Int) < (st.length : Int) := by omega
  by_cases hE : tabE k p st 130 = 0
  case neg =>
    rw [tabL_nil hE] at c3
    obtain ⟨LE, hLE⟩ : ∃ x, tabE k p st 130 = x := ⟨_, rfl⟩
    rw [hLE] at c3 hE
    have hE1 : (LE != 0) = true := by simpa using hE
    replace c3 := Lib.hid c3
    clear hLE hE
    go_enter Try.func8, Try.ntmps8
    go_upto_region 4 with (first | (go_at_call 16; refine (hlo.out _ h).mono ?_; rintro e w' ⟨rfl, rfl⟩) | (go_at_call 28; refine (c3.out _ h g).mono ?_; rintro e A1 ⟨⟨s3, k3, rfl, hown⟩, hb⟩; (try replace h := up_of hb h); (try replace g := up_of hb g)))
    have hB := hb
    clear hb hown
    go_wp2_with (first | (go_at_call 17; refine (Awake_c _).mono ?_; rintro e W1 ⟨rfl, hb⟩; (try replace h := up_of hb h); (try replace g := up_of hb g); (try replace hB := up_of hb hB)))
    go_ret
    exact ⟨rfl, hB⟩
  obtain ⟨hask, hLL0⟩ := tab_zero hE
  obtain ⟨hvl, hp, hst, hsr⟩ := askE_ok hask
  rw [hE] at c3
  obtain ⟨p, rfl⟩ : ∃ n : Nat, p = n := ⟨p.toNat, by omega⟩
  have hti : Tims k p st := ⟨by omega, hst, hsr, fun l hl c hc => (vldB_c hvl hl hc).2⟩
  have hk3 := vldB_k hvl
  have hf := vld_flat hvl
  have hsum := sumG_sum hti k.length (Nat.le_refl _)
  rw [List.take_length] at hsum
  have hnx := fun (u : Nat) (hu : 70 ≤ u) => sumG_next hti (t := (u : Int)) (by omega) k.length (Nat.le_refl _)
  have htw := fun (u : Nat) => sumG_two k (p : Int) st (u : Int) k.length
  have hle := fun (u : Nat) => (sumG_le (fun l hl => (by have := (vldB_l hvl hl).2.2; omega)) (p : Int) st (u : Int) k.length (Nat.le_refl _)).2
  have hft := fun n (hn : n < k.length) => congrArg List.length (flat_take hn)
  have hfl := fun n => flat_take_le k n
  have hfe : (k.take k.length).flatten = k.flatten := by rw [List.take_length]
  obtain ⟨FL, hFL⟩ : ∃ F, k.flatten.length = F := ⟨_, rfl⟩
  simp only [hFL] at hf hsum hfl
  rw [show ((130 : Int)).toNat = 130 from rfl] at hLL0
  obtain ⟨f, hfd⟩ : ∃ f : Nat → Nat, (fun i : Nat => (sumG k (p : Int) st (70 + (i : Int)) k.length).1) = f := ⟨_, rfl⟩
  rw [hfd] at hsum
  obtain ⟨LL, hLL⟩ : ∃ x, tabL k p st 130 = x := ⟨_, rfl⟩
  rw [hLL] at c3 hLL0
  have hLlen : LL.length = 130 := by rw [hLL0]; simp
  have hat : ∀ u (hu : u < LL.length), ∃ A B : Nat, LL[u] = ⟨A, B⟩ ∧ B ≤ A ∧ B ≤ k.length ∧ (∀ hu2 : u + p < LL.length, 70 ≤ u → LL[u + p] = ⟨A, B⟩) ∧ (70 ≤ u → f (u - 70) = A) := fun u hu => by
    have hg : ∀ v (hv : v < LL.length), LL[v] = rowG k p st k.length v := fun v hv => by simp [hLL0]
    refine ⟨(sumG k (p : Int) st (u : Int) k.length).1, (sumG k (p : Int) st (u : Int) k.length).2, by rw [hg]; rfl, htw u, hle u, fun hu2 h70 => ?_, fun h70 => ?_⟩
    · rw [hg]; unfold rowG; rw [Int.natCast_add, hnx u h70]
    · rw [← hfd]; simp only; rw [show 70 + ((u - 70 : Nat) : Int) = (u : Int) by omega]
  have hSs := fun n (hn : n ≤ p) => sumTo_mono f hn
  rw [hsum] at hSs
  have hSt : ∀ u, 70 ≤ u → u < 70 + p → sumTo f (min (u + 1 - 70) p) = sumTo f (min (u - 70) p) + f (u - 70) := fun u h1 h2 => by
    rw [show min (u + 1 - 70) p = (u - 70) + 1 by omega, show min (u - 70) p = u - 70 by omega]; rfl
  have hSo : ∀ u, 70 + p ≤ u → min (u + 1 - 70) p = min (u - 70) p := fun u h => by omega
  have hp2 : (1 : Int) ≤ (p : Int) ∧ (p : Int) ≤ 20 := hp
  replace c3 := Lib.hid c3; replace hsum := Lib.hid hsum; replace hft := Lib.hid hft; replace hfl := Lib.hid hfl; replace hfe := Lib.hid hfe; replace hFL := Lib.hid hFL; replace hat := Lib.hid hat; replace hSs := Lib.hid hSs; replace hSt := Lib.hid hSt; replace hSo := Lib.hid hSo; replace hLlen := Lib.hid hLlen
  clear hE hask hvl hp hst hsr hti hnx htw hle hfd hLL hLL0
  go_enter Try.func8, Try.ntmps8
  have hl130 : ((LL.length : Int) != 130) = false := by rw [hLlen.out]; rfl
  go_upto_region 4 with (first | (go_at_call 16; refine (hlo.out _ h).mono ?_; rintro e w' ⟨rfl, rfl⟩) | (go_at_call 28; refine (c3.out _ h g).mono ?_; rintro e A1 ⟨⟨s3, k3, rfl, hown⟩, hb⟩; (try replace h := up_of hb h); (try replace g := up_of hb g)))
  have i3 := SlS.of_own (E := clmE) hown
  have hB := hb
  clear hb hown
  go_wp2
  go_loop [9, 42] (fun v i => ∃ n : Nat, n ≤ k.length ∧ i = .int .i64 n ∧ v = .int .i64 ((k.take n).flatten.length : Nat)) (fun _ i => k.length - (intOf i).toNat)
  case atStart => exact ⟨0, by omega, rfl, by simp⟩
  case round =>
    obtain ⟨n, hn, rfl, rfl⟩ := hrel
    by_cases hlt : n < k.length
    · obtain ⟨bk, ok, s1, c1, rfl, hbk, q0, hsl2, -, -⟩ := h.ss.at hlt
      have e1 := hft.out n hlt
      have e2 := hfl.out (n + 1)
      rw [List.length_append] at e1
      obtain ⟨F, hF⟩ : ∃ F, (k.take n).flatten.length = F := ⟨_, rfl⟩
      obtain ⟨F2, hF2⟩ : ∃ F, (k.take (n + 1)).flatten.length = F := ⟨_, rfl⟩
      rw [hF, hF2] at e1
      rw [hF2] at e2
      rw [hF]
      replace hF := Lib.hid hF
      have e3 : F + k[n].length ≤ 60 := by omega
      have e4 : ((F : Int) + (k[n].length : Int)) = ((F2 : Nat) : Int) := by omega
      replace e4 := Lib.hid e4; replace e1 := Lib.hid e1; replace hF2 := Lib.hid hF2
      clear hsl2
      go_wp2
      go_round
      case rel => exact ⟨n + 1, by omega, by go_num, by rw [hF2.out, ← e4.out]⟩
      case measure => simp [intOf]; omega
    · obtain rfl : n = k.length := by omega
      rw [hfe.out, hFL.out]
      clear hfe hft hfl
      go_wp2
      go_loopw [10, 13] (fun v i V => ∃ u : Nat, 70 ≤ u ∧ u + p ≤ 130 ∧ i = .int .i64 u ∧ v = .int .i64 (sumTo f (min (u - 70) p) : Nat) ∧ Below A1.heap.size A1 V) (fun _ i _ => 130 - (intOf i).toNat)
      case atStart => exact ⟨70, by omega, by omega, rfl, by simp [sumTo], Below.refl _ _⟩
      case round =>
        obtain ⟨u, hu, hup, rfl, rfl, hR⟩ := hrel
        try replace h := up_of hR h
        try replace g := up_of hR g
        try replace hB := up_of hR hB
        try replace i3 := up_of hR i3
        obtain ⟨v, hv⟩ : ∃ v, u + p = v := ⟨_, rfl⟩
        have u3 : IntKind.i64.wrap ((u : Int) + (p : Int)) = (v : Int) := by rw [i64_small (by omega)]; omega
        have u4 := i64_small (n := (70 : Int) + (p : Int)) (by omega)
        by_cases hlt : v < 130
        · have hu1 : u < LL.length := by have := hLlen.out; omega
          have hu2 : u + p < LL.length := by have := hLlen.out; omega
          have hu3 : v < LL.length := by omega
          obtain ⟨A, B, e1, hBA, hBk, e2, e3⟩ := hat.out u hu1
          replace e2 := e2 hu2 hu
          replace e3 := e3 hu
          obtain ⟨b1, o1, rfl, hb1, p0, p1⟩ := i3.clm_at hu1
          obtain ⟨b2, o2, eb, -, q0, q1⟩ := i3.clm_at hu3
          cases eb
          have e4 : LL[v] = ⟨(A : Int), (B : Int)⟩ := by rw [← e2]; congr 1; exact hv.symm
          rw [e1] at p0 p1
          rw [e4] at q0 q1
          obtain ⟨SS, hSS⟩ : ∃ x, sumTo f (min (u - 70) p) = x := ⟨_, rfl⟩
          have hSb := hSs.out (min (u - 70) p) (by omega)
          have hSt1 := hSt.out u hu
          have hSo1 := hSo.out u
          have hSb2 := hSs.out (min (u + 1 - 70) p) (by omega)
          rw [hSS] at hSb hSt1 ⊢
          rw [e3] at hSt1
          have g1 : (0 : Int) ≤ (u : Int) := by omega
          have g2 : (u : Int) < (LL.length : Int) := by omega
          have g3 : (0 : Int) ≤ (v : Int) := by omega
          have g4 : (v : Int) < (LL.length : Int) := by omega
          have g5 : (v : Int) < 130 := by omega
          have g6 : ¬ (A : Int) < (B : Int) := by omega
          have g7 : ¬ (k.length : Int) < (B : Int) := by omega
          have he : ∀ w, (Op.equalIn 10000 45 (.agg #[.int .i64 (A : Int), .int .i64 (B : Int)]) (.agg #[.int .i64 (A : Int), .int .i64 (B : Int)])).run Try.prog w = .ok true w := fun w => by
            have := pair_eql ⟨A, B⟩ ⟨A, B⟩ w
            simpa using this
          replace hSS := Lib.hid hSS; replace hSt1 := Lib.hid hSt1; replace hSo1 := Lib.hid hSo1; replace e1 := Lib.hid e1; replace e2 := Lib.hid e2; replace e4 := Lib.hid e4; replace e3 := Lib.hid e3; replace hSb2 := Lib.hid hSb2
          replace hv := Lib.hid hv
          go_upto_region 17 with (fail)
          try have ld_p0 := World.block_lt_of_cell? _ _ p0
          try have ld_q0 := World.block_lt_of_cell? _ _ q0
          refine region_q (by kernel_rfl) (by kernel_rfl) ?_
          dsimp only [List.toList_toArray]
          repeat (first
           | go_big_quiet_skip
           | (go_big_quiet_want
              first
              | (refine qq_det ?_
                 apply Exists.intro; refine ⟨fun W' hW' => ?_, ?_⟩
                 (· have hk := cellB hW'; go_simp; try (first | rfl | rw [if_pos (by omega)]))
                 simp only [Act.put, List.setIfInBounds_toArray, List.set_cons_zero, List.set_cons_succ]; go_big_quiet_on)))
          refine wpQuiet_nil ?_
          intro W1 hb
          try replace h := up_of hb h
          try replace g := up_of hb g
          try replace hB := up_of hb hB
          try replace i3 := up_of hb i3
          try replace hR := up_of hb hR
          try replace p0 := up_of hb p0
          try replace p1 := up_of hb p1
          try replace q0 := up_of hb q0
          try replace q1 := up_of hb q1
          by_cases h7 : u < 70 + p
          · have h8 : (u : Int) < 70 + (p : Int) := by omega
            have e8 := hSt1.out h7
            have hSA : SS + A ≤ 60 := by have := hSb2.out; omega
            have u5 := i64_small (n := (SS : Int) + (A : Int)) (by omega)
            replace e8 := Lib.hid e8
            clear hSt1 hSo1 hSb2
            go_wp2
            go_roundw
            case rel => exact ⟨u + 1, by omega, by have := hv.out; omega, by go_num, by rw [e8.out]; simp, hR⟩
            case measure => (simp [intOf]) <;> omega
          · have h8 : ¬ (u : Int) < 70 + (p : Int) := by omega
            have e8 := hSo1.out (by omega)
            replace e8 := Lib.hid e8
            clear hSt1 hSo1 hSb2
            go_wp2
            go_roundw
            case rel => exact ⟨u + 1, by omega, by have := hv.out; omega, by go_num, by rw [e8.out, hSS.out], hR⟩
            case measure => (simp [intOf]) <;> omega
        · have g5 : ¬ (v : Int) < 130 := by omega
          rw [show min (u - 70) p = p by omega, hsum.out]
          go_wp2_with (first | (go_at_call 17; refine (Awake_c _).mono ?_; rintro e W1 ⟨rfl, hb⟩; (try replace h := up_of hb h); (try replace g := up_of hb g); (try replace hB := up_of hb hB); (try replace i3 := up_of hb i3); (try replace hR := up_of hb hR); (try replace p0 := up_of hb p0); (try replace p1 := up_of hb p1); (try replace q0 := up_of hb q0); (try replace q1 := up_of hb q1)))
          go_ret
          exact ⟨rfl, hB⟩
end Go.Proofs.Ytgeoehokojijdaa
