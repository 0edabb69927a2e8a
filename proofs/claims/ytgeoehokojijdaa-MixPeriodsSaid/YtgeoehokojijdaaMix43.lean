/- The walk of MixPeriods. -/
import Derived.Test.YtgeoehokojijdaaMix42
import Derived.Test.YtgeoehokojijdaaMix14
import Derived.Test.YtgeoehokojijdaaMix19
namespace Go.Proofs.Ytgeoehokojijdaa
open Go.RowKit

set_option maxRecDepth 100000 in
set_option maxHeartbeats 2000000 in
theorem MixPeriods_c (s : Option Addr) (cap : Nat) (k : List (List Clm)) (q1 q2 : Nat) (w : World) (h : Ker w s cap k) (hq1 : q1 ≤ 255) (hq2 : q2 ≤ 255) :
    Calls Try.prog 15 #[.slice s k.length cap, .int .u8 q1, .int .u8 q2] w fun e w' => e = .returned (.bool true) ∧ Below w.heap.size w w' := by
  have hkl := h.len
  have hln := h.lens
  have hlo := fun W (h : Ker W s cap k) => Long_c s cap k W h
  have hva := fun W (h : Ker W s cap k) => rValid_c s cap k W h
  cases h1 : longB k
  case true =>
    rw [h1] at hlo
    replace hlo := Lib.hid hlo
    clear h1 hva
    go_enter Try.func15, Try.ntmps15
    go_wp2_with (first | (go_at_call 16; refine (hlo.out _ h).mono ?_; rintro e w' ⟨rfl, rfl⟩) | (go_at_call 17; refine (Awake_c _).mono ?_; rintro e W1 ⟨rfl, hb⟩; (try replace h := up_of hb h)))
    go_ret
    exact ⟨rfl, hb⟩
  rw [h1] at hlo
  clear h1
  cases h2 : vldB k
  case false =>
    rw [h2] at hva
    replace hlo := Lib.hid hlo; replace hva := Lib.hid hva
    clear h2
    go_enter Try.func15, Try.ntmps15
    go_upto_region 2 with (first | (go_at_call 16; refine (hlo.out _ h).mono ?_; rintro e w' ⟨rfl, rfl⟩) | (go_at_call 27; refine (hva.out _ h).mono ?_; rintro e W1 ⟨rfl, hb⟩; (try replace h := up_of hb h)))
    have hB := hb
    clear hb
    go_wp2_with (first | (go_at_call 17; refine (Awake_c _).mono ?_; rintro e W1 ⟨rfl, hb⟩; (try replace h := up_of hb h); (try replace hB := up_of hb hB)))
    go_ret
    exact ⟨rfl, hB⟩
  rw [h2] at hva
  have hk3 := vldB_k h2
  obtain ⟨p, hp, hpe⟩ : ∃ p : Nat, (1 ≤ p ∧ p ≤ 20) ∧ p = 1 + q1 % 20 := ⟨1 + q1 % 20, by omega, rfl⟩
  obtain ⟨qi, hqi, hqe⟩ : ∃ qi : Nat, qi < k.length ∧ qi = q2 % k.length := ⟨q2 % k.length, Nat.mod_lt _ (by omega), rfl⟩
  have hpb : bw 1 (p : Int) 20 = true := by rw [bw_iff]; omega
  have hck : chkE k p = 0 := by simp [chkE, h2, hpb]
  have hqb : bw 0 (qi : Int) (k.length - 1) = true := by rw [bw_iff]; omega
  have hal0 : alE k qi p = 0 := by simp [alE, hck, hqb]
  have hker := vld_ker h2 (List.getElem_mem hqi)
  have hal1 : alV k qi p = !anyD (colS k[qi]) p := by
    rw [alV, hal0, ← alone_any hker]
    simp [List.getD_eq_getElem?_getD, List.getElem?_eq_getElem hqi]
  have c1 := fun W (h : Ker W s cap k) => Bound_c s cap k W h
  rw [show bndE k = 0 by simp [bndE, h2]] at c1
  have c2 := fun W (h : Ker W s cap k) => Least_c s cap k W h
  have c3 := fun W (h : Ker W s cap k) => Starts_c s cap k p W h
  have c4 := fun W (h : Ker W s cap k) => Alone_c s cap k qi p W h (by omega)
  rw [hal0, hal1] at c4
  have c5 := fun W s1 c1 (h : SlS clmE W s1 k[qi]) => Collide_s s1 c1 k[qi] W h (hln _ (List.getElem_mem hqi))
  rw [show colE k[qi] = 0 by simp [colE, hker]] at c5
  have c6 := fun W (h : Ker W s cap k) s1 c1 (g : Ints W s1 (lstL k)) (P : Int) => Good_c s cap k P s1 c1 (lstL k) W h g
  have hps := col_pos k[qi]
  have hcl := colS_len k[qi]
  have hcs := per_cases h2 hp
  have hLLl : (lstL k).length ≤ 9223372036854775807 := lstL_len k hkl
  have hwp : IntKind.i64.wrap (1 + ((q1 : Int) % 20)) = (p : Int) := by rw [i64_small (by omega)]; omega
  have hwq : (q1 : Int).tmod 20 = (q1 : Int) % 20 := Int.tmod_eq_emod_of_nonneg (by omega)
  have hwk : (q2 : Int).tmod (k.length : Int) = (qi : Int) := by rw [Int.tmod_eq_emod_of_nonneg (by omega), hqe]; simp
  have hkn : ¬ (k.length : Int) = 0 := by omega
  obtain ⟨NUM, hNUM⟩ : ∃ x, colS k[qi] = x := ⟨_, rfl⟩
  rw [hNUM] at c4 c5 hps hcl
  obtain ⟨SR, hSR⟩ : ∃ x, startsR k p = x := ⟨_, rfl⟩
  obtain ⟨SE, hSE⟩ : ∃ x, startsE k p = x := ⟨_, rfl⟩
  rw [hSR, hSE] at c3
  obtain ⟨LL, hLL⟩ : ∃ x, lstL k = x := ⟨_, rfl⟩
  obtain ⟨LE, hLE⟩ : ∃ x, lstE k = x := ⟨_, rfl⟩
  obtain ⟨LV, hLV⟩ : ∃ x, lstV k = x := ⟨_, rfl⟩
  obtain ⟨BV, hBV⟩ : ∃ x, bndV k = x := ⟨_, rfl⟩
  rw [hLL, hLE, hLV] at c2
  rw [hBV] at c1
  rw [hLL] at c6 hLLl
  rw [hLL, hLE, hLV, hSE, hBV] at hcs
  clear hLL hLE hLV hBV hSE hSR hNUM hpb hck hqb hal0 hal1 hker h2
  have hD0 : false = anyD (NUM.take 0) p := rfl
  have hDe : anyD (NUM.take NUM.length) p = anyD NUM p := by rw [List.take_length]
  have hDs := fun (u : Nat) hu => anyD_succ (l := NUM) (p : Int) (u := u) hu
  replace hD0 := Lib.hid hD0; replace hDe := Lib.hid hDe; replace hDs := Lib.hid hDs; replace hps := Lib.hid hps; replace hpe := Lib.hid hpe; replace hqe := Lib.hid hqe; replace hlo := Lib.hid hlo; replace hva := Lib.hid hva
  replace c1 := Lib.hid c1; replace c4 := Lib.hid c4; replace c5 := Lib.hid c5
  rcases hcs with ⟨rfl, rfl, rfl⟩ | ⟨P, hP, rfl, rfl, hBP, hask, hrg, hlast⟩
  · clear c6
    replace c2 := Lib.hid c2; replace c3 := Lib.hid c3
    go_enter Try.func15, Try.ntmps15
    go_upto_region 3 with (first | (go_at_call 16; refine (hlo.out _ h).mono ?_; rintro e w' ⟨rfl, rfl⟩) | (go_at_call 27; refine (hva.out _ h).mono ?_; rintro e W1 ⟨rfl, hb⟩; (try replace h := up_of hb h)))
    have hB := hb
    clear hb
    go_upto_region 4 with (first | (go_at_call 18; refine (c1.out _ h).mono ?_; rintro e A0 ⟨rfl, hb⟩; (try replace h := up_of hb h); (try replace hB := up_of hb hB)))
    clear hb
    go_upto_region 11 with (first | (go_at_call 20; refine (c2.out _ h).mono ?_; rintro e A1 ⟨⟨s3, k3, rfl, hown⟩, hb⟩; (try replace h := up_of hb h); (try replace hB := up_of hb hB)))
    clear hb hown
    go_upto_region 15 with (first | (go_at_call 23; refine (c3.out _ h).mono ?_; rintro e A2 ⟨⟨s4, k4, rfl, hown⟩, hb⟩; (try replace h := up_of hb h); (try replace hB := up_of hb hB)))
    clear hb hown
    go_upto_region 17 with (first | (go_at_call 30; refine (c4.out _ h).mono ?_; rintro e A4 ⟨rfl, hb⟩; (try replace h := up_of hb h); (try replace hB := up_of hb hB)))
    clear hb
    obtain ⟨bk, ok, s1, e1, rfl, hbk, x0, hsl, -, -⟩ := h.ss.at hqi
    go_upto_region 20 with (first | (go_at_call 42; refine (c5.out _ _ _ hsl).mono ?_; rintro e A5 ⟨⟨s5, k5, rfl, hown⟩, hb⟩; (try replace h := up_of hb h); (try replace hB := up_of hb hB); (try replace x0 := up_of hb x0); (try replace hsl := up_of hb hsl)))
    have i5 := SlS.of_own (E := intE) hown
    clear hb hown
    go_wp2
    go_loopw [22, 131] (fun v ii V => ∃ u : Nat, u ≤ NUM.length ∧ ii = .int .i64 u ∧ v = .bool (anyD (NUM.take u) p) ∧ Below A5.heap.size A5 V) (fun _ ii _ => NUM.length - (intOf ii).toNat)
    case atStart => exact ⟨0, by omega, rfl, by rw [hD0.out], Below.refl _ _⟩
    case round =>
      obtain ⟨u, hu, rfl, rfl, hR⟩ := hrel
      try replace h := up_of hR h
      try replace hB := up_of hR hB
      try replace x0 := up_of hR x0
      try replace hsl := up_of hR hsl
      try replace i5 := up_of hR i5
      by_cases hlt : u < NUM.length
      · obtain ⟨b1, o1, rfl, hb1, p0⟩ := i5.int_at hlt
        have hx0 := hps.out _ (List.getElem_mem hlt)
        have e1 := hDs.out u hlt
        obtain ⟨x, hx⟩ : ∃ x, NUM[u] = x := ⟨_, rfl⟩
        rw [hx] at p0 hx0 e1
        replace hx := Lib.hid hx
        obtain ⟨D, hD⟩ : ∃ D, anyD (NUM.take u) p = D := ⟨_, rfl⟩
        rw [hD] at e1 ⊢
        replace hD := Lib.hid hD
        have hxm : x.tmod (p : Int) = x % (p : Int) := Int.tmod_eq_emod_of_nonneg (by omega)
        have g1 : (0 : Int) ≤ (u : Int) := by omega
        have g2 : (u : Int) < (NUM.length : Int) := by omega
        cases D
        · by_cases hz : x % (p : Int) = 0
          · have hz2 : (x % (p : Int) == 0) = true := by simpa using hz
            have e2 : true = anyD (NUM.take (u + 1)) p := by rw [e1]; simp [hz]
            replace e2 := Lib.hid e2
            clear e1 hz
            go_wp2
            go_roundw
            case rel => exact ⟨u + 1, by omega, by go_num, by rw [← e2.out], hR⟩
            case measure => exact meas hlt
          · have hz2 : (x % (p : Int) == 0) = false := by simpa using hz
            have e2 : false = anyD (NUM.take (u + 1)) p := by rw [e1]; simp [hz]
            replace e2 := Lib.hid e2
            clear e1 hz
            go_wp2
            go_roundw
            case rel => exact ⟨u + 1, by omega, by go_num, by rw [← e2.out], hR⟩
            case measure => exact meas hlt
        · have e2 : true = anyD (NUM.take (u + 1)) p := by rw [e1]; simp
          replace e2 := Lib.hid e2
          clear e1
          go_wp2
          go_roundw
          case rel => exact ⟨u + 1, by omega, by go_num, by rw [← e2.out], hR⟩
          case measure => exact meas hlt
      · obtain rfl : u = NUM.length := by omega
        rw [hDe.out]
        obtain ⟨D, hD⟩ : ∃ D, anyD NUM p = D := ⟨_, rfl⟩
        rw [hD]
        replace hD := Lib.hid hD
        go_wp2_with (first | (go_at_call 17; refine (Awake_c _).mono ?_; rintro e W1 ⟨rfl, hb⟩; (try replace h := up_of hb h); (try replace hB := up_of hb hB); (try replace x0 := up_of hb x0); (try replace hsl := up_of hb hsl); (try replace i5 := up_of hb i5); (try replace hR := up_of hb hR)))
        go_ret
        exact ⟨rfl, hB⟩

  · have hBP2 : ¬ (P : Int) < BV := by omega
    have c6 : ∀ W, Ker W s cap k → ∀ s1 c1, SlS intE W s1 LL → Calls Try.prog 34 #[.slice s k.length cap, .int .i64 (P : Int), .slice s1 LL.length c1] W fun e w' => e = .returned (.tuple #[.bool true, .int .i64 0]) ∧ Below W.heap.size W w' := fun W h s1 c1 g => by
      have h1 := c6 W h s1 c1 ⟨g, hLLl⟩ P
      rw [hask, hrg] at h1
      exact h1
    replace c2 := Lib.hid c2; replace c6 := Lib.hid c6
    clear hask hrg
    rcases hlast with rfl | ⟨rfl, hPp⟩
    · replace c3 := Lib.hid c3
      go_enter Try.func15, Try.ntmps15
      go_upto_region 3 with (first | (go_at_call 16; refine (hlo.out _ h).mono ?_; rintro e w' ⟨rfl, rfl⟩) | (go_at_call 27; refine (hva.out _ h).mono ?_; rintro e W1 ⟨rfl, hb⟩; (try replace h := up_of hb h)))
      have hB := hb
      clear hb
      go_upto_region 4 with (first | (go_at_call 18; refine (c1.out _ h).mono ?_; rintro e A0 ⟨rfl, hb⟩; (try replace h := up_of hb h); (try replace hB := up_of hb hB)))
      clear hb
      go_upto_region 8 with (first | (go_at_call 20; refine (c2.out _ h).mono ?_; rintro e A1 ⟨⟨s3, k3, rfl, hown⟩, hb⟩; (try replace h := up_of hb h); (try replace hB := up_of hb hB)))
      have i3 := SlS.of_own (E := intE) hown
      clear hb hown
      go_upto_region 11 with (first | (go_at_call 34; refine (c6.out _ h _ _ i3).mono ?_; rintro e A3 ⟨rfl, hb⟩; (try replace h := up_of hb h); (try replace hB := up_of hb hB); (try replace i3 := up_of hb i3)))
      clear hb i3
      go_upto_region 15 with (first | (go_at_call 23; refine (c3.out _ h).mono ?_; rintro e A2 ⟨⟨s4, k4, rfl, hown⟩, hb⟩; (try replace h := up_of hb h); (try replace hB := up_of hb hB); (try replace i3 := up_of hb i3)))
      clear hb hown
      go_upto_region 17 with (first | (go_at_call 30; refine (c4.out _ h).mono ?_; rintro e A4 ⟨rfl, hb⟩; (try replace h := up_of hb h); (try replace hB := up_of hb hB); (try replace i3 := up_of hb i3)))
      clear hb
      obtain ⟨bk, ok, s1, e1, rfl, hbk, x0, hsl, -, -⟩ := h.ss.at hqi
      go_upto_region 20 with (first | (go_at_call 42; refine (c5.out _ _ _ hsl).mono ?_; rintro e A5 ⟨⟨s5, k5, rfl, hown⟩, hb⟩; (try replace h := up_of hb h); (try replace hB := up_of hb hB); (try replace i3 := up_of hb i3); (try replace x0 := up_of hb x0); (try replace hsl := up_of hb hsl)))
      have i5 := SlS.of_own (E := intE) hown
      clear hb hown
      go_wp2
      go_loopw [22, 131] (fun v ii V => ∃ u : Nat, u ≤ NUM.length ∧ ii = .int .i64 u ∧ v = .bool (anyD (NUM.take u) p) ∧ Below A5.heap.size A5 V) (fun _ ii _ => NUM.length - (intOf ii).toNat)
      case atStart => exact ⟨0, by omega, rfl, by rw [hD0.out], Below.refl _ _⟩
      case round =>
        obtain ⟨u, hu, rfl, rfl, hR⟩ := hrel
        try replace h := up_of hR h
        try replace hB := up_of hR hB
        try replace i3 := up_of hR i3
        try replace x0 := up_of hR x0
        try replace hsl := up_of hR hsl
        try replace i5 := up_of hR i5
        by_cases hlt : u < NUM.length
        · obtain ⟨b1, o1, rfl, hb1, p0⟩ := i5.int_at hlt
          have hx0 := hps.out _ (List.getElem_mem hlt)
          have e1 := hDs.out u hlt
          obtain ⟨x, hx⟩ : ∃ x, NUM[u] = x := ⟨_, rfl⟩
          rw [hx] at p0 hx0 e1
          replace hx := Lib.hid hx
          obtain ⟨D, hD⟩ : ∃ D, anyD (NUM.take u) p = D := ⟨_, rfl⟩
          rw [hD] at e1 ⊢
          replace hD := Lib.hid hD
          have hxm : x.tmod (p : Int) = x % (p : Int) := Int.tmod_eq_emod_of_nonneg (by omega)
          have g1 : (0 : Int) ≤ (u : Int) := by omega
          have g2 : (u : Int) < (NUM.length : Int) := by omega
          cases D
          · by_cases hz : x % (p : Int) = 0
            · have hz2 : (x % (p : Int) == 0) = true := by simpa using hz
              have e2 : true = anyD (NUM.take (u + 1)) p := by rw [e1]; simp [hz]
              replace e2 := Lib.hid e2
              clear e1 hz
              go_wp2
              go_roundw
              case rel => exact ⟨u + 1, by omega, by go_num, by rw [← e2.out], hR⟩
              case measure => exact meas hlt
            · have hz2 : (x % (p : Int) == 0) = false := by simpa using hz
              have e2 : false = anyD (NUM.take (u + 1)) p := by rw [e1]; simp [hz]
              replace e2 := Lib.hid e2
              clear e1 hz
              go_wp2
              go_roundw
              case rel => exact ⟨u + 1, by omega, by go_num, by rw [← e2.out], hR⟩
              case measure => exact meas hlt
          · have e2 : true = anyD (NUM.take (u + 1)) p := by rw [e1]; simp
            replace e2 := Lib.hid e2
            clear e1
            go_wp2
            go_roundw
            case rel => exact ⟨u + 1, by omega, by go_num, by rw [← e2.out], hR⟩
            case measure => exact meas hlt
        · obtain rfl : u = NUM.length := by omega
          rw [hDe.out]
          obtain ⟨D, hD⟩ : ∃ D, anyD NUM p = D := ⟨_, rfl⟩
          rw [hD]
          replace hD := Lib.hid hD
          go_wp2_with (first | (go_at_call 17; refine (Awake_c _).mono ?_; rintro e W1 ⟨rfl, hb⟩; (try replace h := up_of hb h); (try replace hB := up_of hb hB); (try replace i3 := up_of hb i3); (try replace x0 := up_of hb x0); (try replace hsl := up_of hb hsl); (try replace i5 := up_of hb i5); (try replace hR := up_of hb hR)))
          go_ret
          exact ⟨rfl, hB⟩

    · replace c3 := Lib.hid c3
      have hPp2 : ¬ (p : Int) < (P : Int) := by omega
      go_enter Try.func15, Try.ntmps15
      go_upto_region 3 with (first | (go_at_call 16; refine (hlo.out _ h).mono ?_; rintro e w' ⟨rfl, rfl⟩) | (go_at_call 27; refine (hva.out _ h).mono ?_; rintro e W1 ⟨rfl, hb⟩; (try replace h := up_of hb h)))
      have hB := hb
      clear hb
      go_upto_region 4 with (first | (go_at_call 18; refine (c1.out _ h).mono ?_; rintro e A0 ⟨rfl, hb⟩; (try replace h := up_of hb h); (try replace hB := up_of hb hB)))
      clear hb
      go_upto_region 8 with (first | (go_at_call 20; refine (c2.out _ h).mono ?_; rintro e A1 ⟨⟨s3, k3, rfl, hown⟩, hb⟩; (try replace h := up_of hb h); (try replace hB := up_of hb hB)))
      have i3 := SlS.of_own (E := intE) hown
      clear hb hown
      go_upto_region 11 with (first | (go_at_call 34; refine (c6.out _ h _ _ i3).mono ?_; rintro e A3 ⟨rfl, hb⟩; (try replace h := up_of hb h); (try replace hB := up_of hb hB); (try replace i3 := up_of hb i3)))
      clear hb i3
      go_upto_region 15 with (first | (go_at_call 23; refine (c3.out _ h).mono ?_; rintro e A2 ⟨⟨s4, k4, rfl, hown⟩, hb⟩; (try replace h := up_of hb h); (try replace hB := up_of hb hB); (try replace i3 := up_of hb i3)))
      clear hb hown
      go_upto_region 17 with (first | (go_at_call 30; refine (c4.out _ h).mono ?_; rintro e A4 ⟨rfl, hb⟩; (try replace h := up_of hb h); (try replace hB := up_of hb hB); (try replace i3 := up_of hb i3)))
      clear hb
      obtain ⟨bk, ok, s1, e1, rfl, hbk, x0, hsl, -, -⟩ := h.ss.at hqi
      go_upto_region 20 with (first | (go_at_call 42; refine (c5.out _ _ _ hsl).mono ?_; rintro e A5 ⟨⟨s5, k5, rfl, hown⟩, hb⟩; (try replace h := up_of hb h); (try replace hB := up_of hb hB); (try replace i3 := up_of hb i3); (try replace x0 := up_of hb x0); (try replace hsl := up_of hb hsl)))
      have i5 := SlS.of_own (E := intE) hown
      clear hb hown
      go_wp2
      go_loopw [22, 131] (fun v ii V => ∃ u : Nat, u ≤ NUM.length ∧ ii = .int .i64 u ∧ v = .bool (anyD (NUM.take u) p) ∧ Below A5.heap.size A5 V) (fun _ ii _ => NUM.length - (intOf ii).toNat)
      case atStart => exact ⟨0, by omega, rfl, by rw [hD0.out], Below.refl _ _⟩
      case round =>
        obtain ⟨u, hu, rfl, rfl, hR⟩ := hrel
        try replace h := up_of hR h
        try replace hB := up_of hR hB
        try replace i3 := up_of hR i3
        try replace x0 := up_of hR x0
        try replace hsl := up_of hR hsl
        try replace i5 := up_of hR i5
        by_cases hlt : u < NUM.length
        · obtain ⟨b1, o1, rfl, hb1, p0⟩ := i5.int_at hlt
          have hx0 := hps.out _ (List.getElem_mem hlt)
          have e1 := hDs.out u hlt
          obtain ⟨x, hx⟩ : ∃ x, NUM[u] = x := ⟨_, rfl⟩
          rw [hx] at p0 hx0 e1
          replace hx := Lib.hid hx
          obtain ⟨D, hD⟩ : ∃ D, anyD (NUM.take u) p = D := ⟨_, rfl⟩
          rw [hD] at e1 ⊢
          replace hD := Lib.hid hD
          have hxm : x.tmod (p : Int) = x % (p : Int) := Int.tmod_eq_emod_of_nonneg (by omega)
          have g1 : (0 : Int) ≤ (u : Int) := by omega
          have g2 : (u : Int) < (NUM.length : Int) := by omega
          cases D
          · by_cases hz : x % (p : Int) = 0
            · have hz2 : (x % (p : Int) == 0) = true := by simpa using hz
              have e2 : true = anyD (NUM.take (u + 1)) p := by rw [e1]; simp [hz]
              replace e2 := Lib.hid e2
              clear e1 hz
              go_wp2
              go_roundw
              case rel => exact ⟨u + 1, by omega, by go_num, by rw [← e2.out], hR⟩
              case measure => exact meas hlt
            · have hz2 : (x % (p : Int) == 0) = false := by simpa using hz
              have e2 : false = anyD (NUM.take (u + 1)) p := by rw [e1]; simp [hz]
              replace e2 := Lib.hid e2
              clear e1 hz
              go_wp2
              go_roundw
              case rel => exact ⟨u + 1, by omega, by go_num, by rw [← e2.out], hR⟩
              case measure => exact meas hlt
          · have e2 : true = anyD (NUM.take (u + 1)) p := by rw [e1]; simp
            replace e2 := Lib.hid e2
            clear e1
            go_wp2
            go_roundw
            case rel => exact ⟨u + 1, by omega, by go_num, by rw [← e2.out], hR⟩
            case measure => exact meas hlt
        · obtain rfl : u = NUM.length := by omega
          rw [hDe.out]
          obtain ⟨D, hD⟩ : ∃ D, anyD NUM p = D := ⟨_, rfl⟩
          rw [hD]
          replace hD := Lib.hid hD
          go_wp2_with (first | (go_at_call 17; refine (Awake_c _).mono ?_; rintro e W1 ⟨rfl, hb⟩; (try replace h := up_of hb h); (try replace hB := up_of hb hB); (try replace i3 := up_of hb i3); (try replace x0 := up_of hb x0); (try replace hsl := up_of hb hsl); (try replace i5 := up_of hb i5); (try replace hR := up_of hb hR)))
          go_ret
          exact ⟨rfl, hB⟩

end Go.Proofs.Ytgeoehokojijdaa
