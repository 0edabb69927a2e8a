/- The walk of MixSums. -/
import Derived.Test.YtgeoehokojijdaaMix17
namespace Go.Proofs.Ytgeoehokojijdaa
open Go.RowKit

theorem rat_facts {n p : Nat} (hp : 1 ≤ p) : ∃ N D G : Nat, rat n p = ⟨N, D⟩ ∧ 1 ≤ D ∧ D ≤ p ∧ p % D = 0 ∧ p / D = G ∧ N * G = n ∧ (n ≤ p → N ≤ D) ∧ N ≤ n ∧ G ≤ p := by
  have hg0 : 0 < Nat.gcd p n := Nat.gcd_pos_of_pos_left _ (by omega)
  have hgp := Nat.gcd_dvd_left p n
  have hgn := Nat.gcd_dvd_right p n
  refine ⟨n / Nat.gcd p n, p / Nat.gcd p n, Nat.gcd p n, rfl, Nat.div_pos (Nat.le_of_dvd (by omega) hgp) hg0, Nat.div_le_self _ _, ?_, ?_, Nat.div_mul_cancel hgn, fun h => Nat.div_le_div_right h, Nat.div_le_self _ _, Nat.le_of_dvd (by omega) hgp⟩
  · exact Nat.mod_eq_zero_of_dvd (Nat.div_dvd_of_dvd hgp)
  · exact Nat.div_div_self hgp (by omega)
def sumTo (f : Nat → Nat) : Nat → Nat
  | 0 => 0
  | n + 1 => sumTo f n + f n
theorem sumTo_add (f g : Nat → Nat) : ∀ n, sumTo (fun i => f i + g i) n = sumTo f n + sumTo g n
  | 0 => rfl
  | n + 1 => by simp only [sumTo, sumTo_add f g n]; omega
theorem sumTo_one (c : Nat) : ∀ n, sumTo (fun i => if c = i then 1 else 0) n = if c < n then 1 else 0
  | 0 => rfl
  | n + 1 => by
    simp only [sumTo, sumTo_one c n]
    by_cases h1 : c < n
    · have h2 : ¬ c = n := by omega
      have h3 : c < n + 1 := by omega
      simp [h1, h2, h3]
    · by_cases h2 : c = n
      · subst h2; simp
      · have h3 : ¬ c < n + 1 := by omega
        simp [h1, h2, h3]
theorem sumTo_congr {f g : Nat → Nat} (h : ∀ i, f i = g i) (n : Nat) : sumTo f n = sumTo g n := by rw [show f = g from funext h]
theorem sumTo_cnt (L : List Clm) (h : ∀ c ∈ L, 0 ≤ c.cell ∧ c.cell ≤ 15) : sumTo (fun i => cntC L (i : Int)) 16 = L.length := by
  induction L with
  | nil => rfl
  | cons x L ih =>
    have h1 := ih fun c hc => h c (by simp [hc])
    have hx := h x (by simp)
    have e : ∀ i : Nat, cntC (x :: L) (i : Int) = (if x.cell.toNat = i then 1 else 0) + cntC L (i : Int) := fun i => by
      by_cases hi : x.cell = (i : Int)
      · have h2 : x.cell.toNat = i := by omega
        simp [cntC, hi]; omega
      · have h2 : ¬ x.cell.toNat = i := by omega
        simp [cntC, hi, h2]
    rw [sumTo_congr e, sumTo_add, sumTo_one, h1, if_pos (by omega), List.length_cons]; omega
theorem sumTo_mono (f : Nat → Nat) {m n : Nat} (h : m ≤ n) : sumTo f m ≤ sumTo f n := by
  induction n with
  | zero => rw [show m = 0 by omega]; exact Nat.le_refl _
  | succ n ih =>
    by_cases e : m = n + 1
    · subst e; exact Nat.le_refl _
    · have := ih (by omega); simp only [sumTo]; omega
set_option maxRecDepth 100000 in
set_option maxHeartbeats 2000000 in
theorem MixSums_w (s : Option Addr) (cap : Nat) (k : List (List Clm)) (q : Nat) (w : World) (h : Ker w s cap k) (hq : q ≤ 255) :
    Calls Try.prog 6 #[.slice s k.length cap, .int .u8 q] w fun e w' => e = .returned (.bool true) ∧ Below w.heap.size w w' := by
  have hkl := h.len
  have hlo := fun W (h : Ker W s cap k) => Long_c s cap k W h
  have hva := fun W (h : Ker W s cap k) => rValid_c s cap k W h
  cases h1 : longB k
  case true =>
    rw [h1] at hlo
    replace hlo := Lib.hid hlo
    clear h1 hva
    go_enter Try.func6, Try.ntmps6
    go_wp2_with (first | (go_at_call 16; refine (hlo.out _ h).mono ?_; rintro e w' ⟨rfl, rfl⟩) | (go_at_call 17; refine (Awake_c _).mono ?_; rintro e W1 ⟨rfl, hb⟩; (try replace h := up_of hb h)))
    go_ret
    exact ⟨rfl, hb⟩
  rw [h1] at hlo
  clear h1
  cases h2 : vldB k
  case false =>
    rw [h2] at hva
    replace hlo := Lib.hid hlo; replace hva := Lib.hid hva
    clear h2
    go_enter Try.func6, Try.ntmps6
    go_upto_region 2 with (first | (go_at_call 16; refine (hlo.out _ h).mono ?_; rintro e w' ⟨rfl, rfl⟩) | (go_at_call 27; refine (hva.out _ h).mono ?_; rintro e W1 ⟨rfl, hb⟩; (try replace h := up_of hb h)))
    have hB := hb
    clear hb
    go_wp2_with (first | (go_at_call 17; refine (Awake_c _).mono ?_; rintro e W1 ⟨rfl, hb⟩; (try replace h := up_of hb h); (try replace hB := up_of hb hB)))
    go_ret
    exact ⟨rfl, hB⟩
  rw [h2] at hva
  obtain ⟨p, hp, hpe⟩ : ∃ p : Nat, (1 ≤ p ∧ p ≤ 20) ∧ p = 1 + q % 20 := ⟨1 + q % 20, by omega, rfl⟩
  have hpb : bw 1 (p : Int) 20 = true := by rw [bw_iff]; omega
  have hck : chkE k p = 0 := by simp [chkE, h2, hpb]
  have c3 := fun W (h : Ker W s cap k) => Load_c s cap k p W h
  rw [hck, show loadL k p = ldL k.flatten p by simp [loadL, hck]] at c3
  have c4 := fun W (h : Ker W s cap k) => Starts_c s cap k p W h
  have hse : startsE k p = 0 ∨ startsE k p = 5 := by simp only [startsE, h2, hpb, if_true, Int.toNat_natCast]; split <;> simp
  have hsg : startsE k p = 0 → ∀ c, cntC k.flatten c ≤ p := fun he c => by
    simp only [startsE, h2, hpb, if_true, Int.toNat_natCast] at he
    split at he
    · rename_i hf
      obtain ⟨i, hi⟩ := Option.isSome_iff_exists.1 hf
      exact good_cnt (by omega) (digs_len _ _ _) (firstG_mem hi).2 c
    · cases he
  have hf := vld_flat h2
  have hsum := sumTo_cnt k.flatten fun c hc => by
    obtain ⟨l, hl, hcl⟩ := List.mem_flatten.1 hc; exact (vldB_c h2 hl hcl).1
  have hft := fun n (hn : n < k.length) => congrArg List.length (flat_take hn)
  have hfl := fun n => flat_take_le k n
  have hfe : (k.take k.length).flatten = k.flatten := by rw [List.take_length]
  have hcl := fun c => cntC_le k.flatten c
  obtain ⟨L, hL⟩ : ∃ L, k.flatten = L := ⟨_, rfl⟩
  simp only [hL] at c3 hf hsum hsg hfl hfe hcl
  have hrf := fun i : Nat => rat_facts (n := cntC L (i : Int)) (p := p) hp.1
  obtain ⟨LL, htk, hll, c3⟩ : ∃ LL : List Clm, (∀ i (hi : i < LL.length), LL[i] = rat (cntC L (i : Int)) p) ∧ LL.length = 16 ∧ (∀ W, Ker W s cap k → Calls Try.prog 25 #[.slice s k.length cap, .int .i64 p] W (PairsErr 39 LL 0 W)) := ⟨ldL L p, fun i hi => by simp [ldL], ldL_len L p, c3⟩
  obtain ⟨SR, hSR⟩ : ∃ x, startsR k p = x := ⟨_, rfl⟩
  obtain ⟨SE, hSE⟩ : ∃ x, startsE k p = x := ⟨_, rfl⟩
  rw [hSR, hSE] at c4
  rw [hSE] at hse hsg
  have hwp : IntKind.i64.wrap (1 + ((q : Int) % 20)) = (p : Int) := by rw [i64_small (by omega)]; omega
  have hwq : (q : Int).tmod 20 = (q : Int) % 20 := Int.tmod_eq_emod_of_nonneg (by omega)
  clear hpb hck h2 hSR hSE hL
  replace hlo := Lib.hid hlo; replace hva := Lib.hid hva; replace c3 := Lib.hid c3; replace c4 := Lib.hid c4; replace hsg := Lib.hid hsg; replace hsum := Lib.hid hsum; replace hft := Lib.hid hft; replace hfl := Lib.hid hfl; replace hfe := Lib.hid hfe; replace hrf := Lib.hid hrf; replace htk := Lib.hid htk; replace hll := Lib.hid hll; replace hpe := Lib.hid hpe; replace hcl := Lib.hid hcl
  clear hse
  cases hSEb : (SE == 0)
  all_goals
    go_enter Try.func6, Try.ntmps6
    go_upto_region 3 with (first | (go_at_call 16; refine (hlo.out _ h).mono ?_; rintro e w' ⟨rfl, rfl⟩) | (go_at_call 27; refine (hva.out _ h).mono ?_; rintro e W1 ⟨rfl, hb⟩; (try replace h := up_of hb h)))
    have hB := hb
    clear hb
    have hl16 : ((LL.length : Int) != 16) = false := by rw [hll.out]; rfl
    go_upto_region 5 with (first | (go_at_call 25; refine (c3.out _ h).mono ?_; rintro e A1 ⟨⟨s3, k3, rfl, hown⟩, hb⟩; (try replace h := up_of hb h); (try replace hB := up_of hb hB)))
    have i3 := SlS.of_own (E := clmE) hown
    clear hb hown
    go_upto_region 6 with (first | (go_at_call 23; refine (c4.out _ h).mono ?_; rintro e A2 ⟨⟨s4, k4, rfl, hown⟩, hb⟩; (try replace h := up_of hb h); (try replace hB := up_of hb hB); (try replace i3 := up_of hb i3)))
    clear hb hown
    go_wp2
    go_loop [10, 49] (fun v i => ∃ n : Nat, n ≤ k.length ∧ i = .int .i64 n ∧ v = .int .i64 ((k.take n).flatten.length : Nat)) (fun _ i => k.length - (intOf i).toNat)
    case atStart => exact ⟨0, by omega, rfl, by simp⟩
    case round =>
      obtain ⟨n, hn, rfl, rfl⟩ := hrel
      by_cases hlt : n < k.length
      · obtain ⟨bk, ok, s1, c1, rfl, hbk, q0, hsl, -, -⟩ := h.ss.at hlt
        have e1 := hft.out n hlt
        have e2 := hfl.out (n + 1)
        rw [List.length_append] at e1
        obtain ⟨F, hF⟩ : ∃ F, (k.take n).flatten.length = F := ⟨_, rfl⟩
        obtain ⟨F2, hF2⟩ : ∃ F, (k.take (n + 1)).flatten.length = F := ⟨_, rfl⟩
        rw [hF, hF2] at e1
        rw [hF2] at e2
        rw [hF]
        replace hF := Lib.hid hF
        have e3 : F + k[n].length ≤ 60 := by omega
        have e4 : ((F : Int) + (k[n].length : Int)) = ((F2 : Nat) : Int) := by omega
        replace e4 := Lib.hid e4; replace e1 := Lib.hid e1; replace hF2 := Lib.hid hF2
        clear hsl
        go_wp2
        go_round
        case rel => exact ⟨n + 1, by omega, by go_num, by rw [hF2.out, ← e4.out]⟩
        case measure => simp [intOf]; omega
      · obtain rfl : n = k.length := by omega
        rw [hfe.out]
        clear hfe hft hfl
        go_wp2
        go_loopw [11, 60] (fun v i V => ∃ n : Nat, n ≤ LL.length ∧ i = .int .i64 n ∧ v = .int .i64 (sumTo (fun i => cntC L (i : Int)) n : Nat) ∧ Below A2.heap.size A2 V) (fun _ i _ => LL.length - (intOf i).toNat)
        case atStart => exact ⟨0, by omega, rfl, rfl, Below.refl _ _⟩
        case round =>
          obtain ⟨n, hn, rfl, rfl, hR⟩ := hrel
          try replace h := up_of hR h
          try replace hB := up_of hR hB
          try replace i3 := up_of hR i3
          by_cases hlt : n < LL.length
          · obtain ⟨b1, o1, rfl, hb1, p0, p1⟩ := i3.clm_at hlt
            obtain ⟨N, D, G, hr, hD1, hDp, hpD, hpG, hNG, hNleD, hNn, hGp⟩ := hrf.out n
            have e1 := htk.out n hlt
            rw [hr] at e1
            have e5 : LL[n].cell = (N : Int) := by rw [e1]
            have e6 : LL[n].time = (D : Int) := by rw [e1]
            rw [e5] at p0
            rw [e6] at p1
            have hs2 : sumTo (fun i => cntC L (i : Int)) (n + 1) = sumTo (fun i => cntC L (i : Int)) n + cntC L (n : Int) := rfl
            have hs3 : sumTo (fun i => cntC L (i : Int)) (n + 1) ≤ 60 := by
              have := sumTo_mono (fun i : Nat => cntC L (i : Int)) (m := n + 1) (n := 16) (by have := hll.out; omega)
              rw [hsum.out] at this; omega
            have hND : SE = 0 → N ≤ D := fun e => hNleD (hsg.out e n)
            obtain ⟨C, hC⟩ : ∃ C, cntC L (n : Int) = C := ⟨_, rfl⟩
            rw [hC] at hNG hNn hs2
            obtain ⟨S, hS⟩ : ∃ S, sumTo (fun i => cntC L (i : Int)) n = S := ⟨_, rfl⟩
            obtain ⟨S2, hS2⟩ : ∃ S, sumTo (fun i => cntC L (i : Int)) (n + 1) = S := ⟨_, rfl⟩
            rw [hS, hS2] at hs2
            rw [hS2] at hs3
            rw [hS]
            have hmul : IntKind.i64.wrap ((N : Int) * (G : Int)) = (C : Int) := by
              have : (N : Int) * (G : Int) = ((N * G : Nat) : Int) := by simp
              rw [this, hNG, i64_small (by omega)]
            have t1 : (p : Int).tdiv (D : Int) = (G : Int) := by rw [Int.tdiv_eq_ediv_of_nonneg (by omega), ← hpG]; simp
            have t2 : (p : Int) % (D : Int) = 0 := by have : (p : Int) % (D : Int) = ((p % D : Nat) : Int) := by simp
                                                      rw [this, hpD]; rfl
            have t3 : (p : Int).tmod (D : Int) = 0 := by rw [Int.tmod_eq_emod_of_nonneg (by omega), t2]
            have t4 : ¬ (D : Int) = 0 := by omega
            have t5 : ¬ D = 0 := by omega
            have hadd := i64_small (n := (S : Int) + (C : Int)) (by omega)
            have hwG := i64_small (n := (G : Int)) (by omega)
            have hLLb : LL.length ≤ 16 := by have := hll.out; omega
            have hs4 : (S : Int) + (C : Int) = (S2 : Int) := by omega
            have u1 : ¬ (N : Int) < 0 := by omega
            have u2 : ¬ (D : Int) < 1 := by omega
            have u3 : ¬ (p : Int) < (D : Int) := by omega
            have u4 : SE = 0 → ¬ (D : Int) < (N : Int) := fun e => by have := hND e; omega
            have i1 : (0 : Int) ≤ (n : Int) := by omega
            have i2 : (n : Int) < (LL.length : Int) := by omega
            replace hs4 := Lib.hid hs4; replace hS := Lib.hid hS; replace hS2 := Lib.hid hS2; replace hs2 := Lib.hid hs2; replace hC := Lib.hid hC; replace e1 := Lib.hid e1; replace e5 := Lib.hid e5; replace e6 := Lib.hid e6; replace hr := Lib.hid hr; replace hpD := Lib.hid hpD; replace hpG := Lib.hid hpG; replace hNG := Lib.hid hNG; replace u4 := Lib.hid u4
            clear hNleD hND hNn hGp hs3
            go_upto_region 17 with (fail)
            refine wp_world fun Y HY => ?_
            have hY : Below wr.heap.size wr Y := by rw [HY.out]; (repeat (first | exact Below.refl _ _ | refine Below.alloc ?_ (by simp; try omega) _ | refine Below.setCell ?_ (by simp) _ | refine Below.drew ?_))
            have r0 : Y.cell? ⟨wr.heap.size, 0, none⟩ = some (.int .i64 N) := by rw [HY.out]; simp [go_sem]
            have r1 : Y.cell? ⟨wr.heap.size, 1, none⟩ = some (.int .i64 D) := by rw [HY.out]; simp [go_sem]
            have rl : wr.heap.size < Y.heap.size := World.block_lt_of_cell? Y _ r0
            try replace h := up_of hY h
            try replace hB := up_of hY hB
            try replace i3 := up_of hY i3
            try replace hR := up_of hY hR
            first
              | have u5 := u4.out (by simpa using hSEb)
              | skip
            clear u4
            go_upto_region 19 with (fail)
            try have ld_r0 := World.block_lt_of_cell? _ _ r0
            refine region_q (by kernel_rfl) (by kernel_rfl) ?_
            dsimp only [List.toList_toArray]
            repeat (first
             | go_big_quiet_skip
             | (go_big_quiet_want
                first
                | (refine qq_det ?_
                   apply Exists.intro; refine ⟨fun W' hW' => ?_, ?_⟩
                   (· have hk := cellB hW'; go_simp; try (first | rfl | rw [if_pos (by omega)]))
                   simp only [Act.put, List.setIfInBounds_toArray, List.set_cons_zero, List.set_cons_succ]; go_big_quiet_on)))
            refine wpQuiet_nil ?_
            intro W1 hb
            try replace h := up_of hb h
            try replace hB := up_of hb hB
            try replace i3 := up_of hb i3
            try replace hR := up_of hb hR
            try replace hY := up_of hb hY
            try replace r0 := up_of hb r0
            try replace r1 := up_of hb r1
            try replace rl := up_of hb rl
            go_wp2
            go_roundw
            case rel => exact ⟨n + 1, by omega, by go_num, by rw [hS2.out, ← hs4.out], hR⟩
            case measure => simp [intOf]; omega
          · obtain rfl : n = LL.length := by omega
            have hz : ((sumTo (fun i => cntC L (i : Int)) LL.length : Nat) : Int) = (L.length : Int) := by rw [hll.out, hsum.out]
            rw [hz]
            clear hz
            go_wp2_with (first | (go_at_call 17; refine (Awake_c _).mono ?_; rintro e W1 ⟨rfl, hb⟩; (try replace h := up_of hb h); (try replace hB := up_of hb hB); (try replace i3 := up_of hb i3); (try replace hR := up_of hb hR); (try replace hY := up_of hb hY); (try replace r0 := up_of hb r0); (try replace r1 := up_of hb r1); (try replace rl := up_of hb rl)))
            go_ret
            exact ⟨rfl, hB⟩
end Go.Proofs.Ytgeoehokojijdaa
