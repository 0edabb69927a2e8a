/- The walks of MixLoads and MixSums. -/
import Derived.Test.YtgeoehokojijdaaMix16
import Derived.Test.YtgeoehokojijdaaMix14
namespace Go.Proofs.Ytgeoehokojijdaa
open Go.RowKit

set_option maxRecDepth 100000 in
theorem rat_eql (a b : Clm) (w : World) : (Op.equalIn 10000 39 (.agg #[.int .i64 a.cell, .int .i64 a.time]) (.agg #[.int .i64 b.cell, .int .i64 b.time])).run Try.prog w = .ok (decide (a = b)) w := by
  rw [show (10000 : Nat) = 9999 + 1 from rfl, run_equalIn_agg w 9999 39 _ _ (by kernel_rfl) (by kernel_rfl)]
  simp only [Program.fieldsOf, Try.underlying39]
  have h2 : ∀ (x y : Int) w, (Op.equalIn 9999 3 (.int .i64 x) (.int .i64 y)).run Try.prog w = .ok (x == y) w := fun x y w => run_equalIn_int w 9998 _ _ .i64 _ _ Try.underlying3
  have p0 : ∀ (x y : Value) (w : World), (part 3 #[x, y] 0).run Try.prog w = .ok x w := fun x y w => by simp [part, go_sem]
  have p1 : ∀ (x y : Value) (w : World), (part 3 #[x, y] 1).run Try.prog w = .ok y w := fun x y w => by simp [part, go_sem]
  obtain ⟨x, y⟩ := a
  obtain ⟨c, d⟩ := b
  by_cases e0 : x = c <;> by_cases e1 : y = d <;> simp [Op.eqFields, p0, p1, Sem.run_bind, h2, e0, e1]
set_option maxRecDepth 100000 in
set_option maxHeartbeats 1000000 in
theorem MixLoads_w (s : Option Addr) (cap : Nat) (k : List (List Clm)) (p : Int) (w : World) (h : Ker w s cap k) (_hp : -9223372036854775808 ≤ p ∧ p ≤ 9223372036854775807) :
    Calls Try.prog 5 #[.slice s k.length cap, .int .i64 p] w fun e w' => e = .returned (.bool true) ∧ Below w.heap.size w w' := by
  have hkl := h.len
  have hlo := fun W (h : Ker W s cap k) => Long_c s cap k W h
  have c3 := fun W (h : Ker W s cap k) => Load_c s cap k p W h
  have c4 := fun W (h : Ker W s cap k) => rLoad_c s cap k p W h
  have hLl : (loadL k p).length ≤ 9223372036854775807 := by
    unfold loadL; split
    · rw [ldL_len]; omega
    · simp
  obtain ⟨LL, hLL⟩ : ∃ x, loadL k p = x := ⟨_, rfl⟩
  obtain ⟨LE, hLE⟩ : ∃ x, chkE k p = x := ⟨_, rfl⟩
  rw [hLL, hLE] at c3 c4
  rw [hLL] at hLl
  replace hlo := Lib.hid hlo; replace c3 := Lib.hid c3; replace c4 := Lib.hid c4
  clear hLL hLE
  cases h1 : longB k
  · have hlo := hlo.out
    rw [h1] at hlo
    replace hlo := Lib.hid hlo
    clear h1
    go_enter Try.func5, Try.ntmps5
    go_upto_region 4 with (first | (go_at_call 16; refine (hlo.out _ h).mono ?_; rintro e w' ⟨rfl, rfl⟩) | (go_at_call 25; refine (c3.out _ h).mono ?_; rintro e A1 ⟨⟨s3, k3, rfl, hown⟩, hb⟩; (try replace h := up_of hb h)))
    have i3 := SlS.of_own (E := clmE) hown
    have hB := hb
    clear hb hown
    go_upto_region 5 with (first | (go_at_call 26; refine (c4.out _ h).mono ?_; rintro e A2 ⟨⟨s4, k4, rfl, hown⟩, hb⟩; (try replace h := up_of hb h); (try replace hB := up_of hb hB); (try replace i3 := up_of hb i3)))
    have i4 := SlS.of_own (E := clmE) hown
    clear hb hown
    go_wp2
    go_loopw [37] (fun i V => ∃ n : Nat, n ≤ LL.length ∧ i = .int .i64 n ∧ Below A2.heap.size A2 V) (fun i _ => LL.length - (intOf i).toNat)
    case atStart => exact ⟨0, by omega, rfl, Below.refl _ _⟩
    case round =>
      obtain ⟨n, hn, rfl, hR⟩ := hrel
      try replace h := up_of hR h
      try replace hB := up_of hR hB
      try replace i3 := up_of hR i3
      try replace i4 := up_of hR i4
      by_cases hlt : n < LL.length
      · obtain ⟨b1, o1, rfl, hb1, p0, p1⟩ := i3.clm_at hlt
        obtain ⟨b2, o2, rfl, hb2, q0, q1⟩ := i4.clm_at hlt
        have g1 : (0 : Int) ≤ (n : Int) := by omega
        have g2 : (n : Int) < (LL.length : Int) := by omega
        have he := fun w => rat_eql LL[n] LL[n] w
        simp only [decide_true] at he
        go_upto_region 10 with (fail)
        try have ld_p0 := World.block_lt_of_cell? _ _ p0
        try have ld_q0 := World.block_lt_of_cell? _ _ q0
        refine region_q (by kernel_rfl) (by kernel_rfl) ?_
        dsimp only [List.toList_toArray]
        repeat (first
         | go_big_quiet_skip
         | (go_big_quiet_want
            first
            | (refine qq_det ?_
               apply Exists.intro; refine ⟨fun W' hW' => ?_, ?_⟩
               (· have hk := cellB hW'; go_simp; try (first | rfl | rw [if_pos (by omega)]))
               simp only [Act.put, List.setIfInBounds_toArray, List.set_cons_zero, List.set_cons_succ]; go_big_quiet_on)))
        refine wpQuiet_nil ?_
        intro W1 hb
        try replace h := up_of hb h
        try replace hB := up_of hb hB
        try replace i3 := up_of hb i3
        try replace i4 := up_of hb i4
        try replace hR := up_of hb hR
        try replace p0 := up_of hb p0
        try replace p1 := up_of hb p1
        try replace q0 := up_of hb q0
        try replace q1 := up_of hb q1
        go_wp2
        go_roundw
        case rel => exact ⟨n + 1, by omega, rfl, hR⟩
        case measure => exact meas hlt
      · obtain rfl : n = LL.length := by omega
        go_wp2_with (first | (go_at_call 17; refine (Awake_c _).mono ?_; rintro e W1 ⟨rfl, hb⟩; (try replace h := up_of hb h); (try replace hB := up_of hb hB); (try replace i3 := up_of hb i3); (try replace i4 := up_of hb i4); (try replace hR := up_of hb hR); (try replace p0 := up_of hb p0); (try replace p1 := up_of hb p1); (try replace q0 := up_of hb q0); (try replace q1 := up_of hb q1)))
        go_ret
        exact ⟨rfl, hB⟩
  · have hlo := hlo.out
    rw [h1] at hlo
    replace hlo := Lib.hid hlo
    clear h1
    go_enter Try.func5, Try.ntmps5
    go_wp2_with (first | (go_at_call 16; refine (hlo.out _ h).mono ?_; rintro e w' ⟨rfl, rfl⟩) | (go_at_call 17; refine (Awake_c _).mono ?_; rintro e W1 ⟨rfl, hb⟩; (try replace h := up_of hb h)))
    go_ret
    exact ⟨rfl, hb⟩
end Go.Proofs.Ytgeoehokojijdaa
