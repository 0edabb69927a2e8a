/- The walk of MixTables. -/
import Derived.Test.YtgeoehokojijdaaMix25
import Derived.Test.YtgeoehokojijdaaMix17
import Derived.Laws.StructEq
namespace Go.Proofs.Ytgeoehokojijdaa
open Go.RowKit

theorem run_equalIn_int2 {P : Program} (w : World) (d : Nat) (t e : TypeId) (k : IntKind) (a0 a1 b0 b1 : Int)
    (ht : P.underlying t = some (.array 2 e)) (he : P.underlying e = some (.int k)) (hs : ∀ w, (sizeOf e).run P w = .ok 1 w) (hg : ∀ w, (isAgg e).run P w = .ok false w) :
    (Op.equalIn (d + 1 + 1) t (.agg #[.int k a0, .int k a1]) (.agg #[.int k b0, .int k b1])).run P w = .ok (a0 == b0 && a1 == b1) w := by
  rw [Op.equalIn]
  simp only [Sem.run_bind, run_underlying ht, Result.andThen_ok, hs]
  simp only [Std.Legacy.Range.forIn_eq_forIn_range', Std.Legacy.Range.size]
  simp [Sem.run_bind, Result.andThen_ok, hs, hg, List.range', Op.equalIn, run_underlying he, part]
  by_cases h0 : a0 = b0 <;> by_cases h1 : a1 = b1 <;> simp [h0, h1]
set_option maxRecDepth 100000 in
theorem pair_eql (a b : Clm) (w : World) : (Op.equalIn 10000 45 (.agg #[.int .i64 a.cell, .int .i64 a.time]) (.agg #[.int .i64 b.cell, .int .i64 b.time])).run Try.prog w = .ok (decide (a = b)) w := by
  have h := run_equalIn_int2 (P := Try.prog) w 9998 45 3 .i64 a.cell a.time b.cell b.time rfl rfl (fun _ => rfl) (fun _ => rfl)
  rw [show (10000 : Nat) = 9998 + 1 + 1 from rfl, h]
  congr 1
  obtain ⟨x, y⟩ := a
  obtain ⟨c, d⟩ := b
  rw [Bool.eq_iff_iff]
  simp
set_option maxRecDepth 100000 in
set_option maxHeartbeats 1000000 in
theorem MixTables_c (s : Option Addr) (cap : Nat) (k : List (List Clm)) (p : Int) (t : Option Addr) (ct : Nat) (st : List Int) (T : Int) (w : World) (h : Ker w s cap k) (g : Ints w t st) :
    Calls Try.prog 7 #[.slice s k.length cap, .int .i64 p, .slice t st.length ct, .int .i64 T] w fun e w' => e = .returned (.bool true) ∧ Below w.heap.size w w' := by
  have hkl := h.len
  have hsl := g.len
  have hlo := fun W (h : Ker W s cap k) => Long_c s cap k W h
  have c3 := fun W (h : Ker W s cap k) (g : Ints W t st) => Timetable_c s cap k p t ct st T W h g
  have c4 := fun W (h : Ker W s cap k) (g : Ints W t st) => rTimetable_c s cap k p t ct st T W h g
  have hLl := tabL_len k p st T
  obtain ⟨LL, hLL⟩ : ∃ x, tabL k p st T = x := ⟨_, rfl⟩
  obtain ⟨LE, hLE⟩ : ∃ x, tabE k p st T = x := ⟨_, rfl⟩
  rw [hLL, hLE] at c3 c4
  rw [hLL] at hLl
  replace hlo := Lib.hid hlo; replace c3 := Lib.hid c3; replace c4 := Lib.hid c4
  clear hLL hLE
  cases h1 : longB k
  · have hlo := hlo.out
    rw [h1] at hlo
    replace hlo := Lib.hid hlo
    clear h1
    by_cases h40 : 40 < st.length
    · have h41 : (40 : Int) < (st.length : Int) := by omega
      go_enter Try.func7, Try.ntmps7
      go_wp2_with (first | (go_at_call 16; refine (hlo.out _ h).mono ?_; rintro e w' ⟨rfl, rfl⟩) | (go_at_call 17; refine (Awake_c _).mono ?_; rintro e W1 ⟨rfl, hb⟩; (try replace h := up_of hb h)))
      go_ret
      exact ⟨rfl, hb⟩
    have h41 : ¬ (40 : Int) < (st.length : Int) := by omega
    go_enter Try.func7, Try.ntmps7
    go_upto_region 4 with (first | (go_at_call 16; refine (hlo.out _ h).mono ?_; rintro e w' ⟨rfl, rfl⟩) | (go_at_call 28; refine (c3.out _ h g).mono ?_; rintro e A1 ⟨⟨s3, k3, rfl, hown⟩, hb⟩; (try replace h := up_of hb h); (try replace g := up_of hb g)))
    have i3 := SlS.of_own (E := clmE) hown
    have hB := hb
    clear hb hown
    go_upto_region 5 with (first | (go_at_call 29; refine (c4.out _ h g).mono ?_; rintro e A2 ⟨⟨s4, k4, rfl, hown⟩, hb⟩; (try replace h := up_of hb h); (try replace g := up_of hb g); (try replace hB := up_of hb hB); (try replace i3 := up_of hb i3)))
    have i4 := SlS.of_own (E := clmE) hown
    clear hb hown
    go_wp2
    go_loopw [50] (fun i V => ∃ n : Nat, n ≤ LL.length ∧ i = .int .i64 n ∧ Below A2.heap.size A2 V) (fun i _ => LL.length - (intOf i).toNat)
    case atStart => exact ⟨0, by omega, rfl, Below.refl _ _⟩
    case round =>
      obtain ⟨n, hn, rfl, hR⟩ := hrel
      try replace h := up_of hR h
      try replace g := up_of hR g
      try replace hB := up_of hR hB
      try replace i3 := up_of hR i3
      try replace i4 := up_of hR i4
      by_cases hlt : n < LL.length
      · obtain ⟨b1, o1, rfl, hb1, p0, p1⟩ := i3.clm_at hlt
        obtain ⟨b2, o2, rfl, hb2, q0, q1⟩ := i4.clm_at hlt
        have g1 : (0 : Int) ≤ (n : Int) := by omega
        have g2 : (n : Int) < (LL.length : Int) := by omega
        have he := fun w => pair_eql LL[n] LL[n] w
        simp only [decide_true] at he
        go_upto_region 10 with (fail)
        try have ld_p0 := World.block_lt_of_cell? _ _ p0
        try have ld_q0 := World.block_lt_of_cell? _ _ q0
        refine region_q (by kernel_rfl) (by kernel_rfl) ?_
        dsimp only [List.toList_toArray]
        repeat (first
         | go_big_quiet_skip
         | (go_big_quiet_want
            first
            | (refine qq_det ?_
               apply Exists.intro; refine ⟨fun W' hW' => ?_, ?_⟩
               (· have hk := cellB hW'; go_simp; try (first | rfl | rw [if_pos (by omega)]))
               simp only [Act.put, List.setIfInBounds_toArray, List.set_cons_zero, List.set_cons_succ]; go_big_quiet_on)))
        refine wpQuiet_nil ?_
        intro W1 hb
        try replace h := up_of hb h
        try replace g := up_of hb g
        try replace hB := up_of hb hB
        try replace i3 := up_of hb i3
        try replace i4 := up_of hb i4
        try replace hR := up_of hb hR
        try replace p0 := up_of hb p0
        try replace p1 := up_of hb p1
        try replace q0 := up_of hb q0
        try replace q1 := up_of hb q1
        go_wp2
        go_roundw
        case rel => exact ⟨n + 1, by omega, rfl, hR⟩
        case measure => exact meas hlt
      · obtain rfl : n = LL.length := by omega
        go_wp2_with (first | (go_at_call 17; refine (Awake_c _).mono ?_; rintro e W1 ⟨rfl, hb⟩; (try replace h := up_of hb h); (try replace g := up_of hb g); (try replace hB := up_of hb hB); (try replace i3 := up_of hb i3); (try replace i4 := up_of hb i4); (try replace hR := up_of hb hR); (try replace p0 := up_of hb p0); (try replace p1 := up_of hb p1); (try replace q0 := up_of hb q0); (try replace q1 := up_of hb q1)))
        go_ret
        exact ⟨rfl, hB⟩
  · have hlo := hlo.out
    rw [h1] at hlo
    replace hlo := Lib.hid hlo
    clear h1
    go_enter Try.func7, Try.ntmps7
    go_wp2_with (first | (go_at_call 16; refine (hlo.out _ h).mono ?_; rintro e w' ⟨rfl, rfl⟩) | (go_at_call 17; refine (Awake_c _).mono ?_; rintro e W1 ⟨rfl, hb⟩; (try replace h := up_of hb h)))
    go_ret
    exact ⟨rfl, hb⟩
end Go.Proofs.Ytgeoehokojijdaa
