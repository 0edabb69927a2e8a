/- Whether a list has a cell; whether lists and grids are the same. -/
import Derived.Test.YtbabdoafpljdbaaMd2
import Derived.Test.YtbabdoafpljdbaaMdEq
namespace Go.Proofs.Ytbabdoafpljdbaa
open Go.RowKit

def isCel (c q : Cel) : Bool := c.x == q.x && c.y == q.y
theorem isCel_any (c : Cel) (F : List Cel) : F.any (isCel c) = decide (c ∈ F) := by
  rw [Bool.eq_iff_iff, List.any_eq_true, decide_eq_true_iff]
  constructor
  · rintro ⟨q, hq, h⟩
    rw [isCel, Bool.and_eq_true, beq_iff_eq, beq_iff_eq] at h
    have : c = q := by obtain ⟨a, b⟩ := c; obtain ⟨d, e⟩ := q; simp only at h; rw [h.1, h.2]
    rw [this]; exact hq
  · intro h
    exact ⟨c, h, by simp [isCel]⟩
set_option maxRecDepth 100000 in
set_option maxHeartbeats 400000 in
theorem cel_index (s : Option Addr) (cap : Nat) (l : List Cel) (c : Cel) (w : World) (hs0 : SlS celE w s l) (hl : l.length ≤ 9223372036854775807) :
    Calls Try.prog 73 #[.slice s l.length cap, .agg #[.int .i64 c.x, .int .i64 c.y]] w fun e w' => e = .returned (.int .i64 (fidx (isCel c) l)) ∧ Below w.heap.size w w' := by
  have hpr : ∀ q, isCel c q = (c.x == q.x && c.y == q.y) := fun _ => rfl
  obtain ⟨pr, hpr0⟩ : ∃ p, isCel c = p := ⟨_, rfl⟩
  simp only [hpr0] at hpr ⊢
  replace hpr := Lib.hid hpr
  clear hpr0
  have hs := Lib.hid hs0
  clear hs0
  go_enter Try.func73, Try.ntmps73
  go_upto_region 1 with (fail)
  refine wp_world fun W HW => ?_
  have hB : Below w.heap.size w W := by rw [HW.out]; (repeat (first | exact Below.refl _ _ | refine Below.alloc ?_ (by simp; try omega) _ | refine Below.setCell ?_ (by simp) _ | refine Below.drew ?_))
  have c0 : W.cell? ⟨w.heap.size, 0, none⟩ = some (.int .i64 c.x) := by rw [HW.out]; simp [go_sem]
  have c1 : W.cell? ⟨w.heap.size, 1, none⟩ = some (.int .i64 c.y) := by rw [HW.out]; simp [go_sem]
  have cl : w.heap.size < W.heap.size := World.block_lt_of_cell? W _ c0
  have hBs := hB.size
  go_wp2
  go_loopw [8] (fun i wr => ∃ k : Nat, k ≤ l.length ∧ i = .int .i64 k ∧ Below W.heap.size W wr ∧ Hid (∀ j (hj : j < l.length), j < k → pr l[j] = false)) (fun i _ => l.length - (intOf i).toNat)
  case atStart => exact ⟨0, by omega, rfl, Below.refl _ _, fun j _ h => absurd h (by omega)⟩
  case round =>
    obtain ⟨k, hk, rfl, hR, hno⟩ := hrel
    have hBw := hB.trans (hR.mono hBs)
    by_cases hlt : k < l.length
    · obtain ⟨b, off, rfl, hb, x0, x1⟩ := (up_of hBw hs.out).cel_at hlt
      replace c0 := up_of hR c0
      replace c1 := up_of hR c1
      have hp := hpr.out l[k]
      have hat := hno.out
      obtain ⟨q, hq⟩ : ∃ q, l[k] = q := ⟨_, rfl⟩
      rw [hq] at x0 x1 hp
      replace hq := Lib.hid hq; replace hat := Lib.hid hat
      have g1 : (0 : Int) ≤ (k : Int) := by omega
      have g2 : (k : Int) < (l.length : Int) := by omega
      cases e1 : (c.x == q.x) <;> cases e2 : (c.y == q.y) <;> rw [e1, e2] at hp <;> simp only [Bool.and_true, Bool.and_false, Bool.true_and, Bool.false_and] at hp
      case true.true =>
        go_upto_region 4 with (fail)
        try have ld_c0 := World.block_lt_of_cell? _ _ c0
        try have ld_x0 := World.block_lt_of_cell? _ _ x0
        refine region_q (by kernel_rfl) (by kernel_rfl) ?_
        dsimp only [List.toList_toArray]
        repeat (first
         | go_big_quiet_skip
         | (go_big_quiet_want
            first
            | (refine qq_det ?_
               apply Exists.intro; refine ⟨fun W' hW' => ?_, ?_⟩
               (· have hk := cellB hW'; go_simp; try (first | rfl | rw [if_pos (by omega)]))
               simp only [Act.put, List.setIfInBounds_toArray, List.set_cons_zero, List.set_cons_succ]; go_big_quiet_on)))
        refine wpQuiet_nil ?_
        intro W1 hb
        try replace hR := up_of hb hR
        try replace c0 := up_of hb c0
        try replace c1 := up_of hb c1
        try replace x0 := up_of hb x0
        try replace x1 := up_of hb x1
        go_wp2
        go_ret
        exact ⟨ret_int (fidx_at hlt (fun j hj => hat.out j (by omega) hj) (by rw [hq.out]; exact hp)).symm, hB.trans (hR.mono hBs)⟩
      all_goals
        go_upto_region 4 with (fail)
        try have ld_c0 := World.block_lt_of_cell? _ _ c0
        try have ld_x0 := World.block_lt_of_cell? _ _ x0
        refine region_q (by kernel_rfl) (by kernel_rfl) ?_
        dsimp only [List.toList_toArray]
        repeat (first
         | go_big_quiet_skip
         | (go_big_quiet_want
            first
            | (refine qq_det ?_
               apply Exists.intro; refine ⟨fun W' hW' => ?_, ?_⟩
               (· have hk := cellB hW'; go_simp; try (first | rfl | rw [if_pos (by omega)]))
               simp only [Act.put, List.setIfInBounds_toArray, List.set_cons_zero, List.set_cons_succ]; go_big_quiet_on)))
        refine wpQuiet_nil ?_
        intro W1 hb
        try replace hR := up_of hb hR
        try replace c0 := up_of hb c0
        try replace c1 := up_of hb c1
        try replace x0 := up_of hb x0
        try replace x1 := up_of hb x1
        go_wp2
        go_roundw
        case rel => exact ⟨k + 1, by omega, by go_num, hR, fun j hj h => by
          rcases Nat.lt_succ_iff_lt_or_eq.1 h with h | rfl
          · exact hat.out j hj h
          · rw [hq.out]; exact hp⟩
        case measure => simp [intOf]; omega
    · obtain rfl : k = l.length := by omega
      go_wp2
      go_ret
      exact ⟨ret_int (fidx_none fun j hj => hno.out j hj hj).symm, hBw⟩
set_option maxRecDepth 100000 in
theorem cel_contains (s : Option Addr) (cap : Nat) (l : List Cel) (c : Cel) (w : World) (hs : SlS celE w s l) (hl : l.length ≤ 9223372036854775807) :
    Calls Try.prog 57 #[.slice s l.length cap, .agg #[.int .i64 c.x, .int .i64 c.y]] w fun e w' => e = .returned (.bool (decide (c ∈ l))) ∧ Below w.heap.size w w' := by
  have hz := fidx_any (isCel c) l
  rw [isCel_any] at hz
  have H := fun V (hs : SlS celE V s l) => cel_index s cap l c V hs hl
  obtain ⟨n, hn⟩ : ∃ n, fidx (isCel c) l = n := ⟨_, rfl⟩
  obtain ⟨B, hB0⟩ : ∃ n, decide (c ∈ l) = n := ⟨_, rfl⟩
  rw [hn] at hz
  simp only [hn] at H
  rw [hB0] at hz ⊢
  replace H := Lib.hid H; replace hz := Lib.hid hz
  clear hn hB0
  go_enter Try.func57, Try.ntmps57
  go_upto_region 1 with (fail)
  refine wp_world fun W HW => ?_
  have hB : Below w.heap.size w W := by rw [HW.out]; (repeat (first | exact Below.refl _ _ | refine Below.alloc ?_ (by simp; try omega) _ | refine Below.setCell ?_ (by simp) _ | refine Below.drew ?_))
  have c0 : W.cell? ⟨w.heap.size, 0, none⟩ = some (.int .i64 c.x) := by rw [HW.out]; simp [go_sem]
  have c1 : W.cell? ⟨w.heap.size, 1, none⟩ = some (.int .i64 c.y) := by rw [HW.out]; simp [go_sem]
  have cl : w.heap.size < W.heap.size := World.block_lt_of_cell? W _ c0
  try replace hs := up_of hB hs
  go_wp2_with (first | (go_at_call 73; refine (H.out _ hs).mono ?_; rintro e W1 ⟨rfl, hb⟩; (try replace hs := up_of hb hs); (try replace hB := up_of hb hB); (try replace c0 := up_of hb c0); (try replace c1 := up_of hb c1); (try replace cl := up_of hb cl)))
  go_ret
  exact ⟨ret_bool hz.out, hB⟩
set_option maxRecDepth 100000 in
theorem SameInts_eq (s1 s2 : Option Addr) (c1 c2 : Nat) (l : List Int) (w : World) (h1 : SlS intE w s1 l) (h2 : SlS intE w s2 l) (hl : l.length ≤ 9223372036854775807) :
    Calls Try.prog 32 #[.slice s1 l.length c1, .slice s2 l.length c2] w fun e w' => e = .returned (.bool true) ∧ Below w.heap.size w w' := by
  have hb : ((l.length : Int) != l.length) = false := by simp
  replace h1 := Lib.hid h1; replace h2 := Lib.hid h2
  go_enter Try.func32, Try.ntmps32
  go_wp2
  go_loopw [13] (fun i wr => ∃ k : Nat, k ≤ l.length ∧ i = .int .i64 k ∧ Below w.heap.size w wr) (fun i _ => l.length - (intOf i).toNat)
  case atStart => exact ⟨0, by omega, rfl, Below.refl _ _⟩
  case round =>
    obtain ⟨k, hk, rfl, hR⟩ := hrel
    by_cases hlt : k < l.length
    · obtain ⟨b1, o1, rfl, hb1, p0⟩ := (up_of hR h1).out.int_at hlt
      obtain ⟨b2, o2, rfl, hb2, q0⟩ := (up_of hR h2).out.int_at hlt
      have g1 : (0 : Int) ≤ (k : Int) := by omega
      have g2 : (k : Int) < (l.length : Int) := by omega
      have he : (l[k] != l[k]) = false := by simp
      go_upto_region 6 with (fail)
      try have ld_p0 := World.block_lt_of_cell? _ _ p0
      try have ld_q0 := World.block_lt_of_cell? _ _ q0
      refine region_q (by kernel_rfl) (by kernel_rfl) ?_
      dsimp only [List.toList_toArray]
      repeat (first
       | go_big_quiet_skip
       | (go_big_quiet_want
          first
          | (refine qq_det ?_
             apply Exists.intro; refine ⟨fun W' hW' => ?_, ?_⟩
             (· have hk := cellB hW'; go_simp; try (first | rfl | rw [if_pos (by omega)]))
             simp only [Act.put, List.setIfInBounds_toArray, List.set_cons_zero, List.set_cons_succ]; go_big_quiet_on)))
      refine wpQuiet_nil ?_
      intro W1 hb
      try replace hR := up_of hb hR
      try replace p0 := up_of hb p0
      try replace q0 := up_of hb q0
      go_wp2
      go_roundw
      case rel => exact ⟨k + 1, by omega, rfl, hR⟩
      case measure => exact meas hlt
    · obtain rfl : k = l.length := by omega
      go_wp2
      go_ret
      exact ⟨rfl, hR⟩
set_option maxRecDepth 100000 in
set_option maxHeartbeats 400000 in
theorem Same_eq (wd ht : Int) (s1 s2 : Option Addr) (c1 c2 : Nat) (l : List Cel) (w : World) (h1 : SlS celE w s1 l) (h2 : SlS celE w s2 l) (hl : l.length ≤ 9223372036854775807) :
    Calls Try.prog 34 #[.agg #[.int .i64 wd, .int .i64 ht, .slice s1 l.length c1], .agg #[.int .i64 wd, .int .i64 ht, .slice s2 l.length c2]] w fun e w' => e = .returned (.bool true) ∧ Below w.heap.size w w' := by
  have hb : ((l.length : Int) != l.length) = false := by simp
  have hb1 : (wd != wd) = false := by simp
  have hb2 : (ht != ht) = false := by simp
  have h1 := Lib.hid h1; have h2 := Lib.hid h2
  go_enter Try.func34, Try.ntmps34
  go_upto_region 1 with (fail)
  refine wp_world fun W HW => ?_
  have hB : Below w.heap.size w W := by rw [HW.out]; (repeat (first | exact Below.refl _ _ | refine Below.alloc ?_ (by simp; try omega) _ | refine Below.setCell ?_ (by simp) _ | refine Below.drew ?_))
  have a0 : W.cell? ⟨w.heap.size, 0, none⟩ = some (.int .i64 wd) := by rw [HW.out]; simp [go_sem]
  have a1 : W.cell? ⟨w.heap.size, 1, none⟩ = some (.int .i64 ht) := by rw [HW.out]; simp [go_sem]
  have a2 : W.cell? ⟨w.heap.size, 2, none⟩ = some (.slice s1 l.length c1) := by rw [HW.out]; simp [go_sem]
  have al : w.heap.size < W.heap.size := World.block_lt_of_cell? W _ a0
  have b0 : W.cell? ⟨w.heap.size + 1, 0, none⟩ = some (.int .i64 wd) := by rw [HW.out]; simp [go_sem]
  have b1 : W.cell? ⟨w.heap.size + 1, 1, none⟩ = some (.int .i64 ht) := by rw [HW.out]; simp [go_sem]
  have b2 : W.cell? ⟨w.heap.size + 1, 2, none⟩ = some (.slice s2 l.length c2) := by rw [HW.out]; simp [go_sem]
  have bl : w.heap.size + 1 < W.heap.size := World.block_lt_of_cell? W _ b0
  have hBs := hB.size
  go_wp2
  go_loopw [30] (fun i wr => ∃ k : Nat, k ≤ l.length ∧ i = .int .i64 k ∧ Below W.heap.size W wr) (fun i _ => l.length - (intOf i).toNat)
  case atStart => exact ⟨0, by omega, rfl, Below.refl _ _⟩
  case round =>
    obtain ⟨k, hk, rfl, hR⟩ := hrel
    have hBw := hB.trans (hR.mono hBs)
    replace a0 := up_of hR a0
    replace b0 := up_of hR b0
    replace a2 := up_of hR a2
    replace b2 := up_of hR b2
    by_cases hlt : k < l.length
    · obtain ⟨e1, o1, rfl, hf1, p0, p1⟩ := (up_of hBw h1.out).cel_at hlt
      obtain ⟨e2, o2, rfl, hf2, q0, q1⟩ := (up_of hBw h2.out).cel_at hlt
      have g1 : (0 : Int) ≤ (k : Int) := by omega
      have g2 : (k : Int) < (l.length : Int) := by omega
      obtain ⟨q, hq⟩ : ∃ q, l[k] = q := ⟨_, rfl⟩
      rw [hq] at p0 p1 q0 q1
      replace hq := Lib.hid hq
      go_upto_region 6 with (fail)
      try have ld_a0 := World.block_lt_of_cell? _ _ a0
      try have ld_b0 := World.block_lt_of_cell? _ _ b0
      try have ld_p0 := World.block_lt_of_cell? _ _ p0
      try have ld_q0 := World.block_lt_of_cell? _ _ q0
      refine region_q (by kernel_rfl) (by kernel_rfl) ?_
      dsimp only [List.toList_toArray]
      repeat (first
       | go_big_quiet_skip
       | (go_big_quiet_want
          first
          | (refine qq_det ?_
             apply Exists.intro; refine ⟨fun W' hW' => ?_, ?_⟩
             (· have hk := cellB hW'; go_simp; try (first | rfl | rw [if_pos (by omega)]))
             simp only [Act.put, List.setIfInBounds_toArray, List.set_cons_zero, List.set_cons_succ]; go_big_quiet_on)))
      refine wpQuiet_nil ?_
      intro W1 hb
      try replace hR := up_of hb hR
      try replace hBw := up_of hb hBw
      try replace a0 := up_of hb a0
      try replace b0 := up_of hb b0
      try replace a2 := up_of hb a2
      try replace b2 := up_of hb b2
      try replace p0 := up_of hb p0
      try replace p1 := up_of hb p1
      try replace q0 := up_of hb q0
      try replace q1 := up_of hb q1
      go_wp2
      go_roundw
      case rel => exact ⟨k + 1, by omega, rfl, hR⟩
      case measure => exact meas hlt
    · obtain rfl : k = l.length := by omega
      go_wp2
      go_ret
      exact ⟨rfl, hBw⟩
end Go.Proofs.Ytbabdoafpljdbaa
