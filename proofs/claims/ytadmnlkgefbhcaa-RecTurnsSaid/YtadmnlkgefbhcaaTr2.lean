/- Which points are orders: the reference. -/
import Derived.Test.YtadmnlkgefbhcaaTr1
namespace Go.Proofs.Ytadmnlkgefbhcaa
open Go.RowKit

theorem seen_of {p : Pt} {k : Nat} {v : Int} (h : ∀ j, j < k → p.get j ≠ v) : seenB p k v = false := by
  unfold seenB
  rw [List.any_eq_false]
  intro j hj
  simp at hj
  simpa using h j hj
theorem seen_at {p : Pt} {k j : Nat} {v : Int} (hj : j < k) (h : p.get j = v) : seenB p k v = true := by
  unfold seenB
  rw [List.any_eq_true]
  exact ⟨j, by simpa using hj, by simpa using h⟩
theorem ord_bad {n : Int} {p : Pt} {k : Nat} (hk : k < 3) (h : badAt n p k = true) : isOrd n p = false := by
  have h3 : k = 0 ∨ k = 1 ∨ k = 2 := by omega
  rcases h3 with rfl | rfl | rfl <;> simp [isOrd, h]
theorem ord_good {n : Int} {p : Pt} (h : ∀ j, j < 3 → badAt n p j = false) : isOrd n p = true := by
  simp [isOrd, h 0 (by omega), h 1 (by omega), h 2 (by omega)]
theorem upto_succ {p : Nat → Prop} {k : Nat} (h : ∀ j, j < k → p j) (hk : p k) : ∀ j, j < k + 1 → p j := fun j hj => by
  rcases Nat.lt_succ_iff_lt_or_eq.1 hj with h' | rfl
  · exact h j h'
  · exact hk
set_option maxRecDepth 100000 in
set_option maxHeartbeats 1000000 in
theorem IsOrder_c (n : Int) (p : Pt) (w : World) (hn : 1 ≤ n ∧ n ≤ 3) :
    Calls Try.prog 38 #[.agg #[.int .i64 p.x, .int .i64 p.y, .int .i64 p.z], .int .i64 n] w fun e w' => e = .returned (.bool (isOrd n p)) ∧ Below w.heap.size w w' := by
  go_enter Try.func38, Try.ntmps38
  go_upto_region 1 with (fail)
  refine wp_world fun W HW => ?_
  have hB : Below w.heap.size w W := by rw [HW.out]; (repeat (first | exact Below.refl _ _ | refine Below.alloc ?_ (by simp; try omega) _ | refine Below.setCell ?_ (by simp) _ | refine Below.drew ?_))
  have aB : Row W (w.heap.size) 29 #[.int .i64 p.x, .int .i64 p.y, .int .i64 p.z] := (by rw [HW.out]; (repeat (first | (refine blk_new ?_; simp; done) | refine blk_old ?_ _)) : W.heap[w.heap.size]? = some (.cells #[.int .i64 p.x, .int .i64 p.y, .int .i64 p.z] 29 (0, 0)))
  have a0 : W.cell? ⟨w.heap.size, 0, none⟩ = some (.int .i64 p.x) := by rw [HW.out]; simp [go_sem]
  have a1 : W.cell? ⟨w.heap.size, 1, none⟩ = some (.int .i64 p.y) := by rw [HW.out]; simp [go_sem]
  have a2 : W.cell? ⟨w.heap.size, 2, none⟩ = some (.int .i64 p.z) := by rw [HW.out]; simp [go_sem]
  have al : w.heap.size < W.heap.size := World.block_lt_of_cell? W _ a0
  go_wp2
  go_loopw [7] (fun i wr => ∃ k : Nat, k ≤ 3 ∧ i = .int .i64 k ∧ Below W.heap.size W wr ∧ Hid (∀ j, j < k → badAt n p j = false)) (fun i _ => 3 - (intOf i).toNat)
  case atStart => exact ⟨0, by omega, rfl, Below.refl _ _, fun j h => absurd h (by omega)⟩
  case round =>
    obtain ⟨k, hk, rfl, hR, hall⟩ := hrel
    try replace hB := up_of hR hB
    try replace aB := up_of hR aB
    try replace a0 := up_of hR a0
    try replace a1 := up_of hR a1
    try replace a2 := up_of hR a2
    try replace al := up_of hR al
    by_cases hlt : k < 3
    · have ak := aB.cell (ptA_at p hlt)
      have hb0 : badAt n p k = ((decide ((k : Int) < n) && (!bw 0 (p.get k) (n - 1) || seenB p k (p.get k))) || (decide (n ≤ (k : Int)) && !decide (p.get k = 0))) := rfl
      obtain ⟨v, hv⟩ : ∃ v, p.get k = v := ⟨_, rfl⟩
      rw [hv] at ak hb0
      replace hv := Lib.hid hv
      have hbad : badAt n p k = true → false = isOrd n p := fun h => (ord_bad hlt h).symm
      replace hbad := Lib.hid hbad
      by_cases h1 : n ≤ (k : Int)
      · have h1' : ¬ (k : Int) < n := by omega
        by_cases h2 : v = 0
        · have hg : badAt n p k = false := by rw [hb0]; simp [h1', h2]
          have hdk : decide ((k : Int) < n) = false := by simp [h1']
          replace hg := Lib.hid hg
          clear hb0 hbad
          go_wp2
          go_loopw [38] (fun i V => ∃ j : Nat, j ≤ k ∧ i = .int .i64 j ∧ Below wr.heap.size wr V) (fun i _ => k - (intOf i).toNat)
          case atStart => exact ⟨0, by omega, rfl, Below.refl _ _⟩
          case round =>
            obtain ⟨j, hj, rfl, hR2⟩ := hrel
            try replace hB := up_of hR2 hB
            try replace aB := up_of hR2 aB
            try replace a0 := up_of hR2 a0
            try replace a1 := up_of hR2 a1
            try replace a2 := up_of hR2 a2
            try replace al := up_of hR2 al
            try replace hR := up_of hR2 hR
            by_cases hlj : j < k
            · go_upto_region 9 with (fail)
              try have ld_a0 := World.block_lt_of_cell? _ _ a0
              refine region_q (by kernel_rfl) (by kernel_rfl) ?_
              dsimp only [List.toList_toArray]
              repeat (first
               | go_big_quiet_skip
               | (go_big_quiet_want
                  first
                  | (refine qq_det ?_
                     apply Exists.intro; refine ⟨fun W' hW' => ?_, ?_⟩
                     (· have hk := cellB hW'; go_simp; try (first | rfl | rw [if_pos (by omega)]))
                     simp only [Act.put, List.setIfInBounds_toArray, List.set_cons_zero, List.set_cons_succ]; go_big_quiet_on)))
              refine wpQuiet_nil ?_
              intro W1 hb
              try replace hB := up_of hb hB
              try replace aB := up_of hb aB
              try replace a0 := up_of hb a0
              try replace a1 := up_of hb a1
              try replace a2 := up_of hb a2
              try replace al := up_of hb al
              try replace hR := up_of hb hR
              try replace hR2 := up_of hb hR2
              go_wp2
              go_roundw
              case rel => exact ⟨j + 1, by omega, rfl, hR2⟩
              case measure => exact meas hlj
            · obtain rfl : j = k := by omega
              go_wp2
              go_roundw
              case rel => exact ⟨j + 1, by omega, rfl, hR, upto_succ hall.out hg.out⟩
              case measure => exact meas hlt
        · have hg : badAt n p k = true := by rw [hb0]; simp [h1, h1', h2]
          have hz := hbad.out hg
          replace hz := Lib.hid hz
          clear hb0 hbad hg
          go_wp2
          go_ret
          exact ⟨ret_bool hz.out, hB⟩
      · have h1' : (k : Int) < n := by omega
        by_cases h2 : v < 0
        · have hg : badAt n p k = true := by rw [hb0]; simp [h1', bw, h2]
          have hz := hbad.out hg
          replace hz := Lib.hid hz
          clear hb0 hbad hg
          go_wp2
          go_ret
          exact ⟨ret_bool hz.out, hB⟩
        by_cases h3 : n ≤ v
        · have hg : badAt n p k = true := by rw [hb0]; simp [h1', bw]; omega
          have hz := hbad.out hg
          replace hz := Lib.hid hz
          clear hb0 hbad hg
          go_wp2
          go_ret
          exact ⟨ret_bool hz.out, hB⟩
        replace hb0 := Lib.hid hb0
        have hdk : decide ((k : Int) < n) = true := by simp [h1']
        go_wp2
        go_loopw [38] (fun i V => ∃ j : Nat, j ≤ k ∧ i = .int .i64 j ∧ Below wr.heap.size wr V ∧ Hid (∀ i, i < j → p.get i ≠ v)) (fun i _ => k - (intOf i).toNat)
        case atStart => exact ⟨0, by omega, rfl, Below.refl _ _, fun j h => absurd h (by omega)⟩
        case round =>
          obtain ⟨j, hj, rfl, hR2, hne⟩ := hrel
          try replace hB := up_of hR2 hB
          try replace aB := up_of hR2 aB
          try replace a0 := up_of hR2 a0
          try replace a1 := up_of hR2 a1
          try replace a2 := up_of hR2 a2
          try replace al := up_of hR2 al
          try replace hR := up_of hR2 hR
          try replace hR2 := up_of hR2 hR2
          try replace ak := up_of hR2 ak
          by_cases hlj : j < k
          · have aj := aB.cell (ptA_at p (k := j) (by omega))
            obtain ⟨u, hu⟩ : ∃ u, p.get j = u := ⟨_, rfl⟩
            rw [hu] at aj
            replace hu := Lib.hid hu
            cases hd : (u == v)
            · go_upto_region 9 with (fail)
              try have ld_a0 := World.block_lt_of_cell? _ _ a0
              refine region_q (by kernel_rfl) (by kernel_rfl) ?_
              dsimp only [List.toList_toArray]
              repeat (first
               | go_big_quiet_skip
               | (go_big_quiet_want
                  first
                  | (refine qq_det ?_
                     apply Exists.intro; refine ⟨fun W' hW' => ?_, ?_⟩
                     (· have hk := cellB hW'; go_simp; try (first | rfl | rw [if_pos (by omega)]))
                     simp only [Act.put, List.setIfInBounds_toArray, List.set_cons_zero, List.set_cons_succ]; go_big_quiet_on)))
              refine wpQuiet_nil ?_
              intro W1 hb
              try replace hB := up_of hb hB
              try replace aB := up_of hb aB
              try replace a0 := up_of hb a0
              try replace a1 := up_of hb a1
              try replace a2 := up_of hb a2
              try replace al := up_of hb al
              try replace hR := up_of hb hR
              try replace hR2 := up_of hb hR2
              try replace ak := up_of hb ak
              go_wp2
              go_roundw
              case rel => exact ⟨j + 1, by omega, rfl, hR2, upto_succ hne.out (by rw [hu.out]; simpa using hd)⟩
              case measure => exact meas hlj
            · have hz := hbad.out (by rw [hb0.out, seen_at hlj (hu.out.trans (by simpa using hd))]; simp [h1'])
              replace hz := Lib.hid hz
              go_upto_region 9 with (fail)
              try have ld_a0 := World.block_lt_of_cell? _ _ a0
              refine region_q (by kernel_rfl) (by kernel_rfl) ?_
              dsimp only [List.toList_toArray]
              repeat (first
               | go_big_quiet_skip
               | (go_big_quiet_want
                  first
                  | (refine qq_det ?_
                     apply Exists.intro; refine ⟨fun W' hW' => ?_, ?_⟩
                     (· have hk := cellB hW'; go_simp; try (first | rfl | rw [if_pos (by omega)]))
                     simp only [Act.put, List.setIfInBounds_toArray, List.set_cons_zero, List.set_cons_succ]; go_big_quiet_on)))
              refine wpQuiet_nil ?_
              intro W1 hb
              try replace hB := up_of hb hB
              try replace aB := up_of hb aB
              try replace a0 := up_of hb a0
              try replace a1 := up_of hb a1
              try replace a2 := up_of hb a2
              try replace al := up_of hb al
              try replace hR := up_of hb hR
              try replace hR2 := up_of hb hR2
              try replace ak := up_of hb ak
              go_wp2
              go_ret
              exact ⟨ret_bool hz.out, hB⟩
          · obtain rfl : j = k := by omega
            have hg : badAt n p j = false := by rw [hb0.out, seen_of hne.out]; simp [h1, bw]; omega
            replace hg := Lib.hid hg
            go_wp2
            go_roundw
            case rel => exact ⟨j + 1, by omega, rfl, hR, upto_succ hall.out hg.out⟩
            case measure => exact meas hlt
    · obtain rfl : k = 3 := by omega
      have hz : true = isOrd n p := (ord_good hall.out).symm
      replace hz := Lib.hid hz
      go_wp2
      go_ret
      exact ⟨ret_bool hz.out, hB⟩
end Go.Proofs.Ytadmnlkgefbhcaa
