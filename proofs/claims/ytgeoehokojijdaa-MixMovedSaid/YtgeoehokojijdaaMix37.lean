/- Equal lists of kernels are found to be the same. -/
import Derived.Test.YtgeoehokojijdaaMix3
import Derived.Test.YtgeoehokojijdaaMix2
namespace Go.Proofs.Ytgeoehokojijdaa
open Go.RowKit

set_option maxRecDepth 100000 in
theorem Same_eq (s1 s2 : Option Addr) (c1 c2 : Nat) (k : List (List Clm)) (w : World) (h1 : Ker w s1 c1 k) (h2 : Ker w s2 c2 k) :
    Calls Try.prog 44 #[.slice s1 k.length c1, .slice s2 k.length c2] w fun e w' => e = .returned (.bool true) ∧ Below w.heap.size w w' := by
  have hkl := h1.len
  have hll := fun (n : Nat) (hn : n < k.length) => h1.lens _ (List.getElem_mem hn)
  have hb : ((k.length : Int) != k.length) = false := by simp
  replace h1 := Lib.hid h1; replace h2 := Lib.hid h2; replace hll := Lib.hid hll
  go_enter Try.func44, Try.ntmps44
  go_wp2
  go_loopw [14] (fun i V => ∃ n : Nat, n ≤ k.length ∧ i = .int .i64 n ∧ Below w.heap.size w V) (fun i _ => k.length - (intOf i).toNat)
  case atStart => exact ⟨0, by omega, rfl, Below.refl _ _⟩
  case round =>
    obtain ⟨n, hn, rfl, hR⟩ := hrel
    by_cases hlt : n < k.length
    · obtain ⟨b1, o1, sa, ca, rfl, -, q0, sla, -, -⟩ := h1.out.ss.at hlt
      obtain ⟨b2, o2, sb, cb, rfl, -, r0, slb, -, -⟩ := h2.out.ss.at hlt
      have hlx := hll.out n hlt
      obtain ⟨l, hl⟩ : ∃ l, k[n] = l := ⟨_, rfl⟩
      rw [hl] at q0 r0 sla slb hlx
      have hb3 : ((l.length : Int) != l.length) = false := by simp
      have qh := Lib.hid q0
      have rh := Lib.hid r0
      replace q0 := up_of hR q0
      replace r0 := up_of hR r0
      replace hl := Lib.hid hl; replace sla := Lib.hid sla; replace slb := Lib.hid slb
      have g1 : (0 : Int) ≤ (n : Int) := by omega
      have g2 : (n : Int) < (k.length : Int) := by omega
      go_upto_region 6 with (fail)
      try have ld_q0 := World.block_lt_of_cell? _ _ q0
      try have ld_r0 := World.block_lt_of_cell? _ _ r0
      refine region_q (by kernel_rfl) (by kernel_rfl) ?_
      dsimp only [List.toList_toArray]
      repeat (first
       | go_big_quiet_skip
       | (go_big_quiet_want
          first
          | (refine qq_det ?_
             apply Exists.intro; refine ⟨fun W' hW' => ?_, ?_⟩
             (· have hk := cellB hW'; go_simp; try (first | rfl | rw [if_pos (by omega)]))
             simp only [Act.put, List.setIfInBounds_toArray, List.set_cons_zero, List.set_cons_succ]; go_big_quiet_on)))
      refine wpQuiet_nil ?_
      intro W1 hb
      try replace hR := up_of hb hR
      try replace q0 := up_of hb q0
      try replace r0 := up_of hb r0
      go_wp2
      go_loopw [33] (fun i V => ∃ m : Nat, m ≤ l.length ∧ i = .int .i64 m ∧ Below w.heap.size w V) (fun i _ => l.length - (intOf i).toNat)
      case atStart => exact ⟨0, by omega, rfl, hR⟩
      case round =>
        clear hR q0 r0
        obtain ⟨m, hm, rfl, hR⟩ := hrel
        by_cases hlm : m < l.length
        · have q0 := (up_of hR qh).out
          have r0 := (up_of hR rh).out
          obtain ⟨b3, o3, rfl, hb5, p0, p1⟩ := (up_of hR sla).out.clm_at hlm
          obtain ⟨b4, o4, rfl, hb6, t0, t1⟩ := (up_of hR slb).out.clm_at hlm
          have he := fun w => clm_eql l[m] l[m] w
          simp only [decide_true] at he
          have g3 : (0 : Int) ≤ (m : Int) := by omega
          have g4 : (m : Int) < (l.length : Int) := by omega
          go_upto_region 11 with (fail)
          try have ld_q0 := World.block_lt_of_cell? _ _ q0
          try have ld_r0 := World.block_lt_of_cell? _ _ r0
          try have ld_p0 := World.block_lt_of_cell? _ _ p0
          try have ld_t0 := World.block_lt_of_cell? _ _ t0
          refine region_q (by kernel_rfl) (by kernel_rfl) ?_
          dsimp only [List.toList_toArray]
          repeat (first
           | go_big_quiet_skip
           | (go_big_quiet_want
              first
              | (refine qq_det ?_
                 apply Exists.intro; refine ⟨fun W' hW' => ?_, ?_⟩
                 (· have hk := cellB hW'; go_simp; try (first | rfl | rw [if_pos (by omega)]))
                 simp only [Act.put, List.setIfInBounds_toArray, List.set_cons_zero, List.set_cons_succ]; go_big_quiet_on)))
          refine wpQuiet_nil ?_
          intro W1 hb
          try replace hR := up_of hb hR
          try replace q0 := up_of hb q0
          try replace r0 := up_of hb r0
          try replace p0 := up_of hb p0
          try replace p1 := up_of hb p1
          try replace t0 := up_of hb t0
          try replace t1 := up_of hb t1
          go_wp2
          go_roundw
          case rel => exact ⟨m + 1, by omega, by go_num, hR⟩
          case measure => exact meas hlm
        · obtain rfl : m = l.length := by omega
          go_wp2
          go_roundw
          case rel => exact ⟨n + 1, by omega, by go_num, hR⟩
          case measure => exact meas hlt
    · obtain rfl : n = k.length := by omega
      go_wp2
      go_ret
      exact ⟨rfl, hR⟩
end Go.Proofs.Ytgeoehokojijdaa
