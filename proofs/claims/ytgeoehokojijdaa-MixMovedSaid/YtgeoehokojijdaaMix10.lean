/- The iterator over all starts: its walk. -/
import Derived.Test.YtgeoehokojijdaaMix9
namespace Go.Proofs.Ytgeoehokojijdaa
open Go.RowKit

attribute [local go_sem] Oper.semAt_some

theorem pow_small {p n : Nat} (hp : p ≤ 20) (hn : n ≤ 3) : p ^ n ≤ 8000 := by
  calc p ^ n ≤ 20 ^ n := Nat.pow_le_pow_left hp n
    _ ≤ 20 ^ 3 := Nat.pow_le_pow_right (by decide) hn
theorem cell_off {W : World} {a p : Addr} {u v : Value} (hne : p.block ≠ a.block) (h : W.cell? p = some v) : (W.setCell a u).cell? p = some v := by
  rw [← h]; exact World.cell?_of_block (Below.heap_setCell W a u p.block hne)
theorem grownBy_setAt (W : World) (b i : Nat) (v : Value) : W.grownBy (W.setCell ⟨b, i, none⟩ v) (some b) :=
  ⟨rfl, rfl, rfl, by simp [World.setCell], fun k _ hk => Below.heap_setCell _ _ _ k (fun e => hk (by rw [e]))⟩
theorem carr_top (p n i c : Nat) (hp : 0 < p) (hc : c < n) (h : i + 1 = p ^ n) : i / p ^ c % p + 1 = p := by
  obtain ⟨m, rfl⟩ : ∃ m, n = c + (m + 1) := ⟨n - c - 1, by omega⟩
  have hpc : 0 < p ^ c := Nat.pow_pos hp
  have hpm : 0 < p ^ m := Nat.pow_pos hp
  have e1 : p ^ (c + (m + 1)) = p ^ c * (p ^ m * p) := by rw [Nat.pow_add, Nat.pow_succ]
  have h2 : i / p ^ c = p ^ m * p - 1 := by
    have hq : 0 < p ^ m * p := Nat.mul_pos hpm hp
    have : i = p ^ c * (p ^ m * p - 1) + (p ^ c - 1) := by
      have : p ^ c * (p ^ m * p) = p ^ c * (p ^ m * p - 1) + p ^ c := by
        conv => lhs; rw [show p ^ m * p = p ^ m * p - 1 + 1 by omega, Nat.mul_add, Nat.mul_one]
      omega
    rw [this, Nat.mul_add_div hpc, Nat.div_eq_of_lt (by omega)]; omega
  have h3 : p ^ m * p - 1 = p * (p ^ m - 1) + (p - 1) := by
    have : p ^ m * p = p * (p ^ m - 1) + p := by
      conv => lhs; rw [Nat.mul_comm, show p ^ m = p ^ m - 1 + 1 by omega, Nat.mul_add, Nat.mul_one]
    omega
  rw [h2, h3, Nat.mul_add_mod, Nat.mod_eq_of_lt (by omega)]; omega
set_option maxRecDepth 100000 in
set_option maxHeartbeats 4000000 in
theorem allStarts1_seq {α : Type} (D : Nat → α) (cont : α → Array Value) (n p : Nat) (hD : ∀ i, cont (D i) = intsA (digs p n i)) (hn : 1 ≤ n ∧ n ≤ 3) (hp : 1 ≤ p ∧ p ≤ 20) (b1 b2 : Nat) (w : World) (c1 : w.cell? ⟨b1, 0, none⟩ = some (.int .i64 n)) (c2 : w.cell? ⟨b2, 0, none⟩ = some (.int .i64 p)) :
    SeqM Try.prog 75 #[.pointer (some ⟨b1, 0, none⟩), .pointer (some ⟨b2, 0, none⟩)] (fun b => .slice (some ⟨b, 0, none⟩) n n) 3 cont ((List.range (p ^ n)).map D) w := by
  intro ly J Jx W hW hJ hY h0
  have hlb1 : b1 ≠ W.heap.size := by have h1 : b1 < w.heap.size := World.block_lt_of_cell? _ _ c1; have := hW.size; omega
  have hlb2 : b2 ≠ W.heap.size := by have h1 : b2 < w.heap.size := World.block_lt_of_cell? _ _ c2; have := hW.size; omega
  have e1 := Up.cell hW c1
  have e2 := Up.cell hW c2
  have hmk := fun w => run_make_ints n (by omega) w
  have hlen : ((List.range (p ^ n)).map D).length = p ^ n := by simp
  have hpow := pow_small hp.2 hn.2
  have hpos : 0 < p ^ n := Nat.pow_pos (by omega)
  have hpre : ∀ i, i < p ^ n → (List.range i).map D ++ [D i] = (List.range (i + 1)).map D := fun i _ => by rw [List.range_succ]; simp
  have hpfx : ∀ i, i < p ^ n → (List.range (i + 1)).map D <+: (List.range (p ^ n)).map D := fun i hi => by
    have h1 : p ^ n = (i + 1) + (p ^ n - (i + 1)) := by omega
    refine ⟨((List.range (p ^ n - (i + 1))).map fun j => (i + 1) + j).map D, ?_⟩
    rw [← List.map_append]
    conv => rhs; rw [h1, List.range_add]
  have hd0 := digs_zero p n
  replace hmk := Lib.hid hmk; replace hY := Lib.hid hY; replace hJ := Lib.hid hJ; replace hlen := Lib.hid hlen; replace hpre := Lib.hid hpre; replace hpfx := Lib.hid hpfx; replace hd0 := Lib.hid hd0; replace hD := Lib.hid hD
  obtain ⟨N, hN⟩ : ∃ N, p ^ n = N := ⟨_, rfl⟩
  rw [hN] at hpow hpos
  replace hN := Lib.hid hN
  have hmk2 := hmk.out
  refine callsIn_of_wp Try.func75 rfl trivial ?_ rfl
  simp only [Try.ntmps75, List.size_toArray, List.length_cons, List.length_nil, Nat.reduceAdd, Nat.reduceSub, Array.replicate_succ, Array.replicate_zero, List.push_toArray, List.append_toArray, List.nil_append, List.cons_append]
  gi_wp2
  refine wpIn_world fun X HX => ?_
  have hX : Below W.heap.size W X := by
    rw [HX.out]
    repeat (first | (with_reducible exact Below.refl _ _) | (with_reducible refine Below.drew ?_) | ((with_reducible refine Below.setC ?_ ?_); (focus (first | omega | (simp; done) | (simp; omega)))) | ((with_reducible refine Below.allo ?_ ?_); (focus (first | omega | (simp; done) | (simp; omega)))))
  have hrow : Row X W.heap.size 3 (intsA (digs p n 0)) := by
    rw [HX.out, hd0.out]
    exact Row.new _ _ _
  have hj0 : J ((List.range 0).map D) X := hJ.out _ _ _ none h0 (grownBy_of_below hX) (fun r e => by cases e)
  clear h0
  gi_loopg [] N (fun g wr => ∃ i : Nat, g + i = N ∧ i < N ∧ J ((List.range i).map D) wr ∧ Row wr W.heap.size 3 (intsA (digs p n i)) ∧ wr.cell? ⟨b1, 0, none⟩ = some (.int .i64 n) ∧ wr.cell? ⟨b2, 0, none⟩ = some (.int .i64 p))
  case atStart => exact ⟨0, by omega, by omega, hj0, hrow, up_of hX e1, up_of hX e2⟩
  case round =>
    clear hrow hj0
    obtain ⟨i, hg, hi, hj, hR, e1, e2⟩ := hrel
    obtain ⟨fn, tmps, assign, body, hy, hRd⟩ := hY.out _ (D i) W.heap.size _ hj (by rw [hlen.out, hN.out]; simpa using hi) (Nat.le_refl _) (by rw [hD.out]; exact hR)
    rw [hpre.out i (by rw [hN.out]; exact hi)] at hRd
    have hcz := carr_zero p n i
    have hpx := hpfx.out i (by rw [hN.out]; exact hi)
    replace hcz := Lib.hid hcz; replace hpx := Lib.hid hpx
    have hw1 := i64_small (n := (n : Int) - 1) (by omega)
    gi_wp2
    refine hRd.mono ?_
    rintro e Z (⟨rfl, hjZ, hkZ⟩ | ⟨rfl, hjZ⟩)
    · replace hR := hkZ.row hR
      replace e1 := hkZ.cell e1
      replace e2 := hkZ.cell e2
      have hw2 := i64_small (n := (p : Int) - 1) (by omega)
      rw [← hcz.out] at hR
      clear hj hRd hy hkZ
      gi_wp2
      gi_loopw [5] (fun u V => ∃ (c : Nat) (k : Int), c ≤ n ∧ u = .int .i64 k ∧ k = (n : Int) - 1 - c ∧ Hid (p ^ c ∣ i + 1) ∧ J ((List.range (i + 1)).map D) V ∧ Row V W.heap.size 3 (intsA (carr p n i c)) ∧ V.cell? ⟨b1, 0, none⟩ = some (.int .i64 n) ∧ V.cell? ⟨b2, 0, none⟩ = some (.int .i64 p)) (fun u _ => (intOf u + 1).toNat)
      case atStart => exact ⟨0, _, by omega, rfl, by omega, ⟨i + 1, by simp⟩, hjZ, hR, e1, e2⟩
      case round =>
        clear hR e1 e2 hjZ
        obtain ⟨c, k, hc, rfl, hk, hdv, hj, hR, e1, e2⟩ := hrel
        have hRl := hR.lt
        have l1 := World.block_lt_of_cell? _ _ e1
        have l2 := World.block_lt_of_cell? _ _ e2
        by_cases hcn : c < n
        · obtain ⟨m, rfl⟩ : ∃ m : Nat, k = m := ⟨k.toNat, by omega⟩
          have hm : n - 1 - c = m := by omega
          have hat := carr_at p n i c hcn
          have hst := carr_step p n i c hcn
          have hnx := carr_next p n i c (by omega) hcn hdv.out
          have hdv2 := carr_dvd p i c (by omega) hdv.out
          have htop := carr_top p n i c (by omega) hcn
          have hml : m < (carr p n i c).length := by rw [carr_len p n i c hc]; omega
          have hdl : i / p ^ c % p < p := Nat.mod_lt _ (by omega)
          obtain ⟨d, hd⟩ : ∃ d, i / p ^ c % p = d := ⟨_, rfl⟩
          rw [hm] at hat hst hnx
          rw [hd] at hat hnx hdv2 hdl htop
          rw [hN.out] at htop
          have hce := hR.cell (i := m) (v := .int .i64 (d : Int)) (by
            rw [intsA_at hml]
            rw [List.getElem?_eq_getElem hml] at hat
            rw [Option.some.inj hat])
          have hcf := hR.frozen m
          obtain ⟨CL, hCL⟩ : ∃ CL, carr p n i c = CL := ⟨_, rfl⟩
          rw [hCL] at hR hst hnx hml
          replace hd := Lib.hid hd; replace hCL := Lib.hid hCL; replace hst := Lib.hid hst; replace hnx := Lib.hid hnx; replace hdv2 := Lib.hid hdv2; replace htop := Lib.hid htop
          clear hat hk hdv
          have i1 : (0 : Int) ≤ (m : Int) := by omega
          have i2 : (m : Int) < (n : Int) := by omega
          have hw3 := i64_small (n := (m : Int) - 1) (by omega)
          have hw4 := i64_small (n := (d : Int) + 1) (by omega)
          by_cases hdp : d + 1 = p
          · have hdq : ((d : Int) == (p : Int) - 1) = true := by simp; omega
            have hd3 := Lib.hid (hdv2.out hdp)
            gi_wp2
            refine wpIn_wide.2 ?_
            refine region_q (by kernel_rfl) (by kernel_rfl) ?_
            dsimp only [List.toList_toArray]
            repeat (first
             | go_big_quiet_skip
             | (go_big_quiet_want
                first
                | (refine qq_det ?_
                   apply Exists.intro; refine ⟨fun W' hW' => ?_, ?_⟩
                   (· have hk := cellB hW'; go_simp; try (first | rfl | rw [if_pos (by omega)]))
                   simp only [Act.put, List.setIfInBounds_toArray, List.set_cons_zero, List.set_cons_succ]; go_big_quiet_on)))
            refine wpQuiet_nil ?_
            intro W1 hb
            try replace hR := up_of hb hR
            try replace e1 := up_of hb e1
            try replace e2 := up_of hb e2
            try replace hce := up_of hb hce
            have hjQ := hJ.out _ _ _ none hj (grownBy_of_below hb) (fun r e => by cases e)
            have hcf := hR.frozen m
            clear hj
            gi_wp2
            go_roundw
            case rel =>
              refine ⟨c + 1, _, by omega, rfl, by omega, hd3.out, hJ.out _ _ _ (some W.heap.size) hjQ (grownBy_setAt _ _ _ _) (fun r e => by cases e; exact Nat.le_refl _), ?_, ?_, ?_⟩
              · rw [← hst.out, ← intsA_set]; exact hR.set _ _
              · exact cell_off hlb1 e1
              · exact cell_off hlb2 e2
            case measure => (simp [intOf]) <;> omega
          · have hdq : ((d : Int) == (p : Int) - 1) = false := by simp; omega
            have hnx2 := Lib.hid (hnx.out (by omega))
            have hi2 : i + 1 < N := by
              rcases Nat.lt_or_ge (i + 1) N with h | h
              · exact h
              · exact absurd (htop.out (by omega)) hdp
            gi_wp2
            refine wpIn_wide.2 ?_
            refine region_q (by kernel_rfl) (by kernel_rfl) ?_
            dsimp only [List.toList_toArray]
            repeat (first
             | go_big_quiet_skip
             | (go_big_quiet_want
                first
                | (refine qq_det ?_
                   apply Exists.intro; refine ⟨fun W' hW' => ?_, ?_⟩
                   (· have hk := cellB hW'; go_simp; try (first | rfl | rw [if_pos (by omega)]))
                   simp only [Act.put, List.setIfInBounds_toArray, List.set_cons_zero, List.set_cons_succ]; go_big_quiet_on)))
            refine wpQuiet_nil ?_
            intro W1 hb
            try replace hR := up_of hb hR
            try replace e1 := up_of hb e1
            try replace e2 := up_of hb e2
            try replace hce := up_of hb hce
            have hjQ := hJ.out _ _ _ none hj (grownBy_of_below hb) (fun r e => by cases e)
            have hcf := hR.frozen m
            clear hj
            gi_wp2
            gi_roundg (N - (i + 1))
            case measure => omega
            case rel =>
              refine ⟨i + 1, by omega, hi2, hJ.out _ _ _ (some W.heap.size) hjQ (grownBy_setAt _ _ _ _) (fun r e => by cases e; exact Nat.le_refl _), ?_, ?_, ?_⟩
              · rw [← hnx2.out, ← intsA_set]; exact hR.set _ _
              · exact cell_off hlb1 e1
              · exact cell_off hlb2 e2
        · obtain rfl : c = n := by omega
          obtain rfl : k = -1 := by omega
          clear hk
          have hend : i + 1 = N := by
            have h1 := Nat.le_of_dvd (by omega) hdv.out
            rw [hN.out] at h1
            omega
          have hJe : Hid (J ((List.range (p ^ c)).map D) wr) := by
            show J _ _
            rw [hN.out, ← hend]; exact hj
          gi_wp2
          refine wpIn_wide.2 ?_
          refine region_q (by kernel_rfl) (by kernel_rfl) ?_
          dsimp only [List.toList_toArray]
          repeat (first
           | go_big_quiet_skip
           | (go_big_quiet_want
              first
              | (refine qq_det ?_
                 apply Exists.intro; refine ⟨fun W' hW' => ?_, ?_⟩
                 (· have hk := cellB hW'; go_simp; try (first | rfl | rw [if_pos (by omega)]))
                 simp only [Act.put, List.setIfInBounds_toArray, List.set_cons_zero, List.set_cons_succ]; go_big_quiet_on)))
          refine wpQuiet_nil ?_
          intro W1 hb
          try replace e1 := up_of hb e1
          try replace e2 := up_of hb e2
          gi_wp2
          refine bodyPost_ret (results_none rfl _ _ _) rfl ?_
          exact ⟨⟨_, rfl⟩, .inl (hJ.out _ _ _ none hJe.out (grownBy_of_below hb) (fun r e => by cases e))⟩
    · gi_wp2
      refine bodyPost_ret (results_none rfl _ _ _) rfl ?_
      exact ⟨⟨_, rfl⟩, .inr ⟨_, hpx.out, hjZ⟩⟩
end Go.Proofs.Ytgeoehokojijdaa
