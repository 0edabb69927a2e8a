/- Loads: the reference. -/
import Derived.Test.YtgeoehokojijdaaMix15
namespace Go.Proofs.Ytgeoehokojijdaa
open Go.RowKit

theorem rat_eq {n p : Nat} (hn : n ≤ 60) (hp : 1 ≤ p ∧ p ≤ 20) : rat n p = ⟨((rrGo p (n, p)).1 : Nat), ((rrGo p (n, p)).2 : Nat)⟩ := by
  obtain ⟨q, rfl⟩ : ∃ q, p = q + 1 := ⟨p - 1, by omega⟩
  rw [rr_all n (by omega) q (by omega)]; rfl
set_option maxRecDepth 100000 in
set_option maxHeartbeats 2000000 in
theorem rLoad_c (s : Option Addr) (cap : Nat) (k : List (List Clm)) (p : Int) (w : World) (h : Ker w s cap k) :
    Calls Try.prog 26 #[.slice s k.length cap, .int .i64 p] w (PairsErr 39 (loadL k p) (chkE k p) w) := by
  have H := Lib.hid (rValid_c s cap k w h)
  have hkl := h.len
  cases h1 : vldB k
  · have e1 : chkE k p = 90 := by simp [chkE, h1]
    rw [show loadL k p = [] by simp [loadL, e1], e1]
    rw [h1] at H
    clear h e1
    go_enter Try.func26, Try.ntmps26
    go_wp2_with (go_at_call 27; refine H.out.mono ?_; rintro e W1 ⟨rfl, hb⟩)
    go_ret2
    exact PairsErr.nil hb
  rw [h1] at H
  cases h2 : bw 1 p 20
  · have e1 : chkE k p = 2 := by simp [chkE, h1, h2]
    rw [show loadL k p = [] by simp [loadL, e1], e1]
    clear h e1
    go_enter Try.func26, Try.ntmps26
    go_wp2_with (first | (go_at_call 50; refine (isPeriod_c _ _).mono ?_; rintro e w' ⟨rfl, rfl⟩) | (go_at_call 27; refine H.out.mono ?_; rintro e W1 ⟨rfl, hb⟩))
    go_ret2
    exact PairsErr.nil hb
  have hp := bw_iff.1 h2
  obtain ⟨p, rfl⟩ : ∃ q : Nat, p = q := ⟨p.toNat, by omega⟩
  have e1 : chkE k p = 0 := by simp [chkE, h1, h2]
  rw [show loadL k p = ldL k.flatten p by simp [loadL, e1], e1]
  clear e1
  have hf := vld_flat h1
  have hC := fun W (h : Ker W s cap k) (c : Int) => claims_c s cap k c W h (by omega)
  obtain ⟨L, hL⟩ : ∃ L, k.flatten = L := ⟨_, rfl⟩
  simp only [hL] at hC hf ⊢
  have hcx : ∀ i : Nat, cntC L (i : Int) ≤ 60 := fun i => Nat.le_trans (cntC_le _ _) hf
  have htk := fun (i : Nat) hi => ldL_take L p (i := i) hi
  have hre := fun (i : Nat) => rat_eq (hcx i) (show 1 ≤ p ∧ p ≤ 20 by omega)
  have hll := ldL_len L p
  obtain ⟨LL, hLL⟩ : ∃ x, ldL L p = x := ⟨_, rfl⟩
  rw [hLL] at hll htk ⊢
  have hp2 : (1 : Int) ≤ (p : Int) ∧ (p : Int) ≤ 20 := hp
  replace h := Lib.hid h; replace hC := Lib.hid hC; replace hcx := Lib.hid hcx; replace hL := Lib.hid hL; replace htk := Lib.hid htk; replace hre := Lib.hid hre; replace hll := Lib.hid hll; replace hLL := Lib.hid hLL
  clear h1 hp hf
  go_enter Try.func26, Try.ntmps26
  go_wp2_with (first | (go_at_call 50; refine (isPeriod_c _ _).mono ?_; rintro e w' ⟨rfl, rfl⟩) | (go_at_call 27; refine H.out.mono ?_; rintro e W1 ⟨rfl, hb⟩))
  clear H
  have hB := hb
  clear hb
  go_loopw [6, 16] (fun v i V => ∃ n : Nat, n ≤ 16 ∧ i = .int .i64 n ∧ V.ownsRow w.heap.size 39 2 v n (clmE.all (LL.take n)) ∧ Below w.heap.size w V) (fun _ i _ => 16 - (intOf i).toNat)
  case atStart => exact ⟨0, by omega, rfl, World.ownsRow_nil _ _ _ _, hB⟩
  case round =>
    clear hB
    obtain ⟨n, hn, rfl, hown, hB⟩ := hrel
    by_cases hlt : n < 16
    · have hcl := hC.out _ (up_of hB h).out (n : Int)
      have e1 := htk.out n hlt
      rw [hre.out n] at e1
      have hc := hcx.out n
      obtain ⟨C, hCe⟩ : ∃ C, cntC L (n : Int) = C := ⟨_, rfl⟩
      simp only [hCe] at hcl e1
      rw [hCe] at hc
      have e2 : clmE.all (LL.take (n + 1)) = clmE.all (LL.take n) ++ [.int .i64 ((rrGo p (C, p)).1 : Nat), .int .i64 ((rrGo p (C, p)).2 : Nat)] := by rw [e1, Elt.all_append, Elt.all_single]; rfl
      obtain ⟨R, hR⟩ : ∃ R, rrGo p (C, p) = R := ⟨_, rfl⟩
      rw [hR] at e2
      replace e1 := Lib.hid e1; replace e2 := Lib.hid e2; replace hCe := Lib.hid hCe; replace hcl := Lib.hid hcl; replace hR := Lib.hid hR
      have hBs := hB.size
      go_upto_region 10 with (first | (go_at_call 47; refine (hcl.out).mono ?_; rintro e W1 ⟨rfl, hb⟩; (try replace hown := up_of hb hown); (try replace hB := up_of hb hB)))
      have hW1 := hb.size
      have hown1 := hown
      refine wp_world fun X HX => ?_
      have hX : Below W1.heap.size W1 X := by rw [HX.out]; (repeat (first | exact Below.refl _ _ | refine Below.alloc ?_ (by simp; try omega) _ | refine Below.setCell ?_ (by simp) _ | refine Below.drew ?_))
      have rB : Row X (W1.heap.size) 39 #[.int .i64 C, .int .i64 p] := (by rw [HX.out]; (repeat (first | (refine blk_new ?_; simp; done) | refine blk_old ?_ _)) : X.heap[W1.heap.size]? = some (.cells #[.int .i64 C, .int .i64 p] 39 (0, 0)))
      have r0 : X.cell? ⟨W1.heap.size, 0, none⟩ = some (.int .i64 C) := by rw [HX.out]; simp [go_sem]
      have r1 : X.cell? ⟨W1.heap.size, 1, none⟩ = some (.int .i64 p) := by rw [HX.out]; simp [go_sem]
      have rl : W1.heap.size < X.heap.size := World.block_lt_of_cell? X _ r0
      try replace hown := up_of hX hown
      try replace hB := up_of hX hB
      have hvb : ∀ j, Value.ownBlock _ = some j → ¬ j = W1.heap.size := fun j e => by have := (hown1.lt j e).2; omega
      have hR0 : rrGo p (C, p) = R := hR.out
      clear hb
      go_wp2
      go_loopw [9] (fun i V => ∃ d N D : Nat, d ≤ p ∧ i = .int .i64 d ∧ N ≤ 60 ∧ D ≤ 20 ∧ Hid (rrGo d (N, D) = R) ∧ Row V W1.heap.size 39 #[.int .i64 N, .int .i64 D] ∧ Chg (fun j => j = W1.heap.size) X V) (fun i _ => (intOf i).toNat)
      case atStart => exact ⟨p, C, p, by omega, rfl, hc, by omega, hR0, rB, Chg.refl _ _⟩
      case round =>
        clear rB r0 r1
        obtain ⟨d, N, D, hd, rfl, hN, hD, hrr, rB, hCh⟩ := hrel
        obtain ⟨r0, r1⟩ := rB.two
        have rl := rB.lt
        have rf := fun i => Row.frozen rB i
        by_cases hd1 : 1 < d
        · have hstep : rrGo d (N, D) = if N % d = 0 ∧ D % d = 0 then rrGo (d - 1) (N / d, D / d) else rrGo (d - 1) (N, D) := by
            obtain ⟨e, rfl⟩ : ∃ e, d = e + 1 := ⟨d - 1, by omega⟩
            rw [rrGo, if_neg (by omega)]; rfl
          rw [hrr.out] at hstep
          have m1 : (N : Int).tmod (d : Int) = ((N % d : Nat) : Int) := by rw [Int.tmod_eq_emod_of_nonneg (by omega)]; simp
          have m2 : (D : Int).tmod (d : Int) = ((D % d : Nat) : Int) := by rw [Int.tmod_eq_emod_of_nonneg (by omega)]; simp
          have m3 : (N : Int) % (d : Int) = ((N % d : Nat) : Int) := by simp
          have m4 : (D : Int) % (d : Int) = ((D % d : Nat) : Int) := by simp
          have q1 : (N : Int).tdiv (d : Int) = ((N / d : Nat) : Int) := by rw [Int.tdiv_eq_ediv_of_nonneg (by omega)]; simp
          have q2 : (D : Int).tdiv (d : Int) = ((D / d : Nat) : Int) := by rw [Int.tdiv_eq_ediv_of_nonneg (by omega)]; simp
          have hN2 : N / d ≤ N := Nat.div_le_self _ _
          have hD2 : D / d ≤ D := Nat.div_le_self _ _
          obtain ⟨a, ha⟩ : ∃ a, N % d = a := ⟨_, rfl⟩
          obtain ⟨b, hbe⟩ : ∃ b, D % d = b := ⟨_, rfl⟩
          obtain ⟨x, hx⟩ : ∃ a, N / d = a := ⟨_, rfl⟩
          obtain ⟨y, hy⟩ : ∃ b, D / d = b := ⟨_, rfl⟩
          rw [ha] at m1 m3 hstep
          rw [hbe] at m2 m4 hstep
          rw [hx] at q1 hN2 hstep
          rw [hy] at q2 hD2 hstep
          replace ha := Lib.hid ha; replace hbe := Lib.hid hbe; replace hx := Lib.hid hx; replace hy := Lib.hid hy; replace hstep := Lib.hid hstep
          have z1 : ¬ (d : Int) = 0 := by omega
          have z3 : ¬ d = 0 := by omega
          have z2 : (1 : Int) < (d : Int) := by omega
          have hdw := i64_small (n := (d : Int) - 1) (by omega)
          clear hrr
          by_cases hab : a = 0 ∧ b = 0
          · obtain ⟨rfl, rfl⟩ := hab
            have hs2 : Hid (rrGo (d - 1) (x, y) = R) := by
              show _ = _
              have := hstep.out; simp at this; exact this.symm
            have hBd : Below w.heap.size w _ := hCh.below (n := w.heap.size) (fun j hj => by omega) (by have := hB.size; omega) hB
            go_upto_region 14 with (fail)
            go_region
            all_goals
              go_wp2
              go_roundw
              case rel =>
                refine ⟨d - 1, x, y, by omega, by congr 1; omega, by omega, by omega, hs2, ?_, ?_⟩
                · refine Row.of ?_
                  repeat (first | (with_reducible refine RowG.base rB ?_) | (with_reducible refine RowG.drew ?_) | (with_reducible refine RowG.set ?_) | ((with_reducible refine RowG.other ?_ ?_); (focus (first | omega | (simp; done) | (simp; omega)))) | (with_reducible refine RowG.alloc ?_))
                  rfl
                · repeat (first | (with_reducible exact hCh) | (with_reducible refine Chg.setCell ?_ (by simp) _) | (with_reducible refine Chg.drew ?_) | (with_reducible refine Chg.alloc ?_ _))
              case measure => (simp [intOf]) <;> omega
          · have hs2 : Hid (rrGo (d - 1) (N, D) = R) := by
              show _ = _
              have := hstep.out; rw [if_neg hab] at this; exact this.symm
            by_cases ha0 : a = 0
            · have hb0 : ((b : Int) == 0) = false := by simp; omega
              subst ha0
              go_wp2
              go_roundw
              case rel => exact ⟨d - 1, N, D, by omega, by congr 1; omega, hN, hD, hs2, rB, hCh⟩
              case measure => (simp [intOf]) <;> omega
            · have hb0 : ((a : Int) == 0) = false := by simp; omega
              go_wp2
              go_roundw
              case rel => exact ⟨d - 1, N, D, by omega, by congr 1; omega, hN, hD, hs2, rB, hCh⟩
              case measure => (simp [intOf]) <;> omega
        · have hRe : (N, D) = R := by
            rw [← hrr.out]
            rcases Nat.eq_zero_or_pos d with h0 | h0
            · subst h0; rfl
            · obtain rfl : d = 1 := by omega
              rfl
          have z2 : ¬ (1 : Int) < (d : Int) := by omega
          subst hRe
          have hBd : Below w.heap.size w _ := hCh.below (n := w.heap.size) (fun j hj => by omega) (by have := hB.size; omega) hB
          have hownr := own_chgB hCh hown hvb
          have hBs2 := hBd.size
          clear hrr
          go_wp2_with (first | (at_builtin; obtain ⟨i0, hi, hz0, hz1, hz2⟩ := info_parts info_rat; refine wpList_append_own _ rfl _ _ 35 rfl w.heap.size 39 i0 (.agg #[.int .i64 0, .int .i64 0]) 2 16 Try.underlying35 hi hz0 hz1 hz2 rfl (by decide) _ _ _ rfl (hownr.alloc _) ⟨wr.heap.size, 0, none⟩ 1 1 [.int .i64 N, .int .i64 D] rfl rfl (news_new _ _ _) (by simp [Value.oneCell']) (by unfold maxLen; omega) (by omega) (by simp; omega) ?_; intro v1 w1 hown1 hgrow hnil))
          go_roundw
          case rel => exact ⟨n + 1, by omega, by go_num, by rw [e2.out]; exact hown1, Up.grown hBd hBs2 hownr hgrow⟩
          case measure => simp [intOf]; omega
    · obtain rfl : n = 16 := by omega
      rw [List.take_of_length_le (by rw [hll.out]; exact Nat.le_refl _)] at hown
      obtain ⟨s', c', rfl, _⟩ := owns_shape hown
      go_wp2
      go_ret2
      exact ⟨⟨s', c', by rw [hll.out]; rfl, by rw [hll.out]; exact hown⟩, hB⟩
end Go.Proofs.Ytgeoehokojijdaa
