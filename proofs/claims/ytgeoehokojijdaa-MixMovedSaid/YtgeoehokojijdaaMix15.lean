/- Loads: the program and the reference. -/
import Derived.Test.YtgeoehokojijdaaMix13
import Derived.Test.YtgeoehokojijdaaLast
namespace Go.Proofs.Ytgeoehokojijdaa
open Go.RowKit

theorem Chg.drew {p : Nat → Prop} {A W : World} (h : Chg p A W) : Chg p A W.drew := ⟨h.os, h.tape, h.output, h.size, h.block, ⟨h.size, h.others.same⟩⟩
theorem Chg.alloc {p : Nat → Prop} {A W : World} (h : Chg p A W) (o : Obj) : Chg p A (W.alloc o) := h.trans (Chg.of_below ((Below.refl _ _).alloc (Nat.le_refl _) o))
theorem own_chgB {p : Nat → Prop} {W W' : World} (h : Chg p W W') {base e size n : Nat} {v : Value} {xs : List Value} (c : W.ownsRow base e size v n xs) (hp : ∀ k, v.ownBlock = some k → ¬ p k) : W'.ownsRow base e size v n xs := by
  refine ⟨c.1, ?_⟩
  rcases c.2 with hn | ⟨g, cap, cur, rfl, hb, hg, r⟩
  · exact .inl hn
  · exact .inr ⟨g, cap, cur, rfl, hb, (h.block g (Array.getElem?_eq_some_iff.1 hg).1 (hp g rfl)).trans hg, r⟩
def rat (n d : Nat) : Clm := ⟨(n / Nat.gcd d n : Nat), (d / Nat.gcd d n : Nat)⟩
/-- The reference's way to lowest terms. -/
def rrGo : Nat → Nat × Nat → Nat × Nat
  | 0, x => x
  | d + 1, x => if d = 0 then x else if x.1 % (d + 1) = 0 ∧ x.2 % (d + 1) = 0 then rrGo d (x.1 / (d + 1), x.2 / (d + 1)) else rrGo d x
set_option maxRecDepth 100000 in
theorem rr_all : ∀ n, n < 61 → ∀ p, p < 20 → rrGo (p + 1) (n, p + 1) = (n / Nat.gcd (p + 1) n, (p + 1) / Nat.gcd (p + 1) n) := by decide +kernel
def ldL (L : List Clm) (p : Nat) : List Clm := (List.range 16).map fun (c : Nat) => rat (cntC L (c : Int)) p
theorem ldL_len (L : List Clm) (p : Nat) : (ldL L p).length = 16 := by simp [ldL]
theorem ldL_take (L : List Clm) (p : Nat) {i : Nat} (hi : i < 16) : (ldL L p).take (i + 1) = (ldL L p).take i ++ [rat (cntC L (i : Int)) p] := by
  have e : i < (ldL L p).length := by rw [ldL_len]; exact hi
  have h : (ldL L p)[i] = rat (cntC L (i : Int)) p := by simp [ldL]
  rw [List.take_succ_eq_append_getElem e, h]
theorem info_rat : (Try.prog.info? 39).map (fun i => (i.zero, i.size, i.bytes)) = some (some (.agg #[.int .i64 0, .int .i64 0]), 2, 16) := by kernel_rfl
theorem load_rat {X : World} {b : Nat} {u v : Value} {t : TypeId} (h : Row X b t #[u, v]) : (loadVar 39 ⟨b, 0, none⟩).run Try.prog X = .ok (.agg #[u, v]) X := by
  obtain ⟨h0, h1⟩ := h.two
  simp [go_sem, loadVar, h0, h1]
set_option maxRecDepth 100000 in
set_option maxHeartbeats 1000000 in
theorem ratio_c (n d : Nat) (w : World) (hn : n ≤ 1000000) (hd : 1 ≤ d ∧ d ≤ 1000000) :
    Calls Try.prog 51 #[.int .i64 n, .int .i64 d] w fun e w' => e = .returned (.agg #[.int .i64 (rat n d).cell, .int .i64 (rat n d).time]) ∧ Below w.heap.size w w' := by
  have hg0 : 0 < Nat.gcd d n := Nat.gcd_pos_of_pos_left _ (by omega)
  have hgn : Nat.gcd d n ≤ d := Nat.gcd_le_left _ (by omega)
  have hr : rat n d = ⟨((n / Nat.gcd d n : Nat) : Int), ((d / Nat.gcd d n : Nat) : Int)⟩ := rfl
  obtain ⟨G, hG⟩ : ∃ G, Nat.gcd d n = G := ⟨_, rfl⟩
  rw [hG] at hg0 hgn hr
  have hN : n / G ≤ n := Nat.div_le_self _ _
  have hD : d / G ≤ d := Nat.div_le_self _ _
  have hq1 : (n : Int) / (G : Int) = ((n / G : Nat) : Int) := by simp
  have hq2 : (d : Int) / (G : Int) = ((d / G : Nat) : Int) := by simp
  have hq3 : (n : Int).tdiv (G : Int) = ((n / G : Nat) : Int) := by rw [Int.tdiv_eq_ediv_of_nonneg (by omega)]; simp
  have hq4 : (d : Int).tdiv (G : Int) = ((d / G : Nat) : Int) := by rw [Int.tdiv_eq_ediv_of_nonneg (by omega)]; simp
  obtain ⟨x, hx⟩ : ∃ x, n / G = x := ⟨_, rfl⟩
  obtain ⟨y, hy⟩ : ∃ y, d / G = y := ⟨_, rfl⟩
  rw [hx] at hr hN hq1 hq3
  rw [hy] at hr hD hq2 hq4
  rw [hr]
  replace hx := Lib.hid hx; replace hy := Lib.hid hy; replace hG := Lib.hid hG
  clear hr
  have hq1' := Lib.hid hq1; have hq2' := Lib.hid hq2; have hq3' := Lib.hid hq3; have hq4' := Lib.hid hq4
  clear hq1 hq2 hq3 hq4
  go_enter Try.func51, Try.ntmps51
  go_upto_region 1 with (fail)
  refine wp_world fun W HW => ?_
  have hB : Below w.heap.size w W := by rw [HW.out]; (repeat (first | exact Below.refl _ _ | refine Below.alloc ?_ (by simp; try omega) _ | refine Below.setCell ?_ (by simp) _ | refine Below.drew ?_))
  have rB : Row W (w.heap.size) 39 #[.int .i64 0, .int .i64 0] := (by rw [HW.out]; (repeat (first | (refine blk_new ?_; simp; done) | refine blk_old ?_ _)) : W.heap[w.heap.size]? = some (.cells #[.int .i64 0, .int .i64 0] 39 (0, 0)))
  have r0 : W.cell? ⟨w.heap.size, 0, none⟩ = some (.int .i64 0) := by rw [HW.out]; simp [go_sem]
  have r1 : W.cell? ⟨w.heap.size, 1, none⟩ = some (.int .i64 0) := by rw [HW.out]; simp [go_sem]
  have rl : w.heap.size < W.heap.size := World.block_lt_of_cell? W _ r0
  go_wp2
  go_loopw [5, 6] (fun u v V => ∃ a b : Nat, u = .int .i64 a ∧ v = .int .i64 b ∧ a ≤ 1000000 ∧ b ≤ 1000000 ∧ Hid (Nat.gcd b a = G) ∧ Below W.heap.size W V) (fun _ v _ => (intOf v).toNat)
  case atStart => exact ⟨n, d, rfl, rfl, hn, by omega, hG, Below.refl _ _⟩
  case round =>
    obtain ⟨a, b, rfl, rfl, ha, hbm, hgc, hR⟩ := hrel
    by_cases hb0 : 0 < b
    · have hb1 : ¬ (b : Int) = 0 := by omega
      have hb3 : ¬ b = 0 := by omega
      have hb2 : (0 : Int) < (b : Int) := by omega
      have ht : (a : Int).tmod (b : Int) = ((a % b : Nat) : Int) := by rw [Int.tmod_eq_emod_of_nonneg (by omega)]; simp
      have hlt := Nat.mod_lt a hb0
      have hg2 : Nat.gcd (a % b) b = G := by rw [← Nat.gcd_rec, hgc.out]
      obtain ⟨r, hrm⟩ : ∃ r, a % b = r := ⟨_, rfl⟩
      rw [hrm] at ht hlt hg2
      replace hg2 := Lib.hid hg2; replace hrm := Lib.hid hrm
      go_upto_region 3 with (fail)
      refine region_q (by kernel_rfl) (by kernel_rfl) ?_
      dsimp only [List.toList_toArray]
      repeat (first
       | go_big_quiet_skip
       | (go_big_quiet_want
          first
          | (refine qq_det ?_
             apply Exists.intro; refine ⟨fun W' hW' => ?_, ?_⟩
             (· have hk := cellB hW'; go_simp; try (first | rfl | rw [if_pos (by omega)]))
             simp only [Act.put, List.setIfInBounds_toArray, List.set_cons_zero, List.set_cons_succ]; go_big_quiet_on)))
      refine wpQuiet_nil ?_
      intro W1 hb
      try replace hR := up_of hb hR
      go_wp2
      go_roundw
      case rel => exact ⟨b, r, rfl, rfl, hbm, by omega, hg2, hR⟩
      case measure => simp [intOf]; omega
    · obtain rfl : b = 0 := by omega
      have hag : a = G := by have := hgc.out; simpa using this
      subst hag
      have rV := up_of hR rB
      obtain ⟨r0, r1⟩ := rV.two
      have rf := fun i => Row.frozen rV i
      have hq3 := hq3'.out; have hq4 := hq4'.out
      have hg1 : ¬ (a : Int) = 0 := by omega
      have hg3 : ¬ a = 0 := by omega
      have hBr := up_of hR hB
      go_upto_region 4 with (fail)
      go_region
      all_goals
        go_wp2
        refine bodyPost_ret (results_c1r rfl rfl (load_rat (t := 39) (u := .int .i64 x) (v := .int .i64 y) ?_)) rfl ⟨rfl, ?_⟩
        · refine Row.of ?_
          repeat (first | (with_reducible refine RowG.base rV ?_) | (with_reducible refine RowG.drew ?_) | (with_reducible refine RowG.set ?_) | ((with_reducible refine RowG.other ?_ ?_); (focus (first | omega | (simp; done) | (simp; omega)))) | (with_reducible refine RowG.alloc ?_))
          rfl
        · repeat (first | (with_reducible exact hBr) | (with_reducible refine Below.drew ?_) | ((with_reducible refine Below.setC ?_ ?_); (focus (first | omega | (simp; done) | (simp; omega)))) | ((with_reducible refine Below.allo ?_ ?_); (focus (first | omega | (simp; done) | (simp; omega)))))
def PairsErr (t : TypeId) (L : List Clm) (er : Int) (w : World) (e : Ending) (w' : World) : Prop :=
  (∃ s cap, e = .returned (.tuple #[.slice s L.length cap, .int .i64 er]) ∧ w'.ownsRow w.heap.size t 2 (.slice s L.length cap) L.length (clmE.all L)) ∧ Below w.heap.size w w'
theorem PairsErr.nil {t : TypeId} {w w' : World} {er : Int} (hB : Below w.heap.size w w') : PairsErr t [] er w (.returned (.tuple #[.slice none 0 0, .int .i64 er])) w' := ⟨⟨none, 0, rfl, World.ownsRow_nil _ _ _ _⟩, hB⟩
set_option maxRecDepth 100000 in
theorem ix_cnt (L : List Clm) (i : Nat) (hi : i < 16) (w : World) : (Instr.index 66 (.agg (cntA L)) (.int .i64 i)).run Try.prog w = .ok (.int .i64 (cntC L (i : Int))) w := by
  have h16 : i = 0 ∨ i = 1 ∨ i = 2 ∨ i = 3 ∨ i = 4 ∨ i = 5 ∨ i = 6 ∨ i = 7 ∨ i = 8 ∨ i = 9 ∨ i = 10 ∨ i = 11 ∨ i = 12 ∨ i = 13 ∨ i = 14 ∨ i = 15 := by omega
  rcases h16 with rfl | rfl | rfl | rfl | rfl | rfl | rfl | rfl | rfl | rfl | rfl | rfl | rfl | rfl | rfl | rfl <;> rfl
def loadL (k : List (List Clm)) (p : Int) : List Clm := if chkE k p = 0 then ldL k.flatten p.toNat else []
theorem chk_ok {k : List (List Clm)} {p : Int} (h : chkE k p = 0) : vldB k = true ∧ bw 1 p 20 = true := by
  unfold chkE at h
  (repeat' split at h) <;> simp_all
set_option maxRecDepth 100000 in
set_option maxHeartbeats 1000000 in
theorem Load_c (s : Option Addr) (cap : Nat) (k : List (List Clm)) (p : Int) (w : World) (h : Ker w s cap k) :
    Calls Try.prog 25 #[.slice s k.length cap, .int .i64 p] w (PairsErr 39 (loadL k p) (chkE k p) w) := by
  have H := Lib.hid (checked_c s cap k p w h)
  have hkl := h.len
  by_cases h1 : chkE k p = 0
  case neg =>
    rw [show loadL k p = [] by simp [loadL, h1]]
    obtain ⟨E, hE⟩ : ∃ E, chkE k p = E := ⟨_, rfl⟩
    rw [hE] at H h1 ⊢
    have h1' : (E != 0) = true := by simpa using h1
    clear h hE h1
    go_enter Try.func25, Try.ntmps25
    go_wp2_with (go_at_call 49; refine H.out.mono ?_; rintro e W1 ⟨rfl, hb⟩)
    go_ret2
    exact PairsErr.nil hb
  obtain ⟨hv, hp1⟩ := chk_ok h1
  have hp := bw_iff.1 hp1
  obtain ⟨p, rfl⟩ : ∃ q : Nat, p = q := ⟨p.toNat, by omega⟩
  rw [show loadL k p = ldL k.flatten p by simp [loadL, h1], h1]
  rw [h1] at H
  have hf := vld_flat hv
  have hk3 := vldB_k hv
  have hC := fun W (h : Ker W s cap k) => loads_c s cap k W h (by omega) (by omega) (fun l hl c hc => (vldB_c hv hl hc).1)
  obtain ⟨L, hL⟩ : ∃ L, k.flatten = L := ⟨_, rfl⟩
  rw [hL] at hC hf ⊢
  have hcx : ∀ i : Nat, cntC L (i : Int) ≤ 60 := fun i => Nat.le_trans (cntC_le _ _) hf
  have hix := fun (i : Nat) hi w => ix_cnt L i hi w
  have htk := fun (i : Nat) hi => ldL_take L p (i := i) hi
  have hra := fun (i : Nat) w => ratio_c (cntC L (i : Int)) p w (by have := hcx i; omega) (by omega)
  have hll := ldL_len L p
  obtain ⟨LL, hLL⟩ : ∃ x, ldL L p = x := ⟨_, rfl⟩
  rw [hLL] at hll htk ⊢
  have hp2 : (1 : Int) ≤ (p : Int) ∧ (p : Int) ≤ 20 := hp
  replace h := Lib.hid h; replace hC := Lib.hid hC; replace hcx := Lib.hid hcx; replace hL := Lib.hid hL; replace hix := Lib.hid hix; replace htk := Lib.hid htk; replace hra := Lib.hid hra; replace hll := Lib.hid hll; replace hLL := Lib.hid hLL
  clear h1 hv hp1 hp hf hk3
  go_enter Try.func25, Try.ntmps25
  go_wp2_with (first | (go_at_call 49; refine H.out.mono ?_; rintro e W1 ⟨rfl, hb⟩) | (go_at_call 45; refine (hC.out _ (up_of hb h).out).mono ?_; rintro e W2 ⟨rfl, hb2⟩))
  have hB := hb.trans (hb2.mono hb.size)
  clear H hb hb2
  go_loopw [7, 18] (fun v i V => ∃ n : Nat, n ≤ 16 ∧ i = .int .i64 n ∧ V.ownsRow w.heap.size 39 2 v n (clmE.all (LL.take n)) ∧ Below w.heap.size w V) (fun _ i _ => 16 - (intOf i).toNat)
  case atStart => exact ⟨0, by omega, rfl, World.ownsRow_nil _ _ _ _, hB⟩
  case round =>
    clear hB
    obtain ⟨n, hn, rfl, hown, hB⟩ := hrel
    by_cases hlt : n < 16
    · have hi := hix.out n hlt
      have e1 := htk.out n hlt
      have hr := hra.out n
      have hc := hcx.out n
      obtain ⟨x, hx⟩ : ∃ x, rat (cntC L (n : Int)) p = x := ⟨_, rfl⟩
      rw [hx] at e1
      simp only [hx] at hr
      obtain ⟨C, hCe⟩ : ∃ C, cntC L (n : Int) = C := ⟨_, rfl⟩
      simp only [hCe] at hi hr
      rw [hCe] at hc
      replace hx := Lib.hid hx; replace hCe := Lib.hid hCe; replace hr := Lib.hid hr
      have e2 : clmE.all (LL.take (n + 1)) = clmE.all (LL.take n) ++ [.int .i64 x.cell, .int .i64 x.time] := by rw [e1, Elt.all_append, Elt.all_single]; rfl
      replace e1 := Lib.hid e1; replace e2 := Lib.hid e2
      have hBs := hB.size
      go_upto_region 9 with (first | (go_at_call 51; refine (hr.out _).mono ?_; rintro e W1 ⟨rfl, hb⟩; (try replace hown := up_of hb hown)) | (at_builtin; obtain ⟨i0, hi, hz0, hz1, hz2⟩ := info_parts info_rat; refine wpList_append_own _ rfl _ _ 35 rfl w.heap.size 39 i0 (.agg #[.int .i64 0, .int .i64 0]) 2 16 Try.underlying35 hi hz0 hz1 hz2 rfl (by decide) _ _ _ rfl (hown.alloc _) ⟨W1.heap.size, 0, none⟩ 1 1 [.int .i64 x.cell, .int .i64 x.time] rfl rfl (news_new _ _ _) (by simp [Value.oneCell']) (by unfold maxLen; omega) (by omega) (by have := hb.size; simp; omega) ?_; intro v1 w1 hown1 hgrow hnil))
      go_wp2
      go_roundw
      case rel => exact ⟨n + 1, by omega, by go_num, by rw [e2.out]; exact hown1, Up.grown (hB.trans (hb.mono hBs)) (by have := hb.size; omega) hown hgrow⟩
      case measure => simp [intOf]; omega
    · obtain rfl : n = 16 := by omega
      rw [List.take_of_length_le (by rw [hll.out]; exact Nat.le_refl _)] at hown
      obtain ⟨s', c', rfl, _⟩ := owns_shape hown
      go_wp2
      go_ret2
      exact ⟨⟨s', c', by rw [hll.out]; rfl, by rw [hll.out]; exact hown⟩, hB⟩
end Go.Proofs.Ytgeoehokojijdaa
