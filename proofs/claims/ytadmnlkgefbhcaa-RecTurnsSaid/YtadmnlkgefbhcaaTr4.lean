/- The domain that is turned. -/
import Derived.Test.YtadmnlkgefbhcaaTr3
namespace Go.Proofs.Ytadmnlkgefbhcaa
open Go.RowKit Go.Maps

set_option maxRecDepth 100000 in
set_option maxHeartbeats 4000000 in
theorem Turned_c (n : Int) (s : Option Addr) (cs : Nat) (l : List Iq) (p : Pt) (w : World) (h : Dom w s l) (hc : s = none → cs = 0) :
    Calls Try.prog 50 #[.agg #[.int .i64 n, .slice s l.length cs], .agg #[.int .i64 p.x, .int .i64 p.y, .int .i64 p.z]] w (DomRet (turnN n l p) (turnR n l p) (turnE n l p) w) := by
  have hlen := h.len
  cases h1 : validB n l
  · rw [show turnN n l p = 0 by simp [turnN, turnE, h1], show turnR n l p = [] by simp [turnR, turnE, h1], show turnE n l p = 10 by simp [turnE, h1]]
    go_enter Try.func50, Try.ntmps50
    go_upto_region 1 with (fail)
    refine wp_world fun W HW => ?_
    have hB : Below w.heap.size w W := by rw [HW.out]; (repeat (first | exact Below.refl _ _ | refine Below.alloc ?_ (by simp; try omega) _ | refine Below.setCell ?_ (by simp) _ | refine Below.drew ?_))
    have d0 : W.cell? ⟨w.heap.size, 0, none⟩ = some (.int .i64 n) := by rw [HW.out]; simp [go_sem]
    have d1 : W.cell? ⟨w.heap.size, 1, none⟩ = some (.slice s l.length cs) := by rw [HW.out]; simp [go_sem]
    have dl : w.heap.size < W.heap.size := World.block_lt_of_cell? W _ d0
    have o0 : W.cell? ⟨w.heap.size + 1, 0, none⟩ = some (.int .i64 p.x) := by rw [HW.out]; simp [go_sem]
    have o1 : W.cell? ⟨w.heap.size + 1, 1, none⟩ = some (.int .i64 p.y) := by rw [HW.out]; simp [go_sem]
    have o2 : W.cell? ⟨w.heap.size + 1, 2, none⟩ = some (.int .i64 p.z) := by rw [HW.out]; simp [go_sem]
    have ol : w.heap.size + 1 < W.heap.size := World.block_lt_of_cell? W _ o0
    have rB : Row W (w.heap.size + 2) 24 #[.int .i64 0, .slice none 0 0] := (by rw [HW.out]; (repeat (first | (refine blk_new ?_; simp; done) | refine blk_old ?_ _)) : W.heap[w.heap.size + 2]? = some (.cells #[.int .i64 0, .slice none 0 0] 24 (0, 0)))
    have r0 : W.cell? ⟨w.heap.size + 2, 0, none⟩ = some (.int .i64 0) := by rw [HW.out]; simp [go_sem]
    have r1 : W.cell? ⟨w.heap.size + 2, 1, none⟩ = some (.slice none 0 0) := by rw [HW.out]; simp [go_sem]
    have rl : w.heap.size + 2 < W.heap.size := World.block_lt_of_cell? W _ r0
    try replace h := up_of hB h
    go_upto_region 2 with (first | (go_at_call 80; refine (Valid_t _ _ _ _ _ h).mono ?_; rintro e W1 ⟨rfl, hb⟩; (try replace h := up_of hb h); (try replace hB := up_of hb hB); (try replace d0 := up_of hb d0); (try replace d1 := up_of hb d1); (try replace dl := up_of hb dl); (try replace o0 := up_of hb o0); (try replace o1 := up_of hb o1); (try replace o2 := up_of hb o2); (try replace ol := up_of hb ol); (try replace rB := up_of hb rB); (try replace r0 := up_of hb r0); (try replace r1 := up_of hb r1); (try replace rl := up_of hb rl)))
    have rf := fun i => Row.frozen rB i
    go_wp2
    refine dom_end rfl none 0 (b1 := w.heap.size + 2) rfl rfl ?_ (World.ownsRow_nil _ _ _ _) ?_
    · refine Row.of ?_
      repeat (first | (with_reducible refine RowG.base rB ?_) | (with_reducible refine RowG.drew ?_) | (with_reducible refine RowG.set ?_) | ((with_reducible refine RowG.other ?_ ?_); (focus (first | omega | (simp; done) | (simp; omega)))) | (with_reducible refine RowG.alloc ?_))
      rfl
    · repeat (first | (with_reducible exact hB) | (with_reducible refine Below.drew ?_) | ((with_reducible refine Below.setC ?_ ?_); (focus (first | omega | (simp; done) | (simp; omega)))) | ((with_reducible refine Below.allo ?_ ?_); (focus (first | omega | (simp; done) | (simp; omega)))))
  have hn : 1 ≤ n ∧ n ≤ 3 := by simp only [validB, Bool.and_eq_true, bw_iff] at h1; exact h1.1
  have hl6 : l.length ≤ 6 := by simp only [validB, Bool.and_eq_true, decide_eq_true_eq] at h1; exact h1.2.1
  have hbad : ∀ k, k < 3 → badAt n p k = true → turnN n l p = 0 ∧ turnR n l p = [] ∧ turnE n l p = 2 := fun k hk hb => by
    have := ord_bad hk hb
    simp [turnN, turnR, turnE, h1, this]
  have hgood : (∀ k, k < 3 → badAt n p k = false) → isOrd n p = true ∧ turnN n l p = n ∧ turnR n l p = turnL n p l ∧ turnE n l p = 0 := fun hb => by
    have := ord_good hb
    simp [turnN, turnR, turnE, h1, this]
  obtain ⟨tN, htN⟩ : ∃ x, turnN n l p = x := ⟨_, rfl⟩
  obtain ⟨tR, htR⟩ : ∃ x, turnR n l p = x := ⟨_, rfl⟩
  obtain ⟨tE, htE⟩ : ∃ x, turnE n l p = x := ⟨_, rfl⟩
  rw [htN, htR, htE] at hbad hgood ⊢
  clear htN htR htE
  replace hbad := Lib.hid hbad; replace hgood := Lib.hid hgood; replace hc := Lib.hid hc; replace hl6 := Lib.hid hl6
  have hmm := @run_makeMap Try.prog
  have h0 := Lib.hid h
  go_enter Try.func50, Try.ntmps50
  go_upto_region 1 with (fail)
  refine wp_world fun W HW => ?_
  have hB : Below w.heap.size w W := by rw [HW.out]; (repeat (first | exact Below.refl _ _ | refine Below.alloc ?_ (by simp; try omega) _ | refine Below.setCell ?_ (by simp) _ | refine Below.drew ?_))
  have dB : Row W (w.heap.size) 24 #[.int .i64 n, .slice s l.length cs] := (by rw [HW.out]; (repeat (first | (refine blk_new ?_; simp; done) | refine blk_old ?_ _)) : W.heap[w.heap.size]? = some (.cells #[.int .i64 n, .slice s l.length cs] 24 (0, 0)))
  have d0 : W.cell? ⟨w.heap.size, 0, none⟩ = some (.int .i64 n) := by rw [HW.out]; simp [go_sem]
  have d1 : W.cell? ⟨w.heap.size, 1, none⟩ = some (.slice s l.length cs) := by rw [HW.out]; simp [go_sem]
  have dl : w.heap.size < W.heap.size := World.block_lt_of_cell? W _ d0
  have oB : Row W (w.heap.size + 1) 29 #[.int .i64 p.x, .int .i64 p.y, .int .i64 p.z] := (by rw [HW.out]; (repeat (first | (refine blk_new ?_; simp; done) | refine blk_old ?_ _)) : W.heap[w.heap.size + 1]? = some (.cells #[.int .i64 p.x, .int .i64 p.y, .int .i64 p.z] 29 (0, 0)))
  have o0 : W.cell? ⟨w.heap.size + 1, 0, none⟩ = some (.int .i64 p.x) := by rw [HW.out]; simp [go_sem]
  have o1 : W.cell? ⟨w.heap.size + 1, 1, none⟩ = some (.int .i64 p.y) := by rw [HW.out]; simp [go_sem]
  have o2 : W.cell? ⟨w.heap.size + 1, 2, none⟩ = some (.int .i64 p.z) := by rw [HW.out]; simp [go_sem]
  have ol : w.heap.size + 1 < W.heap.size := World.block_lt_of_cell? W _ o0
  have rB : Row W (w.heap.size + 2) 24 #[.int .i64 0, .slice none 0 0] := (by rw [HW.out]; (repeat (first | (refine blk_new ?_; simp; done) | refine blk_old ?_ _)) : W.heap[w.heap.size + 2]? = some (.cells #[.int .i64 0, .slice none 0 0] 24 (0, 0)))
  have r0 : W.cell? ⟨w.heap.size + 2, 0, none⟩ = some (.int .i64 0) := by rw [HW.out]; simp [go_sem]
  have r1 : W.cell? ⟨w.heap.size + 2, 1, none⟩ = some (.slice none 0 0) := by rw [HW.out]; simp [go_sem]
  have rl : w.heap.size + 2 < W.heap.size := World.block_lt_of_cell? W _ r0
  try replace h := up_of hB h
  go_upto_region 4 with (first | (go_at_call 80; refine (Valid_t _ _ _ _ _ h).mono ?_; rintro e W1 ⟨rfl, hb⟩; (try replace h := up_of hb h); (try replace hB := up_of hb hB); (try replace dB := up_of hb dB); (try replace d0 := up_of hb d0); (try replace d1 := up_of hb d1); (try replace dl := up_of hb dl); (try replace oB := up_of hb oB); (try replace o0 := up_of hb o0); (try replace o1 := up_of hb o1); (try replace o2 := up_of hb o2); (try replace ol := up_of hb ol); (try replace rB := up_of hb rB); (try replace r0 := up_of hb r0); (try replace r1 := up_of hb r1); (try replace rl := up_of hb rl)))
  refine wp_world fun M HM => ?_
  have hM : Below W1.heap.size W1 M := by
    rw [HM.out]
    repeat (first | (with_reducible exact Below.refl _ _) | (with_reducible refine Below.drew ?_) | ((with_reducible refine Below.setC ?_ ?_); (focus (first | omega | (simp; done) | (simp; omega)))) | ((with_reducible refine Below.allo ?_ ?_); (focus (first | omega | (simp; done) | (simp; omega)))))
  have hown : M.ownsMap Try.prog 3 (plainElem Try.prog 4) W1.heap.size 0 (seenD p 0) := by
    rw [HM.out]
    exact World.ownsMap_made _ _ _ _
  have hW1 := hB.size
  have hrl := rl
  try replace h := up_of hM h
  try replace hB := up_of hM hB
  try replace dB := up_of hM dB
  try replace d0 := up_of hM d0
  try replace d1 := up_of hM d1
  try replace dl := up_of hM dl
  try replace oB := up_of hM oB
  try replace o0 := up_of hM o0
  try replace o1 := up_of hM o1
  try replace o2 := up_of hM o2
  try replace ol := up_of hM ol
  try replace rB := up_of hM rB
  try replace r0 := up_of hM r0
  try replace r1 := up_of hM r1
  try replace rl := up_of hM rl
  have hMs : W1.heap.size < M.heap.size := hown.lt
  go_wp2
  go_loopw [20] (fun i V => ∃ k : Nat, k ≤ 3 ∧ i = .int .i64 k ∧ V.ownsMap Try.prog 3 (plainElem Try.prog 4) W1.heap.size k (seenD p k) ∧ Below w.heap.size w V ∧
    Row V w.heap.size 24 #[.int .i64 n, .slice s l.length cs] ∧ Row V (w.heap.size + 1) 29 #[.int .i64 p.x, .int .i64 p.y, .int .i64 p.z] ∧ Row V (w.heap.size + 2) 24 #[.int .i64 0, .slice none 0 0] ∧ Hid (∀ j, j < k → badAt n p j = false)) (fun i _ => 3 - (intOf i).toNat)
  case atStart => exact ⟨0, by omega, rfl, hown, hB, dB, oB, rB, fun j h => absurd h (by omega)⟩
  case round =>
    clear hB dB oB rB hown d0 d1 o0 o1 o2 r0 r1
    obtain ⟨k, hk, rfl, hown, hB, dB, oB, rB, hall⟩ := hrel
    obtain ⟨d0, d1⟩ := dB.two
    obtain ⟨o0, o1, o2⟩ := oB.three
    obtain ⟨r0, r1⟩ := rB.two
    have rf := fun i => Row.frozen rB i
    have hl2 := hown.lt
    by_cases hlt : k < 3
    · have hx := fun W => ixk p W hlt
      have hb0 : badAt n p k = ((decide ((k : Int) < n) && (!bw 0 (p.get k) (n - 1) || seenB p k (p.get k))) || (decide (n ≤ (k : Int)) && !decide (p.get k = 0))) := rfl
      have hD : seenD p (k + 1) = (seenD p k).put (.int .i64 (p.get k)) (.lit (.bool true)) := rfl
      have hS := seenD_at p (p.get k) k
      obtain ⟨v, hv⟩ : ∃ v, p.get k = v := ⟨_, rfl⟩
      rw [hv] at hx hb0 hD hS
      replace hv := Lib.hid hv; replace hD := Lib.hid hD
      replace hbad := Lib.hid (hbad.out k hlt)
      by_cases hkn : (k : Int) < n
      · have hnk : ¬ n ≤ (k : Int) := by omega
        have hdk : decide ((k : Int) < n) = true := by simp [hkn]
        have hn1 : IntKind.i64.wrap (n - 1) = n - 1 := by rw [i64_wrap]; unfold wrap64; omega
        cases hbw : bw 0 v (n - 1)
        · have hg := hbad.out (by rw [hb0]; simp [hkn, hbw])
          rw [hg.1, hg.2.1, hg.2.2]
          replace hb0 := Lib.hid hb0
          go_wp2_with (first | (go_at_call 97; refine (between_c _ _ _ _).mono ?_; rintro e w' ⟨rfl, rfl⟩))
          refine dom_end rfl none 0 (b1 := w.heap.size + 2) rfl rfl ?_ (World.ownsRow_nil _ _ _ _) ?_
          · refine Row.of ?_
            repeat (first | (with_reducible refine RowG.base rB ?_) | (with_reducible refine RowG.drew ?_) | (with_reducible refine RowG.set ?_) | ((with_reducible refine RowG.other ?_ ?_); (focus (first | omega | (simp; done) | (simp; omega)))) | (with_reducible refine RowG.alloc ?_))
            rfl
          · repeat (first | (with_reducible exact hB) | (with_reducible refine Below.drew ?_) | ((with_reducible refine Below.setC ?_ ?_); (focus (first | omega | (simp; done) | (simp; omega)))) | ((with_reducible refine Below.allo ?_ ?_); (focus (first | omega | (simp; done) | (simp; omega)))))
        have hv3 : 0 ≤ v ∧ v < 3 := by have := bw_iff.1 hbw; omega
        have hkey := key_small hv3
        obtain ⟨c, hrun, hat⟩ := lookup_bool hown key_int Try.underlying132 Try.underlying4 (zero_bool _) hkey
        rw [hS] at hat
        have hat : seenB p k v = c := by injection hat with e; injection e
        cases c
        · skip
          have hg : badAt n p k = false := by rw [hb0, hat]; simp [hkn, hnk, hbw]
          replace hg := Lib.hid hg
          replace hb0 := Lib.hid hb0
          go_wp2_with (first | (go_at_call 97; refine (between_c _ _ _ _).mono ?_; rintro e w' ⟨rfl, rfl⟩) | (at_mapUpdate; refine wpList_mapUpdate_own _ rfl _ _ _ 132 rfl 3 4 key_int Try.underlying132 _ W1.heap.size k (seenD p k) rfl hown (by unfold maxLen; omega) _ _ _ rfl rfl hkey (.lit (.bool true)) [] (plainElem_bool Try.underlying4 true) ?_; intro w1 hown1 hgrow1))
          go_roundw
          case rel => exact ⟨k + 1, by omega, rfl, by rw [hD.out]; exact hown1, hB.grown hgrow1 (by omega) (fun j e => by cases e; omega), (hgrow1.block _ dB.lt (by simp; omega)).trans dB, (hgrow1.block _ oB.lt (by simp; omega)).trans oB, (hgrow1.block _ rB.lt (by simp; omega)).trans rB, upto_succ hall.out hg.out⟩
          case measure => exact meas hlt
        · have hg := hbad.out (by rw [hb0, hat]; simp [hkn])
          rw [hg.1, hg.2.1, hg.2.2]
          replace hb0 := Lib.hid hb0
          go_wp2_with (first | (go_at_call 97; refine (between_c _ _ _ _).mono ?_; rintro e w' ⟨rfl, rfl⟩))
          refine dom_end rfl none 0 (b1 := w.heap.size + 2) rfl rfl ?_ (World.ownsRow_nil _ _ _ _) ?_
          · refine Row.of ?_
            repeat (first | (with_reducible refine RowG.base rB ?_) | (with_reducible refine RowG.drew ?_) | (with_reducible refine RowG.set ?_) | ((with_reducible refine RowG.other ?_ ?_); (focus (first | omega | (simp; done) | (simp; omega)))) | (with_reducible refine RowG.alloc ?_))
            rfl
          · repeat (first | (with_reducible exact hB) | (with_reducible refine Below.drew ?_) | ((with_reducible refine Below.setC ?_ ?_); (focus (first | omega | (simp; done) | (simp; omega)))) | ((with_reducible refine Below.allo ?_ ?_); (focus (first | omega | (simp; done) | (simp; omega)))))
      · have hnk : n ≤ (k : Int) := by omega
        have hdk : decide ((k : Int) < n) = false := by simp [hkn]
        by_cases hv0 : v = 0
        · subst hv0
          have hkey := key_small (v := 0) (by omega)
          have hg : badAt n p k = false := by rw [hb0]; simp [hkn]
          replace hg := Lib.hid hg
          replace hb0 := Lib.hid hb0
          go_wp2_with (first | (go_at_call 97; refine (between_c _ _ _ _).mono ?_; rintro e w' ⟨rfl, rfl⟩) | (at_mapUpdate; refine wpList_mapUpdate_own _ rfl _ _ _ 132 rfl 3 4 key_int Try.underlying132 _ W1.heap.size k (seenD p k) rfl hown (by unfold maxLen; omega) _ _ _ rfl rfl hkey (.lit (.bool true)) [] (plainElem_bool Try.underlying4 true) ?_; intro w1 hown1 hgrow1))
          go_roundw
          case rel => exact ⟨k + 1, by omega, rfl, by rw [hD.out]; exact hown1, hB.grown hgrow1 (by omega) (fun j e => by cases e; omega), (hgrow1.block _ dB.lt (by simp; omega)).trans dB, (hgrow1.block _ oB.lt (by simp; omega)).trans oB, (hgrow1.block _ rB.lt (by simp; omega)).trans rB, upto_succ hall.out hg.out⟩
          case measure => exact meas hlt
        · have hg := hbad.out (by rw [hb0]; simp [hnk, hv0])
          rw [hg.1, hg.2.1, hg.2.2]
          replace hb0 := Lib.hid hb0
          go_wp2_with (first | (go_at_call 97; refine (between_c _ _ _ _).mono ?_; rintro e w' ⟨rfl, rfl⟩))
          refine dom_end rfl none 0 (b1 := w.heap.size + 2) rfl rfl ?_ (World.ownsRow_nil _ _ _ _) ?_
          · refine Row.of ?_
            repeat (first | (with_reducible refine RowG.base rB ?_) | (with_reducible refine RowG.drew ?_) | (with_reducible refine RowG.set ?_) | ((with_reducible refine RowG.other ?_ ?_); (focus (first | omega | (simp; done) | (simp; omega)))) | (with_reducible refine RowG.alloc ?_))
            rfl
          · repeat (first | (with_reducible exact hB) | (with_reducible refine Below.drew ?_) | ((with_reducible refine Below.setC ?_ ?_); (focus (first | omega | (simp; done) | (simp; omega)))) | ((with_reducible refine Below.allo ?_ ?_); (focus (first | omega | (simp; done) | (simp; omega)))))
    · obtain rfl : k = 3 := by omega
      obtain ⟨hord, rfl, hTR, rfl⟩ := hgood.out hall.out
      replace hTR := Lib.hid hTR
      clear hown hgood hbad
      replace h := up_of hB h0.out
      go_upto_region 11 with (fail)
      go_region_held3 (fun V => V.cell? ⟨w.heap.size, 0, none⟩ = some (.int .i64 tN) ∧ V.cell? ⟨w.heap.size, 1, none⟩ = some (.slice s l.length cs)) ((first | (with_reducible exact ⟨d0, d1⟩) | ((try dsimp only); (repeat' apply And.intro) <;> (repeat (first | (with_reducible assumption) | (with_reducible refine cell_set (by simp; try omega) ?_) | (with_reducible refine cell_drew ?_) | (with_reducible refine cell_alloc ?_ _)))))) ((first | (go_at_call 98; refine calls_below (W0 := wr) ?_ fun hpre => ?_; (repeat (first | exact Below.refl _ _ | refine Below.alloc ?_ (by simp; try omega) _ | refine Below.drew ?_)); refine (clone2 s cs l _ (up_of hpre h).iq.sl hc.out (by have := hl6.out; omega)).mono ?_; rintro e N1 ⟨⟨s3, c3, rfl, hown⟩, hb1⟩; have hcc := cellB hb1; have hff := frozB hb1; have hb := Up.trans hpre hb1; clear hpre; (first | have hs_N1 := below_alloc_lt hb1 | have hs_N1 := below_alloc_lt (drewB hb1) | skip); have dl_N1 := dl; have ol_N1 := ol; have rl_N1 := rl; (try replace h := up_of hb h); (try replace hB := up_of hb hB); (try replace dB := up_of hb dB); (try replace d0 := up_of hb d0); (try replace d1 := up_of hb d1); (try replace dl := up_of hb dl); (try replace oB := up_of hb oB); (try replace o0 := up_of hb o0); (try replace o1 := up_of hb o1); (try replace o2 := up_of hb o2); (try replace ol := up_of hb ol); (try replace rB := up_of hb rB); (try replace r0 := up_of hb r0); (try replace r1 := up_of hb r1); (try replace rl := up_of hb rl); (first | have nB := new_up hb1 | have nB := new_up (drewB hb1) | (try replace nB := up_of hb nB)))))
      all_goals
        have hBs := hB.size
        have hwN := hb.size
        refine exit_world fun X HX => ?_
        have hBX : Below w.heap.size w X := by
          rw [HX.out]
          repeat (first | (with_reducible exact hB) | (with_reducible refine Below.drew ?_) | ((with_reducible refine Below.setC ?_ ?_); (focus (first | omega | (simp; done) | (simp; omega)))) | ((with_reducible refine Below.allo ?_ ?_); (focus (first | omega | (simp; done) | (simp; omega)))))
        first | (refine have_it (Row X N1.heap.size 24 #[.int .i64 tN, .slice s3 l.length c3]) ?_ fun tX => ?_; (focus (rw [HX.out]; refine Row.of ?_; (repeat (first | (with_reducible refine RowG.base nB ?_) | (with_reducible refine RowG.drew ?_) | (with_reducible refine RowG.set ?_) | (with_reducible refine RowG.new ?_) | ((with_reducible refine RowG.other ?_ ?_); (focus (first | omega | (simp; done) | (simp; omega)))) | (with_reducible refine RowG.alloc ?_))); rfl; done))) | (refine have_it (Row X wr.heap.size 24 #[.int .i64 tN, .slice s3 l.length c3]) ?_ fun tX => ?_; (focus (rw [HX.out]; refine Row.of ?_; (repeat (first | (with_reducible refine RowG.base nB ?_) | (with_reducible refine RowG.drew ?_) | (with_reducible refine RowG.set ?_) | (with_reducible refine RowG.new ?_) | ((with_reducible refine RowG.other ?_ ?_); (focus (first | omega | (simp; done) | (simp; omega)))) | (with_reducible refine RowG.alloc ?_))); rfl; done)))
        have hlr := rB.lt
        have hrw : w.heap.size + 2 < wr.heap.size := by first | exact rl | omega
        have dX : Row X w.heap.size 24 #[.int .i64 tN, .slice s l.length cs] := by
          rw [HX.out]
          refine Row.of ?_
          repeat (first | (with_reducible refine RowG.base dB ?_) | (with_reducible refine RowG.drew ?_) | (with_reducible refine RowG.set ?_) | ((with_reducible refine RowG.other ?_ ?_); (focus (first | omega | (simp; done) | (simp; omega)))) | (with_reducible refine RowG.alloc ?_))
          rfl
        have oX : Row X (w.heap.size + 1) 29 #[.int .i64 p.x, .int .i64 p.y, .int .i64 p.z] := by
          rw [HX.out]
          refine Row.of ?_
          repeat (first | (with_reducible refine RowG.base oB ?_) | (with_reducible refine RowG.drew ?_) | (with_reducible refine RowG.set ?_) | ((with_reducible refine RowG.other ?_ ?_); (focus (first | omega | (simp; done) | (simp; omega)))) | (with_reducible refine RowG.alloc ?_))
          rfl
        have rX : Row X (w.heap.size + 2) 24 #[.int .i64 0, .slice none 0 0] := by
          rw [HX.out]
          refine Row.of ?_
          repeat (first | (with_reducible refine RowG.base rB ?_) | (with_reducible refine RowG.drew ?_) | (with_reducible refine RowG.set ?_) | ((with_reducible refine RowG.other ?_ ?_); (focus (first | omega | (simp; done) | (simp; omega)))) | (with_reducible refine RowG.alloc ?_))
          rfl
        have hoX : X.ownsRow (w.heap.size + 3) 127 4 (.slice s3 l.length c3) l.length (iqCells (mixL tN p l 0)) := by
          first
          | (have hC : Chg (fun _ => False) N1 X := by
               rw [HX.out]
               repeat (first | (with_reducible exact Chg.refl _ _) | (with_reducible refine Chg.setCell ?_ (by simp) _) | (with_reducible refine Chg.drew ?_) | (with_reducible refine Chg.alloc ?_ _))
             exact owns_mono (own_chg hC (fun _ _ e => e) hown) (by simp; omega))
          | (have hC : Chg (fun j => j = wr.heap.size) N1 X := by
               rw [HX.out]
               repeat (first | (with_reducible exact Chg.refl _ _) | (with_reducible refine Chg.setCell ?_ (by simp) _) | (with_reducible refine Chg.drew ?_) | (with_reducible refine Chg.alloc ?_ _))
             exact owns_mono (own_chg hC (fun j hj e => by simp at hj; omega) hown) (by simp; omega))
        obtain ⟨b9, e9, tX, h9a, h9b⟩ : ∃ b9, b9 = _ ∧ Row X b9 _ _ ∧ w.heap.size + 2 < b9 ∧ ∀ j, s3 = some ⟨j, 0, none⟩ → j ≠ b9 := ⟨_, rfl, tX, by omega, fun j e => by have := own_lt hown e; simp at this; omega⟩
        rw [← e9]
        clear e9
        clear HX
        have hsX := tX.lt
        replace hown := hoX
        try clear nB
        clear hoX hb hcc hff dB d0 d1 oB o0 o1 o2 rB r0 r1 hall hM h hB
        obtain ⟨N, rfl⟩ : ∃ N : Nat, tN = N := ⟨tN.toNat, by omega⟩
        obtain ⟨d0, d1⟩ := dX.two
        go_wp2
        clear d0 d1
        go_loopw [64] (fun i V => ∃ k : Nat, k ≤ l.length ∧ i = .int .i64 k ∧ Chg (fun j => s3 = some ⟨j, 0, none⟩) X V ∧ V.ownsRow (w.heap.size + 3) 127 4 (.slice s3 l.length c3) l.length (iqCells (mixL N p l k))) (fun i _ => l.length - (intOf i).toNat)
        case atStart => exact ⟨0, by omega, rfl, Chg.refl _ _, hown⟩
        case round =>
          clear hown
          obtain ⟨k, hk, rfl, hC, hown⟩ := hrel
          have hCs := hC.size
          have hBr : Below w.heap.size w _ := hC.below (n := w.heap.size) (fun j hj => by have := own_lt hown hj; omega) hBX.size hBX
          have dV := hC.row (fun e => by have := own_lt hown e; omega) dX
          have oV := hC.row (fun e => by have := own_lt hown e; omega) oX
          have tV := hC.row (fun e => h9b _ e rfl) tX
          obtain ⟨d0, d1⟩ := dV.two
          obtain ⟨t0, t1⟩ := tV.two
          by_cases hlt : k < l.length
          · obtain ⟨g, rfl, hg1, hg2⟩ := own_some hown (by omega)
            obtain ⟨b1, of1, rfl, hb1, q0, q1, q2, q3⟩ := (Up.iq hBr h0.out.iq).at hlt
            have g1 : (0 : Int) ≤ (k : Int) := by omega
            have g2 : (k : Int) < (l.length : Int) := by omega
            go_upto_region 16 with (fail)
            refine wp_world fun Y HY => ?_
            have hY : Below wr.heap.size wr Y := by rw [HY.out]; (repeat (first | exact Below.refl _ _ | refine Below.alloc ?_ (by simp; try omega) _ | refine Below.setCell ?_ (by simp) _ | refine Below.drew ?_))
            have qB : Row Y (wr.heap.size) 127 #[.int .i64 l[k].a.x, .int .i64 l[k].a.y, .int .i64 l[k].a.z, .int .i64 l[k].b] := (by rw [HY.out]; (repeat (first | (refine blk_new ?_; simp; done) | refine blk_old ?_ _)) : Y.heap[wr.heap.size]? = some (.cells #[.int .i64 l[k].a.x, .int .i64 l[k].a.y, .int .i64 l[k].a.z, .int .i64 l[k].b] 127 (0, 0)))
            have q0 : Y.cell? ⟨wr.heap.size, 0, none⟩ = some (.int .i64 l[k].a.x) := by rw [HY.out]; simp [go_sem]
            have q1 : Y.cell? ⟨wr.heap.size, 1, none⟩ = some (.int .i64 l[k].a.y) := by rw [HY.out]; simp [go_sem]
            have q2 : Y.cell? ⟨wr.heap.size, 2, none⟩ = some (.int .i64 l[k].a.z) := by rw [HY.out]; simp [go_sem]
            have q3 : Y.cell? ⟨wr.heap.size, 3, none⟩ = some (.int .i64 l[k].b) := by rw [HY.out]; simp [go_sem]
            have ql : wr.heap.size < Y.heap.size := World.block_lt_of_cell? Y _ q0
            have uB : Row Y (wr.heap.size + 1) 29 #[.int .i64 0, .int .i64 0, .int .i64 0] := (by rw [HY.out]; (repeat (first | (refine blk_new ?_; simp; done) | refine blk_old ?_ _)) : Y.heap[wr.heap.size + 1]? = some (.cells #[.int .i64 0, .int .i64 0, .int .i64 0] 29 (0, 0)))
            have u0 : Y.cell? ⟨wr.heap.size + 1, 0, none⟩ = some (.int .i64 0) := by rw [HY.out]; simp [go_sem]
            have u1 : Y.cell? ⟨wr.heap.size + 1, 1, none⟩ = some (.int .i64 0) := by rw [HY.out]; simp [go_sem]
            have u2 : Y.cell? ⟨wr.heap.size + 1, 2, none⟩ = some (.int .i64 0) := by rw [HY.out]; simp [go_sem]
            have ul : wr.heap.size + 1 < Y.heap.size := World.block_lt_of_cell? Y _ u0
            try replace d0 := up_of hY d0
            try replace t1 := up_of hY t1
            try replace dV := up_of hY dV
            try replace oV := up_of hY oV
            try replace tV := up_of hY tV
            try replace hBr := up_of hY hBr
            have hws : w.heap.size + 2 < wr.heap.size := by have := (hC.row (fun e => by have := own_lt hown e; omega) rX).lt; omega
            go_wp2
            go_loopw [71] (fun i V => ∃ j : Nat, j ≤ N ∧ i = .int .i64 j ∧ Chg (fun x => x = wr.heap.size + 1) Y V ∧ Row V (wr.heap.size + 1) 29 (ptA (turnTo p l[k].a j))) (fun i _ => N - (intOf i).toNat)
            case atStart => exact ⟨0, by omega, rfl, Chg.refl _ _, uB⟩
            case round =>
              clear uB
              obtain ⟨j, hj, rfl, hC2, uB⟩ := hrel
              replace qB := hC2.row (by omega) qB
              replace oV := hC2.row (by omega) oV
              replace tV := hC2.row (by have := tV.lt; omega) tV
              by_cases hlj : j < N
              · have hv := ord_get hn hord (i := j) (by omega)
                have ak := qB.cell (iq_at l[k] (k := j) (by omega))
                have ok := oV.cell (ptA_at p (k := j) (by omega))
                obtain ⟨v, hv2, hv3⟩ : ∃ v : Nat, p.get j = v ∧ v < 3 := ⟨(p.get j).toNat, by omega, by omega⟩
                rw [hv2] at ok
                have uk := uB.cell (ptA_at (turnTo p l[k].a j) hv3)
                have uf := uB.frozen v
                go_upto_region 19 with (fail)
                go_region
                all_goals
                  go_wp2
                  go_roundw
                  case rel =>
                    refine ⟨j + 1, by omega, rfl, ?_, ?_⟩
                    · repeat (first | (with_reducible exact hC2) | (with_reducible refine Chg.setCell ?_ (by simp) _) | (with_reducible refine Chg.drew ?_) | (with_reducible refine Chg.alloc ?_ _))
                    · refine Row.of ?_
                      repeat (first | (with_reducible refine RowG.base uB ?_) | (with_reducible refine RowG.drew ?_) | (with_reducible refine RowG.set ?_) | ((with_reducible refine RowG.other ?_ ?_); (focus (first | omega | (simp; done) | (simp; omega)))) | (with_reducible refine RowG.alloc ?_))
                      (simp only [ptA_set hv3]; rw [turnTo, hv2, Int.toNat_natCast])
                  case measure => exact meas hlj
              · obtain rfl : j = N := by omega
                have hc3 := mix_cells j p l k hlt (a := turnTo p l[k].a j) (by simp [turnP])
                obtain ⟨ta, hta⟩ : ∃ ta, turnTo p l[k].a j = ta := ⟨_, rfl⟩
                rw [hta] at uB hc3
                replace hc3 := Lib.hid hc3
                clear hta
                obtain ⟨u0, u1, u2⟩ := uB.three
                obtain ⟨t0, t1⟩ := tV.two
                have hB3 := hC2.below (fun x hx => by omega) hY.size hY
                have hown3 := up_of hB3 hown
                obtain ⟨c0, hc0⟩ := iqs_at (l := mixL j p l k) (k := k) (j := 0) (by rw [mix_len]; exact hlt) (by omega)
                obtain ⟨c1, hc1⟩ := iqs_at (l := mixL j p l k) (k := k) (j := 1) (by rw [mix_len]; exact hlt) (by omega)
                obtain ⟨c2, hc2⟩ := iqs_at (l := mixL j p l k) (k := k) (j := 2) (by rw [mix_len]; exact hlt) (by omega)
                rw [Nat.add_zero] at hc0
                have h4 := hown3.stored (k * 4) (.int .i64 ta.x)
                have h5 := h4.1.stored (k * 4 + 1) (.int .i64 ta.y)
                have h6 := h5.1.stored (k * 4 + 2) (.int .i64 ta.z)
                have w0 := owns_cell hown3 hc0
                have w1 := owns_cell h4.1 ((List.getElem?_set_ne (by omega)).trans hc1)
                have w2 := owns_cell h5.1 ((List.getElem?_set_ne (by omega)).trans ((List.getElem?_set_ne (by omega)).trans hc2))
                have gf := World.ownsRow.frozenAt hown3 (k * 4)
                have gf1 := World.ownsRow.frozenAt h4.1 (k * 4 + 1)
                have gf2 := World.ownsRow.frozenAt h5.1 (k * 4 + 2)
                have hown4 := Lib.hid h6.1
                have hC3 := hC.trans (Chg.of_below hB3)
                clear h4 h5 h6 hc0 hc1 hc2
                go_wp2
                go_roundw
                case rel =>
                  refine ⟨k + 1, by omega, rfl, ?_, ?_⟩
                  · repeat (first | (with_reducible exact hC3) | (with_reducible refine Chg.setCell ?_ (by simp) _) | (with_reducible refine Chg.drew ?_) | (with_reducible refine Chg.alloc ?_ _))
                  · rw [← hc3.out]; exact hown4.out
                case measure => exact meas hlt
          · obtain rfl : k = l.length := by omega
            have rV := hC.row (fun e => by have := own_lt hown e; omega) rX
            have rf := fun i => Row.frozen rV i
            obtain ⟨r0, r1⟩ := rV.two
            rw [mix_all, ← hTR.out] at hown
            have hlR : tR.length = l.length := by rw [hTR.out, turn_len]
            replace hTR := Lib.hid hTR.out
            replace hlR := Lib.hid hlR
            go_wp2
            refine dom_end rfl s3 c3 (b1 := w.heap.size + 2) rfl rfl ?_ ?_ ?_
            · rw [hlR.out]
              refine Row.of ?_
              repeat (first | (with_reducible refine RowG.base rV ?_) | (with_reducible refine RowG.drew ?_) | (with_reducible refine RowG.set ?_) | ((with_reducible refine RowG.other ?_ ?_); (focus (first | omega | (simp; done) | (simp; omega)))) | (with_reducible refine RowG.alloc ?_))
              rfl
            · rw [hlR.out]
              refine owns_mono (own_chg (p := fun j => j = w.heap.size + 2) (W := wr) ?_ (fun j hj e => by omega) hown) (by omega)
              repeat (first | (with_reducible exact Chg.refl _ _) | (with_reducible refine Chg.setCell ?_ (by simp) _) | (with_reducible refine Chg.drew ?_) | (with_reducible refine Chg.alloc ?_ _))
            · repeat (first | (with_reducible exact hBr) | (with_reducible refine Below.drew ?_) | ((with_reducible refine Below.setC ?_ ?_); (focus (first | omega | (simp; done) | (simp; omega)))) | ((with_reducible refine Below.allo ?_ ?_); (focus (first | omega | (simp; done) | (simp; omega)))))
end Go.Proofs.Ytadmnlkgefbhcaa
