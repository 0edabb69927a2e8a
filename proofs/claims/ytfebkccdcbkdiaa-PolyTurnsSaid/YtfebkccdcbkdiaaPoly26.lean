/- The reference's list of all inequalities. -/
import Derived.Test.YtfebkccdcbkdiaaPoly25
import Derived.Deep.AppendLies
namespace Go.Proofs.Ytfebkccdcbkdiaa
open Go.RowKit

theorem grown_keep {W w1 : World} {o : Obj} {v x : Value} {a : Addr} {B : Nat} (hg : (W.alloc o).grownBy w1 v.ownBlock) (hne : ∀ k, v.ownBlock = some k → k < B) (hB : B ≤ a.block) (c : W.cell? a = some x) : w1.cell? a = some x := by
  have hl := World.block_lt_of_cell? W _ c
  rw [hg.cell_far a (by simp; omega) (fun e => by have := hne _ e.symm; omega)]
  exact cell_alloc c o
theorem grown_keep0 {W w1 : World} {v x : Value} {a : Addr} {B : Nat} (hg : W.grownBy w1 v.ownBlock) (hne : ∀ k, v.ownBlock = some k → B ≤ k) (hB : a.block < B) (c : W.cell? a = some x) : w1.cell? a = some x := by
  have hl := World.block_lt_of_cell? W _ c
  rw [hg.cell_far a hl (fun e => by have := hne _ e.symm; omega)]
  exact c
theorem minus_e (p : Pt) (w : World) {q : Pt} (hq : negP p = q) :
    Calls Try.prog 58 #[.agg #[.int .i64 p.x, .int .i64 p.y, .int .i64 p.z]] w fun e w' => e = .returned (.agg #[.int .i64 q.x, .int .i64 q.y, .int .i64 q.z]) ∧ Below w.heap.size w w' := hq ▸ minus_c p w

set_option maxRecDepth 100000 in
set_option maxHeartbeats 2000000 in
theorem Whole_c (n : Int) (s : Option Addr) (cap : Nat) (l : List Iq) (w : World) (h : Dom w s l) (hc : s = none → cap = 0) (hn : 1 ≤ n ∧ n ≤ 3) (hl : l.length ≤ 6) :
    Calls Try.prog 64 #[.agg #[.int .i64 n, .slice s l.length cap]] w fun e w' => (∃ s cap, e = .returned (.slice s (wholeL n l).length cap) ∧ w'.ownsRow w.heap.size 64 4 (.slice s (wholeL n l).length cap) (wholeL n l).length (iqCells (wholeL n l))) ∧ Below w.heap.size w w' := by
  obtain ⟨N, rfl⟩ : ∃ N : Nat, n = N := ⟨n.toNat, by omega⟩
  have hN : N ≤ 3 := by omega
  obtain ⟨K, hK⟩ : ∃ K, wholeL (N : Int) l = K := ⟨_, rfl⟩
  rw [hK]
  have hlen : ∀ k, k ≤ 3 → (l ++ boxTo k).length ≤ 12 := fun k hk => by rw [List.length_append, boxTo_len]; omega
  replace hlen := Lib.hid hlen
  replace hK := Lib.hid hK
  obtain ⟨i0, hi, hz0, hz1, hz2⟩ := info_parts info_iq
  cases s with
  | none =>
    obtain rfl := h.iq.sl.none_nil
    obtain rfl := hc rfl
    clear hc
    obtain ⟨l, hl0⟩ : ∃ l : List Iq, l = [] := ⟨_, rfl⟩
    rw [← hl0] at hK hlen
    go_enter Try.func64, Try.ntmps64
    go_upto_region 1 with (fail)
    refine wp_world fun W HW => ?_
    have hB : Below w.heap.size w W := by rw [HW.out]; (repeat (first | exact Below.refl _ _ | refine Below.alloc ?_ (by simp; try omega) _ | refine Below.setCell ?_ (by simp) _ | refine Below.drew ?_))
    have d0 : W.cell? ⟨w.heap.size, 0, none⟩ = some (.int .i64 N) := by rw [HW.out]; simp [go_sem]
    have d1 : W.cell? ⟨w.heap.size, 1, none⟩ = some (.slice none 0 0) := by rw [HW.out]; simp [go_sem]
    have dl : w.heap.size < W.heap.size := World.block_lt_of_cell? W _ d0
    try replace h := up_of hB h
    have hown := owns_mono (owns_built W 64 4) hB.size
    have d1n := cell_alloc d1 (.cells #[] 64)
    have d0n := cell_alloc d0 (.cells #[] 64)
    have dl0 := dl
    replace hB : Below w.heap.size w (W.alloc (.cells #[] 64)) := hB.alloc hB.size _
    have hol : (W.alloc (.cells #[] 64)).ownsRow w.heap.size 64 4 (.slice (some ⟨W.heap.size, 0, none⟩) 0 0) l.length (iqCells l) := by rw [hl0]; exact hown
    replace dl : w.heap.size < (W.alloc (.cells #[] 64)).heap.size := by simp; omega
    replace hl0 := Lib.hid hl0
    go_wp2_with (at_builtin; refine wpList_append_own_none rfl _ _ 22 rfl w.heap.size 64 i0 4 Try.underlying22 hi _ _ _ rfl hown rfl ?_)
    replace hown := hol
    clear hol
    go_wp2
    go_loopw [3, 12] (fun v i wr => ∃ k : Nat, k ≤ N ∧ i = .int .i64 k ∧ wr.ownsRow w.heap.size 64 4 v (l ++ boxTo k).length (iqCells (l ++ boxTo k)) ∧ Below w.heap.size w wr ∧ w.heap.size < wr.heap.size) (fun _ i _ => N - (intOf i).toNat)
    case atStart => exact ⟨0, by omega, rfl, by rw [show l ++ boxTo 0 = l by simp [boxTo]]; exact hown, hB, dl⟩
    case round =>
      clear hown hB dl
      obtain ⟨k, hk, rfl, hown, hB, dl⟩ := hrel
      have hws := hB.size
      by_cases hlt : k < N
      · have hlk := hlen.out k (by omega)
        have e1 := Lib.hid (boxTo_succ k)
        obtain ⟨M, hM⟩ : ∃ M, l ++ boxTo k = M := ⟨_, rfl⟩
        rw [hM] at hown hlk
        replace hM := Lib.hid hM
        have hk3 : k = 0 ∨ k = 1 ∨ k = 2 := by omega
        rcases hk3 with rfl | rfl | rfl
        · go_upto_region 7 with (fail)
          refine wp_world fun Y HY => ?_
          have hY : Below wr.heap.size wr Y := by
            rw [HY.out]
            repeat (first | (with_reducible exact Below.refl _ _) | (with_reducible refine Below.drew ?_) | ((with_reducible refine Below.setC ?_ ?_); (focus (first | omega | (simp; done) | (simp; omega)))) | ((with_reducible refine Below.allo ?_ ?_); (focus (first | omega | (simp; done) | (simp; omega)))))
          have upB : Row Y wr.heap.size 26 #[.int .i64 1, .int .i64 0, .int .i64 0] := by
            rw [HY.out]
            refine Row.of ?_
            repeat (first | (with_reducible refine RowG.new ?_) | (with_reducible refine RowG.drew ?_) | (with_reducible refine RowG.set ?_) | ((with_reducible refine RowG.other ?_ ?_); (focus (first | omega | (simp; done) | (simp; omega)))) | ((with_reducible refine RowG.new' ?_ ?_); (focus (first | omega | (simp; done) | (simp; omega)))) | (with_reducible refine RowG.alloc ?_))
            rfl
          obtain ⟨a0, a1, a2⟩ := upB.three
          have hvb : ∀ k, Value.ownBlock _ = some k → k < wr.heap.size := fun k e => (hown.lt k e).2
          replace hown := up_of hY hown
          replace hB := up_of hY hB
          replace dl := up_of hY dl
          have hws := hB.size
          have hneg := Lib.hid (show negP ⟨1,0,0⟩ = ⟨-1,0,0⟩ by simp [negP, wrap64])
          go_region_held3 (fun V => V.cell? ⟨wr.heap.size, 0, none⟩ = some (.int .i64 1) ∧ V.cell? ⟨wr.heap.size, 1, none⟩ = some (.int .i64 0) ∧ V.cell? ⟨wr.heap.size, 2, none⟩ = some (.int .i64 0)) ((first | (with_reducible exact ⟨a0, a1, a2⟩) | ((try dsimp only); (repeat' apply And.intro) <;> (repeat (first | (with_reducible assumption) | (with_reducible refine cell_set (by simp; try omega) ?_) | (with_reducible refine cell_drew ?_) | (with_reducible refine cell_alloc ?_ _)))))) ((first | (go_at_call 58; refine calls_below (W0 := Y) ?_ fun hpre => ?_; (repeat (first | exact Below.refl _ _ | refine Below.alloc ?_ (by simp; try omega) _ | refine Below.drew ?_)); refine (minus_e ⟨1,0,0⟩ _ hneg.out).mono ?_; rintro e N1 ⟨rfl, hb1⟩; have hb := Up.trans hpre hb1; clear hpre; (first | have hs_N1 := below_alloc_lt hb1 | have hs_N1 := below_alloc_lt (drewB hb1) | skip); have dl_N1 := dl; (try replace hown := up_of hb hown); (try replace hB := up_of hb hB); (try replace dl := up_of hb dl); (try replace a0 := up_of hb a0); (try replace a1 := up_of hb a1); (try replace a2 := up_of hb a2); (first | have nB := new_up hb1 | have nB := new_up (drewB hb1) | (try replace nB := up_of hb nB))) | (refine step_append_lies _ (by rfl) _ _ 22 (by rfl) w.heap.size 64 i0 (.agg #[.int .i64 0, .int .i64 0, .int .i64 0, .int .i64 0]) 4 32 Try.underlying22 hi hz0 hz1 hz2 rfl (by decide) _ _ _ (by rfl) (hown.alloc _) ⟨N1.heap.size, 0, none⟩ 2 2 [.int .i64 1, .int .i64 0, .int .i64 0, .int .i64 20, .int .i64 (-1), .int .i64 0, .int .i64 0, .int .i64 20] (by rfl) (by rfl) (news_new _ _ _) (by simp [Value.oneCell']) (by decide) (by unfold maxLen; omega) (by omega) (by simp; omega) (N1.heap.size + 1) (by simp) ?_; intro gg cap w1 hown1 hgrow hat hlt2; replace a0 := grown_keep hgrow hvb (Nat.le_refl _) a0; replace a1 := grown_keep hgrow hvb (Nat.le_refl _) a1; replace a2 := grown_keep hgrow hvb (Nat.le_refl _) a2)))
          go_wp2
          go_roundw
          case rel =>
            have e2 : l ++ boxTo (0 + 1) = M ++ boxI 0 := by rw [e1.out, ← List.append_assoc, hM.out]
            refine ⟨0 + 1, by omega, rfl, ?_, hB.trans (((Below.refl _ _).alloc hB.size _).grown hgrow (by simp; omega) (fun j e => (hown.lt j e).1)), ?_⟩
            · rw [e2, show iqCells (M ++ boxI 0) = iqCells M ++ [.int .i64 1, .int .i64 0, .int .i64 0, .int .i64 20, .int .i64 (-1), .int .i64 0, .int .i64 0, .int .i64 20] by simp [iqCells, boxI, unitP, Iq.cells], List.length_append]; exact hown1
            · have := hgrow.size; simp at this; omega
          case measure => simp [intOf]; omega
        · go_upto_region 7 with (fail)
          refine wp_world fun Y HY => ?_
          have hY : Below wr.heap.size wr Y := by
            rw [HY.out]
            repeat (first | (with_reducible exact Below.refl _ _) | (with_reducible refine Below.drew ?_) | ((with_reducible refine Below.setC ?_ ?_); (focus (first | omega | (simp; done) | (simp; omega)))) | ((with_reducible refine Below.allo ?_ ?_); (focus (first | omega | (simp; done) | (simp; omega)))))
          have upB : Row Y wr.heap.size 26 #[.int .i64 0, .int .i64 1, .int .i64 0] := by
            rw [HY.out]
            refine Row.of ?_
            repeat (first | (with_reducible refine RowG.new ?_) | (with_reducible refine RowG.drew ?_) | (with_reducible refine RowG.set ?_) | ((with_reducible refine RowG.other ?_ ?_); (focus (first | omega | (simp; done) | (simp; omega)))) | ((with_reducible refine RowG.new' ?_ ?_); (focus (first | omega | (simp; done) | (simp; omega)))) | (with_reducible refine RowG.alloc ?_))
            rfl
          obtain ⟨a0, a1, a2⟩ := upB.three
          have hvb : ∀ k, Value.ownBlock _ = some k → k < wr.heap.size := fun k e => (hown.lt k e).2
          replace hown := up_of hY hown
          replace hB := up_of hY hB
          replace dl := up_of hY dl
          have hws := hB.size
          have hneg := Lib.hid (show negP ⟨0,1,0⟩ = ⟨0,-1,0⟩ by simp [negP, wrap64])
          go_region_held3 (fun V => V.cell? ⟨wr.heap.size, 0, none⟩ = some (.int .i64 0) ∧ V.cell? ⟨wr.heap.size, 1, none⟩ = some (.int .i64 1) ∧ V.cell? ⟨wr.heap.size, 2, none⟩ = some (.int .i64 0)) ((first | (with_reducible exact ⟨a0, a1, a2⟩) | ((try dsimp only); (repeat' apply And.intro) <;> (repeat (first | (with_reducible assumption) | (with_reducible refine cell_set (by simp; try omega) ?_) | (with_reducible refine cell_drew ?_) | (with_reducible refine cell_alloc ?_ _)))))) ((first | (go_at_call 58; refine calls_below (W0 := Y) ?_ fun hpre => ?_; (repeat (first | exact Below.refl _ _ | refine Below.alloc ?_ (by simp; try omega) _ | refine Below.drew ?_)); refine (minus_e ⟨0,1,0⟩ _ hneg.out).mono ?_; rintro e N1 ⟨rfl, hb1⟩; have hb := Up.trans hpre hb1; clear hpre; (first | have hs_N1 := below_alloc_lt hb1 | have hs_N1 := below_alloc_lt (drewB hb1) | skip); have dl_N1 := dl; (try replace hown := up_of hb hown); (try replace hB := up_of hb hB); (try replace dl := up_of hb dl); (try replace a0 := up_of hb a0); (try replace a1 := up_of hb a1); (try replace a2 := up_of hb a2); (first | have nB := new_up hb1 | have nB := new_up (drewB hb1) | (try replace nB := up_of hb nB))) | (refine step_append_lies _ (by rfl) _ _ 22 (by rfl) w.heap.size 64 i0 (.agg #[.int .i64 0, .int .i64 0, .int .i64 0, .int .i64 0]) 4 32 Try.underlying22 hi hz0 hz1 hz2 rfl (by decide) _ _ _ (by rfl) (hown.alloc _) ⟨N1.heap.size, 0, none⟩ 2 2 [.int .i64 0, .int .i64 1, .int .i64 0, .int .i64 20, .int .i64 0, .int .i64 (-1), .int .i64 0, .int .i64 20] (by rfl) (by rfl) (news_new _ _ _) (by simp [Value.oneCell']) (by decide) (by unfold maxLen; omega) (by omega) (by simp; omega) (N1.heap.size + 1) (by simp) ?_; intro gg cap w1 hown1 hgrow hat hlt2; replace a0 := grown_keep hgrow hvb (Nat.le_refl _) a0; replace a1 := grown_keep hgrow hvb (Nat.le_refl _) a1; replace a2 := grown_keep hgrow hvb (Nat.le_refl _) a2)))
          go_wp2
          go_roundw
          case rel =>
            have e2 : l ++ boxTo (1 + 1) = M ++ boxI 1 := by rw [e1.out, ← List.append_assoc, hM.out]
            refine ⟨1 + 1, by omega, rfl, ?_, hB.trans (((Below.refl _ _).alloc hB.size _).grown hgrow (by simp; omega) (fun j e => (hown.lt j e).1)), ?_⟩
            · rw [e2, show iqCells (M ++ boxI 1) = iqCells M ++ [.int .i64 0, .int .i64 1, .int .i64 0, .int .i64 20, .int .i64 0, .int .i64 (-1), .int .i64 0, .int .i64 20] by simp [iqCells, boxI, unitP, Iq.cells], List.length_append]; exact hown1
            · have := hgrow.size; simp at this; omega
          case measure => simp [intOf]; omega
        · go_upto_region 7 with (fail)
          refine wp_world fun Y HY => ?_
          have hY : Below wr.heap.size wr Y := by
            rw [HY.out]
            repeat (first | (with_reducible exact Below.refl _ _) | (with_reducible refine Below.drew ?_) | ((with_reducible refine Below.setC ?_ ?_); (focus (first | omega | (simp; done) | (simp; omega)))) | ((with_reducible refine Below.allo ?_ ?_); (focus (first | omega | (simp; done) | (simp; omega)))))
          have upB : Row Y wr.heap.size 26 #[.int .i64 0, .int .i64 0, .int .i64 1] := by
            rw [HY.out]
            refine Row.of ?_
            repeat (first | (with_reducible refine RowG.new ?_) | (with_reducible refine RowG.drew ?_) | (with_reducible refine RowG.set ?_) | ((with_reducible refine RowG.other ?_ ?_); (focus (first | omega | (simp; done) | (simp; omega)))) | ((with_reducible refine RowG.new' ?_ ?_); (focus (first | omega | (simp; done) | (simp; omega)))) | (with_reducible refine RowG.alloc ?_))
            rfl
          obtain ⟨a0, a1, a2⟩ := upB.three
          have hvb : ∀ k, Value.ownBlock _ = some k → k < wr.heap.size := fun k e => (hown.lt k e).2
          replace hown := up_of hY hown
          replace hB := up_of hY hB
          replace dl := up_of hY dl
          have hws := hB.size
          have hneg := Lib.hid (show negP ⟨0,0,1⟩ = ⟨0,0,-1⟩ by simp [negP, wrap64])
          go_region_held3 (fun V => V.cell? ⟨wr.heap.size, 0, none⟩ = some (.int .i64 0) ∧ V.cell? ⟨wr.heap.size, 1, none⟩ = some (.int .i64 0) ∧ V.cell? ⟨wr.heap.size, 2, none⟩ = some (.int .i64 1)) ((first | (with_reducible exact ⟨a0, a1, a2⟩) | ((try dsimp only); (repeat' apply And.intro) <;> (repeat (first | (with_reducible assumption) | (with_reducible refine cell_set (by simp; try omega) ?_) | (with_reducible refine cell_drew ?_) | (with_reducible refine cell_alloc ?_ _)))))) ((first | (go_at_call 58; refine calls_below (W0 := Y) ?_ fun hpre => ?_; (repeat (first | exact Below.refl _ _ | refine Below.alloc ?_ (by simp; try omega) _ | refine Below.drew ?_)); refine (minus_e ⟨0,0,1⟩ _ hneg.out).mono ?_; rintro e N1 ⟨rfl, hb1⟩; have hb := Up.trans hpre hb1; clear hpre; (first | have hs_N1 := below_alloc_lt hb1 | have hs_N1 := below_alloc_lt (drewB hb1) | skip); have dl_N1 := dl; (try replace hown := up_of hb hown); (try replace hB := up_of hb hB); (try replace dl := up_of hb dl); (try replace a0 := up_of hb a0); (try replace a1 := up_of hb a1); (try replace a2 := up_of hb a2); (first | have nB := new_up hb1 | have nB := new_up (drewB hb1) | (try replace nB := up_of hb nB))) | (refine step_append_lies _ (by rfl) _ _ 22 (by rfl) w.heap.size 64 i0 (.agg #[.int .i64 0, .int .i64 0, .int .i64 0, .int .i64 0]) 4 32 Try.underlying22 hi hz0 hz1 hz2 rfl (by decide) _ _ _ (by rfl) (hown.alloc _) ⟨N1.heap.size, 0, none⟩ 2 2 [.int .i64 0, .int .i64 0, .int .i64 1, .int .i64 20, .int .i64 0, .int .i64 0, .int .i64 (-1), .int .i64 20] (by rfl) (by rfl) (news_new _ _ _) (by simp [Value.oneCell']) (by decide) (by unfold maxLen; omega) (by omega) (by simp; omega) (N1.heap.size + 1) (by simp) ?_; intro gg cap w1 hown1 hgrow hat hlt2; replace a0 := grown_keep hgrow hvb (Nat.le_refl _) a0; replace a1 := grown_keep hgrow hvb (Nat.le_refl _) a1; replace a2 := grown_keep hgrow hvb (Nat.le_refl _) a2)))
          go_wp2
          go_roundw
          case rel =>
            have e2 : l ++ boxTo (2 + 1) = M ++ boxI 2 := by rw [e1.out, ← List.append_assoc, hM.out]
            refine ⟨2 + 1, by omega, rfl, ?_, hB.trans (((Below.refl _ _).alloc hB.size _).grown hgrow (by simp; omega) (fun j e => (hown.lt j e).1)), ?_⟩
            · rw [e2, show iqCells (M ++ boxI 2) = iqCells M ++ [.int .i64 0, .int .i64 0, .int .i64 1, .int .i64 20, .int .i64 0, .int .i64 0, .int .i64 (-1), .int .i64 20] by simp [iqCells, boxI, unitP, Iq.cells], List.length_append]; exact hown1
            · have := hgrow.size; simp at this; omega
          case measure => simp [intOf]; omega
      · obtain rfl : k = N := by omega
        obtain ⟨s2, c2, rfl, _⟩ := owns_shape hown
        have hK2 : l ++ boxTo k = K := by rw [← hK.out]; simp [wholeL]
        rw [hK2] at hown ⊢
        replace hK2 := Lib.hid hK2
        go_wp2
        go_ret
        exact ⟨⟨s2, c2, rfl, hown⟩, hB⟩

  | some sa =>
    clear hc
    go_enter Try.func64, Try.ntmps64
    go_upto_region 1 with (fail)
    refine wp_world fun W HW => ?_
    have hB : Below w.heap.size w W := by rw [HW.out]; (repeat (first | exact Below.refl _ _ | refine Below.alloc ?_ (by simp; try omega) _ | refine Below.setCell ?_ (by simp) _ | refine Below.drew ?_))
    have d0 : W.cell? ⟨w.heap.size, 0, none⟩ = some (.int .i64 N) := by rw [HW.out]; simp [go_sem]
    have d1 : W.cell? ⟨w.heap.size, 1, none⟩ = some (.slice (some sa) l.length cap) := by rw [HW.out]; simp [go_sem]
    have dl : w.heap.size < W.heap.size := World.block_lt_of_cell? W _ d0
    try replace h := up_of hB h
    have hown := owns_mono (owns_built W 64 4) hB.size
    have d1n := cell_alloc d1 (.cells #[] 64)
    have d0n := cell_alloc d0 (.cells #[] 64)
    have dl0 := dl
    have hs2 := Lib.hid (up_of ((Below.refl W.heap.size W).alloc (Nat.le_refl _) (.cells #[] 64)) h.iq.sl)
    have hws := hB.size
    go_wp2_with (at_builtin; refine wpList_append_own _ rfl _ _ 22 rfl w.heap.size 64 i0 (.agg #[.int .i64 0, .int .i64 0, .int .i64 0, .int .i64 0]) 4 32 Try.underlying22 hi hz0 hz1 hz2 rfl (by decide) _ _ _ rfl hown sa l.length cap (Elt.all iqE l) rfl (Elt.all_len _ _) (SlS.news hs2.out) (Elt.all_one _ _) (by unfold maxLen; omega) (by omega) (by simp; omega) ?_; intro v1 w1 hown1 hgrow hnil; have d0m := grown_keep0 hgrow (B := W.heap.size) (fun j e => by cases e; exact Nat.le_refl _) dl0 d0n)
    simp only [Nat.zero_add, List.nil_append] at hown1
    replace hB : Below w.heap.size w w1 := (hB.alloc hB.size _).grown hgrow (by simp; omega) (fun j e => by cases e; exact hws)
    replace dl : w.heap.size < w1.heap.size := by have := hgrow.size; simp at this; omega
    replace hown := hown1
    clear hgrow hnil hown1 hs2 h d0 d1 d1n d0n
    go_wp2
    go_loopw [3, 12] (fun v i wr => ∃ k : Nat, k ≤ N ∧ i = .int .i64 k ∧ wr.ownsRow w.heap.size 64 4 v (l ++ boxTo k).length (iqCells (l ++ boxTo k)) ∧ Below w.heap.size w wr ∧ w.heap.size < wr.heap.size) (fun _ i _ => N - (intOf i).toNat)
    case atStart => exact ⟨0, by omega, rfl, by rw [show l ++ boxTo 0 = l by simp [boxTo]]; exact hown, hB, dl⟩
    case round =>
      clear hown hB dl
      obtain ⟨k, hk, rfl, hown, hB, dl⟩ := hrel
      have hws := hB.size
      by_cases hlt : k < N
      · have hlk := hlen.out k (by omega)
        have e1 := Lib.hid (boxTo_succ k)
        obtain ⟨M, hM⟩ : ∃ M, l ++ boxTo k = M := ⟨_, rfl⟩
        rw [hM] at hown hlk
        replace hM := Lib.hid hM
        have hk3 : k = 0 ∨ k = 1 ∨ k = 2 := by omega
        rcases hk3 with rfl | rfl | rfl
        · go_upto_region 7 with (fail)
          refine wp_world fun Y HY => ?_
          have hY : Below wr.heap.size wr Y := by
            rw [HY.out]
            repeat (first | (with_reducible exact Below.refl _ _) | (with_reducible refine Below.drew ?_) | ((with_reducible refine Below.setC ?_ ?_); (focus (first | omega | (simp; done) | (simp; omega)))) | ((with_reducible refine Below.allo ?_ ?_); (focus (first | omega | (simp; done) | (simp; omega)))))
          have upB : Row Y wr.heap.size 26 #[.int .i64 1, .int .i64 0, .int .i64 0] := by
            rw [HY.out]
            refine Row.of ?_
            repeat (first | (with_reducible refine RowG.new ?_) | (with_reducible refine RowG.drew ?_) | (with_reducible refine RowG.set ?_) | ((with_reducible refine RowG.other ?_ ?_); (focus (first | omega | (simp; done) | (simp; omega)))) | ((with_reducible refine RowG.new' ?_ ?_); (focus (first | omega | (simp; done) | (simp; omega)))) | (with_reducible refine RowG.alloc ?_))
            rfl
          obtain ⟨a0, a1, a2⟩ := upB.three
          have hvb : ∀ k, Value.ownBlock _ = some k → k < wr.heap.size := fun k e => (hown.lt k e).2
          replace hown := up_of hY hown
          replace hB := up_of hY hB
          replace dl := up_of hY dl
          have hws := hB.size
          have hneg := Lib.hid (show negP ⟨1,0,0⟩ = ⟨-1,0,0⟩ by simp [negP, wrap64])
          go_region_held3 (fun V => V.cell? ⟨wr.heap.size, 0, none⟩ = some (.int .i64 1) ∧ V.cell? ⟨wr.heap.size, 1, none⟩ = some (.int .i64 0) ∧ V.cell? ⟨wr.heap.size, 2, none⟩ = some (.int .i64 0)) ((first | (with_reducible exact ⟨a0, a1, a2⟩) | ((try dsimp only); (repeat' apply And.intro) <;> (repeat (first | (with_reducible assumption) | (with_reducible refine cell_set (by simp; try omega) ?_) | (with_reducible refine cell_drew ?_) | (with_reducible refine cell_alloc ?_ _)))))) ((first | (go_at_call 58; refine calls_below (W0 := Y) ?_ fun hpre => ?_; (repeat (first | exact Below.refl _ _ | refine Below.alloc ?_ (by simp; try omega) _ | refine Below.drew ?_)); refine (minus_e ⟨1,0,0⟩ _ hneg.out).mono ?_; rintro e N1 ⟨rfl, hb1⟩; have hb := Up.trans hpre hb1; clear hpre; (first | have hs_N1 := below_alloc_lt hb1 | have hs_N1 := below_alloc_lt (drewB hb1) | skip); have dl_N1 := dl; (try replace hown := up_of hb hown); (try replace hB := up_of hb hB); (try replace dl := up_of hb dl); (try replace a0 := up_of hb a0); (try replace a1 := up_of hb a1); (try replace a2 := up_of hb a2); (first | have nB := new_up hb1 | have nB := new_up (drewB hb1) | (try replace nB := up_of hb nB))) | (refine step_append_lies _ (by rfl) _ _ 22 (by rfl) w.heap.size 64 i0 (.agg #[.int .i64 0, .int .i64 0, .int .i64 0, .int .i64 0]) 4 32 Try.underlying22 hi hz0 hz1 hz2 rfl (by decide) _ _ _ (by rfl) (hown.alloc _) ⟨N1.heap.size, 0, none⟩ 2 2 [.int .i64 1, .int .i64 0, .int .i64 0, .int .i64 20, .int .i64 (-1), .int .i64 0, .int .i64 0, .int .i64 20] (by rfl) (by rfl) (news_new _ _ _) (by simp [Value.oneCell']) (by decide) (by unfold maxLen; omega) (by omega) (by simp; omega) (N1.heap.size + 1) (by simp) ?_; intro gg cap w1 hown1 hgrow hat hlt2; replace a0 := grown_keep hgrow hvb (Nat.le_refl _) a0; replace a1 := grown_keep hgrow hvb (Nat.le_refl _) a1; replace a2 := grown_keep hgrow hvb (Nat.le_refl _) a2)))
          go_wp2
          go_roundw
          case rel =>
            have e2 : l ++ boxTo (0 + 1) = M ++ boxI 0 := by rw [e1.out, ← List.append_assoc, hM.out]
            refine ⟨0 + 1, by omega, rfl, ?_, hB.trans (((Below.refl _ _).alloc hB.size _).grown hgrow (by simp; omega) (fun j e => (hown.lt j e).1)), ?_⟩
            · rw [e2, show iqCells (M ++ boxI 0) = iqCells M ++ [.int .i64 1, .int .i64 0, .int .i64 0, .int .i64 20, .int .i64 (-1), .int .i64 0, .int .i64 0, .int .i64 20] by simp [iqCells, boxI, unitP, Iq.cells], List.length_append]; exact hown1
            · have := hgrow.size; simp at this; omega
          case measure => simp [intOf]; omega
        · go_upto_region 7 with (fail)
          refine wp_world fun Y HY => ?_
          have hY : Below wr.heap.size wr Y := by
            rw [HY.out]
            repeat (first | (with_reducible exact Below.refl _ _) | (with_reducible refine Below.drew ?_) | ((with_reducible refine Below.setC ?_ ?_); (focus (first | omega | (simp; done) | (simp; omega)))) | ((with_reducible refine Below.allo ?_ ?_); (focus (first | omega | (simp; done) | (simp; omega)))))
          have upB : Row Y wr.heap.size 26 #[.int .i64 0, .int .i64 1, .int .i64 0] := by
            rw [HY.out]
            refine Row.of ?_
            repeat (first | (with_reducible refine RowG.new ?_) | (with_reducible refine RowG.drew ?_) | (with_reducible refine RowG.set ?_) | ((with_reducible refine RowG.other ?_ ?_); (focus (first | omega | (simp; done) | (simp; omega)))) | ((with_reducible refine RowG.new' ?_ ?_); (focus (first | omega | (simp; done) | (simp; omega)))) | (with_reducible refine RowG.alloc ?_))
            rfl
          obtain ⟨a0, a1, a2⟩ := upB.three
          have hvb : ∀ k, Value.ownBlock _ = some k → k < wr.heap.size := fun k e => (hown.lt k e).2
          replace hown := up_of hY hown
          replace hB := up_of hY hB
          replace dl := up_of hY dl
          have hws := hB.size
          have hneg := Lib.hid (show negP ⟨0,1,0⟩ = ⟨0,-1,0⟩ by simp [negP, wrap64])
          go_region_held3 (fun V => V.cell? ⟨wr.heap.size, 0, none⟩ = some (.int .i64 0) ∧ V.cell? ⟨wr.heap.size, 1, none⟩ = some (.int .i64 1) ∧ V.cell? ⟨wr.heap.size, 2, none⟩ = some (.int .i64 0)) ((first | (with_reducible exact ⟨a0, a1, a2⟩) | ((try dsimp only); (repeat' apply And.intro) <;> (repeat (first | (with_reducible assumption) | (with_reducible refine cell_set (by simp; try omega) ?_) | (with_reducible refine cell_drew ?_) | (with_reducible refine cell_alloc ?_ _)))))) ((first | (go_at_call 58; refine calls_below (W0 := Y) ?_ fun hpre => ?_; (repeat (first | exact Below.refl _ _ | refine Below.alloc ?_ (by simp; try omega) _ | refine Below.drew ?_)); refine (minus_e ⟨0,1,0⟩ _ hneg.out).mono ?_; rintro e N1 ⟨rfl, hb1⟩; have hb := Up.trans hpre hb1; clear hpre; (first | have hs_N1 := below_alloc_lt hb1 | have hs_N1 := below_alloc_lt (drewB hb1) | skip); have dl_N1 := dl; (try replace hown := up_of hb hown); (try replace hB := up_of hb hB); (try replace dl := up_of hb dl); (try replace a0 := up_of hb a0); (try replace a1 := up_of hb a1); (try replace a2 := up_of hb a2); (first | have nB := new_up hb1 | have nB := new_up (drewB hb1) | (try replace nB := up_of hb nB))) | (refine step_append_lies _ (by rfl) _ _ 22 (by rfl) w.heap.size 64 i0 (.agg #[.int .i64 0, .int .i64 0, .int .i64 0, .int .i64 0]) 4 32 Try.underlying22 hi hz0 hz1 hz2 rfl (by decide) _ _ _ (by rfl) (hown.alloc _) ⟨N1.heap.size, 0, none⟩ 2 2 [.int .i64 0, .int .i64 1, .int .i64 0, .int .i64 20, .int .i64 0, .int .i64 (-1), .int .i64 0, .int .i64 20] (by rfl) (by rfl) (news_new _ _ _) (by simp [Value.oneCell']) (by decide) (by unfold maxLen; omega) (by omega) (by simp; omega) (N1.heap.size + 1) (by simp) ?_; intro gg cap w1 hown1 hgrow hat hlt2; replace a0 := grown_keep hgrow hvb (Nat.le_refl _) a0; replace a1 := grown_keep hgrow hvb (Nat.le_refl _) a1; replace a2 := grown_keep hgrow hvb (Nat.le_refl _) a2)))
          go_wp2
          go_roundw
          case rel =>
            have e2 : l ++ boxTo (1 + 1) = M ++ boxI 1 := by rw [e1.out, ← List.append_assoc, hM.out]
            refine ⟨1 + 1, by omega, rfl, ?_, hB.trans (((Below.refl _ _).alloc hB.size _).grown hgrow (by simp; omega) (fun j e => (hown.lt j e).1)), ?_⟩
            · rw [e2, show iqCells (M ++ boxI 1) = iqCells M ++ [.int .i64 0, .int .i64 1, .int .i64 0, .int .i64 20, .int .i64 0, .int .i64 (-1), .int .i64 0, .int .i64 20] by simp [iqCells, boxI, unitP, Iq.cells], List.length_append]; exact hown1
            · have := hgrow.size; simp at this; omega
          case measure => simp [intOf]; omega
        · go_upto_region 7 with (fail)
          refine wp_world fun Y HY => ?_
          have hY : Below wr.heap.size wr Y := by
            rw [HY.out]
            repeat (first | (with_reducible exact Below.refl _ _) | (with_reducible refine Below.drew ?_) | ((with_reducible refine Below.setC ?_ ?_); (focus (first | omega | (simp; done) | (simp; omega)))) | ((with_reducible refine Below.allo ?_ ?_); (focus (first | omega | (simp; done) | (simp; omega)))))
          have upB : Row Y wr.heap.size 26 #[.int .i64 0, .int .i64 0, .int .i64 1] := by
            rw [HY.out]
            refine Row.of ?_
            repeat (first | (with_reducible refine RowG.new ?_) | (with_reducible refine RowG.drew ?_) | (with_reducible refine RowG.set ?_) | ((with_reducible refine RowG.other ?_ ?_); (focus (first | omega | (simp; done) | (simp; omega)))) | ((with_reducible refine RowG.new' ?_ ?_); (focus (first | omega | (simp; done) | (simp; omega)))) | (with_reducible refine RowG.alloc ?_))
            rfl
          obtain ⟨a0, a1, a2⟩ := upB.three
          have hvb : ∀ k, Value.ownBlock _ = some k → k < wr.heap.size := fun k e => (hown.lt k e).2
          replace hown := up_of hY hown
          replace hB := up_of hY hB
          replace dl := up_of hY dl
          have hws := hB.size
          have hneg := Lib.hid (show negP ⟨0,0,1⟩ = ⟨0,0,-1⟩ by simp [negP, wrap64])
          go_region_held3 (fun V => V.cell? ⟨wr.heap.size, 0, none⟩ = some (.int .i64 0) ∧ V.cell? ⟨wr.heap.size, 1, none⟩ = some (.int .i64 0) ∧ V.cell? ⟨wr.heap.size, 2, none⟩ = some (.int .i64 1)) ((first | (with_reducible exact ⟨a0, a1, a2⟩) | ((try dsimp only); (repeat' apply And.intro) <;> (repeat (first | (with_reducible assumption) | (with_reducible refine cell_set (by simp; try omega) ?_) | (with_reducible refine cell_drew ?_) | (with_reducible refine cell_alloc ?_ _)))))) ((first | (go_at_call 58; refine calls_below (W0 := Y) ?_ fun hpre => ?_; (repeat (first | exact Below.refl _ _ | refine Below.alloc ?_ (by simp; try omega) _ | refine Below.drew ?_)); refine (minus_e ⟨0,0,1⟩ _ hneg.out).mono ?_; rintro e N1 ⟨rfl, hb1⟩; have hb := Up.trans hpre hb1; clear hpre; (first | have hs_N1 := below_alloc_lt hb1 | have hs_N1 := below_alloc_lt (drewB hb1) | skip); have dl_N1 := dl; (try replace hown := up_of hb hown); (try replace hB := up_of hb hB); (try replace dl := up_of hb dl); (try replace a0 := up_of hb a0); (try replace a1 := up_of hb a1); (try replace a2 := up_of hb a2); (first | have nB := new_up hb1 | have nB := new_up (drewB hb1) | (try replace nB := up_of hb nB))) | (refine step_append_lies _ (by rfl) _ _ 22 (by rfl) w.heap.size 64 i0 (.agg #[.int .i64 0, .int .i64 0, .int .i64 0, .int .i64 0]) 4 32 Try.underlying22 hi hz0 hz1 hz2 rfl (by decide) _ _ _ (by rfl) (hown.alloc _) ⟨N1.heap.size, 0, none⟩ 2 2 [.int .i64 0, .int .i64 0, .int .i64 1, .int .i64 20, .int .i64 0, .int .i64 0, .int .i64 (-1), .int .i64 20] (by rfl) (by rfl) (news_new _ _ _) (by simp [Value.oneCell']) (by decide) (by unfold maxLen; omega) (by omega) (by simp; omega) (N1.heap.size + 1) (by simp) ?_; intro gg cap w1 hown1 hgrow hat hlt2; replace a0 := grown_keep hgrow hvb (Nat.le_refl _) a0; replace a1 := grown_keep hgrow hvb (Nat.le_refl _) a1; replace a2 := grown_keep hgrow hvb (Nat.le_refl _) a2)))
          go_wp2
          go_roundw
          case rel =>
            have e2 : l ++ boxTo (2 + 1) = M ++ boxI 2 := by rw [e1.out, ← List.append_assoc, hM.out]
            refine ⟨2 + 1, by omega, rfl, ?_, hB.trans (((Below.refl _ _).alloc hB.size _).grown hgrow (by simp; omega) (fun j e => (hown.lt j e).1)), ?_⟩
            · rw [e2, show iqCells (M ++ boxI 2) = iqCells M ++ [.int .i64 0, .int .i64 0, .int .i64 1, .int .i64 20, .int .i64 0, .int .i64 0, .int .i64 (-1), .int .i64 20] by simp [iqCells, boxI, unitP, Iq.cells], List.length_append]; exact hown1
            · have := hgrow.size; simp at this; omega
          case measure => simp [intOf]; omega
      · obtain rfl : k = N := by omega
        obtain ⟨s2, c2, rfl, _⟩ := owns_shape hown
        have hK2 : l ++ boxTo k = K := by rw [← hK.out]; simp [wholeL]
        rw [hK2] at hown ⊢
        replace hK2 := Lib.hid hK2
        go_wp2
        go_ret
        exact ⟨⟨s2, c2, rfl, hown⟩, hB⟩

end Go.Proofs.Ytfebkccdcbkdiaa
