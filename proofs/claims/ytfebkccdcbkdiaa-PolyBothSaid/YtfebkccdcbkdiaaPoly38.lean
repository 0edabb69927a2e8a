/- Both: the reference. -/
import Derived.Test.YtfebkccdcbkdiaaPoly37
import Derived.Test.YtfebkccdcbkdiaaApp
namespace Go.Proofs.Ytfebkccdcbkdiaa
open Go.RowKit

set_option maxRecDepth 100000 in
set_option maxHeartbeats 4000000 in
theorem rBoth_c (n m : Int) (s t : Option Addr) (cs ct : Nat) (l k : List Iq) (w : World) (h : Dom w s l) (g : Dom w t k) (hc : s = none → cs = 0) (gc : t = none → ct = 0) :
    Calls Try.prog 41 #[.agg #[.int .i64 n, .slice s l.length cs], .agg #[.int .i64 m, .slice t k.length ct]] w (DomRet (bothN n m l k) (bothL n m l k) (bothE n m l k) w) := by
  have hlen := h.len
  have glen := g.len
  cases h1 : validB n l
  case false =>
    rw [show bothN n m l k = 0 by simp [bothN, bothE, h1], show bothL n m l k = [] by simp [bothL, bothE, h1], show bothE n m l k = 10 by simp [bothE, h1]]
    go_enter Try.func41, Try.ntmps41
    go_upto_region 1 with (fail)
    refine wp_world fun W HW => ?_
    have hB : Below w.heap.size w W := by rw [HW.out]; (repeat (first | exact Below.refl _ _ | refine Below.alloc ?_ (by simp; try omega) _ | refine Below.setCell ?_ (by simp) _ | refine Below.drew ?_))
    have d0 : W.cell? ⟨w.heap.size, 0, none⟩ = some (.int .i64 n) := by rw [HW.out]; simp [go_sem]
    have d1 : W.cell? ⟨w.heap.size, 1, none⟩ = some (.slice s l.length cs) := by rw [HW.out]; simp [go_sem]
    have dl : w.heap.size < W.heap.size := World.block_lt_of_cell? W _ d0
    have e0 : W.cell? ⟨w.heap.size + 1, 0, none⟩ = some (.int .i64 m) := by rw [HW.out]; simp [go_sem]
    have e1 : W.cell? ⟨w.heap.size + 1, 1, none⟩ = some (.slice t k.length ct) := by rw [HW.out]; simp [go_sem]
    have el : w.heap.size + 1 < W.heap.size := World.block_lt_of_cell? W _ e0
    have rB : Row W (w.heap.size + 2) 24 #[.int .i64 0, .slice none 0 0] := (by rw [HW.out]; (repeat (first | (refine blk_new ?_; simp; done) | refine blk_old ?_ _)) : W.heap[w.heap.size + 2]? = some (.cells #[.int .i64 0, .slice none 0 0] 24 (0, 0)))
    have r0 : W.cell? ⟨w.heap.size + 2, 0, none⟩ = some (.int .i64 0) := by rw [HW.out]; simp [go_sem]
    have r1 : W.cell? ⟨w.heap.size + 2, 1, none⟩ = some (.slice none 0 0) := by rw [HW.out]; simp [go_sem]
    have rl : w.heap.size + 2 < W.heap.size := World.block_lt_of_cell? W _ r0
    try replace h := up_of hB h
    try replace g := up_of hB g
    go_upto_region 2 with (first | (go_at_call 18; refine (rValid_t _ _ _ _ _ (by first | exact h | exact g)).mono ?_; rintro e W1 ⟨rfl, hb⟩; (try replace h := up_of hb h); (try replace g := up_of hb g); (try replace hB := up_of hb hB); (try replace d0 := up_of hb d0); (try replace d1 := up_of hb d1); (try replace dl := up_of hb dl); (try replace e0 := up_of hb e0); (try replace e1 := up_of hb e1); (try replace el := up_of hb el); (try replace rB := up_of hb rB); (try replace r0 := up_of hb r0); (try replace r1 := up_of hb r1); (try replace rl := up_of hb rl)))
    have rf := fun i => Row.frozen rB i
    go_wp2
    refine dom_end rfl none 0 (b1 := w.heap.size + 2) rfl rfl ?_ (World.ownsRow_nil _ _ _ _) ?_
    · refine Row.of ?_
      repeat (first | (with_reducible refine RowG.base rB ?_) | (with_reducible refine RowG.drew ?_) | (with_reducible refine RowG.set ?_) | ((with_reducible refine RowG.other ?_ ?_); (focus (first | omega | (simp; done) | (simp; omega)))) | (with_reducible refine RowG.alloc ?_))
      rfl
    · repeat (first | (with_reducible exact hB) | (with_reducible refine Below.drew ?_) | ((with_reducible refine Below.setC ?_ ?_); (focus (first | omega | (simp; done) | (simp; omega)))) | ((with_reducible refine Below.allo ?_ ?_); (focus (first | omega | (simp; done) | (simp; omega)))))
  cases h2 : validB m k
  case false =>
    rw [show bothN n m l k = 0 by simp [bothN, bothE, h1, h2], show bothL n m l k = [] by simp [bothL, bothE, h1, h2], show bothE n m l k = 10 by simp [bothE, h1, h2]]
    go_enter Try.func41, Try.ntmps41
    go_upto_region 1 with (fail)
    refine wp_world fun W HW => ?_
    have hB : Below w.heap.size w W := by rw [HW.out]; (repeat (first | exact Below.refl _ _ | refine Below.alloc ?_ (by simp; try omega) _ | refine Below.setCell ?_ (by simp) _ | refine Below.drew ?_))
    have d0 : W.cell? ⟨w.heap.size, 0, none⟩ = some (.int .i64 n) := by rw [HW.out]; simp [go_sem]
    have d1 : W.cell? ⟨w.heap.size, 1, none⟩ = some (.slice s l.length cs) := by rw [HW.out]; simp [go_sem]
    have dl : w.heap.size < W.heap.size := World.block_lt_of_cell? W _ d0
    have e0 : W.cell? ⟨w.heap.size + 1, 0, none⟩ = some (.int .i64 m) := by rw [HW.out]; simp [go_sem]
    have e1 : W.cell? ⟨w.heap.size + 1, 1, none⟩ = some (.slice t k.length ct) := by rw [HW.out]; simp [go_sem]
    have el : w.heap.size + 1 < W.heap.size := World.block_lt_of_cell? W _ e0
    have rB : Row W (w.heap.size + 2) 24 #[.int .i64 0, .slice none 0 0] := (by rw [HW.out]; (repeat (first | (refine blk_new ?_; simp; done) | refine blk_old ?_ _)) : W.heap[w.heap.size + 2]? = some (.cells #[.int .i64 0, .slice none 0 0] 24 (0, 0)))
    have r0 : W.cell? ⟨w.heap.size + 2, 0, none⟩ = some (.int .i64 0) := by rw [HW.out]; simp [go_sem]
    have r1 : W.cell? ⟨w.heap.size + 2, 1, none⟩ = some (.slice none 0 0) := by rw [HW.out]; simp [go_sem]
    have rl : w.heap.size + 2 < W.heap.size := World.block_lt_of_cell? W _ r0
    try replace h := up_of hB h
    try replace g := up_of hB g
    go_upto_region 2 with (first | (go_at_call 18; refine (rValid_t _ _ _ _ _ (by first | exact h | exact g)).mono ?_; rintro e W1 ⟨rfl, hb⟩; (try replace h := up_of hb h); (try replace g := up_of hb g); (try replace hB := up_of hb hB); (try replace d0 := up_of hb d0); (try replace d1 := up_of hb d1); (try replace dl := up_of hb dl); (try replace e0 := up_of hb e0); (try replace e1 := up_of hb e1); (try replace el := up_of hb el); (try replace rB := up_of hb rB); (try replace r0 := up_of hb r0); (try replace r1 := up_of hb r1); (try replace rl := up_of hb rl)))
    have rf := fun i => Row.frozen rB i
    go_wp2
    refine dom_end rfl none 0 (b1 := w.heap.size + 2) rfl rfl ?_ (World.ownsRow_nil _ _ _ _) ?_
    · refine Row.of ?_
      repeat (first | (with_reducible refine RowG.base rB ?_) | (with_reducible refine RowG.drew ?_) | (with_reducible refine RowG.set ?_) | ((with_reducible refine RowG.other ?_ ?_); (focus (first | omega | (simp; done) | (simp; omega)))) | (with_reducible refine RowG.alloc ?_))
      rfl
    · repeat (first | (with_reducible exact hB) | (with_reducible refine Below.drew ?_) | ((with_reducible refine Below.setC ?_ ?_); (focus (first | omega | (simp; done) | (simp; omega)))) | ((with_reducible refine Below.allo ?_ ?_); (focus (first | omega | (simp; done) | (simp; omega)))))
  by_cases h3 : n = m
  case neg =>
    have h3' : (n != m) = true := by simpa using h3
    rw [show bothN n m l k = 0 by simp [bothN, bothE, h1, h2, h3], show bothL n m l k = [] by simp [bothL, bothE, h1, h2, h3], show bothE n m l k = 2 by simp [bothE, h1, h2, h3]]
    go_enter Try.func41, Try.ntmps41
    go_upto_region 1 with (fail)
    refine wp_world fun W HW => ?_
    have hB : Below w.heap.size w W := by rw [HW.out]; (repeat (first | exact Below.refl _ _ | refine Below.alloc ?_ (by simp; try omega) _ | refine Below.setCell ?_ (by simp) _ | refine Below.drew ?_))
    have d0 : W.cell? ⟨w.heap.size, 0, none⟩ = some (.int .i64 n) := by rw [HW.out]; simp [go_sem]
    have d1 : W.cell? ⟨w.heap.size, 1, none⟩ = some (.slice s l.length cs) := by rw [HW.out]; simp [go_sem]
    have dl : w.heap.size < W.heap.size := World.block_lt_of_cell? W _ d0
    have e0 : W.cell? ⟨w.heap.size + 1, 0, none⟩ = some (.int .i64 m) := by rw [HW.out]; simp [go_sem]
    have e1 : W.cell? ⟨w.heap.size + 1, 1, none⟩ = some (.slice t k.length ct) := by rw [HW.out]; simp [go_sem]
    have el : w.heap.size + 1 < W.heap.size := World.block_lt_of_cell? W _ e0
    have rB : Row W (w.heap.size + 2) 24 #[.int .i64 0, .slice none 0 0] := (by rw [HW.out]; (repeat (first | (refine blk_new ?_; simp; done) | refine blk_old ?_ _)) : W.heap[w.heap.size + 2]? = some (.cells #[.int .i64 0, .slice none 0 0] 24 (0, 0)))
    have r0 : W.cell? ⟨w.heap.size + 2, 0, none⟩ = some (.int .i64 0) := by rw [HW.out]; simp [go_sem]
    have r1 : W.cell? ⟨w.heap.size + 2, 1, none⟩ = some (.slice none 0 0) := by rw [HW.out]; simp [go_sem]
    have rl : w.heap.size + 2 < W.heap.size := World.block_lt_of_cell? W _ r0
    try replace h := up_of hB h
    try replace g := up_of hB g
    go_upto_region 4 with (first | (go_at_call 18; refine (rValid_t _ _ _ _ _ (by first | exact h | exact g)).mono ?_; rintro e W1 ⟨rfl, hb⟩; (try replace h := up_of hb h); (try replace g := up_of hb g); (try replace hB := up_of hb hB); (try replace d0 := up_of hb d0); (try replace d1 := up_of hb d1); (try replace dl := up_of hb dl); (try replace e0 := up_of hb e0); (try replace e1 := up_of hb e1); (try replace el := up_of hb el); (try replace rB := up_of hb rB); (try replace r0 := up_of hb r0); (try replace r1 := up_of hb r1); (try replace rl := up_of hb rl)))
    have rf := fun i => Row.frozen rB i
    go_wp2
    refine dom_end rfl none 0 (b1 := w.heap.size + 2) rfl rfl ?_ (World.ownsRow_nil _ _ _ _) ?_
    · refine Row.of ?_
      repeat (first | (with_reducible refine RowG.base rB ?_) | (with_reducible refine RowG.drew ?_) | (with_reducible refine RowG.set ?_) | ((with_reducible refine RowG.other ?_ ?_); (focus (first | omega | (simp; done) | (simp; omega)))) | (with_reducible refine RowG.alloc ?_))
      rfl
    · repeat (first | (with_reducible exact hB) | (with_reducible refine Below.drew ?_) | ((with_reducible refine Below.setC ?_ ?_); (focus (first | omega | (simp; done) | (simp; omega)))) | ((with_reducible refine Below.allo ?_ ?_); (focus (first | omega | (simp; done) | (simp; omega)))))
  subst h3
  have hl6 : l.length ≤ 6 ∧ k.length ≤ 6 := by
    simp only [validB, Bool.and_eq_true, decide_eq_true_eq] at h1 h2; omega
  have h3' : (n != n) = false := by simp
  by_cases h4 : (6 : Int) < (l.length : Int) + (k.length : Int)
  case pos =>
    have h4' : 6 < l.length + k.length := by omega
    rw [show bothN n n l k = 0 by simp [bothN, bothE, h1, h2, h4'], show bothL n n l k = [] by simp [bothL, bothE, h1, h2, h4'], show bothE n n l k = 4 by simp [bothE, h1, h2, h4']]
    clear h4'
    go_enter Try.func41, Try.ntmps41
    go_upto_region 1 with (fail)
    refine wp_world fun W HW => ?_
    have hB : Below w.heap.size w W := by rw [HW.out]; (repeat (first | exact Below.refl _ _ | refine Below.alloc ?_ (by simp; try omega) _ | refine Below.setCell ?_ (by simp) _ | refine Below.drew ?_))
    have d0 : W.cell? ⟨w.heap.size, 0, none⟩ = some (.int .i64 n) := by rw [HW.out]; simp [go_sem]
    have d1 : W.cell? ⟨w.heap.size, 1, none⟩ = some (.slice s l.length cs) := by rw [HW.out]; simp [go_sem]
    have dl : w.heap.size < W.heap.size := World.block_lt_of_cell? W _ d0
    have e0 : W.cell? ⟨w.heap.size + 1, 0, none⟩ = some (.int .i64 n) := by rw [HW.out]; simp [go_sem]
    have e1 : W.cell? ⟨w.heap.size + 1, 1, none⟩ = some (.slice t k.length ct) := by rw [HW.out]; simp [go_sem]
    have el : w.heap.size + 1 < W.heap.size := World.block_lt_of_cell? W _ e0
    have rB : Row W (w.heap.size + 2) 24 #[.int .i64 0, .slice none 0 0] := (by rw [HW.out]; (repeat (first | (refine blk_new ?_; simp; done) | refine blk_old ?_ _)) : W.heap[w.heap.size + 2]? = some (.cells #[.int .i64 0, .slice none 0 0] 24 (0, 0)))
    have r0 : W.cell? ⟨w.heap.size + 2, 0, none⟩ = some (.int .i64 0) := by rw [HW.out]; simp [go_sem]
    have r1 : W.cell? ⟨w.heap.size + 2, 1, none⟩ = some (.slice none 0 0) := by rw [HW.out]; simp [go_sem]
    have rl : w.heap.size + 2 < W.heap.size := World.block_lt_of_cell? W _ r0
    try replace h := up_of hB h
    try replace g := up_of hB g
    go_upto_region 6 with (first | (go_at_call 18; refine (rValid_t _ _ _ _ _ (by first | exact h | exact g)).mono ?_; rintro e W1 ⟨rfl, hb⟩; (try replace h := up_of hb h); (try replace g := up_of hb g); (try replace hB := up_of hb hB); (try replace d0 := up_of hb d0); (try replace d1 := up_of hb d1); (try replace dl := up_of hb dl); (try replace e0 := up_of hb e0); (try replace e1 := up_of hb e1); (try replace el := up_of hb el); (try replace rB := up_of hb rB); (try replace r0 := up_of hb r0); (try replace r1 := up_of hb r1); (try replace rl := up_of hb rl)))
    have rf := fun i => Row.frozen rB i
    go_wp2
    refine dom_end rfl none 0 (b1 := w.heap.size + 2) rfl rfl ?_ (World.ownsRow_nil _ _ _ _) ?_
    · refine Row.of ?_
      repeat (first | (with_reducible refine RowG.base rB ?_) | (with_reducible refine RowG.drew ?_) | (with_reducible refine RowG.set ?_) | ((with_reducible refine RowG.other ?_ ?_); (focus (first | omega | (simp; done) | (simp; omega)))) | (with_reducible refine RowG.alloc ?_))
      rfl
    · repeat (first | (with_reducible exact hB) | (with_reducible refine Below.drew ?_) | ((with_reducible refine Below.setC ?_ ?_); (focus (first | omega | (simp; done) | (simp; omega)))) | ((with_reducible refine Below.allo ?_ ?_); (focus (first | omega | (simp; done) | (simp; omega)))))
  have h4' : ¬ 6 < l.length + k.length := by omega
  rw [show bothN n n l k = n by simp [bothN, bothE, h1, h2, h4'], show bothL n n l k = l ++ k by simp [bothL, bothE, h1, h2, h4'], show bothE n n l k = 0 by simp [bothE, h1, h2, h4']]
  clear h4'
  obtain ⟨K, hK⟩ : ∃ K, l ++ k = K := ⟨_, rfl⟩
  rw [hK]
  replace hK := Lib.hid hK
  obtain ⟨i0, hi, hz0, hz1, hz2⟩ := info_parts info_iq
  have hg0 := Lib.hid g
  go_enter Try.func41, Try.ntmps41
  go_upto_region 1 with (fail)
  refine wp_world fun W HW => ?_
  have hB : Below w.heap.size w W := by rw [HW.out]; (repeat (first | exact Below.refl _ _ | refine Below.alloc ?_ (by simp; try omega) _ | refine Below.setCell ?_ (by simp) _ | refine Below.drew ?_))
  have dB : Row W (w.heap.size) 24 #[.int .i64 n, .slice s l.length cs] := (by rw [HW.out]; (repeat (first | (refine blk_new ?_; simp; done) | refine blk_old ?_ _)) : W.heap[w.heap.size]? = some (.cells #[.int .i64 n, .slice s l.length cs] 24 (0, 0)))
  have d0 : W.cell? ⟨w.heap.size, 0, none⟩ = some (.int .i64 n) := by rw [HW.out]; simp [go_sem]
  have d1 : W.cell? ⟨w.heap.size, 1, none⟩ = some (.slice s l.length cs) := by rw [HW.out]; simp [go_sem]
  have dl : w.heap.size < W.heap.size := World.block_lt_of_cell? W _ d0
  have eB : Row W (w.heap.size + 1) 24 #[.int .i64 n, .slice t k.length ct] := (by rw [HW.out]; (repeat (first | (refine blk_new ?_; simp; done) | refine blk_old ?_ _)) : W.heap[w.heap.size + 1]? = some (.cells #[.int .i64 n, .slice t k.length ct] 24 (0, 0)))
  have e0 : W.cell? ⟨w.heap.size + 1, 0, none⟩ = some (.int .i64 n) := by rw [HW.out]; simp [go_sem]
  have e1 : W.cell? ⟨w.heap.size + 1, 1, none⟩ = some (.slice t k.length ct) := by rw [HW.out]; simp [go_sem]
  have el : w.heap.size + 1 < W.heap.size := World.block_lt_of_cell? W _ e0
  have rB : Row W (w.heap.size + 2) 24 #[.int .i64 0, .slice none 0 0] := (by rw [HW.out]; (repeat (first | (refine blk_new ?_; simp; done) | refine blk_old ?_ _)) : W.heap[w.heap.size + 2]? = some (.cells #[.int .i64 0, .slice none 0 0] 24 (0, 0)))
  have r0 : W.cell? ⟨w.heap.size + 2, 0, none⟩ = some (.int .i64 0) := by rw [HW.out]; simp [go_sem]
  have r1 : W.cell? ⟨w.heap.size + 2, 1, none⟩ = some (.slice none 0 0) := by rw [HW.out]; simp [go_sem]
  have rl : w.heap.size + 2 < W.heap.size := World.block_lt_of_cell? W _ r0
  try replace h := up_of hB h
  try replace g := up_of hB g
  go_upto_region 8 with (first | (go_at_call 18; refine (rValid_t _ _ _ _ _ (by first | exact h | exact g)).mono ?_; rintro e W1 ⟨rfl, hb⟩; (try replace h := up_of hb h); (try replace g := up_of hb g); (try replace hB := up_of hb hB); (try replace dB := up_of hb dB); (try replace d0 := up_of hb d0); (try replace d1 := up_of hb d1); (try replace dl := up_of hb dl); (try replace eB := up_of hb eB); (try replace e0 := up_of hb e0); (try replace e1 := up_of hb e1); (try replace el := up_of hb el); (try replace rB := up_of hb rB); (try replace r0 := up_of hb r0); (try replace r1 := up_of hb r1); (try replace rl := up_of hb rl)))
  have hW1 := rl
  refine wp_world fun M HM => ?_
  have hM : Below W1.heap.size W1 M := by rw [HM.out]; (repeat (first | exact Below.refl _ _ | refine Below.alloc ?_ (by simp; try omega) _ | refine Below.setCell ?_ (by simp) _ | refine Below.drew ?_))
  have uB : Row M (W1.heap.size) 24 #[.int .i64 n, .slice none 0 0] := (by rw [HM.out]; (repeat (first | (refine blk_new ?_; simp; done) | refine blk_old ?_ _)) : M.heap[W1.heap.size]? = some (.cells #[.int .i64 n, .slice none 0 0] 24 (0, 0)))
  have u0 : M.cell? ⟨W1.heap.size, 0, none⟩ = some (.int .i64 n) := by rw [HM.out]; simp [go_sem]
  have u1 : M.cell? ⟨W1.heap.size, 1, none⟩ = some (.slice none 0 0) := by rw [HM.out]; simp [go_sem]
  have ul : W1.heap.size < M.heap.size := World.block_lt_of_cell? M _ u0
  try replace h := up_of hM h
  try replace g := up_of hM g
  try replace hB := up_of hM hB
  try replace dB := up_of hM dB
  try replace d0 := up_of hM d0
  try replace d1 := up_of hM d1
  try replace dl := up_of hM dl
  try replace eB := up_of hM eB
  try replace e0 := up_of hM e0
  try replace e1 := up_of hM e1
  try replace el := up_of hM el
  try replace rB := up_of hM rB
  try replace r0 := up_of hM r0
  try replace r1 := up_of hM r1
  try replace rl := up_of hM rl
  have hn0 : M.ownsRow (W1.heap.size + 1) 64 4 (.slice none 0 0) 0 [] := World.ownsRow_nil _ _ _ _
  have hs2 := Lib.hid h.iq.sl
  have hc' := Lib.hid hc
  have gc' := Lib.hid gc
  clear hc gc
  have uf := uB.frozen 1
  go_upto_region 9 with (at_builtin; (refine wpList_append_sl iqE rfl _ _ 22 rfl (W1.heap.size + 1) 64 i0 (.agg #[.int .i64 0, .int .i64 0, .int .i64 0, .int .i64 0]) 32 Try.underlying22 hi hz0 hz1 hz2 rfl _ _ _ rfl hn0 s cs l rfl hs2.out hc'.out (by unfold maxLen; omega) (by omega) (by have := ul; omega) ?_; intro v1 w1 hown1 hgrow; have uB1 : Row w1 W1.heap.size _ _ := (hgrow.block _ ul (fun e => by have e2 : (some W1.heap.size : Option Nat) = none := e; cases e2)).trans uB; obtain ⟨u0, u1⟩ := uB1.two; have uf := uB1.frozen 1; obtain ⟨s1, c1, rfl, _⟩ := owns_shape hown1))
  simp only [Nat.zero_add, List.nil_append] at hown1
  have hB1 : Below w.heap.size w w1 := hB.grown hgrow (by have := hB.size; omega) (fun j e => by have e2 : (none : Option Nat) = some j := e; cases e2)
  refine wp_world fun X HX => ?_
  have hBX : Below w.heap.size w X := by
    rw [HX.out]
    repeat (first | (with_reducible exact hB1) | (with_reducible refine Below.drew ?_) | ((with_reducible refine Below.setC ?_ ?_); (focus (first | omega | (simp; done) | (simp; omega)))) | ((with_reducible refine Below.allo ?_ ?_); (focus (first | omega | (simp; done) | (simp; omega)))))
  have uX : Row X W1.heap.size 24 #[.int .i64 n, .slice s1 l.length c1] := by
    rw [HX.out]
    refine Row.of ?_
    repeat (first | (with_reducible refine RowG.base uB1 ?_) | (with_reducible refine RowG.drew ?_) | (with_reducible refine RowG.set ?_) | ((with_reducible refine RowG.other ?_ ?_); (focus (first | omega | (simp; done) | (simp; omega)))) | (with_reducible refine RowG.alloc ?_))
    (simp)
  have hM1 : Below M.heap.size M w1 := (Below.refl _ _).grown hgrow (Nat.le_refl _) (fun j e => by have e2 : (none : Option Nat) = some j := e; cases e2)
  have hCX : Chg (fun j => j = W1.heap.size) M X := by
    rw [HX.out]
    have hC1 : Chg (fun j => j = W1.heap.size) M w1 := Chg.of_below hM1
    repeat (first | (with_reducible exact hC1) | (with_reducible refine Chg.setCell ?_ (by simp) _) | (with_reducible refine Chg.drew ?_) | (with_reducible refine Chg.alloc ?_ _))
  have eX := hCX.row (by omega) eB
  have rX := hCX.row (by omega) rB
  have dX := hCX.row (by omega) dB
  have gX := up_of hBX hg0.out
  have hoX : X.ownsRow (W1.heap.size + 1) 64 4 (.slice s1 l.length c1) l.length (iqCells l) := by
    have hC1 : Chg (fun j => j = W1.heap.size) w1 X := by
      rw [HX.out]
      repeat (first | (with_reducible exact Chg.refl _ _) | (with_reducible refine Chg.setCell ?_ (by simp) _) | (with_reducible refine Chg.drew ?_) | (with_reducible refine Chg.alloc ?_ _))
    exact own_chg hC1 (fun j hj e => by omega) hown1
  have hux := uX.lt
  obtain ⟨d0, d1⟩ := dX.two
  obtain ⟨e0, e1⟩ := eX.two
  obtain ⟨u0, u1⟩ := uX.two
  have uf := uX.frozen 1
  have gs := Lib.hid gX.iq.sl
  have e3 : iqCells K = iqCells l ++ Elt.all iqE k := by rw [← hK.out]; simp [iqCells, Elt.all, iqE]
  have hl3 : l.length + k.length = K.length := by rw [← hK.out, List.length_append]
  replace e3 := Lib.hid e3; replace hl3 := Lib.hid hl3
  go_upto_region 10 with (at_builtin; (refine wpList_append_sl iqE rfl _ _ 22 rfl (W1.heap.size + 1) 64 i0 (.agg #[.int .i64 0, .int .i64 0, .int .i64 0, .int .i64 0]) 32 Try.underlying22 hi hz0 hz1 hz2 rfl _ _ _ rfl hoX t ct k rfl gs.out gc'.out (by unfold maxLen; omega) (by omega) (by omega) ?_; intro v2 w2 hown2 hgrow2; have hne : ∀ b, b < W1.heap.size + 1 → some b ≠ Value.ownBlock (.slice s1 l.length c1) := (fun b hb e => by have := (hoX.lt b e.symm).1; omega); have uB2 : Row w2 W1.heap.size _ _ := (hgrow2.block _ hux (hne _ (by omega))).trans uX; have rB2 : Row w2 (w.heap.size + 2) _ _ := (hgrow2.block _ rX.lt (hne _ (by omega))).trans rX; obtain ⟨u0, u1⟩ := uB2.two; have uf := uB2.frozen 1; obtain ⟨s2, c2, rfl, _⟩ := owns_shape hown2))
  have hB2 : Below w.heap.size w w2 := hBX.grown hgrow2 (by omega) (fun j e => by have := (hoX.lt j e).1; omega)
  have rf := fun i => Row.frozen rB2 i
  obtain ⟨r0, r1⟩ := rB2.two
  rw [← e3.out, hl3.out] at hown2
  rw [hl3.out]
  go_wp2
  refine dom_end rfl s2 c2 (b1 := w.heap.size + 2) rfl rfl ?_ ?_ ?_
  · refine Row.of ?_
    repeat (first | (with_reducible refine RowG.base rB2 ?_) | (with_reducible refine RowG.drew ?_) | (with_reducible refine RowG.set ?_) | ((with_reducible refine RowG.other ?_ ?_); (focus (first | omega | (simp; done) | (simp; omega)))) | (with_reducible refine RowG.alloc ?_))
    rfl
  · refine owns_mono (own_chg (p := fun j => j = W1.heap.size ∨ j = w.heap.size + 2) ?_ (fun j hj e => by omega) hown2) (by have := hB.size; omega)
    repeat (first | (with_reducible exact Chg.refl _ _) | (with_reducible refine Chg.setCell ?_ (by simp) _) | (with_reducible refine Chg.drew ?_) | (with_reducible refine Chg.alloc ?_ _))
  · repeat (first | (with_reducible exact hB2) | (with_reducible refine Below.drew ?_) | ((with_reducible refine Below.setC ?_ ?_); (focus (first | omega | (simp; done) | (simp; omega)))) | ((with_reducible refine Below.allo ?_ ?_); (focus (first | omega | (simp; done) | (simp; omega)))))
end Go.Proofs.Ytfebkccdcbkdiaa
