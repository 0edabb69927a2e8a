/- A schedule that is slower: the reference. -/
import Derived.Test.YtbpdgoedglkefaaSch24
namespace Go.Proofs.Ytbpdgoedglkefaa
open Go.RowKit

set_option maxRecDepth 100000 in
set_option maxHeartbeats 4000000 in
theorem rSlow_c (n : Int) (s : Option Addr) (cap : Nat) (l : List Iq) (s2 : Option Addr) (cq : Nat) (K : List Vv) (q : Sd) (kk : Int) (w : World) (hr : RecM w s l s2 cq K) (hq : SdM w q) :
    Calls Try.prog 41 #[.agg #[.int .i64 n, .slice s l.length cap, .slice s2 K.length cq], .agg #[.int .i64 q.f.x, .int .i64 q.f.y, .int .i64 q.f.z, .slice q.s q.off.length q.cap], .int .i64 kk] w
      (SdRet (if slowE n l K q kk = 0 then mulP kk q.f else ⟨0, 0, 0⟩) (if slowE n l K q kk = 0 then mulO K.length kk q.off else []) (slowE n l K q kk) w) := by
  have hal := fun V (h : RecM V s l s2 cq K) (h1 : SdM V q) => Asked_c n s cap l s2 cq K q V h h1
  have hse : slowE n l K q kk = if chkE n l K [q] ≠ 0 then chkE n l K [q] else if bw 1 kk 9 then (if legB K q then (if fitB n K.length (mulP kk q.f) (mulO K.length kk q.off) then 0 else 4) else 31) else 2 := rfl
  by_cases h0 : chkE n l K [q] = 0
  case neg =>
    rw [if_pos h0] at hse
    obtain ⟨E, hE⟩ : ∃ x, chkE n l K [q] = x := ⟨_, rfl⟩
    simp only [hse, hE] at hal h0 ⊢
    rw [if_neg h0, if_neg h0]
    have k1 : (E != 0) = true := bne_iff_ne.2 h0
    replace hal := Lib.hid hal
    clear hE hse
    go_enter Try.func41, Try.ntmps41
    go_upto_region 1 with (fail)
    refine wp_world fun W HW => ?_
    have hB : Below w.heap.size w W := by rw [HW.out]; (repeat (first | exact Below.refl _ _ | refine Below.alloc ?_ (by simp; try omega) _ | refine Below.setCell ?_ (by simp) _ | refine Below.drew ?_))
    have d0 : W.cell? ⟨w.heap.size, 0, none⟩ = some (.int .i64 n) := by rw [HW.out]; simp [go_sem]
    have d1 : W.cell? ⟨w.heap.size, 1, none⟩ = some (.slice s l.length cap) := by rw [HW.out]; simp [go_sem]
    have d2 : W.cell? ⟨w.heap.size, 2, none⟩ = some (.slice s2 K.length cq) := by rw [HW.out]; simp [go_sem]
    have dl : w.heap.size < W.heap.size := World.block_lt_of_cell? W _ d0
    have g0 : W.cell? ⟨w.heap.size + 1, 0, none⟩ = some (.int .i64 q.f.x) := by rw [HW.out]; simp [go_sem]
    have g1 : W.cell? ⟨w.heap.size + 1, 1, none⟩ = some (.int .i64 q.f.y) := by rw [HW.out]; simp [go_sem]
    have g2 : W.cell? ⟨w.heap.size + 1, 2, none⟩ = some (.int .i64 q.f.z) := by rw [HW.out]; simp [go_sem]
    have g3 : W.cell? ⟨w.heap.size + 1, 3, none⟩ = some (.slice q.s q.off.length q.cap) := by rw [HW.out]; simp [go_sem]
    have gl : w.heap.size + 1 < W.heap.size := World.block_lt_of_cell? W _ g0
    have oB : Row W (w.heap.size + 2) 32 #[.int .i64 0, .int .i64 0, .int .i64 0, .slice none 0 0] := (by rw [HW.out]; (repeat (first | (refine blk_new ?_; simp; done) | refine blk_old ?_ _)) : W.heap[w.heap.size + 2]? = some (.cells #[.int .i64 0, .int .i64 0, .int .i64 0, .slice none 0 0] 32 (0, 0)))
    have o0 : W.cell? ⟨w.heap.size + 2, 0, none⟩ = some (.int .i64 0) := by rw [HW.out]; simp [go_sem]
    have o1 : W.cell? ⟨w.heap.size + 2, 1, none⟩ = some (.int .i64 0) := by rw [HW.out]; simp [go_sem]
    have o2 : W.cell? ⟨w.heap.size + 2, 2, none⟩ = some (.int .i64 0) := by rw [HW.out]; simp [go_sem]
    have o3 : W.cell? ⟨w.heap.size + 2, 3, none⟩ = some (.slice none 0 0) := by rw [HW.out]; simp [go_sem]
    have ol : w.heap.size + 2 < W.heap.size := World.block_lt_of_cell? W _ o0
    try replace hr := up_of hB hr
    try replace hq := up_of hB hq
    go_upto_region 3 with (first | (go_at_call 61; refine (hal.out _ hr hq).mono ?_; rintro e W1 ⟨rfl, hb⟩; (try replace hr := up_of hb hr); (try replace hq := up_of hb hq); (try replace hB := up_of hb hB); (try replace d0 := up_of hb d0); (try replace d1 := up_of hb d1); (try replace d2 := up_of hb d2); (try replace dl := up_of hb dl); (try replace g0 := up_of hb g0); (try replace g1 := up_of hb g1); (try replace g2 := up_of hb g2); (try replace g3 := up_of hb g3); (try replace gl := up_of hb gl); (try replace oB := up_of hb oB); (try replace o0 := up_of hb o0); (try replace o1 := up_of hb o1); (try replace o2 := up_of hb o2); (try replace o3 := up_of hb o3); (try replace ol := up_of hb ol)))
    have rf := fun i => Row.frozen oB i
    go_wp2
    refine sd_end rfl none 0 (b1 := w.heap.size + 2) rfl rfl ?_ SlS.nil ?_
    · refine Row.of ?_
      repeat (first | (with_reducible refine RowG.base oB ?_) | (with_reducible refine RowG.drew ?_) | (with_reducible refine RowG.set ?_) | ((with_reducible refine RowG.other ?_ ?_); (focus (first | omega | (simp; done) | (simp; omega)))) | (with_reducible refine RowG.alloc ?_))
      rfl
    · repeat (first | (with_reducible exact hB) | (with_reducible refine Below.drew ?_) | ((with_reducible refine Below.setC ?_ ?_); (focus (first | omega | (simp; done) | (simp; omega)))) | ((with_reducible refine Below.allo ?_ ?_); (focus (first | omega | (simp; done) | (simp; omega)))))
  rw [if_neg (fun h => h h0)] at hse
  rw [h0] at hal
  obtain ⟨hrb, -, hk1, hk4, -, -, qf, ql, qo⟩ := chk_ok h0
  cases hbk : bw 1 kk 9
  case false =>
    rw [hbk] at hse
    simp only [Bool.false_eq_true, if_false] at hse
    simp only [hse]
    replace hal := Lib.hid hal; replace ql := Lib.hid ql
    have hkx : kk < 1 ∨ 9 < kk := by
      apply Classical.byContradiction; intro hh; rw [bw_iff.2 (by omega)] at hbk; cases hbk
    clear hse hbk h0
    rcases hkx with hkx | hkx
    · have k9 : kk < 1 := hkx
      go_enter Try.func41, Try.ntmps41
      go_upto_region 1 with (fail)
      refine wp_world fun W HW => ?_
      have hB : Below w.heap.size w W := by rw [HW.out]; (repeat (first | exact Below.refl _ _ | refine Below.alloc ?_ (by simp; try omega) _ | refine Below.setCell ?_ (by simp) _ | refine Below.drew ?_))
      have d0 : W.cell? ⟨w.heap.size, 0, none⟩ = some (.int .i64 n) := by rw [HW.out]; simp [go_sem]
      have d1 : W.cell? ⟨w.heap.size, 1, none⟩ = some (.slice s l.length cap) := by rw [HW.out]; simp [go_sem]
      have d2 : W.cell? ⟨w.heap.size, 2, none⟩ = some (.slice s2 K.length cq) := by rw [HW.out]; simp [go_sem]
      have dl : w.heap.size < W.heap.size := World.block_lt_of_cell? W _ d0
      have g0 : W.cell? ⟨w.heap.size + 1, 0, none⟩ = some (.int .i64 q.f.x) := by rw [HW.out]; simp [go_sem]
      have g1 : W.cell? ⟨w.heap.size + 1, 1, none⟩ = some (.int .i64 q.f.y) := by rw [HW.out]; simp [go_sem]
      have g2 : W.cell? ⟨w.heap.size + 1, 2, none⟩ = some (.int .i64 q.f.z) := by rw [HW.out]; simp [go_sem]
      have g3 : W.cell? ⟨w.heap.size + 1, 3, none⟩ = some (.slice q.s q.off.length q.cap) := by rw [HW.out]; simp [go_sem]
      have gl : w.heap.size + 1 < W.heap.size := World.block_lt_of_cell? W _ g0
      have oB : Row W (w.heap.size + 2) 32 #[.int .i64 0, .int .i64 0, .int .i64 0, .slice none 0 0] := (by rw [HW.out]; (repeat (first | (refine blk_new ?_; simp; done) | refine blk_old ?_ _)) : W.heap[w.heap.size + 2]? = some (.cells #[.int .i64 0, .int .i64 0, .int .i64 0, .slice none 0 0] 32 (0, 0)))
      have o0 : W.cell? ⟨w.heap.size + 2, 0, none⟩ = some (.int .i64 0) := by rw [HW.out]; simp [go_sem]
      have o1 : W.cell? ⟨w.heap.size + 2, 1, none⟩ = some (.int .i64 0) := by rw [HW.out]; simp [go_sem]
      have o2 : W.cell? ⟨w.heap.size + 2, 2, none⟩ = some (.int .i64 0) := by rw [HW.out]; simp [go_sem]
      have o3 : W.cell? ⟨w.heap.size + 2, 3, none⟩ = some (.slice none 0 0) := by rw [HW.out]; simp [go_sem]
      have ol : w.heap.size + 2 < W.heap.size := World.block_lt_of_cell? W _ o0
      try replace hr := up_of hB hr
      try replace hq := up_of hB hq
      go_upto_region 5 with (first | (go_at_call 61; refine (hal.out _ hr hq).mono ?_; rintro e W1 ⟨rfl, hb⟩; (try replace hr := up_of hb hr); (try replace hq := up_of hb hq); (try replace hB := up_of hb hB); (try replace d0 := up_of hb d0); (try replace d1 := up_of hb d1); (try replace d2 := up_of hb d2); (try replace dl := up_of hb dl); (try replace g0 := up_of hb g0); (try replace g1 := up_of hb g1); (try replace g2 := up_of hb g2); (try replace g3 := up_of hb g3); (try replace gl := up_of hb gl); (try replace oB := up_of hb oB); (try replace o0 := up_of hb o0); (try replace o1 := up_of hb o1); (try replace o2 := up_of hb o2); (try replace o3 := up_of hb o3); (try replace ol := up_of hb ol)))
      have rf := fun i => Row.frozen oB i
      go_wp2
      refine sd_end rfl none 0 (b1 := w.heap.size + 2) rfl rfl ?_ SlS.nil ?_
      · refine Row.of ?_
        repeat (first | (with_reducible refine RowG.base oB ?_) | (with_reducible refine RowG.drew ?_) | (with_reducible refine RowG.set ?_) | ((with_reducible refine RowG.other ?_ ?_); (focus (first | omega | (simp; done) | (simp; omega)))) | (with_reducible refine RowG.alloc ?_))
        rfl
      · repeat (first | (with_reducible exact hB) | (with_reducible refine Below.drew ?_) | ((with_reducible refine Below.setC ?_ ?_); (focus (first | omega | (simp; done) | (simp; omega)))) | ((with_reducible refine Below.allo ?_ ?_); (focus (first | omega | (simp; done) | (simp; omega)))))
    · have k8 : ¬ kk < 1 := by omega
      go_enter Try.func41, Try.ntmps41
      go_upto_region 1 with (fail)
      refine wp_world fun W HW => ?_
      have hB : Below w.heap.size w W := by rw [HW.out]; (repeat (first | exact Below.refl _ _ | refine Below.alloc ?_ (by simp; try omega) _ | refine Below.setCell ?_ (by simp) _ | refine Below.drew ?_))
      have d0 : W.cell? ⟨w.heap.size, 0, none⟩ = some (.int .i64 n) := by rw [HW.out]; simp [go_sem]
      have d1 : W.cell? ⟨w.heap.size, 1, none⟩ = some (.slice s l.length cap) := by rw [HW.out]; simp [go_sem]
      have d2 : W.cell? ⟨w.heap.size, 2, none⟩ = some (.slice s2 K.length cq) := by rw [HW.out]; simp [go_sem]
      have dl : w.heap.size < W.heap.size := World.block_lt_of_cell? W _ d0
      have g0 : W.cell? ⟨w.heap.size + 1, 0, none⟩ = some (.int .i64 q.f.x) := by rw [HW.out]; simp [go_sem]
      have g1 : W.cell? ⟨w.heap.size + 1, 1, none⟩ = some (.int .i64 q.f.y) := by rw [HW.out]; simp [go_sem]
      have g2 : W.cell? ⟨w.heap.size + 1, 2, none⟩ = some (.int .i64 q.f.z) := by rw [HW.out]; simp [go_sem]
      have g3 : W.cell? ⟨w.heap.size + 1, 3, none⟩ = some (.slice q.s q.off.length q.cap) := by rw [HW.out]; simp [go_sem]
      have gl : w.heap.size + 1 < W.heap.size := World.block_lt_of_cell? W _ g0
      have oB : Row W (w.heap.size + 2) 32 #[.int .i64 0, .int .i64 0, .int .i64 0, .slice none 0 0] := (by rw [HW.out]; (repeat (first | (refine blk_new ?_; simp; done) | refine blk_old ?_ _)) : W.heap[w.heap.size + 2]? = some (.cells #[.int .i64 0, .int .i64 0, .int .i64 0, .slice none 0 0] 32 (0, 0)))
      have o0 : W.cell? ⟨w.heap.size + 2, 0, none⟩ = some (.int .i64 0) := by rw [HW.out]; simp [go_sem]
      have o1 : W.cell? ⟨w.heap.size + 2, 1, none⟩ = some (.int .i64 0) := by rw [HW.out]; simp [go_sem]
      have o2 : W.cell? ⟨w.heap.size + 2, 2, none⟩ = some (.int .i64 0) := by rw [HW.out]; simp [go_sem]
      have o3 : W.cell? ⟨w.heap.size + 2, 3, none⟩ = some (.slice none 0 0) := by rw [HW.out]; simp [go_sem]
      have ol : w.heap.size + 2 < W.heap.size := World.block_lt_of_cell? W _ o0
      try replace hr := up_of hB hr
      try replace hq := up_of hB hq
      go_upto_region 5 with (first | (go_at_call 61; refine (hal.out _ hr hq).mono ?_; rintro e W1 ⟨rfl, hb⟩; (try replace hr := up_of hb hr); (try replace hq := up_of hb hq); (try replace hB := up_of hb hB); (try replace d0 := up_of hb d0); (try replace d1 := up_of hb d1); (try replace d2 := up_of hb d2); (try replace dl := up_of hb dl); (try replace g0 := up_of hb g0); (try replace g1 := up_of hb g1); (try replace g2 := up_of hb g2); (try replace g3 := up_of hb g3); (try replace gl := up_of hb gl); (try replace oB := up_of hb oB); (try replace o0 := up_of hb o0); (try replace o1 := up_of hb o1); (try replace o2 := up_of hb o2); (try replace o3 := up_of hb o3); (try replace ol := up_of hb ol)))
      have rf := fun i => Row.frozen oB i
      go_wp2
      refine sd_end rfl none 0 (b1 := w.heap.size + 2) rfl rfl ?_ SlS.nil ?_
      · refine Row.of ?_
        repeat (first | (with_reducible refine RowG.base oB ?_) | (with_reducible refine RowG.drew ?_) | (with_reducible refine RowG.set ?_) | ((with_reducible refine RowG.other ?_ ?_); (focus (first | omega | (simp; done) | (simp; omega)))) | (with_reducible refine RowG.alloc ?_))
        rfl
      · repeat (first | (with_reducible exact hB) | (with_reducible refine Below.drew ?_) | ((with_reducible refine Below.setC ?_ ?_); (focus (first | omega | (simp; done) | (simp; omega)))) | ((with_reducible refine Below.allo ?_ ?_); (focus (first | omega | (simp; done) | (simp; omega)))))
  rw [hbk] at hse
  have hkk := bw_iff.1 hbk
  have k8 : ¬ kk < 1 := by omega
  have k9 : ¬ 9 < kk := by omega
  have hlg := fun V (h : RecM V s l s2 cq K) (h1 : SdM V q) => IsLegal_c n s cap l s2 cq K q V h h1 hrb ql hk4
  cases hlb : legB K q
  case false =>
    rw [hlb] at hlg hse
    simp only [Bool.false_eq_true, if_false, if_true] at hse
    simp only [hse]
    replace hal := Lib.hid hal; replace ql := Lib.hid ql; replace hlg := Lib.hid hlg
    clear hse hbk h0 hlb
    go_enter Try.func41, Try.ntmps41
    go_upto_region 1 with (fail)
    refine wp_world fun W HW => ?_
    have hB : Below w.heap.size w W := by rw [HW.out]; (repeat (first | exact Below.refl _ _ | refine Below.alloc ?_ (by simp; try omega) _ | refine Below.setCell ?_ (by simp) _ | refine Below.drew ?_))
    have d0 : W.cell? ⟨w.heap.size, 0, none⟩ = some (.int .i64 n) := by rw [HW.out]; simp [go_sem]
    have d1 : W.cell? ⟨w.heap.size, 1, none⟩ = some (.slice s l.length cap) := by rw [HW.out]; simp [go_sem]
    have d2 : W.cell? ⟨w.heap.size, 2, none⟩ = some (.slice s2 K.length cq) := by rw [HW.out]; simp [go_sem]
    have dl : w.heap.size < W.heap.size := World.block_lt_of_cell? W _ d0
    have g0 : W.cell? ⟨w.heap.size + 1, 0, none⟩ = some (.int .i64 q.f.x) := by rw [HW.out]; simp [go_sem]
    have g1 : W.cell? ⟨w.heap.size + 1, 1, none⟩ = some (.int .i64 q.f.y) := by rw [HW.out]; simp [go_sem]
    have g2 : W.cell? ⟨w.heap.size + 1, 2, none⟩ = some (.int .i64 q.f.z) := by rw [HW.out]; simp [go_sem]
    have g3 : W.cell? ⟨w.heap.size + 1, 3, none⟩ = some (.slice q.s q.off.length q.cap) := by rw [HW.out]; simp [go_sem]
    have gl : w.heap.size + 1 < W.heap.size := World.block_lt_of_cell? W _ g0
    have oB : Row W (w.heap.size + 2) 32 #[.int .i64 0, .int .i64 0, .int .i64 0, .slice none 0 0] := (by rw [HW.out]; (repeat (first | (refine blk_new ?_; simp; done) | refine blk_old ?_ _)) : W.heap[w.heap.size + 2]? = some (.cells #[.int .i64 0, .int .i64 0, .int .i64 0, .slice none 0 0] 32 (0, 0)))
    have o0 : W.cell? ⟨w.heap.size + 2, 0, none⟩ = some (.int .i64 0) := by rw [HW.out]; simp [go_sem]
    have o1 : W.cell? ⟨w.heap.size + 2, 1, none⟩ = some (.int .i64 0) := by rw [HW.out]; simp [go_sem]
    have o2 : W.cell? ⟨w.heap.size + 2, 2, none⟩ = some (.int .i64 0) := by rw [HW.out]; simp [go_sem]
    have o3 : W.cell? ⟨w.heap.size + 2, 3, none⟩ = some (.slice none 0 0) := by rw [HW.out]; simp [go_sem]
    have ol : w.heap.size + 2 < W.heap.size := World.block_lt_of_cell? W _ o0
    try replace hr := up_of hB hr
    try replace hq := up_of hB hq
    go_upto_region 7 with (first | (go_at_call 61; refine (hal.out _ hr hq).mono ?_; rintro e W1 ⟨rfl, hb⟩; (try replace hr := up_of hb hr); (try replace hq := up_of hb hq); (try replace hB := up_of hb hB); (try replace d0 := up_of hb d0); (try replace d1 := up_of hb d1); (try replace d2 := up_of hb d2); (try replace dl := up_of hb dl); (try replace g0 := up_of hb g0); (try replace g1 := up_of hb g1); (try replace g2 := up_of hb g2); (try replace g3 := up_of hb g3); (try replace gl := up_of hb gl); (try replace oB := up_of hb oB); (try replace o0 := up_of hb o0); (try replace o1 := up_of hb o1); (try replace o2 := up_of hb o2); (try replace o3 := up_of hb o3); (try replace ol := up_of hb ol)) | (go_at_call 68; refine (hlg.out _ hr hq).mono ?_; rintro e W1 ⟨rfl, hb⟩; (try replace hr := up_of hb hr); (try replace hq := up_of hb hq); (try replace hB := up_of hb hB); (try replace d0 := up_of hb d0); (try replace d1 := up_of hb d1); (try replace d2 := up_of hb d2); (try replace dl := up_of hb dl); (try replace g0 := up_of hb g0); (try replace g1 := up_of hb g1); (try replace g2 := up_of hb g2); (try replace g3 := up_of hb g3); (try replace gl := up_of hb gl); (try replace oB := up_of hb oB); (try replace o0 := up_of hb o0); (try replace o1 := up_of hb o1); (try replace o2 := up_of hb o2); (try replace o3 := up_of hb o3); (try replace ol := up_of hb ol)))
    have rf := fun i => Row.frozen oB i
    go_wp2
    refine sd_end rfl none 0 (b1 := w.heap.size + 2) rfl rfl ?_ SlS.nil ?_
    · refine Row.of ?_
      repeat (first | (with_reducible refine RowG.base oB ?_) | (with_reducible refine RowG.drew ?_) | (with_reducible refine RowG.set ?_) | ((with_reducible refine RowG.other ?_ ?_); (focus (first | omega | (simp; done) | (simp; omega)))) | (with_reducible refine RowG.alloc ?_))
      rfl
    · repeat (first | (with_reducible exact hB) | (with_reducible refine Below.drew ?_) | ((with_reducible refine Below.setC ?_ ?_); (focus (first | omega | (simp; done) | (simp; omega)))) | ((with_reducible refine Below.allo ?_ ?_); (focus (first | omega | (simp; done) | (simp; omega)))))
  rw [hlb] at hlg hse
  simp only [if_true] at hse
  have qf9 := flat_abs qf
  obtain ⟨B, hBe⟩ : ∃ x, fitB n K.length (mulP kk q.f) (mulO K.length kk q.off) = x := ⟨_, rfl⟩
  rw [hBe] at hse
  have hres := fun V g c (h : RecM V s l s2 cq K) (h1 : SlS intE V g (mulO K.length kk q.off)) (h2 : (mulO K.length kk q.off).length ≤ 9223372036854775807) => ended_r n s cap l s2 cq K (mulP kk q.f) (mulO K.length kk q.off) g c V h h1 h2 hBe
  rw [show (if slowE n l K q kk = 0 then mulP kk q.f else ⟨0, 0, 0⟩) = if B then mulP kk q.f else ⟨0, 0, 0⟩ by rw [hse]; cases B <;> rfl, show (if slowE n l K q kk = 0 then mulO K.length kk q.off else []) = if B then mulO K.length kk q.off else [] by rw [hse]; cases B <;> rfl, hse]
  obtain ⟨RF, hRF⟩ : ∃ x, (if B then mulP kk q.f else ⟨0, 0, 0⟩) = x := ⟨_, rfl⟩
  obtain ⟨RO, hRO⟩ : ∃ x, (if B then mulO K.length kk q.off else []) = x := ⟨_, rfl⟩
  obtain ⟨RE, hRE⟩ : ∃ x, (if B then (0 : Int) else 4) = x := ⟨_, rfl⟩
  simp only [hRF, hRO, hRE] at hres ⊢
  obtain ⟨AO, hAO, hol2, hfb⟩ : ∃ AO : List Int, mulO K.length kk q.off = AO ∧ AO.length = q.off.length ∧ ∀ v (h : v < AO.length) (h1 : v < q.off.length), kk * q.off[v] = AO[v] ∧ -9000 ≤ AO[v] ∧ AO[v] ≤ 9000 := ⟨_, rfl, by unfold mulO; rw [List.length_map, List.length_range, ql], fun v h h1 => by
    have b1 := off_bd qo (List.getElem_mem h1)
    have h2 := mul_bd (a := kk) (b := q.off[v]) (A := 9) (B := 1000) (by omega) (by omega)
    have e : (mulO K.length kk q.off)[v] = kk * q.off[v] := by
      simp only [mulO, List.getElem_map, List.getElem_range]
      rw [List.getD_eq_getElem?_getD, List.getElem?_eq_getElem h1]; rfl
    rw [e]
    generalize kk * q.off[v] = z at *
    refine ⟨rfl, by omega, by omega⟩⟩
  obtain ⟨P, hP, p1, p2, p3, p4, p5, p6, p7, p8, p9⟩ : ∃ P, mulP kk q.f = P ∧ kk * q.f.x = P.x ∧ kk * q.f.y = P.y ∧ kk * q.f.z = P.z ∧ -81 ≤ P.x ∧ P.x ≤ 81 ∧ -81 ≤ P.y ∧ P.y ≤ 81 ∧ -81 ≤ P.z ∧ P.z ≤ 81 := by
    have m1 := mul_bd (a := kk) (b := q.f.x) (A := 9) (B := 9) (by omega) (by omega)
    have m2 := mul_bd (a := kk) (b := q.f.y) (A := 9) (B := 9) (by omega) (by omega)
    have m3 := mul_bd (a := kk) (b := q.f.z) (A := 9) (B := 9) (by omega) (by omega)
    refine ⟨_, rfl, rfl, rfl, rfl, ?_⟩
    simp only [mulP]
    generalize kk * q.f.x = a at *
    generalize kk * q.f.y = b at *
    generalize kk * q.f.z = c at *
    omega
  have wa1 : IntKind.i64.wrap (kk * q.f.x) = P.x := by rw [p1]; exact i64_small (by omega)
  have wa2 : IntKind.i64.wrap (kk * q.f.y) = P.y := by rw [p2]; exact i64_small (by omega)
  have wa3 : IntKind.i64.wrap (kk * q.f.z) = P.z := by rw [p3]; exact i64_small (by omega)
  have wb1 : wrap64 (kk * q.f.x) = P.x := by rw [p1]; unfold wrap64; omega
  have wb2 : wrap64 (kk * q.f.y) = P.y := by rw [p2]; unfold wrap64; omega
  have wb3 : wrap64 (kk * q.f.z) = P.z := by rw [p3]; unfold wrap64; omega
  simp only [hAO, hP] at hres
  have hq4 : q.off.length ≤ 4 := by omega
  clear hRF hRO hRE hse hBe h0 hAO hP qf qo qf9 hrb hbk hlb p1 p2 p3 p4 p5 p6 p7 p8 p9
  replace hal := Lib.hid hal; replace hlg := Lib.hid hlg; replace hres := Lib.hid hres; replace hol2 := Lib.hid hol2; replace hfb := Lib.hid hfb; replace ql := Lib.hid ql
  have hr0 := Lib.hid hr
  have hqo := hq.off
  obtain ⟨qs, hqs⟩ : ∃ x, q.s = x := ⟨_, rfl⟩
  simp only [hqs] at *
  clear hqs
  have hqo0 := Lib.hid hqo
  go_enter Try.func41, Try.ntmps41
  go_upto_region 1 with (fail)
  refine wp_world fun W HW => ?_
  have hB : Below w.heap.size w W := by rw [HW.out]; (repeat (first | exact Below.refl _ _ | refine Below.alloc ?_ (by simp; try omega) _ | refine Below.setCell ?_ (by simp) _ | refine Below.drew ?_))
  have dB : Row W (w.heap.size) 27 #[.int .i64 n, .slice s l.length cap, .slice s2 K.length cq] := (by rw [HW.out]; (repeat (first | (refine blk_new ?_; simp; done) | refine blk_old ?_ _)) : W.heap[w.heap.size]? = some (.cells #[.int .i64 n, .slice s l.length cap, .slice s2 K.length cq] 27 (0, 0)))
  have d0 : W.cell? ⟨w.heap.size, 0, none⟩ = some (.int .i64 n) := by rw [HW.out]; simp [go_sem]
  have d1 : W.cell? ⟨w.heap.size, 1, none⟩ = some (.slice s l.length cap) := by rw [HW.out]; simp [go_sem]
  have d2 : W.cell? ⟨w.heap.size, 2, none⟩ = some (.slice s2 K.length cq) := by rw [HW.out]; simp [go_sem]
  have dl : w.heap.size < W.heap.size := World.block_lt_of_cell? W _ d0
  have gB : Row W (w.heap.size + 1) 32 #[.int .i64 q.f.x, .int .i64 q.f.y, .int .i64 q.f.z, .slice qs q.off.length q.cap] := (by rw [HW.out]; (repeat (first | (refine blk_new ?_; simp; done) | refine blk_old ?_ _)) : W.heap[w.heap.size + 1]? = some (.cells #[.int .i64 q.f.x, .int .i64 q.f.y, .int .i64 q.f.z, .slice qs q.off.length q.cap] 32 (0, 0)))
  have g0 : W.cell? ⟨w.heap.size + 1, 0, none⟩ = some (.int .i64 q.f.x) := by rw [HW.out]; simp [go_sem]
  have g1 : W.cell? ⟨w.heap.size + 1, 1, none⟩ = some (.int .i64 q.f.y) := by rw [HW.out]; simp [go_sem]
  have g2 : W.cell? ⟨w.heap.size + 1, 2, none⟩ = some (.int .i64 q.f.z) := by rw [HW.out]; simp [go_sem]
  have g3 : W.cell? ⟨w.heap.size + 1, 3, none⟩ = some (.slice qs q.off.length q.cap) := by rw [HW.out]; simp [go_sem]
  have gl : w.heap.size + 1 < W.heap.size := World.block_lt_of_cell? W _ g0
  have oB : Row W (w.heap.size + 2) 32 #[.int .i64 0, .int .i64 0, .int .i64 0, .slice none 0 0] := (by rw [HW.out]; (repeat (first | (refine blk_new ?_; simp; done) | refine blk_old ?_ _)) : W.heap[w.heap.size + 2]? = some (.cells #[.int .i64 0, .int .i64 0, .int .i64 0, .slice none 0 0] 32 (0, 0)))
  have o0 : W.cell? ⟨w.heap.size + 2, 0, none⟩ = some (.int .i64 0) := by rw [HW.out]; simp [go_sem]
  have o1 : W.cell? ⟨w.heap.size + 2, 1, none⟩ = some (.int .i64 0) := by rw [HW.out]; simp [go_sem]
  have o2 : W.cell? ⟨w.heap.size + 2, 2, none⟩ = some (.int .i64 0) := by rw [HW.out]; simp [go_sem]
  have o3 : W.cell? ⟨w.heap.size + 2, 3, none⟩ = some (.slice none 0 0) := by rw [HW.out]; simp [go_sem]
  have ol : w.heap.size + 2 < W.heap.size := World.block_lt_of_cell? W _ o0
  try replace hr := up_of hB hr
  try replace hq := up_of hB hq
  go_upto_region 8 with (first | (go_at_call 61; refine (hal.out _ hr hq).mono ?_; rintro e W1 ⟨rfl, hb⟩; (try replace hr := up_of hb hr); (try replace hq := up_of hb hq); (try replace hB := up_of hb hB); (try replace dB := up_of hb dB); (try replace d0 := up_of hb d0); (try replace d1 := up_of hb d1); (try replace d2 := up_of hb d2); (try replace dl := up_of hb dl); (try replace gB := up_of hb gB); (try replace g0 := up_of hb g0); (try replace g1 := up_of hb g1); (try replace g2 := up_of hb g2); (try replace g3 := up_of hb g3); (try replace gl := up_of hb gl); (try replace oB := up_of hb oB); (try replace o0 := up_of hb o0); (try replace o1 := up_of hb o1); (try replace o2 := up_of hb o2); (try replace o3 := up_of hb o3); (try replace ol := up_of hb ol)) | (go_at_call 68; refine (hlg.out _ hr hq).mono ?_; rintro e W9 ⟨rfl, hb⟩; (try replace hr := up_of hb hr); (try replace hq := up_of hb hq); (try replace hB := up_of hb hB); (try replace dB := up_of hb dB); (try replace d0 := up_of hb d0); (try replace d1 := up_of hb d1); (try replace d2 := up_of hb d2); (try replace dl := up_of hb dl); (try replace gB := up_of hb gB); (try replace g0 := up_of hb g0); (try replace g1 := up_of hb g1); (try replace g2 := up_of hb g2); (try replace g3 := up_of hb g3); (try replace gl := up_of hb gl); (try replace oB := up_of hb oB); (try replace o0 := up_of hb o0); (try replace o1 := up_of hb o1); (try replace o2 := up_of hb o2); (try replace o3 := up_of hb o3); (try replace ol := up_of hb ol)))
  have hw9 := ol
  have hW9 := hB.size
  go_upto_region 9 with (fail)
  refine wp_world fun X HX => ?_
  have hX : Below W9.heap.size W9 X := by rw [HX.out]; (repeat (first | exact Below.refl _ _ | refine Below.alloc ?_ (by simp; try omega) _ | refine Below.setCell ?_ (by simp) _ | refine Below.drew ?_))
  have tB : Row X (W9.heap.size) 32 #[.int .i64 P.x, .int .i64 P.y, .int .i64 P.z, .slice none 0 0] := (by rw [HX.out]; (repeat (first | (refine blk_new ?_; simp; done) | refine blk_old ?_ _)) : X.heap[W9.heap.size]? = some (.cells #[.int .i64 P.x, .int .i64 P.y, .int .i64 P.z, .slice none 0 0] 32 (0, 0)))
  have t0 : X.cell? ⟨W9.heap.size, 0, none⟩ = some (.int .i64 P.x) := by rw [HX.out]; simp [go_sem]
  have t1 : X.cell? ⟨W9.heap.size, 1, none⟩ = some (.int .i64 P.y) := by rw [HX.out]; simp [go_sem]
  have t2 : X.cell? ⟨W9.heap.size, 2, none⟩ = some (.int .i64 P.z) := by rw [HX.out]; simp [go_sem]
  have t3 : X.cell? ⟨W9.heap.size, 3, none⟩ = some (.slice none 0 0) := by rw [HX.out]; simp [go_sem]
  have tl : W9.heap.size < X.heap.size := World.block_lt_of_cell? X _ t0
  try replace hr := up_of hX hr
  try replace hq := up_of hX hq
  try replace hB := up_of hX hB
  try replace dB := up_of hX dB
  try replace d0 := up_of hX d0
  try replace d1 := up_of hX d1
  try replace d2 := up_of hX d2
  try replace dl := up_of hX dl
  try replace gB := up_of hX gB
  try replace g0 := up_of hX g0
  try replace g1 := up_of hX g1
  try replace g2 := up_of hX g2
  try replace g3 := up_of hX g3
  try replace gl := up_of hX gl
  try replace oB := up_of hX oB
  try replace o0 := up_of hX o0
  try replace o1 := up_of hX o1
  try replace o2 := up_of hX o2
  try replace o3 := up_of hX o3
  try replace ol := up_of hX ol
  have hX0 : X.ownsRow X.heap.size 3 1 (.slice none 0 0) 0 (intE.all (AO.take 0)) := World.ownsRow_nil _ _ _ _
  have hXs : Hid (X.heap.size = W9.heap.size + 1) := by rw [HX.out]; exact Lib.hid (by simp)
  go_wp2
  go_loopw [51] (fun ii V => ∃ (k : Nat) (v : Value), k ≤ q.off.length ∧ ii = .int .i64 k ∧ Row V W9.heap.size 32 #[.int .i64 P.x, .int .i64 P.y, .int .i64 P.z, v] ∧ V.ownsRow X.heap.size 3 1 v k (intE.all (AO.take k)) ∧ Row V w.heap.size 27 #[.int .i64 n, .slice s l.length cap, .slice s2 K.length cq] ∧ Row V (w.heap.size + 2) 32 #[.int .i64 0, .int .i64 0, .int .i64 0, .slice none 0 0] ∧ Below w.heap.size w V ∧ X.heap.size ≤ V.heap.size) (fun ii _ => q.off.length - (intOf ii).toNat)
  case atStart => exact ⟨0, _, by omega, rfl, tB, hX0, dB, oB, hB, Nat.le_refl _⟩
  case round =>
    clear hX0 tB dB gB oB hB hX hqo hr hq d0 d1 d2 g0 g1 g2 g3 o0 o1 o2 o3 t0 t1 t2 t3
    obtain ⟨k, v, hk, rfl, tB, hown, dB, oB, hB, hXV⟩ := hrel
    obtain ⟨sv, cv, rfl, -⟩ := owns_shape hown
    by_cases hlt : k < q.off.length
    · have hlt3 : k < AO.length := by have := hol2.out; omega
      obtain ⟨t0, t1, t2, t3⟩ := tB.four
      obtain ⟨bq, oq, eq, hbq, y0⟩ := (up_of hB hqo0.out).int_at hlt
      cases eq
      obtain ⟨f1, f2, f3⟩ := hfb.out k hlt3 hlt
      have htk : AO.take (k + 1) = AO.take k ++ [AO[k]] := List.take_succ_eq_append_getElem hlt3
      obtain ⟨x1, hx1⟩ : ∃ x, q.off[k] = x := ⟨_, rfl⟩
      obtain ⟨y1, hy1⟩ : ∃ x, AO[k] = x := ⟨_, rfl⟩
      rw [hx1] at y0 f1
      rw [hy1] at f1 f2 f3 htk
      have ws1 : IntKind.i64.wrap (kk * x1) = y1 := by rw [f1, i64_small (by omega)]
      have ws2 : wrap64 (kk * x1) = y1 := by rw [f1]; unfold wrap64; omega
      have i1 : (0 : Int) ≤ (k : Int) := by omega
      have i2 : (k : Int) < (q.off.length : Int) := by omega
      have htl := tB.lt
      replace htk := Lib.hid htk; replace f1 := Lib.hid f1; replace hx1 := Lib.hid hx1; replace hy1 := Lib.hid hy1
      obtain ⟨i0, hi0, hz0, hz1, hz2⟩ := info_parts info_int
      go_wp2_with (first | (at_builtin; refine wpList_append_lies _ rfl _ _ 30 rfl X.heap.size 3 i0 _ 1 8 Try.underlying30 hi0 hz0 hz1 hz2 rfl (by decide) _ _ _ rfl (hown.alloc _) ⟨wr.heap.size, 0, none⟩ 1 1 [.int .i64 y1] rfl rfl (news_new _ _ _) (by simp [Value.oneCell']) (by decide) (by unfold maxLen; omega) (by omega) (by simp; omega) (wr.heap.size + 1) (by simp) ?_; intro gg cap1 w1 hown1 hgrow hat1 hlt2; have hB1 := (hB.alloc hB.size _).grown hgrow (by have := hB.size; simp; omega) (fun g e => by have := (hown.lt g e).1; have := hXs.out; omega); replace dB := grown_row hgrow hown (by have := hXs.out; omega) dB; replace oB := grown_row hgrow hown (by have := hXs.out; omega) oB; replace tB := grown_row hgrow hown (by have := hXs.out; omega) tB; have rf := fun i => Row.frozen tB i; clear t0 t1 t2 t3; obtain ⟨t0, t1, t2, t3⟩ := tB.four))
      go_roundw
      case rel =>
        refine ⟨k + 1, .slice (some ⟨gg, 0, none⟩) (k + 1) cap1, by omega, rfl, ?_, ?_, ?_, ?_, ?_, ?_⟩
        · refine Row.of ?_
          repeat (first | (with_reducible refine RowG.base tB ?_) | (with_reducible refine RowG.drew ?_) | (with_reducible refine RowG.set ?_) | ((with_reducible refine RowG.other ?_ ?_); (focus (first | omega | (simp; done) | (simp; omega)))) | (with_reducible refine RowG.alloc ?_))
          rfl
        · refine ownsRow_setCell_below (by rw [htk.out, int_snoc]; exact hown1) (by have := hXs.out; simp; omega) _
        · refine Row.of ?_
          repeat (first | (with_reducible refine RowG.base dB ?_) | (with_reducible refine RowG.drew ?_) | (with_reducible refine RowG.set ?_) | ((with_reducible refine RowG.other ?_ ?_); (focus (first | omega | (simp; done) | (simp; omega)))) | (with_reducible refine RowG.alloc ?_))
          rfl
        · refine Row.of ?_
          repeat (first | (with_reducible refine RowG.base oB ?_) | (with_reducible refine RowG.drew ?_) | (with_reducible refine RowG.set ?_) | ((with_reducible refine RowG.other ?_ ?_); (focus (first | omega | (simp; done) | (simp; omega)))) | (with_reducible refine RowG.alloc ?_))
          rfl
        · repeat (first | (with_reducible exact hB1) | (with_reducible refine Below.drew ?_) | ((with_reducible refine Below.setC ?_ ?_); (focus (first | omega | (simp; done) | (simp; omega)))) | ((with_reducible refine Below.allo ?_ ?_); (focus (first | omega | (simp; done) | (simp; omega)))))
        · have := hgrow.size; simp at this ⊢; omega
      case measure => exact meas hlt
    · obtain rfl : k = q.off.length := by omega
      have htk : AO.take q.off.length = AO := by rw [← hol2.out, List.take_length]
      rw [htk] at hown
      rw [← hol2.out] at hown tB
      obtain ⟨t0, t1, t2, t3⟩ := tB.four
      obtain ⟨d0, d1, d2⟩ := dB.three
      obtain ⟨o0, o1, o2, o3⟩ := oB.four
      have ol5 := oB.lt
      have hrV := up_of hB hr0.out
      have hsd := SlS.of_own (E := intE) hown
      have hsl : AO.length ≤ 9223372036854775807 := by have := hol2.out; omega
      clear htk
      go_wp2_with (first | (go_at_call 87; refine (hres.out _ _ cv hrV hsd hsl).mono ?_; rintro e W8 ⟨⟨SS, CC, rfl, hSS⟩, hb9⟩; (try replace oB := up_of hb9 oB); (try replace o0 := up_of hb9 o0); (try replace o1 := up_of hb9 o1); (try replace o2 := up_of hb9 o2); (try replace o3 := up_of hb9 o3); (try replace ol5 := up_of hb9 ol5); (try replace hB := up_of hb9 hB); (try replace hown := up_of hb9 hown); have rf := fun i => Row.frozen oB i))
      have hown2 := fun a1 a2 a3 a4 => ownsRow_setCell_below (ownsRow_setCell_below (ownsRow_setCell_below (ownsRow_setCell_below hown (a := ⟨w.heap.size + 2, 0, none⟩) (by simp; have := hXs.out; omega) a1) (a := ⟨w.heap.size + 2, 1, none⟩) (by simp; have := hXs.out; omega) a2) (a := ⟨w.heap.size + 2, 2, none⟩) (by simp; have := hXs.out; omega) a3) (a := ⟨w.heap.size + 2, 3, none⟩) (by simp; have := hXs.out; omega) a4
      refine sd_end rfl SS CC (b1 := w.heap.size + 2) rfl rfl ?_ ?_ ?_
      · refine Row.of ?_
        repeat (first | (with_reducible refine RowG.base oB ?_) | (with_reducible refine RowG.drew ?_) | (with_reducible refine RowG.set ?_) | ((with_reducible refine RowG.other ?_ ?_); (focus (first | omega | (simp; done) | (simp; omega)))) | (with_reducible refine RowG.alloc ?_))
        rfl
      · exact hSS _ (SlS.of_own (E := intE) (hown2 _ _ _ _))
      · repeat (first | (with_reducible exact hB) | (with_reducible refine Below.drew ?_) | ((with_reducible refine Below.setC ?_ ?_); (focus (first | omega | (simp; done) | (simp; omega)))) | ((with_reducible refine Below.allo ?_ ?_); (focus (first | omega | (simp; done) | (simp; omega)))))
end Go.Proofs.Ytbpdgoedglkefaa
