/- The best schedule: the program's refusals. -/
import Derived.Test.YtbpdgoedglkefaaSchSum
namespace Go.Proofs.Ytbpdgoedglkefaa
open Go.RowKit

set_option maxRecDepth 100000 in
set_option maxHeartbeats 2000000 in
theorem Best_rec (n : Int) (s : Option Addr) (cap : Nat) (l : List Iq) (s2 : Option Addr) (cq : Nat) (K : List Vv) (m : Int) (w : World) (hr : RecM w s l s2 cq K) (h : recB n l K = false) :
    Calls Try.prog 35 #[.agg #[.int .i64 n, .slice s l.length cap, .slice s2 K.length cq], .int .i64 m] w (SdRet ⟨0, 0, 0⟩ [] 20 w) := by
  have hv := fun V (h : RecM V s l s2 cq K) => h.valid n cap
  simp only [h] at hv
  replace hv := Lib.hid hv
  clear h
  go_enter Try.func35, Try.ntmps35
  go_upto_region 1 with (fail)
  refine wp_world fun W HW => ?_
  have hB : Below w.heap.size w W := by rw [HW.out]; (repeat (first | exact Below.refl _ _ | refine Below.alloc ?_ (by simp; try omega) _ | refine Below.setCell ?_ (by simp) _ | refine Below.drew ?_))
  have d0 : W.cell? ⟨w.heap.size, 0, none⟩ = some (.int .i64 n) := by rw [HW.out]; simp [go_sem]
  have d1 : W.cell? ⟨w.heap.size, 1, none⟩ = some (.slice s l.length cap) := by rw [HW.out]; simp [go_sem]
  have d2 : W.cell? ⟨w.heap.size, 2, none⟩ = some (.slice s2 K.length cq) := by rw [HW.out]; simp [go_sem]
  have dl : w.heap.size < W.heap.size := World.block_lt_of_cell? W _ d0
  have oB : Row W (w.heap.size + 1) 32 #[.int .i64 0, .int .i64 0, .int .i64 0, .slice none 0 0] := (by rw [HW.out]; (repeat (first | (refine blk_new ?_; simp; done) | refine blk_old ?_ _)) : W.heap[w.heap.size + 1]? = some (.cells #[.int .i64 0, .int .i64 0, .int .i64 0, .slice none 0 0] 32 (0, 0)))
  have o0 : W.cell? ⟨w.heap.size + 1, 0, none⟩ = some (.int .i64 0) := by rw [HW.out]; simp [go_sem]
  have o1 : W.cell? ⟨w.heap.size + 1, 1, none⟩ = some (.int .i64 0) := by rw [HW.out]; simp [go_sem]
  have o2 : W.cell? ⟨w.heap.size + 1, 2, none⟩ = some (.int .i64 0) := by rw [HW.out]; simp [go_sem]
  have o3 : W.cell? ⟨w.heap.size + 1, 3, none⟩ = some (.slice none 0 0) := by rw [HW.out]; simp [go_sem]
  have ol : w.heap.size + 1 < W.heap.size := World.block_lt_of_cell? W _ o0
  try replace hr := up_of hB hr
  go_upto_region 2 with (first | (go_at_call 71; refine (hv.out _ hr).mono ?_; rintro e W1 ⟨rfl, hb⟩; (try replace hr := up_of hb hr); (try replace hB := up_of hb hB); (try replace d0 := up_of hb d0); (try replace d1 := up_of hb d1); (try replace d2 := up_of hb d2); (try replace dl := up_of hb dl); (try replace oB := up_of hb oB); (try replace o0 := up_of hb o0); (try replace o1 := up_of hb o1); (try replace o2 := up_of hb o2); (try replace o3 := up_of hb o3); (try replace ol := up_of hb ol)))
  have rf := fun i => Row.frozen oB i
  go_wp2
  refine sd_end rfl none 0 (b1 := w.heap.size + 1) rfl rfl ?_ SlS.nil ?_
  · refine Row.of ?_
    repeat (first | (with_reducible refine RowG.base oB ?_) | (with_reducible refine RowG.drew ?_) | (with_reducible refine RowG.set ?_) | ((with_reducible refine RowG.other ?_ ?_); (focus (first | omega | (simp; done) | (simp; omega)))) | (with_reducible refine RowG.alloc ?_))
    rfl
  · repeat (first | (with_reducible exact hB) | (with_reducible refine Below.drew ?_) | ((with_reducible refine Below.setC ?_ ?_); (focus (first | omega | (simp; done) | (simp; omega)))) | ((with_reducible refine Below.allo ?_ ?_); (focus (first | omega | (simp; done) | (simp; omega)))))
set_option maxRecDepth 100000 in
set_option maxHeartbeats 2000000 in
theorem Best_arg (n : Int) (s : Option Addr) (cap : Nat) (l : List Iq) (s2 : Option Addr) (cq : Nat) (K : List Vv) (m : Int) (w : World) (hr : RecM w s l s2 cq K) (h : recB n l K = true) (hm : bw 0 m 3 = false) :
    Calls Try.prog 35 #[.agg #[.int .i64 n, .slice s l.length cap, .slice s2 K.length cq], .int .i64 m] w (SdRet ⟨0, 0, 0⟩ [] 2 w) := by
  have hv := fun V (h : RecM V s l s2 cq K) => h.valid n cap
  simp only [h] at hv
  have hbt := fun V => (schBetween_c 0 m 3 V).mono (R' := fun e w' => e = .returned (.bool false) ∧ Below V.heap.size V w') (fun e w' ⟨he, hw⟩ => ⟨by rw [he, hm], by rw [← hw]; exact Below.refl _ _⟩)
  replace hv := Lib.hid hv; replace hbt := Lib.hid hbt
  clear h hm
  go_enter Try.func35, Try.ntmps35
  go_upto_region 1 with (fail)
  refine wp_world fun W HW => ?_
  have hB : Below w.heap.size w W := by rw [HW.out]; (repeat (first | exact Below.refl _ _ | refine Below.alloc ?_ (by simp; try omega) _ | refine Below.setCell ?_ (by simp) _ | refine Below.drew ?_))
  have d0 : W.cell? ⟨w.heap.size, 0, none⟩ = some (.int .i64 n) := by rw [HW.out]; simp [go_sem]
  have d1 : W.cell? ⟨w.heap.size, 1, none⟩ = some (.slice s l.length cap) := by rw [HW.out]; simp [go_sem]
  have d2 : W.cell? ⟨w.heap.size, 2, none⟩ = some (.slice s2 K.length cq) := by rw [HW.out]; simp [go_sem]
  have dl : w.heap.size < W.heap.size := World.block_lt_of_cell? W _ d0
  have oB : Row W (w.heap.size + 1) 32 #[.int .i64 0, .int .i64 0, .int .i64 0, .slice none 0 0] := (by rw [HW.out]; (repeat (first | (refine blk_new ?_; simp; done) | refine blk_old ?_ _)) : W.heap[w.heap.size + 1]? = some (.cells #[.int .i64 0, .int .i64 0, .int .i64 0, .slice none 0 0] 32 (0, 0)))
  have o0 : W.cell? ⟨w.heap.size + 1, 0, none⟩ = some (.int .i64 0) := by rw [HW.out]; simp [go_sem]
  have o1 : W.cell? ⟨w.heap.size + 1, 1, none⟩ = some (.int .i64 0) := by rw [HW.out]; simp [go_sem]
  have o2 : W.cell? ⟨w.heap.size + 1, 2, none⟩ = some (.int .i64 0) := by rw [HW.out]; simp [go_sem]
  have o3 : W.cell? ⟨w.heap.size + 1, 3, none⟩ = some (.slice none 0 0) := by rw [HW.out]; simp [go_sem]
  have ol : w.heap.size + 1 < W.heap.size := World.block_lt_of_cell? W _ o0
  try replace hr := up_of hB hr
  go_upto_region 4 with (first | (go_at_call 71; refine (hv.out _ hr).mono ?_; rintro e W1 ⟨rfl, hb⟩; (try replace hr := up_of hb hr); (try replace hB := up_of hb hB); (try replace d0 := up_of hb d0); (try replace d1 := up_of hb d1); (try replace d2 := up_of hb d2); (try replace dl := up_of hb dl); (try replace oB := up_of hb oB); (try replace o0 := up_of hb o0); (try replace o1 := up_of hb o1); (try replace o2 := up_of hb o2); (try replace o3 := up_of hb o3); (try replace ol := up_of hb ol)) | (go_at_call 59; refine (hbt.out _).mono ?_; rintro e W1 ⟨rfl, hb⟩; (try replace hr := up_of hb hr); (try replace hB := up_of hb hB); (try replace d0 := up_of hb d0); (try replace d1 := up_of hb d1); (try replace d2 := up_of hb d2); (try replace dl := up_of hb dl); (try replace oB := up_of hb oB); (try replace o0 := up_of hb o0); (try replace o1 := up_of hb o1); (try replace o2 := up_of hb o2); (try replace o3 := up_of hb o3); (try replace ol := up_of hb ol)))
  have rf := fun i => Row.frozen oB i
  go_wp2
  refine sd_end rfl none 0 (b1 := w.heap.size + 1) rfl rfl ?_ SlS.nil ?_
  · refine Row.of ?_
    repeat (first | (with_reducible refine RowG.base oB ?_) | (with_reducible refine RowG.drew ?_) | (with_reducible refine RowG.set ?_) | ((with_reducible refine RowG.other ?_ ?_); (focus (first | omega | (simp; done) | (simp; omega)))) | (with_reducible refine RowG.alloc ?_))
    rfl
  · repeat (first | (with_reducible exact hB) | (with_reducible refine Below.drew ?_) | ((with_reducible refine Below.setC ?_ ?_); (focus (first | omega | (simp; done) | (simp; omega)))) | ((with_reducible refine Below.allo ?_ ?_); (focus (first | omega | (simp; done) | (simp; omega)))))
end Go.Proofs.Ytbpdgoedglkefaa
