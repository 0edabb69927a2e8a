/- The walk of PolyValues. -/
import Derived.Test.YtfebkccdcbkdiaaPoly21
namespace Go.Proofs.Ytfebkccdcbkdiaa
open Go.RowKit

theorem Has_b (n : Int) (s : Option Addr) (cap : Nat) (l : List Iq) (p : Pt) (w : World) (h : Dom w s l) (hv : validB n l = true) {b : Bool} (hb : hasB n l p = b) :
    Calls Try.prog 15 #[.agg #[.int .i64 n, .slice s l.length cap], .agg #[.int .i64 p.x, .int .i64 p.y, .int .i64 p.z]] w fun e w' => e = .returned (.tuple #[.bool b, .int .i64 0]) ∧ Below w.heap.size w w' := hb ▸ Has_v n s cap l p w h hv
theorem Dot_e (a p : Pt) (w : World) {v : Int} (hv : wrap64 (dotZ a p) = v) :
    Calls Try.prog 35 #[.agg #[.int .i64 a.x, .int .i64 a.y, .int .i64 a.z], .agg #[.int .i64 p.x, .int .i64 p.y, .int .i64 p.z]] w fun e w' => e = .returned (.int .i64 v) ∧ Below w.heap.size w w' := hv ▸ Dot_c a p w

set_option maxRecDepth 100000 in
set_option maxHeartbeats 2000000 in
theorem PolyValues_w (n : Int) (s : Option Addr) (cap : Nat) (l : List Iq) (f p : Pt) (w : World) (h : Dom w s l) :
    Calls Try.prog 8 #[.agg #[.int .i64 n, .slice s l.length cap], .agg #[.int .i64 f.x, .int .i64 f.y, .int .i64 f.z], .agg #[.int .i64 p.x, .int .i64 p.y, .int .i64 p.z]] w fun e w' => e = .returned (.bool true) ∧ Below w.heap.size w w' := by
  have hlen := h.len
  have hpl := pts_len n l
  cases h1 : decide ((40 : Int) < (l.length : Int))
  case true =>
    go_enter Try.func8, Try.ntmps8
    go_upto_region 1 with (fail)
    refine wp_world fun W HW => ?_
    have hB : Below w.heap.size w W := by rw [HW.out]; (repeat (first | exact Below.refl _ _ | refine Below.alloc ?_ (by simp; try omega) _ | refine Below.setCell ?_ (by simp) _ | refine Below.drew ?_))
    have d0 : W.cell? ⟨w.heap.size, 0, none⟩ = some (.int .i64 n) := by rw [HW.out]; simp [go_sem]
    have d1 : W.cell? ⟨w.heap.size, 1, none⟩ = some (.slice s l.length cap) := by rw [HW.out]; simp [go_sem]
    have dl : w.heap.size < W.heap.size := World.block_lt_of_cell? W _ d0
    have f0 : W.cell? ⟨w.heap.size + 1, 0, none⟩ = some (.int .i64 f.x) := by rw [HW.out]; simp [go_sem]
    have f1 : W.cell? ⟨w.heap.size + 1, 1, none⟩ = some (.int .i64 f.y) := by rw [HW.out]; simp [go_sem]
    have f2 : W.cell? ⟨w.heap.size + 1, 2, none⟩ = some (.int .i64 f.z) := by rw [HW.out]; simp [go_sem]
    have fl : w.heap.size + 1 < W.heap.size := World.block_lt_of_cell? W _ f0
    have p0 : W.cell? ⟨w.heap.size + 2, 0, none⟩ = some (.int .i64 p.x) := by rw [HW.out]; simp [go_sem]
    have p1 : W.cell? ⟨w.heap.size + 2, 1, none⟩ = some (.int .i64 p.y) := by rw [HW.out]; simp [go_sem]
    have p2 : W.cell? ⟨w.heap.size + 2, 2, none⟩ = some (.int .i64 p.z) := by rw [HW.out]; simp [go_sem]
    have pl : w.heap.size + 2 < W.heap.size := World.block_lt_of_cell? W _ p0
    try replace h := up_of hB h
    go_wp2_with (first | (go_at_call 13; refine (wide_c _ _ _ _ _ hlen).mono ?_; rintro e W1 ⟨rfl, hb⟩; (try replace h := up_of hb h); (try replace hB := up_of hb hB); (try replace d0 := up_of hb d0); (try replace d1 := up_of hb d1); (try replace dl := up_of hb dl); (try replace f0 := up_of hb f0); (try replace f1 := up_of hb f1); (try replace f2 := up_of hb f2); (try replace fl := up_of hb fl); (try replace p0 := up_of hb p0); (try replace p1 := up_of hb p1); (try replace p2 := up_of hb p2); (try replace pl := up_of hb pl)) | (go_at_call 14; refine (awake_c _).mono ?_; rintro e W1 ⟨rfl, hb⟩; (try replace h := up_of hb h); (try replace hB := up_of hb hB); (try replace d0 := up_of hb d0); (try replace d1 := up_of hb d1); (try replace dl := up_of hb dl); (try replace f0 := up_of hb f0); (try replace f1 := up_of hb f1); (try replace f2 := up_of hb f2); (try replace fl := up_of hb fl); (try replace p0 := up_of hb p0); (try replace p1 := up_of hb p1); (try replace p2 := up_of hb p2); (try replace pl := up_of hb pl)))
    go_ret
    exact ⟨rfl, hB⟩
  cases hv : validB n l
  case false =>
    go_enter Try.func8, Try.ntmps8
    go_upto_region 1 with (fail)
    refine wp_world fun W HW => ?_
    have hB : Below w.heap.size w W := by rw [HW.out]; (repeat (first | exact Below.refl _ _ | refine Below.alloc ?_ (by simp; try omega) _ | refine Below.setCell ?_ (by simp) _ | refine Below.drew ?_))
    have d0 : W.cell? ⟨w.heap.size, 0, none⟩ = some (.int .i64 n) := by rw [HW.out]; simp [go_sem]
    have d1 : W.cell? ⟨w.heap.size, 1, none⟩ = some (.slice s l.length cap) := by rw [HW.out]; simp [go_sem]
    have dl : w.heap.size < W.heap.size := World.block_lt_of_cell? W _ d0
    have f0 : W.cell? ⟨w.heap.size + 1, 0, none⟩ = some (.int .i64 f.x) := by rw [HW.out]; simp [go_sem]
    have f1 : W.cell? ⟨w.heap.size + 1, 1, none⟩ = some (.int .i64 f.y) := by rw [HW.out]; simp [go_sem]
    have f2 : W.cell? ⟨w.heap.size + 1, 2, none⟩ = some (.int .i64 f.z) := by rw [HW.out]; simp [go_sem]
    have fl : w.heap.size + 1 < W.heap.size := World.block_lt_of_cell? W _ f0
    have p0 : W.cell? ⟨w.heap.size + 2, 0, none⟩ = some (.int .i64 p.x) := by rw [HW.out]; simp [go_sem]
    have p1 : W.cell? ⟨w.heap.size + 2, 1, none⟩ = some (.int .i64 p.y) := by rw [HW.out]; simp [go_sem]
    have p2 : W.cell? ⟨w.heap.size + 2, 2, none⟩ = some (.int .i64 p.z) := by rw [HW.out]; simp [go_sem]
    have pl : w.heap.size + 2 < W.heap.size := World.block_lt_of_cell? W _ p0
    try replace h := up_of hB h
    go_wp2_with (first | (go_at_call 13; refine (wide_c _ _ _ _ _ hlen).mono ?_; rintro e W1 ⟨rfl, hb⟩; (try replace h := up_of hb h); (try replace hB := up_of hb hB); (try replace d0 := up_of hb d0); (try replace d1 := up_of hb d1); (try replace dl := up_of hb dl); (try replace f0 := up_of hb f0); (try replace f1 := up_of hb f1); (try replace f2 := up_of hb f2); (try replace fl := up_of hb fl); (try replace p0 := up_of hb p0); (try replace p1 := up_of hb p1); (try replace p2 := up_of hb p2); (try replace pl := up_of hb pl)) | (go_at_call 18; refine (rValid_t _ _ _ _ _ h).mono ?_; rintro e W1 ⟨rfl, hb⟩; (try replace h := up_of hb h); (try replace hB := up_of hb hB); (try replace d0 := up_of hb d0); (try replace d1 := up_of hb d1); (try replace dl := up_of hb dl); (try replace f0 := up_of hb f0); (try replace f1 := up_of hb f1); (try replace f2 := up_of hb f2); (try replace fl := up_of hb fl); (try replace p0 := up_of hb p0); (try replace p1 := up_of hb p1); (try replace p2 := up_of hb p2); (try replace pl := up_of hb pl)) | (go_at_call 14; refine (awake_c _).mono ?_; rintro e W1 ⟨rfl, hb⟩; (try replace h := up_of hb h); (try replace hB := up_of hb hB); (try replace d0 := up_of hb d0); (try replace d1 := up_of hb d1); (try replace dl := up_of hb dl); (try replace f0 := up_of hb f0); (try replace f1 := up_of hb f1); (try replace f2 := up_of hb f2); (try replace fl := up_of hb fl); (try replace p0 := up_of hb p0); (try replace p1 := up_of hb p1); (try replace p2 := up_of hb p2); (try replace pl := up_of hb pl)))
    go_ret
    exact ⟨rfl, hB⟩
  cases hf : flatB f n 100
  case false =>
    go_enter Try.func8, Try.ntmps8
    go_upto_region 1 with (fail)
    refine wp_world fun W HW => ?_
    have hB : Below w.heap.size w W := by rw [HW.out]; (repeat (first | exact Below.refl _ _ | refine Below.alloc ?_ (by simp; try omega) _ | refine Below.setCell ?_ (by simp) _ | refine Below.drew ?_))
    have d0 : W.cell? ⟨w.heap.size, 0, none⟩ = some (.int .i64 n) := by rw [HW.out]; simp [go_sem]
    have d1 : W.cell? ⟨w.heap.size, 1, none⟩ = some (.slice s l.length cap) := by rw [HW.out]; simp [go_sem]
    have dl : w.heap.size < W.heap.size := World.block_lt_of_cell? W _ d0
    have f0 : W.cell? ⟨w.heap.size + 1, 0, none⟩ = some (.int .i64 f.x) := by rw [HW.out]; simp [go_sem]
    have f1 : W.cell? ⟨w.heap.size + 1, 1, none⟩ = some (.int .i64 f.y) := by rw [HW.out]; simp [go_sem]
    have f2 : W.cell? ⟨w.heap.size + 1, 2, none⟩ = some (.int .i64 f.z) := by rw [HW.out]; simp [go_sem]
    have fl : w.heap.size + 1 < W.heap.size := World.block_lt_of_cell? W _ f0
    have p0 : W.cell? ⟨w.heap.size + 2, 0, none⟩ = some (.int .i64 p.x) := by rw [HW.out]; simp [go_sem]
    have p1 : W.cell? ⟨w.heap.size + 2, 1, none⟩ = some (.int .i64 p.y) := by rw [HW.out]; simp [go_sem]
    have p2 : W.cell? ⟨w.heap.size + 2, 2, none⟩ = some (.int .i64 p.z) := by rw [HW.out]; simp [go_sem]
    have pl : w.heap.size + 2 < W.heap.size := World.block_lt_of_cell? W _ p0
    try replace h := up_of hB h
    go_wp2_with (first | (go_at_call 13; refine (wide_c _ _ _ _ _ hlen).mono ?_; rintro e W1 ⟨rfl, hb⟩; (try replace h := up_of hb h); (try replace hB := up_of hb hB); (try replace d0 := up_of hb d0); (try replace d1 := up_of hb d1); (try replace dl := up_of hb dl); (try replace f0 := up_of hb f0); (try replace f1 := up_of hb f1); (try replace f2 := up_of hb f2); (try replace fl := up_of hb fl); (try replace p0 := up_of hb p0); (try replace p1 := up_of hb p1); (try replace p2 := up_of hb p2); (try replace pl := up_of hb pl)) | (go_at_call 18; refine (rValid_t _ _ _ _ _ h).mono ?_; rintro e W1 ⟨rfl, hb⟩; (try replace h := up_of hb h); (try replace hB := up_of hb hB); (try replace d0 := up_of hb d0); (try replace d1 := up_of hb d1); (try replace dl := up_of hb dl); (try replace f0 := up_of hb f0); (try replace f1 := up_of hb f1); (try replace f2 := up_of hb f2); (try replace fl := up_of hb fl); (try replace p0 := up_of hb p0); (try replace p1 := up_of hb p1); (try replace p2 := up_of hb p2); (try replace pl := up_of hb pl)) | (go_at_call 33; refine (Flat_c _ _ _ _ (by omega) (by omega)).mono ?_; rintro e W1 ⟨rfl, hb⟩; (try replace h := up_of hb h); (try replace hB := up_of hb hB); (try replace d0 := up_of hb d0); (try replace d1 := up_of hb d1); (try replace dl := up_of hb dl); (try replace f0 := up_of hb f0); (try replace f1 := up_of hb f1); (try replace f2 := up_of hb f2); (try replace fl := up_of hb fl); (try replace p0 := up_of hb p0); (try replace p1 := up_of hb p1); (try replace p2 := up_of hb p2); (try replace pl := up_of hb pl)) | (go_at_call 14; refine (awake_c _).mono ?_; rintro e W1 ⟨rfl, hb⟩; (try replace h := up_of hb h); (try replace hB := up_of hb hB); (try replace d0 := up_of hb d0); (try replace d1 := up_of hb d1); (try replace dl := up_of hb dl); (try replace f0 := up_of hb f0); (try replace f1 := up_of hb f1); (try replace f2 := up_of hb f2); (try replace fl := up_of hb fl); (try replace p0 := up_of hb p0); (try replace p1 := up_of hb p1); (try replace p2 := up_of hb p2); (try replace pl := up_of hb pl)))
    go_ret
    exact ⟨rfl, hB⟩
  have hv' := Lib.hid hv
  by_cases hL : pts n l = []
  · obtain ⟨e1, e2, e3⟩ := values_none hv hf hL
    replace e1 := Lib.hid e1; replace e2 := Lib.hid e2; replace e3 := Lib.hid e3; replace hL := Lib.hid hL
    obtain ⟨a, ea⟩ : ∃ x, leastP n l f = x := ⟨_, rfl⟩
    obtain ⟨va, eva⟩ : ∃ x, leastN n l f = x := ⟨_, rfl⟩
    obtain ⟨b, eb⟩ : ∃ x, greatP n l f = x := ⟨_, rfl⟩
    obtain ⟨vb, evb⟩ : ∃ x, greatN n l f = x := ⟨_, rfl⟩
    obtain ⟨c, ec⟩ : ∃ x, greatP n l (negP f) = x := ⟨_, rfl⟩
    obtain ⟨vc, evc⟩ : ∃ x, greatN n l (negP f) = x := ⟨_, rfl⟩
    replace ea := Lib.hid ea; replace eva := Lib.hid eva; replace eb := Lib.hid eb; replace evb := Lib.hid evb; replace ec := Lib.hid ec; replace evc := Lib.hid evc
    clear hpl
    go_enter Try.func8, Try.ntmps8
    go_upto_region 1 with (fail)
    refine wp_world fun W HW => ?_
    have hB : Below w.heap.size w W := by rw [HW.out]; (repeat (first | exact Below.refl _ _ | refine Below.alloc ?_ (by simp; try omega) _ | refine Below.setCell ?_ (by simp) _ | refine Below.drew ?_))
    have d0 : W.cell? ⟨w.heap.size, 0, none⟩ = some (.int .i64 n) := by rw [HW.out]; simp [go_sem]
    have d1 : W.cell? ⟨w.heap.size, 1, none⟩ = some (.slice s l.length cap) := by rw [HW.out]; simp [go_sem]
    have dl : w.heap.size < W.heap.size := World.block_lt_of_cell? W _ d0
    have f0 : W.cell? ⟨w.heap.size + 1, 0, none⟩ = some (.int .i64 f.x) := by rw [HW.out]; simp [go_sem]
    have f1 : W.cell? ⟨w.heap.size + 1, 1, none⟩ = some (.int .i64 f.y) := by rw [HW.out]; simp [go_sem]
    have f2 : W.cell? ⟨w.heap.size + 1, 2, none⟩ = some (.int .i64 f.z) := by rw [HW.out]; simp [go_sem]
    have fl : w.heap.size + 1 < W.heap.size := World.block_lt_of_cell? W _ f0
    have p0 : W.cell? ⟨w.heap.size + 2, 0, none⟩ = some (.int .i64 p.x) := by rw [HW.out]; simp [go_sem]
    have p1 : W.cell? ⟨w.heap.size + 2, 1, none⟩ = some (.int .i64 p.y) := by rw [HW.out]; simp [go_sem]
    have p2 : W.cell? ⟨w.heap.size + 2, 2, none⟩ = some (.int .i64 p.z) := by rw [HW.out]; simp [go_sem]
    have pl : w.heap.size + 2 < W.heap.size := World.block_lt_of_cell? W _ p0
    try replace h := up_of hB h
    go_upto_region 4 with (first | (go_at_call 13; refine (wide_c _ _ _ _ _ hlen).mono ?_; rintro e W1 ⟨rfl, hb⟩; (try replace h := up_of hb h); (try replace hB := up_of hb hB); (try replace d0 := up_of hb d0); (try replace d1 := up_of hb d1); (try replace dl := up_of hb dl); (try replace f0 := up_of hb f0); (try replace f1 := up_of hb f1); (try replace f2 := up_of hb f2); (try replace fl := up_of hb fl); (try replace p0 := up_of hb p0); (try replace p1 := up_of hb p1); (try replace p2 := up_of hb p2); (try replace pl := up_of hb pl)) | (go_at_call 18; refine (rValid_t _ _ _ _ _ h).mono ?_; rintro e W1 ⟨rfl, hb⟩; (try replace h := up_of hb h); (try replace hB := up_of hb hB); (try replace d0 := up_of hb d0); (try replace d1 := up_of hb d1); (try replace dl := up_of hb dl); (try replace f0 := up_of hb f0); (try replace f1 := up_of hb f1); (try replace f2 := up_of hb f2); (try replace fl := up_of hb fl); (try replace p0 := up_of hb p0); (try replace p1 := up_of hb p1); (try replace p2 := up_of hb p2); (try replace pl := up_of hb pl)) | (go_at_call 33; refine (Flat_c _ _ _ _ (by omega) (by omega)).mono ?_; rintro e W1 ⟨rfl, hb⟩; (try replace h := up_of hb h); (try replace hB := up_of hb hB); (try replace d0 := up_of hb d0); (try replace d1 := up_of hb d1); (try replace dl := up_of hb dl); (try replace f0 := up_of hb f0); (try replace f1 := up_of hb f1); (try replace f2 := up_of hb f2); (try replace fl := up_of hb fl); (try replace p0 := up_of hb p0); (try replace p1 := up_of hb p1); (try replace p2 := up_of hb p2); (try replace pl := up_of hb pl)) | (go_at_call 27; refine (PntRet.calls (Least_c n s cap l f _ h) ea.out eva.out e1.out).mono ?_; rintro e A1 ⟨rfl, hb⟩; (try replace h := up_of hb h); (try replace hB := up_of hb hB); (try replace d0 := up_of hb d0); (try replace d1 := up_of hb d1); (try replace dl := up_of hb dl); (try replace f0 := up_of hb f0); (try replace f1 := up_of hb f1); (try replace f2 := up_of hb f2); (try replace fl := up_of hb fl); (try replace p0 := up_of hb p0); (try replace p1 := up_of hb p1); (try replace p2 := up_of hb p2); (try replace pl := up_of hb pl)))
    refine wp_world fun X HX => ?_
    have hX : Below A1.heap.size A1 X := by rw [HX.out]; (repeat (first | exact Below.refl _ _ | refine Below.alloc ?_ (by simp; try omega) _ | refine Below.setCell ?_ (by simp) _ | refine Below.drew ?_))
    have a0 : X.cell? ⟨A1.heap.size, 0, none⟩ = some (.int .i64 a.x) := by rw [HX.out]; simp [go_sem]
    have a1 : X.cell? ⟨A1.heap.size, 1, none⟩ = some (.int .i64 a.y) := by rw [HX.out]; simp [go_sem]
    have a2 : X.cell? ⟨A1.heap.size, 2, none⟩ = some (.int .i64 a.z) := by rw [HX.out]; simp [go_sem]
    have al : A1.heap.size < X.heap.size := World.block_lt_of_cell? X _ a0
    try replace h := up_of hX h
    try replace hB := up_of hX hB
    try replace d0 := up_of hX d0
    try replace d1 := up_of hX d1
    try replace dl := up_of hX dl
    try replace f0 := up_of hX f0
    try replace f1 := up_of hX f1
    try replace f2 := up_of hX f2
    try replace fl := up_of hX fl
    try replace p0 := up_of hX p0
    try replace p1 := up_of hX p1
    try replace p2 := up_of hX p2
    try replace pl := up_of hX pl
    go_upto_region 5 with (first | (go_at_call 29; refine (PntRet.calls (Greatest_c n s cap l f _ h) eb.out evb.out e2.out).mono ?_; rintro e A2 ⟨rfl, hb⟩; (try replace h := up_of hb h); (try replace hB := up_of hb hB); (try replace d0 := up_of hb d0); (try replace d1 := up_of hb d1); (try replace dl := up_of hb dl); (try replace f0 := up_of hb f0); (try replace f1 := up_of hb f1); (try replace f2 := up_of hb f2); (try replace fl := up_of hb fl); (try replace p0 := up_of hb p0); (try replace p1 := up_of hb p1); (try replace p2 := up_of hb p2); (try replace pl := up_of hb pl); (try replace hX := up_of hb hX); (try replace a0 := up_of hb a0); (try replace a1 := up_of hb a1); (try replace a2 := up_of hb a2); (try replace al := up_of hb al)))
    refine wp_world fun Y HY => ?_
    have hY : Below A2.heap.size A2 Y := by rw [HY.out]; (repeat (first | exact Below.refl _ _ | refine Below.alloc ?_ (by simp; try omega) _ | refine Below.setCell ?_ (by simp) _ | refine Below.drew ?_))
    have b0 : Y.cell? ⟨A2.heap.size, 0, none⟩ = some (.int .i64 b.x) := by rw [HY.out]; simp [go_sem]
    have b1 : Y.cell? ⟨A2.heap.size, 1, none⟩ = some (.int .i64 b.y) := by rw [HY.out]; simp [go_sem]
    have b2 : Y.cell? ⟨A2.heap.size, 2, none⟩ = some (.int .i64 b.z) := by rw [HY.out]; simp [go_sem]
    have bl : A2.heap.size < Y.heap.size := World.block_lt_of_cell? Y _ b0
    try replace h := up_of hY h
    try replace hB := up_of hY hB
    try replace d0 := up_of hY d0
    try replace d1 := up_of hY d1
    try replace dl := up_of hY dl
    try replace f0 := up_of hY f0
    try replace f1 := up_of hY f1
    try replace f2 := up_of hY f2
    try replace fl := up_of hY fl
    try replace p0 := up_of hY p0
    try replace p1 := up_of hY p1
    try replace p2 := up_of hY p2
    try replace pl := up_of hY pl
    try replace hX := up_of hY hX
    try replace a0 := up_of hY a0
    try replace a1 := up_of hY a1
    try replace a2 := up_of hY a2
    try replace al := up_of hY al
    go_upto_region 6 with (first | (go_at_call 29; refine (PntRet.calls (Greatest_c n s cap l (negP f) _ h) ec.out evc.out e3.out).mono ?_; rintro e A3 ⟨rfl, hb⟩; (try replace h := up_of hb h); (try replace hB := up_of hb hB); (try replace d0 := up_of hb d0); (try replace d1 := up_of hb d1); (try replace dl := up_of hb dl); (try replace f0 := up_of hb f0); (try replace f1 := up_of hb f1); (try replace f2 := up_of hb f2); (try replace fl := up_of hb fl); (try replace p0 := up_of hb p0); (try replace p1 := up_of hb p1); (try replace p2 := up_of hb p2); (try replace pl := up_of hb pl); (try replace hX := up_of hb hX); (try replace a0 := up_of hb a0); (try replace a1 := up_of hb a1); (try replace a2 := up_of hb a2); (try replace al := up_of hb al); (try replace hY := up_of hb hY); (try replace b0 := up_of hb b0); (try replace b1 := up_of hb b1); (try replace b2 := up_of hb b2); (try replace bl := up_of hb bl)))
    refine wp_world fun Z HZ => ?_
    have hZ : Below A3.heap.size A3 Z := by rw [HZ.out]; (repeat (first | exact Below.refl _ _ | refine Below.alloc ?_ (by simp; try omega) _ | refine Below.setCell ?_ (by simp) _ | refine Below.drew ?_))
    have c0 : Z.cell? ⟨A3.heap.size, 0, none⟩ = some (.int .i64 c.x) := by rw [HZ.out]; simp [go_sem]
    have c1 : Z.cell? ⟨A3.heap.size, 1, none⟩ = some (.int .i64 c.y) := by rw [HZ.out]; simp [go_sem]
    have c2 : Z.cell? ⟨A3.heap.size, 2, none⟩ = some (.int .i64 c.z) := by rw [HZ.out]; simp [go_sem]
    have cl : A3.heap.size < Z.heap.size := World.block_lt_of_cell? Z _ c0
    try replace h := up_of hZ h
    try replace hB := up_of hZ hB
    try replace d0 := up_of hZ d0
    try replace d1 := up_of hZ d1
    try replace dl := up_of hZ dl
    try replace f0 := up_of hZ f0
    try replace f1 := up_of hZ f1
    try replace f2 := up_of hZ f2
    try replace fl := up_of hZ fl
    try replace p0 := up_of hZ p0
    try replace p1 := up_of hZ p1
    try replace p2 := up_of hZ p2
    try replace pl := up_of hZ pl
    try replace hX := up_of hZ hX
    try replace a0 := up_of hZ a0
    try replace a1 := up_of hZ a1
    try replace a2 := up_of hZ a2
    try replace al := up_of hZ al
    try replace hY := up_of hZ hY
    try replace b0 := up_of hZ b0
    try replace b1 := up_of hZ b1
    try replace b2 := up_of hZ b2
    try replace bl := up_of hZ bl
    go_wp2_with (first | (go_at_call 21; refine (Count_v _ _ _ _ _ h hv'.out [] hL.out).mono ?_; rintro e W1 ⟨rfl, hb⟩; (try replace h := up_of hb h); (try replace hB := up_of hb hB); (try replace d0 := up_of hb d0); (try replace d1 := up_of hb d1); (try replace dl := up_of hb dl); (try replace f0 := up_of hb f0); (try replace f1 := up_of hb f1); (try replace f2 := up_of hb f2); (try replace fl := up_of hb fl); (try replace p0 := up_of hb p0); (try replace p1 := up_of hb p1); (try replace p2 := up_of hb p2); (try replace pl := up_of hb pl); (try replace hX := up_of hb hX); (try replace a0 := up_of hb a0); (try replace a1 := up_of hb a1); (try replace a2 := up_of hb a2); (try replace al := up_of hb al); (try replace hY := up_of hb hY); (try replace b0 := up_of hb b0); (try replace b1 := up_of hb b1); (try replace b2 := up_of hb b2); (try replace bl := up_of hb bl); (try replace hZ := up_of hb hZ); (try replace c0 := up_of hb c0); (try replace c1 := up_of hb c1); (try replace c2 := up_of hb c2); (try replace cl := up_of hb cl)) | (go_at_call 14; refine (awake_c _).mono ?_; rintro e W1 ⟨rfl, hb⟩; (try replace h := up_of hb h); (try replace hB := up_of hb hB); (try replace d0 := up_of hb d0); (try replace d1 := up_of hb d1); (try replace dl := up_of hb dl); (try replace f0 := up_of hb f0); (try replace f1 := up_of hb f1); (try replace f2 := up_of hb f2); (try replace fl := up_of hb fl); (try replace p0 := up_of hb p0); (try replace p1 := up_of hb p1); (try replace p2 := up_of hb p2); (try replace pl := up_of hb pl); (try replace hX := up_of hb hX); (try replace a0 := up_of hb a0); (try replace a1 := up_of hb a1); (try replace a2 := up_of hb a2); (try replace al := up_of hb al); (try replace hY := up_of hb hY); (try replace b0 := up_of hb b0); (try replace b1 := up_of hb b1); (try replace b2 := up_of hb b2); (try replace bl := up_of hb bl); (try replace hZ := up_of hb hZ); (try replace c0 := up_of hb c0); (try replace c1 := up_of hb c1); (try replace c2 := up_of hb c2); (try replace cl := up_of hb cl)))
    go_ret
    exact ⟨rfl, hB⟩
  · obtain ⟨a, b, va, vb, ea, eva, e1, eb, evb, e2, ec, evc, e3, ha, hb, da, db, hab, hall⟩ := values_law hv hf hL
    obtain ⟨L, hL2⟩ : ∃ L, pts n l = L := ⟨_, rfl⟩
    rw [hL2] at hL hpl
    have hpos : 0 < L.length := List.length_pos_iff.2 hL
    have hpos2 : decide (0 < L.length) = true := by simpa using hpos
    replace hL2 := Lib.hid hL2
    replace e1 := Lib.hid e1; replace e2 := Lib.hid e2; replace e3 := Lib.hid e3
    replace ea := Lib.hid ea; replace eva := Lib.hid eva; replace eb := Lib.hid eb; replace evb := Lib.hid evb; replace ec := Lib.hid ec; replace evc := Lib.hid evc
    replace ha := Lib.hid ha; have hb' := Lib.hid hb; clear hb; replace da := Lib.hid da; replace db := Lib.hid db
    have q1 := pt_eq_self a
    obtain ⟨kc, hkc⟩ : ∃ kc, wrap64 (-va) = kc := ⟨_, rfl⟩
    obtain ⟨hp, hhp⟩ : ∃ b, hasB n l p = b := ⟨_, rfl⟩
    obtain ⟨vp, hvp⟩ : ∃ v, wrap64 (dotZ f p) = v := ⟨_, rfl⟩
    have hbd : hp = true → va ≤ vp ∧ vp ≤ vb := fun h => by rw [← hvp]; exact hall p (by rw [hhp, h])
    clear hall
    replace hhp := Lib.hid hhp; replace hvp := Lib.hid hvp; replace hkc := Lib.hid hkc
    cases hp
    · clear hbd
      try clear hbd
      go_enter Try.func8, Try.ntmps8
      go_upto_region 1 with (fail)
      refine wp_world fun W HW => ?_
      have hB : Below w.heap.size w W := by rw [HW.out]; (repeat (first | exact Below.refl _ _ | refine Below.alloc ?_ (by simp; try omega) _ | refine Below.setCell ?_ (by simp) _ | refine Below.drew ?_))
      have d0 : W.cell? ⟨w.heap.size, 0, none⟩ = some (.int .i64 n) := by rw [HW.out]; simp [go_sem]
      have d1 : W.cell? ⟨w.heap.size, 1, none⟩ = some (.slice s l.length cap) := by rw [HW.out]; simp [go_sem]
      have dl : w.heap.size < W.heap.size := World.block_lt_of_cell? W _ d0
      have f0 : W.cell? ⟨w.heap.size + 1, 0, none⟩ = some (.int .i64 f.x) := by rw [HW.out]; simp [go_sem]
      have f1 : W.cell? ⟨w.heap.size + 1, 1, none⟩ = some (.int .i64 f.y) := by rw [HW.out]; simp [go_sem]
      have f2 : W.cell? ⟨w.heap.size + 1, 2, none⟩ = some (.int .i64 f.z) := by rw [HW.out]; simp [go_sem]
      have fl : w.heap.size + 1 < W.heap.size := World.block_lt_of_cell? W _ f0
      have p0 : W.cell? ⟨w.heap.size + 2, 0, none⟩ = some (.int .i64 p.x) := by rw [HW.out]; simp [go_sem]
      have p1 : W.cell? ⟨w.heap.size + 2, 1, none⟩ = some (.int .i64 p.y) := by rw [HW.out]; simp [go_sem]
      have p2 : W.cell? ⟨w.heap.size + 2, 2, none⟩ = some (.int .i64 p.z) := by rw [HW.out]; simp [go_sem]
      have pl : w.heap.size + 2 < W.heap.size := World.block_lt_of_cell? W _ p0
      try replace h := up_of hB h
      go_upto_region 4 with (first | (go_at_call 13; refine (wide_c _ _ _ _ _ hlen).mono ?_; rintro e W1 ⟨rfl, hb⟩; (try replace h := up_of hb h); (try replace hB := up_of hb hB); (try replace d0 := up_of hb d0); (try replace d1 := up_of hb d1); (try replace dl := up_of hb dl); (try replace f0 := up_of hb f0); (try replace f1 := up_of hb f1); (try replace f2 := up_of hb f2); (try replace fl := up_of hb fl); (try replace p0 := up_of hb p0); (try replace p1 := up_of hb p1); (try replace p2 := up_of hb p2); (try replace pl := up_of hb pl)) | (go_at_call 18; refine (rValid_t _ _ _ _ _ h).mono ?_; rintro e W1 ⟨rfl, hb⟩; (try replace h := up_of hb h); (try replace hB := up_of hb hB); (try replace d0 := up_of hb d0); (try replace d1 := up_of hb d1); (try replace dl := up_of hb dl); (try replace f0 := up_of hb f0); (try replace f1 := up_of hb f1); (try replace f2 := up_of hb f2); (try replace fl := up_of hb fl); (try replace p0 := up_of hb p0); (try replace p1 := up_of hb p1); (try replace p2 := up_of hb p2); (try replace pl := up_of hb pl)) | (go_at_call 33; refine (Flat_c _ _ _ _ (by omega) (by omega)).mono ?_; rintro e W1 ⟨rfl, hb⟩; (try replace h := up_of hb h); (try replace hB := up_of hb hB); (try replace d0 := up_of hb d0); (try replace d1 := up_of hb d1); (try replace dl := up_of hb dl); (try replace f0 := up_of hb f0); (try replace f1 := up_of hb f1); (try replace f2 := up_of hb f2); (try replace fl := up_of hb fl); (try replace p0 := up_of hb p0); (try replace p1 := up_of hb p1); (try replace p2 := up_of hb p2); (try replace pl := up_of hb pl)) | (go_at_call 27; refine (PntRet.calls (Least_c n s cap l f _ h) ea.out eva.out e1.out).mono ?_; rintro e A1 ⟨rfl, hb⟩; (try replace h := up_of hb h); (try replace hB := up_of hb hB); (try replace d0 := up_of hb d0); (try replace d1 := up_of hb d1); (try replace dl := up_of hb dl); (try replace f0 := up_of hb f0); (try replace f1 := up_of hb f1); (try replace f2 := up_of hb f2); (try replace fl := up_of hb fl); (try replace p0 := up_of hb p0); (try replace p1 := up_of hb p1); (try replace p2 := up_of hb p2); (try replace pl := up_of hb pl)))
      refine wp_world fun X HX => ?_
      have hX : Below A1.heap.size A1 X := by rw [HX.out]; (repeat (first | exact Below.refl _ _ | refine Below.alloc ?_ (by simp; try omega) _ | refine Below.setCell ?_ (by simp) _ | refine Below.drew ?_))
      have a0 : X.cell? ⟨A1.heap.size, 0, none⟩ = some (.int .i64 a.x) := by rw [HX.out]; simp [go_sem]
      have a1 : X.cell? ⟨A1.heap.size, 1, none⟩ = some (.int .i64 a.y) := by rw [HX.out]; simp [go_sem]
      have a2 : X.cell? ⟨A1.heap.size, 2, none⟩ = some (.int .i64 a.z) := by rw [HX.out]; simp [go_sem]
      have al : A1.heap.size < X.heap.size := World.block_lt_of_cell? X _ a0
      try replace h := up_of hX h
      try replace hB := up_of hX hB
      try replace d0 := up_of hX d0
      try replace d1 := up_of hX d1
      try replace dl := up_of hX dl
      try replace f0 := up_of hX f0
      try replace f1 := up_of hX f1
      try replace f2 := up_of hX f2
      try replace fl := up_of hX fl
      try replace p0 := up_of hX p0
      try replace p1 := up_of hX p1
      try replace p2 := up_of hX p2
      try replace pl := up_of hX pl
      go_upto_region 5 with (first | (go_at_call 29; refine (PntRet.calls (Greatest_c n s cap l f _ h) eb.out evb.out e2.out).mono ?_; rintro e A2 ⟨rfl, hb⟩; (try replace h := up_of hb h); (try replace hB := up_of hb hB); (try replace d0 := up_of hb d0); (try replace d1 := up_of hb d1); (try replace dl := up_of hb dl); (try replace f0 := up_of hb f0); (try replace f1 := up_of hb f1); (try replace f2 := up_of hb f2); (try replace fl := up_of hb fl); (try replace p0 := up_of hb p0); (try replace p1 := up_of hb p1); (try replace p2 := up_of hb p2); (try replace pl := up_of hb pl); (try replace hX := up_of hb hX); (try replace a0 := up_of hb a0); (try replace a1 := up_of hb a1); (try replace a2 := up_of hb a2); (try replace al := up_of hb al)))
      refine wp_world fun Y HY => ?_
      have hY : Below A2.heap.size A2 Y := by rw [HY.out]; (repeat (first | exact Below.refl _ _ | refine Below.alloc ?_ (by simp; try omega) _ | refine Below.setCell ?_ (by simp) _ | refine Below.drew ?_))
      have b0 : Y.cell? ⟨A2.heap.size, 0, none⟩ = some (.int .i64 b.x) := by rw [HY.out]; simp [go_sem]
      have b1 : Y.cell? ⟨A2.heap.size, 1, none⟩ = some (.int .i64 b.y) := by rw [HY.out]; simp [go_sem]
      have b2 : Y.cell? ⟨A2.heap.size, 2, none⟩ = some (.int .i64 b.z) := by rw [HY.out]; simp [go_sem]
      have bl : A2.heap.size < Y.heap.size := World.block_lt_of_cell? Y _ b0
      try replace h := up_of hY h
      try replace hB := up_of hY hB
      try replace d0 := up_of hY d0
      try replace d1 := up_of hY d1
      try replace dl := up_of hY dl
      try replace f0 := up_of hY f0
      try replace f1 := up_of hY f1
      try replace f2 := up_of hY f2
      try replace fl := up_of hY fl
      try replace p0 := up_of hY p0
      try replace p1 := up_of hY p1
      try replace p2 := up_of hY p2
      try replace pl := up_of hY pl
      try replace hX := up_of hY hX
      try replace a0 := up_of hY a0
      try replace a1 := up_of hY a1
      try replace a2 := up_of hY a2
      try replace al := up_of hY al
      go_upto_region 6 with (first | (go_at_call 29; refine (PntRet.calls (Greatest_c n s cap l (negP f) _ h) ec.out evc.out e3.out).mono ?_; rintro e A3 ⟨rfl, hb⟩; (try replace h := up_of hb h); (try replace hB := up_of hb hB); (try replace d0 := up_of hb d0); (try replace d1 := up_of hb d1); (try replace dl := up_of hb dl); (try replace f0 := up_of hb f0); (try replace f1 := up_of hb f1); (try replace f2 := up_of hb f2); (try replace fl := up_of hb fl); (try replace p0 := up_of hb p0); (try replace p1 := up_of hb p1); (try replace p2 := up_of hb p2); (try replace pl := up_of hb pl); (try replace hX := up_of hb hX); (try replace a0 := up_of hb a0); (try replace a1 := up_of hb a1); (try replace a2 := up_of hb a2); (try replace al := up_of hb al); (try replace hY := up_of hb hY); (try replace b0 := up_of hb b0); (try replace b1 := up_of hb b1); (try replace b2 := up_of hb b2); (try replace bl := up_of hb bl)))
      refine wp_world fun Z HZ => ?_
      have hZ : Below A3.heap.size A3 Z := by rw [HZ.out]; (repeat (first | exact Below.refl _ _ | refine Below.alloc ?_ (by simp; try omega) _ | refine Below.setCell ?_ (by simp) _ | refine Below.drew ?_))
      have c0 : Z.cell? ⟨A3.heap.size, 0, none⟩ = some (.int .i64 a.x) := by rw [HZ.out]; simp [go_sem]
      have c1 : Z.cell? ⟨A3.heap.size, 1, none⟩ = some (.int .i64 a.y) := by rw [HZ.out]; simp [go_sem]
      have c2 : Z.cell? ⟨A3.heap.size, 2, none⟩ = some (.int .i64 a.z) := by rw [HZ.out]; simp [go_sem]
      have cl : A3.heap.size < Z.heap.size := World.block_lt_of_cell? Z _ c0
      try replace h := up_of hZ h
      try replace hB := up_of hZ hB
      try replace d0 := up_of hZ d0
      try replace d1 := up_of hZ d1
      try replace dl := up_of hZ dl
      try replace f0 := up_of hZ f0
      try replace f1 := up_of hZ f1
      try replace f2 := up_of hZ f2
      try replace fl := up_of hZ fl
      try replace p0 := up_of hZ p0
      try replace p1 := up_of hZ p1
      try replace p2 := up_of hZ p2
      try replace pl := up_of hZ pl
      try replace hX := up_of hZ hX
      try replace a0 := up_of hZ a0
      try replace a1 := up_of hZ a1
      try replace a2 := up_of hZ a2
      try replace al := up_of hZ al
      try replace hY := up_of hZ hY
      try replace b0 := up_of hZ b0
      try replace b1 := up_of hZ b1
      try replace b2 := up_of hZ b2
      try replace bl := up_of hZ bl
      go_upto_region 11 with (first | (go_at_call 21; refine (Count_v _ _ _ _ _ h hv'.out L hL2.out).mono ?_; rintro e W1 ⟨rfl, hb⟩; (try replace h := up_of hb h); (try replace hB := up_of hb hB); (try replace d0 := up_of hb d0); (try replace d1 := up_of hb d1); (try replace dl := up_of hb dl); (try replace f0 := up_of hb f0); (try replace f1 := up_of hb f1); (try replace f2 := up_of hb f2); (try replace fl := up_of hb fl); (try replace p0 := up_of hb p0); (try replace p1 := up_of hb p1); (try replace p2 := up_of hb p2); (try replace pl := up_of hb pl); (try replace hX := up_of hb hX); (try replace a0 := up_of hb a0); (try replace a1 := up_of hb a1); (try replace a2 := up_of hb a2); (try replace al := up_of hb al); (try replace hY := up_of hb hY); (try replace b0 := up_of hb b0); (try replace b1 := up_of hb b1); (try replace b2 := up_of hb b2); (try replace bl := up_of hb bl); (try replace hZ := up_of hb hZ); (try replace c0 := up_of hb c0); (try replace c1 := up_of hb c1); (try replace c2 := up_of hb c2); (try replace cl := up_of hb cl)))
      go_upto_region 12 with (first | (go_at_call 15; refine (Has_b n s cap l a _ h hv'.out ha.out).mono ?_; rintro e W1 ⟨rfl, hb⟩; (try replace h := up_of hb h); (try replace hB := up_of hb hB); (try replace d0 := up_of hb d0); (try replace d1 := up_of hb d1); (try replace dl := up_of hb dl); (try replace f0 := up_of hb f0); (try replace f1 := up_of hb f1); (try replace f2 := up_of hb f2); (try replace fl := up_of hb fl); (try replace p0 := up_of hb p0); (try replace p1 := up_of hb p1); (try replace p2 := up_of hb p2); (try replace pl := up_of hb pl); (try replace hX := up_of hb hX); (try replace a0 := up_of hb a0); (try replace a1 := up_of hb a1); (try replace a2 := up_of hb a2); (try replace al := up_of hb al); (try replace hY := up_of hb hY); (try replace b0 := up_of hb b0); (try replace b1 := up_of hb b1); (try replace b2 := up_of hb b2); (try replace bl := up_of hb bl); (try replace hZ := up_of hb hZ); (try replace c0 := up_of hb c0); (try replace c1 := up_of hb c1); (try replace c2 := up_of hb c2); (try replace cl := up_of hb cl)))
      go_upto_region 13 with (first | (go_at_call 15; refine (Has_b n s cap l b _ h hv'.out hb'.out).mono ?_; rintro e W1 ⟨rfl, hb⟩; (try replace h := up_of hb h); (try replace hB := up_of hb hB); (try replace d0 := up_of hb d0); (try replace d1 := up_of hb d1); (try replace dl := up_of hb dl); (try replace f0 := up_of hb f0); (try replace f1 := up_of hb f1); (try replace f2 := up_of hb f2); (try replace fl := up_of hb fl); (try replace p0 := up_of hb p0); (try replace p1 := up_of hb p1); (try replace p2 := up_of hb p2); (try replace pl := up_of hb pl); (try replace hX := up_of hb hX); (try replace a0 := up_of hb a0); (try replace a1 := up_of hb a1); (try replace a2 := up_of hb a2); (try replace al := up_of hb al); (try replace hY := up_of hb hY); (try replace b0 := up_of hb b0); (try replace b1 := up_of hb b1); (try replace b2 := up_of hb b2); (try replace bl := up_of hb bl); (try replace hZ := up_of hb hZ); (try replace c0 := up_of hb c0); (try replace c1 := up_of hb c1); (try replace c2 := up_of hb c2); (try replace cl := up_of hb cl)))
      go_wp2_with fail
      refine (Dot_e f a _ da.out).mono ?_
      rintro e W1 ⟨rfl, hb⟩
      try replace h := up_of hb h
      try replace hB := up_of hb hB
      try replace d0 := up_of hb d0
      try replace d1 := up_of hb d1
      try replace dl := up_of hb dl
      try replace f0 := up_of hb f0
      try replace f1 := up_of hb f1
      try replace f2 := up_of hb f2
      try replace fl := up_of hb fl
      try replace p0 := up_of hb p0
      try replace p1 := up_of hb p1
      try replace p2 := up_of hb p2
      try replace pl := up_of hb pl
      try replace hX := up_of hb hX
      try replace a0 := up_of hb a0
      try replace a1 := up_of hb a1
      try replace a2 := up_of hb a2
      try replace al := up_of hb al
      try replace hY := up_of hb hY
      try replace b0 := up_of hb b0
      try replace b1 := up_of hb b1
      try replace b2 := up_of hb b2
      try replace bl := up_of hb bl
      try replace hZ := up_of hb hZ
      try replace c0 := up_of hb c0
      try replace c1 := up_of hb c1
      try replace c2 := up_of hb c2
      try replace cl := up_of hb cl
      go_wp2_with fail
      refine (Dot_e f b _ db.out).mono ?_
      rintro e W1 ⟨rfl, hb⟩
      try replace h := up_of hb h
      try replace hB := up_of hb hB
      try replace d0 := up_of hb d0
      try replace d1 := up_of hb d1
      try replace dl := up_of hb dl
      try replace f0 := up_of hb f0
      try replace f1 := up_of hb f1
      try replace f2 := up_of hb f2
      try replace fl := up_of hb fl
      try replace p0 := up_of hb p0
      try replace p1 := up_of hb p1
      try replace p2 := up_of hb p2
      try replace pl := up_of hb pl
      try replace hX := up_of hb hX
      try replace a0 := up_of hb a0
      try replace a1 := up_of hb a1
      try replace a2 := up_of hb a2
      try replace al := up_of hb al
      try replace hY := up_of hb hY
      try replace b0 := up_of hb b0
      try replace b1 := up_of hb b1
      try replace b2 := up_of hb b2
      try replace bl := up_of hb bl
      try replace hZ := up_of hb hZ
      try replace c0 := up_of hb c0
      try replace c1 := up_of hb c1
      try replace c2 := up_of hb c2
      try replace cl := up_of hb cl
      go_wp2_with (first | (go_at_call 15; refine (Has_b n s cap l p _ h hv'.out hhp.out).mono ?_; rintro e W1 ⟨rfl, hb⟩; (try replace h := up_of hb h); (try replace hB := up_of hb hB); (try replace d0 := up_of hb d0); (try replace d1 := up_of hb d1); (try replace dl := up_of hb dl); (try replace f0 := up_of hb f0); (try replace f1 := up_of hb f1); (try replace f2 := up_of hb f2); (try replace fl := up_of hb fl); (try replace p0 := up_of hb p0); (try replace p1 := up_of hb p1); (try replace p2 := up_of hb p2); (try replace pl := up_of hb pl); (try replace hX := up_of hb hX); (try replace a0 := up_of hb a0); (try replace a1 := up_of hb a1); (try replace a2 := up_of hb a2); (try replace al := up_of hb al); (try replace hY := up_of hb hY); (try replace b0 := up_of hb b0); (try replace b1 := up_of hb b1); (try replace b2 := up_of hb b2); (try replace bl := up_of hb bl); (try replace hZ := up_of hb hZ); (try replace c0 := up_of hb c0); (try replace c1 := up_of hb c1); (try replace c2 := up_of hb c2); (try replace cl := up_of hb cl)) | (go_at_call 35; refine (Dot_e f p _ hvp.out).mono ?_; rintro e W1 ⟨rfl, hb⟩; (try replace h := up_of hb h); (try replace hB := up_of hb hB); (try replace d0 := up_of hb d0); (try replace d1 := up_of hb d1); (try replace dl := up_of hb dl); (try replace f0 := up_of hb f0); (try replace f1 := up_of hb f1); (try replace f2 := up_of hb f2); (try replace fl := up_of hb fl); (try replace p0 := up_of hb p0); (try replace p1 := up_of hb p1); (try replace p2 := up_of hb p2); (try replace pl := up_of hb pl); (try replace hX := up_of hb hX); (try replace a0 := up_of hb a0); (try replace a1 := up_of hb a1); (try replace a2 := up_of hb a2); (try replace al := up_of hb al); (try replace hY := up_of hb hY); (try replace b0 := up_of hb b0); (try replace b1 := up_of hb b1); (try replace b2 := up_of hb b2); (try replace bl := up_of hb bl); (try replace hZ := up_of hb hZ); (try replace c0 := up_of hb c0); (try replace c1 := up_of hb c1); (try replace c2 := up_of hb c2); (try replace cl := up_of hb cl)) | (go_at_call 14; refine (awake_c _).mono ?_; rintro e W1 ⟨rfl, hb⟩; (try replace h := up_of hb h); (try replace hB := up_of hb hB); (try replace d0 := up_of hb d0); (try replace d1 := up_of hb d1); (try replace dl := up_of hb dl); (try replace f0 := up_of hb f0); (try replace f1 := up_of hb f1); (try replace f2 := up_of hb f2); (try replace fl := up_of hb fl); (try replace p0 := up_of hb p0); (try replace p1 := up_of hb p1); (try replace p2 := up_of hb p2); (try replace pl := up_of hb pl); (try replace hX := up_of hb hX); (try replace a0 := up_of hb a0); (try replace a1 := up_of hb a1); (try replace a2 := up_of hb a2); (try replace al := up_of hb al); (try replace hY := up_of hb hY); (try replace b0 := up_of hb b0); (try replace b1 := up_of hb b1); (try replace b2 := up_of hb b2); (try replace bl := up_of hb bl); (try replace hZ := up_of hb hZ); (try replace c0 := up_of hb c0); (try replace c1 := up_of hb c1); (try replace c2 := up_of hb c2); (try replace cl := up_of hb cl)))
      go_ret
      exact ⟨rfl, hB⟩
    · rcases hbd rfl with ⟨g1, g2⟩
      try clear hbd
      go_enter Try.func8, Try.ntmps8
      go_upto_region 1 with (fail)
      refine wp_world fun W HW => ?_
      have hB : Below w.heap.size w W := by rw [HW.out]; (repeat (first | exact Below.refl _ _ | refine Below.alloc ?_ (by simp; try omega) _ | refine Below.setCell ?_ (by simp) _ | refine Below.drew ?_))
      have d0 : W.cell? ⟨w.heap.size, 0, none⟩ = some (.int .i64 n) := by rw [HW.out]; simp [go_sem]
      have d1 : W.cell? ⟨w.heap.size, 1, none⟩ = some (.slice s l.length cap) := by rw [HW.out]; simp [go_sem]
      have dl : w.heap.size < W.heap.size := World.block_lt_of_cell? W _ d0
      have f0 : W.cell? ⟨w.heap.size + 1, 0, none⟩ = some (.int .i64 f.x) := by rw [HW.out]; simp [go_sem]
      have f1 : W.cell? ⟨w.heap.size + 1, 1, none⟩ = some (.int .i64 f.y) := by rw [HW.out]; simp [go_sem]
      have f2 : W.cell? ⟨w.heap.size + 1, 2, none⟩ = some (.int .i64 f.z) := by rw [HW.out]; simp [go_sem]
      have fl : w.heap.size + 1 < W.heap.size := World.block_lt_of_cell? W _ f0
      have p0 : W.cell? ⟨w.heap.size + 2, 0, none⟩ = some (.int .i64 p.x) := by rw [HW.out]; simp [go_sem]
      have p1 : W.cell? ⟨w.heap.size + 2, 1, none⟩ = some (.int .i64 p.y) := by rw [HW.out]; simp [go_sem]
      have p2 : W.cell? ⟨w.heap.size + 2, 2, none⟩ = some (.int .i64 p.z) := by rw [HW.out]; simp [go_sem]
      have pl : w.heap.size + 2 < W.heap.size := World.block_lt_of_cell? W _ p0
      try replace h := up_of hB h
      go_upto_region 4 with (first | (go_at_call 13; refine (wide_c _ _ _ _ _ hlen).mono ?_; rintro e W1 ⟨rfl, hb⟩; (try replace h := up_of hb h); (try replace hB := up_of hb hB); (try replace d0 := up_of hb d0); (try replace d1 := up_of hb d1); (try replace dl := up_of hb dl); (try replace f0 := up_of hb f0); (try replace f1 := up_of hb f1); (try replace f2 := up_of hb f2); (try replace fl := up_of hb fl); (try replace p0 := up_of hb p0); (try replace p1 := up_of hb p1); (try replace p2 := up_of hb p2); (try replace pl := up_of hb pl)) | (go_at_call 18; refine (rValid_t _ _ _ _ _ h).mono ?_; rintro e W1 ⟨rfl, hb⟩; (try replace h := up_of hb h); (try replace hB := up_of hb hB); (try replace d0 := up_of hb d0); (try replace d1 := up_of hb d1); (try replace dl := up_of hb dl); (try replace f0 := up_of hb f0); (try replace f1 := up_of hb f1); (try replace f2 := up_of hb f2); (try replace fl := up_of hb fl); (try replace p0 := up_of hb p0); (try replace p1 := up_of hb p1); (try replace p2 := up_of hb p2); (try replace pl := up_of hb pl)) | (go_at_call 33; refine (Flat_c _ _ _ _ (by omega) (by omega)).mono ?_; rintro e W1 ⟨rfl, hb⟩; (try replace h := up_of hb h); (try replace hB := up_of hb hB); (try replace d0 := up_of hb d0); (try replace d1 := up_of hb d1); (try replace dl := up_of hb dl); (try replace f0 := up_of hb f0); (try replace f1 := up_of hb f1); (try replace f2 := up_of hb f2); (try replace fl := up_of hb fl); (try replace p0 := up_of hb p0); (try replace p1 := up_of hb p1); (try replace p2 := up_of hb p2); (try replace pl := up_of hb pl)) | (go_at_call 27; refine (PntRet.calls (Least_c n s cap l f _ h) ea.out eva.out e1.out).mono ?_; rintro e A1 ⟨rfl, hb⟩; (try replace h := up_of hb h); (try replace hB := up_of hb hB); (try replace d0 := up_of hb d0); (try replace d1 := up_of hb d1); (try replace dl := up_of hb dl); (try replace f0 := up_of hb f0); (try replace f1 := up_of hb f1); (try replace f2 := up_of hb f2); (try replace fl := up_of hb fl); (try replace p0 := up_of hb p0); (try replace p1 := up_of hb p1); (try replace p2 := up_of hb p2); (try replace pl := up_of hb pl)))
      refine wp_world fun X HX => ?_
      have hX : Below A1.heap.size A1 X := by rw [HX.out]; (repeat (first | exact Below.refl _ _ | refine Below.alloc ?_ (by simp; try omega) _ | refine Below.setCell ?_ (by simp) _ | refine Below.drew ?_))
      have a0 : X.cell? ⟨A1.heap.size, 0, none⟩ = some (.int .i64 a.x) := by rw [HX.out]; simp [go_sem]
      have a1 : X.cell? ⟨A1.heap.size, 1, none⟩ = some (.int .i64 a.y) := by rw [HX.out]; simp [go_sem]
      have a2 : X.cell? ⟨A1.heap.size, 2, none⟩ = some (.int .i64 a.z) := by rw [HX.out]; simp [go_sem]
      have al : A1.heap.size < X.heap.size := World.block_lt_of_cell? X _ a0
      try replace h := up_of hX h
      try replace hB := up_of hX hB
      try replace d0 := up_of hX d0
      try replace d1 := up_of hX d1
      try replace dl := up_of hX dl
      try replace f0 := up_of hX f0
      try replace f1 := up_of hX f1
      try replace f2 := up_of hX f2
      try replace fl := up_of hX fl
      try replace p0 := up_of hX p0
      try replace p1 := up_of hX p1
      try replace p2 := up_of hX p2
      try replace pl := up_of hX pl
      go_upto_region 5 with (first | (go_at_call 29; refine (PntRet.calls (Greatest_c n s cap l f _ h) eb.out evb.out e2.out).mono ?_; rintro e A2 ⟨rfl, hb⟩; (try replace h := up_of hb h); (try replace hB := up_of hb hB); (try replace d0 := up_of hb d0); (try replace d1 := up_of hb d1); (try replace dl := up_of hb dl); (try replace f0 := up_of hb f0); (try replace f1 := up_of hb f1); (try replace f2 := up_of hb f2); (try replace fl := up_of hb fl); (try replace p0 := up_of hb p0); (try replace p1 := up_of hb p1); (try replace p2 := up_of hb p2); (try replace pl := up_of hb pl); (try replace hX := up_of hb hX); (try replace a0 := up_of hb a0); (try replace a1 := up_of hb a1); (try replace a2 := up_of hb a2); (try replace al := up_of hb al)))
      refine wp_world fun Y HY => ?_
      have hY : Below A2.heap.size A2 Y := by rw [HY.out]; (repeat (first | exact Below.refl _ _ | refine Below.alloc ?_ (by simp; try omega) _ | refine Below.setCell ?_ (by simp) _ | refine Below.drew ?_))
      have b0 : Y.cell? ⟨A2.heap.size, 0, none⟩ = some (.int .i64 b.x) := by rw [HY.out]; simp [go_sem]
      have b1 : Y.cell? ⟨A2.heap.size, 1, none⟩ = some (.int .i64 b.y) := by rw [HY.out]; simp [go_sem]
      have b2 : Y.cell? ⟨A2.heap.size, 2, none⟩ = some (.int .i64 b.z) := by rw [HY.out]; simp [go_sem]
      have bl : A2.heap.size < Y.heap.size := World.block_lt_of_cell? Y _ b0
      try replace h := up_of hY h
      try replace hB := up_of hY hB
      try replace d0 := up_of hY d0
      try replace d1 := up_of hY d1
      try replace dl := up_of hY dl
      try replace f0 := up_of hY f0
      try replace f1 := up_of hY f1
      try replace f2 := up_of hY f2
      try replace fl := up_of hY fl
      try replace p0 := up_of hY p0
      try replace p1 := up_of hY p1
      try replace p2 := up_of hY p2
      try replace pl := up_of hY pl
      try replace hX := up_of hY hX
      try replace a0 := up_of hY a0
      try replace a1 := up_of hY a1
      try replace a2 := up_of hY a2
      try replace al := up_of hY al
      go_upto_region 6 with (first | (go_at_call 29; refine (PntRet.calls (Greatest_c n s cap l (negP f) _ h) ec.out evc.out e3.out).mono ?_; rintro e A3 ⟨rfl, hb⟩; (try replace h := up_of hb h); (try replace hB := up_of hb hB); (try replace d0 := up_of hb d0); (try replace d1 := up_of hb d1); (try replace dl := up_of hb dl); (try replace f0 := up_of hb f0); (try replace f1 := up_of hb f1); (try replace f2 := up_of hb f2); (try replace fl := up_of hb fl); (try replace p0 := up_of hb p0); (try replace p1 := up_of hb p1); (try replace p2 := up_of hb p2); (try replace pl := up_of hb pl); (try replace hX := up_of hb hX); (try replace a0 := up_of hb a0); (try replace a1 := up_of hb a1); (try replace a2 := up_of hb a2); (try replace al := up_of hb al); (try replace hY := up_of hb hY); (try replace b0 := up_of hb b0); (try replace b1 := up_of hb b1); (try replace b2 := up_of hb b2); (try replace bl := up_of hb bl)))
      refine wp_world fun Z HZ => ?_
      have hZ : Below A3.heap.size A3 Z := by rw [HZ.out]; (repeat (first | exact Below.refl _ _ | refine Below.alloc ?_ (by simp; try omega) _ | refine Below.setCell ?_ (by simp) _ | refine Below.drew ?_))
      have c0 : Z.cell? ⟨A3.heap.size, 0, none⟩ = some (.int .i64 a.x) := by rw [HZ.out]; simp [go_sem]
      have c1 : Z.cell? ⟨A3.heap.size, 1, none⟩ = some (.int .i64 a.y) := by rw [HZ.out]; simp [go_sem]
      have c2 : Z.cell? ⟨A3.heap.size, 2, none⟩ = some (.int .i64 a.z) := by rw [HZ.out]; simp [go_sem]
      have cl : A3.heap.size < Z.heap.size := World.block_lt_of_cell? Z _ c0
      try replace h := up_of hZ h
      try replace hB := up_of hZ hB
      try replace d0 := up_of hZ d0
      try replace d1 := up_of hZ d1
      try replace dl := up_of hZ dl
      try replace f0 := up_of hZ f0
      try replace f1 := up_of hZ f1
      try replace f2 := up_of hZ f2
      try replace fl := up_of hZ fl
      try replace p0 := up_of hZ p0
      try replace p1 := up_of hZ p1
      try replace p2 := up_of hZ p2
      try replace pl := up_of hZ pl
      try replace hX := up_of hZ hX
      try replace a0 := up_of hZ a0
      try replace a1 := up_of hZ a1
      try replace a2 := up_of hZ a2
      try replace al := up_of hZ al
      try replace hY := up_of hZ hY
      try replace b0 := up_of hZ b0
      try replace b1 := up_of hZ b1
      try replace b2 := up_of hZ b2
      try replace bl := up_of hZ bl
      go_upto_region 11 with (first | (go_at_call 21; refine (Count_v _ _ _ _ _ h hv'.out L hL2.out).mono ?_; rintro e W1 ⟨rfl, hb⟩; (try replace h := up_of hb h); (try replace hB := up_of hb hB); (try replace d0 := up_of hb d0); (try replace d1 := up_of hb d1); (try replace dl := up_of hb dl); (try replace f0 := up_of hb f0); (try replace f1 := up_of hb f1); (try replace f2 := up_of hb f2); (try replace fl := up_of hb fl); (try replace p0 := up_of hb p0); (try replace p1 := up_of hb p1); (try replace p2 := up_of hb p2); (try replace pl := up_of hb pl); (try replace hX := up_of hb hX); (try replace a0 := up_of hb a0); (try replace a1 := up_of hb a1); (try replace a2 := up_of hb a2); (try replace al := up_of hb al); (try replace hY := up_of hb hY); (try replace b0 := up_of hb b0); (try replace b1 := up_of hb b1); (try replace b2 := up_of hb b2); (try replace bl := up_of hb bl); (try replace hZ := up_of hb hZ); (try replace c0 := up_of hb c0); (try replace c1 := up_of hb c1); (try replace c2 := up_of hb c2); (try replace cl := up_of hb cl)))
      go_upto_region 12 with (first | (go_at_call 15; refine (Has_b n s cap l a _ h hv'.out ha.out).mono ?_; rintro e W1 ⟨rfl, hb⟩; (try replace h := up_of hb h); (try replace hB := up_of hb hB); (try replace d0 := up_of hb d0); (try replace d1 := up_of hb d1); (try replace dl := up_of hb dl); (try replace f0 := up_of hb f0); (try replace f1 := up_of hb f1); (try replace f2 := up_of hb f2); (try replace fl := up_of hb fl); (try replace p0 := up_of hb p0); (try replace p1 := up_of hb p1); (try replace p2 := up_of hb p2); (try replace pl := up_of hb pl); (try replace hX := up_of hb hX); (try replace a0 := up_of hb a0); (try replace a1 := up_of hb a1); (try replace a2 := up_of hb a2); (try replace al := up_of hb al); (try replace hY := up_of hb hY); (try replace b0 := up_of hb b0); (try replace b1 := up_of hb b1); (try replace b2 := up_of hb b2); (try replace bl := up_of hb bl); (try replace hZ := up_of hb hZ); (try replace c0 := up_of hb c0); (try replace c1 := up_of hb c1); (try replace c2 := up_of hb c2); (try replace cl := up_of hb cl)))
      go_upto_region 13 with (first | (go_at_call 15; refine (Has_b n s cap l b _ h hv'.out hb'.out).mono ?_; rintro e W1 ⟨rfl, hb⟩; (try replace h := up_of hb h); (try replace hB := up_of hb hB); (try replace d0 := up_of hb d0); (try replace d1 := up_of hb d1); (try replace dl := up_of hb dl); (try replace f0 := up_of hb f0); (try replace f1 := up_of hb f1); (try replace f2 := up_of hb f2); (try replace fl := up_of hb fl); (try replace p0 := up_of hb p0); (try replace p1 := up_of hb p1); (try replace p2 := up_of hb p2); (try replace pl := up_of hb pl); (try replace hX := up_of hb hX); (try replace a0 := up_of hb a0); (try replace a1 := up_of hb a1); (try replace a2 := up_of hb a2); (try replace al := up_of hb al); (try replace hY := up_of hb hY); (try replace b0 := up_of hb b0); (try replace b1 := up_of hb b1); (try replace b2 := up_of hb b2); (try replace bl := up_of hb bl); (try replace hZ := up_of hb hZ); (try replace c0 := up_of hb c0); (try replace c1 := up_of hb c1); (try replace c2 := up_of hb c2); (try replace cl := up_of hb cl)))
      go_wp2_with fail
      refine (Dot_e f a _ da.out).mono ?_
      rintro e W1 ⟨rfl, hb⟩
      try replace h := up_of hb h
      try replace hB := up_of hb hB
      try replace d0 := up_of hb d0
      try replace d1 := up_of hb d1
      try replace dl := up_of hb dl
      try replace f0 := up_of hb f0
      try replace f1 := up_of hb f1
      try replace f2 := up_of hb f2
      try replace fl := up_of hb fl
      try replace p0 := up_of hb p0
      try replace p1 := up_of hb p1
      try replace p2 := up_of hb p2
      try replace pl := up_of hb pl
      try replace hX := up_of hb hX
      try replace a0 := up_of hb a0
      try replace a1 := up_of hb a1
      try replace a2 := up_of hb a2
      try replace al := up_of hb al
      try replace hY := up_of hb hY
      try replace b0 := up_of hb b0
      try replace b1 := up_of hb b1
      try replace b2 := up_of hb b2
      try replace bl := up_of hb bl
      try replace hZ := up_of hb hZ
      try replace c0 := up_of hb c0
      try replace c1 := up_of hb c1
      try replace c2 := up_of hb c2
      try replace cl := up_of hb cl
      go_wp2_with fail
      refine (Dot_e f b _ db.out).mono ?_
      rintro e W1 ⟨rfl, hb⟩
      try replace h := up_of hb h
      try replace hB := up_of hb hB
      try replace d0 := up_of hb d0
      try replace d1 := up_of hb d1
      try replace dl := up_of hb dl
      try replace f0 := up_of hb f0
      try replace f1 := up_of hb f1
      try replace f2 := up_of hb f2
      try replace fl := up_of hb fl
      try replace p0 := up_of hb p0
      try replace p1 := up_of hb p1
      try replace p2 := up_of hb p2
      try replace pl := up_of hb pl
      try replace hX := up_of hb hX
      try replace a0 := up_of hb a0
      try replace a1 := up_of hb a1
      try replace a2 := up_of hb a2
      try replace al := up_of hb al
      try replace hY := up_of hb hY
      try replace b0 := up_of hb b0
      try replace b1 := up_of hb b1
      try replace b2 := up_of hb b2
      try replace bl := up_of hb bl
      try replace hZ := up_of hb hZ
      try replace c0 := up_of hb c0
      try replace c1 := up_of hb c1
      try replace c2 := up_of hb c2
      try replace cl := up_of hb cl
      go_wp2_with (first | (go_at_call 15; refine (Has_b n s cap l p _ h hv'.out hhp.out).mono ?_; rintro e W1 ⟨rfl, hb⟩; (try replace h := up_of hb h); (try replace hB := up_of hb hB); (try replace d0 := up_of hb d0); (try replace d1 := up_of hb d1); (try replace dl := up_of hb dl); (try replace f0 := up_of hb f0); (try replace f1 := up_of hb f1); (try replace f2 := up_of hb f2); (try replace fl := up_of hb fl); (try replace p0 := up_of hb p0); (try replace p1 := up_of hb p1); (try replace p2 := up_of hb p2); (try replace pl := up_of hb pl); (try replace hX := up_of hb hX); (try replace a0 := up_of hb a0); (try replace a1 := up_of hb a1); (try replace a2 := up_of hb a2); (try replace al := up_of hb al); (try replace hY := up_of hb hY); (try replace b0 := up_of hb b0); (try replace b1 := up_of hb b1); (try replace b2 := up_of hb b2); (try replace bl := up_of hb bl); (try replace hZ := up_of hb hZ); (try replace c0 := up_of hb c0); (try replace c1 := up_of hb c1); (try replace c2 := up_of hb c2); (try replace cl := up_of hb cl)) | (go_at_call 35; refine (Dot_e f p _ hvp.out).mono ?_; rintro e W1 ⟨rfl, hb⟩; (try replace h := up_of hb h); (try replace hB := up_of hb hB); (try replace d0 := up_of hb d0); (try replace d1 := up_of hb d1); (try replace dl := up_of hb dl); (try replace f0 := up_of hb f0); (try replace f1 := up_of hb f1); (try replace f2 := up_of hb f2); (try replace fl := up_of hb fl); (try replace p0 := up_of hb p0); (try replace p1 := up_of hb p1); (try replace p2 := up_of hb p2); (try replace pl := up_of hb pl); (try replace hX := up_of hb hX); (try replace a0 := up_of hb a0); (try replace a1 := up_of hb a1); (try replace a2 := up_of hb a2); (try replace al := up_of hb al); (try replace hY := up_of hb hY); (try replace b0 := up_of hb b0); (try replace b1 := up_of hb b1); (try replace b2 := up_of hb b2); (try replace bl := up_of hb bl); (try replace hZ := up_of hb hZ); (try replace c0 := up_of hb c0); (try replace c1 := up_of hb c1); (try replace c2 := up_of hb c2); (try replace cl := up_of hb cl)) | (go_at_call 14; refine (awake_c _).mono ?_; rintro e W1 ⟨rfl, hb⟩; (try replace h := up_of hb h); (try replace hB := up_of hb hB); (try replace d0 := up_of hb d0); (try replace d1 := up_of hb d1); (try replace dl := up_of hb dl); (try replace f0 := up_of hb f0); (try replace f1 := up_of hb f1); (try replace f2 := up_of hb f2); (try replace fl := up_of hb fl); (try replace p0 := up_of hb p0); (try replace p1 := up_of hb p1); (try replace p2 := up_of hb p2); (try replace pl := up_of hb pl); (try replace hX := up_of hb hX); (try replace a0 := up_of hb a0); (try replace a1 := up_of hb a1); (try replace a2 := up_of hb a2); (try replace al := up_of hb al); (try replace hY := up_of hb hY); (try replace b0 := up_of hb b0); (try replace b1 := up_of hb b1); (try replace b2 := up_of hb b2); (try replace bl := up_of hb bl); (try replace hZ := up_of hb hZ); (try replace c0 := up_of hb c0); (try replace c1 := up_of hb c1); (try replace c2 := up_of hb c2); (try replace cl := up_of hb cl)))
      go_ret
      exact ⟨rfl, hB⟩
end Go.Proofs.Ytfebkccdcbkdiaa
