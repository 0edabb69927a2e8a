/- The walk of PolyBoth. -/
import Derived.Test.YtfebkccdcbkdiaaPoly38
namespace Go.Proofs.Ytfebkccdcbkdiaa
open Go.RowKit

theorem bothL_len (n m : Int) (l k : List Iq) : (bothL n m l k).length ≤ 9223372036854775807 := by
  unfold bothL
  split
  · have := both_ok (by assumption); simp only [List.length_append]; omega
  · simp
theorem turnR_len (n : Int) (p : Pt) (l : List Iq) (h : l.length ≤ 9223372036854775807) : (turnR n l p).length ≤ 9223372036854775807 := by
  unfold turnR
  split
  · rw [turn_len]; exact h
  · simp
set_option maxRecDepth 100000 in
set_option maxHeartbeats 2000000 in
theorem PolyBoth_w (n : Int) (s : Option Addr) (cs : Nat) (l : List Iq) (m : Int) (t : Option Addr) (ct : Nat) (k : List Iq) (p : Pt) (w : World) (h : Dom w s l) (hc : s = none → cs = 0) (g : Dom w t k) (gc : t = none → ct = 0) :
    Calls Try.prog 11 #[.agg #[.int .i64 n, .slice s l.length cs], .agg #[.int .i64 m, .slice t k.length ct], .agg #[.int .i64 p.x, .int .i64 p.y, .int .i64 p.z]] w fun e w' => e = .returned (.bool true) ∧ Below w.heap.size w w' := by
  have hlen := h.len
  have glen := g.len
  replace hc := Lib.hid hc; replace gc := Lib.hid gc
  cases h1 : decide ((40 : Int) < (l.length : Int))
  case true =>
    go_enter Try.func11, Try.ntmps11
    go_upto_region 1 with (fail)
    refine wp_world fun W HW => ?_
    have hB : Below w.heap.size w W := by rw [HW.out]; (repeat (first | exact Below.refl _ _ | refine Below.alloc ?_ (by simp; try omega) _ | refine Below.setCell ?_ (by simp) _ | refine Below.drew ?_))
    have d0 : W.cell? ⟨w.heap.size, 0, none⟩ = some (.int .i64 n) := by rw [HW.out]; simp [go_sem]
    have d1 : W.cell? ⟨w.heap.size, 1, none⟩ = some (.slice s l.length cs) := by rw [HW.out]; simp [go_sem]
    have dl : w.heap.size < W.heap.size := World.block_lt_of_cell? W _ d0
    have e0 : W.cell? ⟨w.heap.size + 1, 0, none⟩ = some (.int .i64 m) := by rw [HW.out]; simp [go_sem]
    have e1 : W.cell? ⟨w.heap.size + 1, 1, none⟩ = some (.slice t k.length ct) := by rw [HW.out]; simp [go_sem]
    have el : w.heap.size + 1 < W.heap.size := World.block_lt_of_cell? W _ e0
    have p0 : W.cell? ⟨w.heap.size + 2, 0, none⟩ = some (.int .i64 p.x) := by rw [HW.out]; simp [go_sem]
    have p1 : W.cell? ⟨w.heap.size + 2, 1, none⟩ = some (.int .i64 p.y) := by rw [HW.out]; simp [go_sem]
    have p2 : W.cell? ⟨w.heap.size + 2, 2, none⟩ = some (.int .i64 p.z) := by rw [HW.out]; simp [go_sem]
    have pl : w.heap.size + 2 < W.heap.size := World.block_lt_of_cell? W _ p0
    try replace h := up_of hB h
    try replace g := up_of hB g
    go_wp2_with (first | (go_at_call 13; refine (wide_c _ _ _ _ _ (by first | exact hlen | exact glen)).mono ?_; rintro e W1 ⟨rfl, hb⟩; (try replace h := up_of hb h); (try replace g := up_of hb g); (try replace hB := up_of hb hB); (try replace d0 := up_of hb d0); (try replace d1 := up_of hb d1); (try replace dl := up_of hb dl); (try replace e0 := up_of hb e0); (try replace e1 := up_of hb e1); (try replace el := up_of hb el); (try replace p0 := up_of hb p0); (try replace p1 := up_of hb p1); (try replace p2 := up_of hb p2); (try replace pl := up_of hb pl)) | (go_at_call 14; refine (awake_c _).mono ?_; rintro e W1 ⟨rfl, hb⟩; (try replace h := up_of hb h); (try replace g := up_of hb g); (try replace hB := up_of hb hB); (try replace d0 := up_of hb d0); (try replace d1 := up_of hb d1); (try replace dl := up_of hb dl); (try replace e0 := up_of hb e0); (try replace e1 := up_of hb e1); (try replace el := up_of hb el); (try replace p0 := up_of hb p0); (try replace p1 := up_of hb p1); (try replace p2 := up_of hb p2); (try replace pl := up_of hb pl)))
    go_ret
    exact ⟨rfl, hB⟩
  cases h2 : decide ((40 : Int) < (k.length : Int))
  case true =>
    go_enter Try.func11, Try.ntmps11
    go_upto_region 1 with (fail)
    refine wp_world fun W HW => ?_
    have hB : Below w.heap.size w W := by rw [HW.out]; (repeat (first | exact Below.refl _ _ | refine Below.alloc ?_ (by simp; try omega) _ | refine Below.setCell ?_ (by simp) _ | refine Below.drew ?_))
    have d0 : W.cell? ⟨w.heap.size, 0, none⟩ = some (.int .i64 n) := by rw [HW.out]; simp [go_sem]
    have d1 : W.cell? ⟨w.heap.size, 1, none⟩ = some (.slice s l.length cs) := by rw [HW.out]; simp [go_sem]
    have dl : w.heap.size < W.heap.size := World.block_lt_of_cell? W _ d0
    have e0 : W.cell? ⟨w.heap.size + 1, 0, none⟩ = some (.int .i64 m) := by rw [HW.out]; simp [go_sem]
    have e1 : W.cell? ⟨w.heap.size + 1, 1, none⟩ = some (.slice t k.length ct) := by rw [HW.out]; simp [go_sem]
    have el : w.heap.size + 1 < W.heap.size := World.block_lt_of_cell? W _ e0
    have p0 : W.cell? ⟨w.heap.size + 2, 0, none⟩ = some (.int .i64 p.x) := by rw [HW.out]; simp [go_sem]
    have p1 : W.cell? ⟨w.heap.size + 2, 1, none⟩ = some (.int .i64 p.y) := by rw [HW.out]; simp [go_sem]
    have p2 : W.cell? ⟨w.heap.size + 2, 2, none⟩ = some (.int .i64 p.z) := by rw [HW.out]; simp [go_sem]
    have pl : w.heap.size + 2 < W.heap.size := World.block_lt_of_cell? W _ p0
    try replace h := up_of hB h
    try replace g := up_of hB g
    go_wp2_with (first | (go_at_call 13; refine (wide_c _ _ _ _ _ (by first | exact hlen | exact glen)).mono ?_; rintro e W1 ⟨rfl, hb⟩; (try replace h := up_of hb h); (try replace g := up_of hb g); (try replace hB := up_of hb hB); (try replace d0 := up_of hb d0); (try replace d1 := up_of hb d1); (try replace dl := up_of hb dl); (try replace e0 := up_of hb e0); (try replace e1 := up_of hb e1); (try replace el := up_of hb el); (try replace p0 := up_of hb p0); (try replace p1 := up_of hb p1); (try replace p2 := up_of hb p2); (try replace pl := up_of hb pl)) | (go_at_call 14; refine (awake_c _).mono ?_; rintro e W1 ⟨rfl, hb⟩; (try replace h := up_of hb h); (try replace g := up_of hb g); (try replace hB := up_of hb hB); (try replace d0 := up_of hb d0); (try replace d1 := up_of hb d1); (try replace dl := up_of hb dl); (try replace e0 := up_of hb e0); (try replace e1 := up_of hb e1); (try replace el := up_of hb el); (try replace p0 := up_of hb p0); (try replace p1 := up_of hb p1); (try replace p2 := up_of hb p2); (try replace pl := up_of hb pl)))
    go_ret
    exact ⟨rfl, hB⟩
  have b1 := fun W (h : Dom W s l) (g : Dom W t k) => Both_c n m s t cs ct l k W h g hc.out gc.out
  have b2 := fun W (h : Dom W s l) (g : Dom W t k) => rBoth_c n m s t cs ct l k W h g hc.out gc.out
  have b3 := fun W (h : Dom W s l) => Turned_c n s cs l p W h hc.out
  have b4 := fun W (h : Dom W s l) => rTurned_c n s cs l p W h
  have k1 := bothL_len n m l k
  have k2 := turnR_len n p l hlen
  obtain ⟨bn, hbn⟩ : ∃ x, bothN n m l k = x := ⟨_, rfl⟩
  obtain ⟨K, hK⟩ : ∃ x, bothL n m l k = x := ⟨_, rfl⟩
  obtain ⟨eb, heb⟩ : ∃ x, bothE n m l k = x := ⟨_, rfl⟩
  obtain ⟨tn, htn⟩ : ∃ x, turnN n l p = x := ⟨_, rfl⟩
  obtain ⟨R, hR⟩ : ∃ x, turnR n l p = x := ⟨_, rfl⟩
  obtain ⟨et, het⟩ : ∃ x, turnE n l p = x := ⟨_, rfl⟩
  rw [hbn, hK, heb] at b1 b2
  rw [htn, hR, het] at b3 b4
  rw [hK] at k1
  rw [hR] at k2
  clear hbn hK heb htn hR het
  replace b1 := Lib.hid b1; replace b2 := Lib.hid b2; replace b3 := Lib.hid b3; replace b4 := Lib.hid b4
  go_enter Try.func11, Try.ntmps11
  go_upto_region 1 with (fail)
  refine wp_world fun W HW => ?_
  have hB : Below w.heap.size w W := by rw [HW.out]; (repeat (first | exact Below.refl _ _ | refine Below.alloc ?_ (by simp; try omega) _ | refine Below.setCell ?_ (by simp) _ | refine Below.drew ?_))
  have d0 : W.cell? ⟨w.heap.size, 0, none⟩ = some (.int .i64 n) := by rw [HW.out]; simp [go_sem]
  have d1 : W.cell? ⟨w.heap.size, 1, none⟩ = some (.slice s l.length cs) := by rw [HW.out]; simp [go_sem]
  have dl : w.heap.size < W.heap.size := World.block_lt_of_cell? W _ d0
  have e0 : W.cell? ⟨w.heap.size + 1, 0, none⟩ = some (.int .i64 m) := by rw [HW.out]; simp [go_sem]
  have e1 : W.cell? ⟨w.heap.size + 1, 1, none⟩ = some (.slice t k.length ct) := by rw [HW.out]; simp [go_sem]
  have el : w.heap.size + 1 < W.heap.size := World.block_lt_of_cell? W _ e0
  have p0 : W.cell? ⟨w.heap.size + 2, 0, none⟩ = some (.int .i64 p.x) := by rw [HW.out]; simp [go_sem]
  have p1 : W.cell? ⟨w.heap.size + 2, 1, none⟩ = some (.int .i64 p.y) := by rw [HW.out]; simp [go_sem]
  have p2 : W.cell? ⟨w.heap.size + 2, 2, none⟩ = some (.int .i64 p.z) := by rw [HW.out]; simp [go_sem]
  have pl : w.heap.size + 2 < W.heap.size := World.block_lt_of_cell? W _ p0
  try replace h := up_of hB h
  try replace g := up_of hB g
  go_upto_region 4 with (first | (go_at_call 13; refine (wide_c _ _ _ _ _ (by first | exact hlen | exact glen)).mono ?_; rintro e W1 ⟨rfl, hb⟩; (try replace h := up_of hb h); (try replace g := up_of hb g); (try replace hB := up_of hb hB); (try replace d0 := up_of hb d0); (try replace d1 := up_of hb d1); (try replace dl := up_of hb dl); (try replace e0 := up_of hb e0); (try replace e1 := up_of hb e1); (try replace el := up_of hb el); (try replace p0 := up_of hb p0); (try replace p1 := up_of hb p1); (try replace p2 := up_of hb p2); (try replace pl := up_of hb pl)) | (go_at_call 36; refine (b1.out _ h g).mono ?_; rintro e A1 ⟨⟨s3, c3, rfl, hown⟩, hb⟩; (try replace h := up_of hb h); (try replace g := up_of hb g); (try replace hB := up_of hb hB); (try replace d0 := up_of hb d0); (try replace d1 := up_of hb d1); (try replace dl := up_of hb dl); (try replace e0 := up_of hb e0); (try replace e1 := up_of hb e1); (try replace el := up_of hb el); (try replace p0 := up_of hb p0); (try replace p1 := up_of hb p1); (try replace p2 := up_of hb p2); (try replace pl := up_of hb pl)))
  have i3 := owns_iq hown
  refine wp_world fun X1 HX1 => ?_
  have hX1 : Below A1.heap.size A1 X1 := by rw [HX1.out]; (repeat (first | exact Below.refl _ _ | refine Below.alloc ?_ (by simp; try omega) _ | refine Below.setCell ?_ (by simp) _ | refine Below.drew ?_))
  have a0 : X1.cell? ⟨A1.heap.size, 0, none⟩ = some (.int .i64 bn) := by rw [HX1.out]; simp [go_sem]
  have a1 : X1.cell? ⟨A1.heap.size, 1, none⟩ = some (.slice s3 K.length c3) := by rw [HX1.out]; simp [go_sem]
  have al : A1.heap.size < X1.heap.size := World.block_lt_of_cell? X1 _ a0
  try replace h := up_of hX1 h
  try replace g := up_of hX1 g
  try replace hB := up_of hX1 hB
  try replace d0 := up_of hX1 d0
  try replace d1 := up_of hX1 d1
  try replace dl := up_of hX1 dl
  try replace e0 := up_of hX1 e0
  try replace e1 := up_of hX1 e1
  try replace el := up_of hX1 el
  try replace p0 := up_of hX1 p0
  try replace p1 := up_of hX1 p1
  try replace p2 := up_of hX1 p2
  try replace pl := up_of hX1 pl
  try replace i3 := up_of hX1 i3
  clear hown
  go_upto_region 5 with (first | (go_at_call 41; refine (b2.out _ h g).mono ?_; rintro e A2 ⟨⟨s4, c4, rfl, hown⟩, hb⟩; (try replace h := up_of hb h); (try replace g := up_of hb g); (try replace hB := up_of hb hB); (try replace d0 := up_of hb d0); (try replace d1 := up_of hb d1); (try replace dl := up_of hb dl); (try replace e0 := up_of hb e0); (try replace e1 := up_of hb e1); (try replace el := up_of hb el); (try replace p0 := up_of hb p0); (try replace p1 := up_of hb p1); (try replace p2 := up_of hb p2); (try replace pl := up_of hb pl); (try replace i3 := up_of hb i3); (try replace hX1 := up_of hb hX1); (try replace a0 := up_of hb a0); (try replace a1 := up_of hb a1); (try replace al := up_of hb al)))
  have i4 := owns_iq hown
  refine wp_world fun X2 HX2 => ?_
  have hX2 : Below A2.heap.size A2 X2 := by rw [HX2.out]; (repeat (first | exact Below.refl _ _ | refine Below.alloc ?_ (by simp; try omega) _ | refine Below.setCell ?_ (by simp) _ | refine Below.drew ?_))
  have b0 : X2.cell? ⟨A2.heap.size, 0, none⟩ = some (.int .i64 bn) := by rw [HX2.out]; simp [go_sem]
  have b1 : X2.cell? ⟨A2.heap.size, 1, none⟩ = some (.slice s4 K.length c4) := by rw [HX2.out]; simp [go_sem]
  have bl : A2.heap.size < X2.heap.size := World.block_lt_of_cell? X2 _ b0
  try replace h := up_of hX2 h
  try replace g := up_of hX2 g
  try replace hB := up_of hX2 hB
  try replace d0 := up_of hX2 d0
  try replace d1 := up_of hX2 d1
  try replace dl := up_of hX2 dl
  try replace e0 := up_of hX2 e0
  try replace e1 := up_of hX2 e1
  try replace el := up_of hX2 el
  try replace p0 := up_of hX2 p0
  try replace p1 := up_of hX2 p1
  try replace p2 := up_of hX2 p2
  try replace pl := up_of hX2 pl
  try replace i3 := up_of hX2 i3
  try replace hX1 := up_of hX2 hX1
  try replace a0 := up_of hX2 a0
  try replace a1 := up_of hX2 a1
  try replace al := up_of hX2 al
  try replace i4 := up_of hX2 i4
  clear hown
  go_upto_region 6 with (first | (go_at_call 31; refine (b3.out _ h).mono ?_; rintro e A3 ⟨⟨s5, c5, rfl, hown⟩, hb⟩; (try replace h := up_of hb h); (try replace g := up_of hb g); (try replace hB := up_of hb hB); (try replace d0 := up_of hb d0); (try replace d1 := up_of hb d1); (try replace dl := up_of hb dl); (try replace e0 := up_of hb e0); (try replace e1 := up_of hb e1); (try replace el := up_of hb el); (try replace p0 := up_of hb p0); (try replace p1 := up_of hb p1); (try replace p2 := up_of hb p2); (try replace pl := up_of hb pl); (try replace i3 := up_of hb i3); (try replace hX1 := up_of hb hX1); (try replace a0 := up_of hb a0); (try replace a1 := up_of hb a1); (try replace al := up_of hb al); (try replace i4 := up_of hb i4); (try replace hX2 := up_of hb hX2); (try replace b0 := up_of hb b0); (try replace b1 := up_of hb b1); (try replace bl := up_of hb bl)))
  have i5 := owns_iq hown
  refine wp_world fun X3 HX3 => ?_
  have hX3 : Below A3.heap.size A3 X3 := by rw [HX3.out]; (repeat (first | exact Below.refl _ _ | refine Below.alloc ?_ (by simp; try omega) _ | refine Below.setCell ?_ (by simp) _ | refine Below.drew ?_))
  have x0 : X3.cell? ⟨A3.heap.size, 0, none⟩ = some (.int .i64 tn) := by rw [HX3.out]; simp [go_sem]
  have x1 : X3.cell? ⟨A3.heap.size, 1, none⟩ = some (.slice s5 R.length c5) := by rw [HX3.out]; simp [go_sem]
  have xl : A3.heap.size < X3.heap.size := World.block_lt_of_cell? X3 _ x0
  try replace h := up_of hX3 h
  try replace g := up_of hX3 g
  try replace hB := up_of hX3 hB
  try replace d0 := up_of hX3 d0
  try replace d1 := up_of hX3 d1
  try replace dl := up_of hX3 dl
  try replace e0 := up_of hX3 e0
  try replace e1 := up_of hX3 e1
  try replace el := up_of hX3 el
  try replace p0 := up_of hX3 p0
  try replace p1 := up_of hX3 p1
  try replace p2 := up_of hX3 p2
  try replace pl := up_of hX3 pl
  try replace i3 := up_of hX3 i3
  try replace hX1 := up_of hX3 hX1
  try replace a0 := up_of hX3 a0
  try replace a1 := up_of hX3 a1
  try replace al := up_of hX3 al
  try replace i4 := up_of hX3 i4
  try replace hX2 := up_of hX3 hX2
  try replace b0 := up_of hX3 b0
  try replace b1 := up_of hX3 b1
  try replace bl := up_of hX3 bl
  try replace i5 := up_of hX3 i5
  clear hown
  go_upto_region 7 with (first | (go_at_call 42; refine (b4.out _ h).mono ?_; rintro e A4 ⟨⟨s6, c6, rfl, hown⟩, hb⟩; (try replace h := up_of hb h); (try replace g := up_of hb g); (try replace hB := up_of hb hB); (try replace d0 := up_of hb d0); (try replace d1 := up_of hb d1); (try replace dl := up_of hb dl); (try replace e0 := up_of hb e0); (try replace e1 := up_of hb e1); (try replace el := up_of hb el); (try replace p0 := up_of hb p0); (try replace p1 := up_of hb p1); (try replace p2 := up_of hb p2); (try replace pl := up_of hb pl); (try replace i3 := up_of hb i3); (try replace hX1 := up_of hb hX1); (try replace a0 := up_of hb a0); (try replace a1 := up_of hb a1); (try replace al := up_of hb al); (try replace i4 := up_of hb i4); (try replace hX2 := up_of hb hX2); (try replace b0 := up_of hb b0); (try replace b1 := up_of hb b1); (try replace bl := up_of hb bl); (try replace i5 := up_of hb i5); (try replace hX3 := up_of hb hX3); (try replace x0 := up_of hb x0); (try replace x1 := up_of hb x1); (try replace xl := up_of hb xl)))
  have i6 := owns_iq hown
  refine wp_world fun X4 HX4 => ?_
  have hX4 : Below A4.heap.size A4 X4 := by rw [HX4.out]; (repeat (first | exact Below.refl _ _ | refine Below.alloc ?_ (by simp; try omega) _ | refine Below.setCell ?_ (by simp) _ | refine Below.drew ?_))
  have y0 : X4.cell? ⟨A4.heap.size, 0, none⟩ = some (.int .i64 tn) := by rw [HX4.out]; simp [go_sem]
  have y1 : X4.cell? ⟨A4.heap.size, 1, none⟩ = some (.slice s6 R.length c6) := by rw [HX4.out]; simp [go_sem]
  have yl : A4.heap.size < X4.heap.size := World.block_lt_of_cell? X4 _ y0
  try replace h := up_of hX4 h
  try replace g := up_of hX4 g
  try replace hB := up_of hX4 hB
  try replace d0 := up_of hX4 d0
  try replace d1 := up_of hX4 d1
  try replace dl := up_of hX4 dl
  try replace e0 := up_of hX4 e0
  try replace e1 := up_of hX4 e1
  try replace el := up_of hX4 el
  try replace p0 := up_of hX4 p0
  try replace p1 := up_of hX4 p1
  try replace p2 := up_of hX4 p2
  try replace pl := up_of hX4 pl
  try replace i3 := up_of hX4 i3
  try replace hX1 := up_of hX4 hX1
  try replace a0 := up_of hX4 a0
  try replace a1 := up_of hX4 a1
  try replace al := up_of hX4 al
  try replace i4 := up_of hX4 i4
  try replace hX2 := up_of hX4 hX2
  try replace b0 := up_of hX4 b0
  try replace b1 := up_of hX4 b1
  try replace bl := up_of hX4 bl
  try replace i5 := up_of hX4 i5
  try replace hX3 := up_of hX4 hX3
  try replace x0 := up_of hX4 x0
  try replace x1 := up_of hX4 x1
  try replace xl := up_of hX4 xl
  try replace i6 := up_of hX4 i6
  clear hown
  go_wp2_with (first | (go_at_call 32; refine (Same_eq _ _ _ _ _ _ _ (by assumption) (by assumption) (by assumption)).mono ?_; rintro e W1 ⟨rfl, hb⟩; (try replace h := up_of hb h); (try replace g := up_of hb g); (try replace hB := up_of hb hB); (try replace d0 := up_of hb d0); (try replace d1 := up_of hb d1); (try replace dl := up_of hb dl); (try replace e0 := up_of hb e0); (try replace e1 := up_of hb e1); (try replace el := up_of hb el); (try replace p0 := up_of hb p0); (try replace p1 := up_of hb p1); (try replace p2 := up_of hb p2); (try replace pl := up_of hb pl); (try replace i3 := up_of hb i3); (try replace hX1 := up_of hb hX1); (try replace a0 := up_of hb a0); (try replace a1 := up_of hb a1); (try replace al := up_of hb al); (try replace i4 := up_of hb i4); (try replace hX2 := up_of hb hX2); (try replace b0 := up_of hb b0); (try replace b1 := up_of hb b1); (try replace bl := up_of hb bl); (try replace i5 := up_of hb i5); (try replace hX3 := up_of hb hX3); (try replace x0 := up_of hb x0); (try replace x1 := up_of hb x1); (try replace xl := up_of hb xl); (try replace i6 := up_of hb i6); (try replace hX4 := up_of hb hX4); (try replace y0 := up_of hb y0); (try replace y1 := up_of hb y1); (try replace yl := up_of hb yl)) | (go_at_call 14; refine (awake_c _).mono ?_; rintro e W1 ⟨rfl, hb⟩; (try replace h := up_of hb h); (try replace g := up_of hb g); (try replace hB := up_of hb hB); (try replace d0 := up_of hb d0); (try replace d1 := up_of hb d1); (try replace dl := up_of hb dl); (try replace e0 := up_of hb e0); (try replace e1 := up_of hb e1); (try replace el := up_of hb el); (try replace p0 := up_of hb p0); (try replace p1 := up_of hb p1); (try replace p2 := up_of hb p2); (try replace pl := up_of hb pl); (try replace i3 := up_of hb i3); (try replace hX1 := up_of hb hX1); (try replace a0 := up_of hb a0); (try replace a1 := up_of hb a1); (try replace al := up_of hb al); (try replace i4 := up_of hb i4); (try replace hX2 := up_of hb hX2); (try replace b0 := up_of hb b0); (try replace b1 := up_of hb b1); (try replace bl := up_of hb bl); (try replace i5 := up_of hb i5); (try replace hX3 := up_of hb hX3); (try replace x0 := up_of hb x0); (try replace x1 := up_of hb x1); (try replace xl := up_of hb xl); (try replace i6 := up_of hb i6); (try replace hX4 := up_of hb hX4); (try replace y0 := up_of hb y0); (try replace y1 := up_of hb y1); (try replace yl := up_of hb yl)))
  go_ret
  exact ⟨rfl, hB⟩
end Go.Proofs.Ytfebkccdcbkdiaa
