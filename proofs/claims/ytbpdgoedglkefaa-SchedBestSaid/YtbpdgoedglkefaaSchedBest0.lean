/- SchedBest: the walk. -/
import Derived.Test.YtbpdgoedglkefaaSch42
import Derived.Test.YtbpdgoedglkefaaSch27
namespace Go.Proofs.Ytbpdgoedglkefaa
open Go.RowKit

set_option maxRecDepth 100000 in
set_option maxHeartbeats 4000000 in
theorem SchedBest_w (n : Int) (s : Option Addr) (cap : Nat) (l : List Iq) (s2 : Option Addr) (cq : Nat) (K : List Vv) (m : Int) (w : World) (hr : RecM w s l s2 cq K) (_ : I64 m) :
    Calls Try.prog 7 #[.agg #[.int .i64 n, .slice s l.length cap, .slice s2 K.length cq], .int .i64 m] w fun e w' => e = .returned (.bool true) ∧ Below w.heap.size w w' := by
  have hwi := fun V (h : RecM V s l s2 cq K) => Wide_c n s cap l s2 cq K V h
  have c1 := fun V (h : RecM V s l s2 cq K) => Best_all n s cap l s2 cq K m V h
  have c2 := fun V (h : RecM V s l s2 cq K) => rBest_all n s cap l s2 cq K m V h
  have hl4 := bsF_len n l K m
  obtain ⟨F1, hF1⟩ : ∃ x, (bsF n l K m).1 = x := ⟨_, rfl⟩
  obtain ⟨O1, hO1⟩ : ∃ x, (bsF n l K m).2.1 = x := ⟨_, rfl⟩
  obtain ⟨E1, hE1⟩ : ∃ x, (bsF n l K m).2.2 = x := ⟨_, rfl⟩
  simp only [hF1, hO1, hE1] at c1 c2
  rw [hO1] at hl4
  unfold SdRet at c1 c2
  have e1 := fun V s1 k1 s2 k2 (h1 : SlS intE V s1 O1) (h2 : SlS intE V s2 O1) => Same_eq F1 s1 s2 k1 k2 O1 V h1 h2 (by omega)
  obtain ⟨WB, hWB⟩ : ∃ x, wideB l K = x := ⟨_, rfl⟩
  simp only [hWB] at hwi
  clear hF1 hO1 hE1 hWB
  have z1 : (E1 == E1) = true := by simp
  replace hwi := Lib.hid hwi; replace c1 := Lib.hid c1; replace c2 := Lib.hid c2; replace e1 := Lib.hid e1
  cases WB
  case true =>
    go_enter Try.func7, Try.ntmps7
    go_upto_region 1 with (fail)
    refine wp_world fun W HW => ?_
    have hB : Below w.heap.size w W := by rw [HW.out]; (repeat (first | exact Below.refl _ _ | refine Below.alloc ?_ (by simp; try omega) _ | refine Below.setCell ?_ (by simp) _ | refine Below.drew ?_))
    have d0 : W.cell? ⟨w.heap.size, 0, none⟩ = some (.int .i64 n) := by rw [HW.out]; simp [go_sem]
    have d1 : W.cell? ⟨w.heap.size, 1, none⟩ = some (.slice s l.length cap) := by rw [HW.out]; simp [go_sem]
    have d2 : W.cell? ⟨w.heap.size, 2, none⟩ = some (.slice s2 K.length cq) := by rw [HW.out]; simp [go_sem]
    have dl : w.heap.size < W.heap.size := World.block_lt_of_cell? W _ d0
    try replace hr := up_of hB hr
    go_wp2_with (first | (go_at_call 16; refine (hwi.out _ hr).mono ?_; rintro e W1 ⟨rfl, hb⟩; (try replace hr := up_of hb hr); (try replace hB := up_of hb hB); (try replace d0 := up_of hb d0); (try replace d1 := up_of hb d1); (try replace d2 := up_of hb d2); (try replace dl := up_of hb dl)) | (go_at_call 18; refine (Awake_c _).mono ?_; rintro e W1 ⟨rfl, hb⟩; (try replace hr := up_of hb hr); (try replace hB := up_of hb hB); (try replace d0 := up_of hb d0); (try replace d1 := up_of hb d1); (try replace d2 := up_of hb d2); (try replace dl := up_of hb dl)))
    go_ret
    exact ⟨rfl, hB⟩
  go_enter Try.func7, Try.ntmps7
  go_upto_region 1 with (fail)
  refine wp_world fun W HW => ?_
  have hB : Below w.heap.size w W := by rw [HW.out]; (repeat (first | exact Below.refl _ _ | refine Below.alloc ?_ (by simp; try omega) _ | refine Below.setCell ?_ (by simp) _ | refine Below.drew ?_))
  have d0 : W.cell? ⟨w.heap.size, 0, none⟩ = some (.int .i64 n) := by rw [HW.out]; simp [go_sem]
  have d1 : W.cell? ⟨w.heap.size, 1, none⟩ = some (.slice s l.length cap) := by rw [HW.out]; simp [go_sem]
  have d2 : W.cell? ⟨w.heap.size, 2, none⟩ = some (.slice s2 K.length cq) := by rw [HW.out]; simp [go_sem]
  have dl : w.heap.size < W.heap.size := World.block_lt_of_cell? W _ d0
  try replace hr := up_of hB hr
  go_upto_region 3 with (first | (go_at_call 16; refine (hwi.out _ hr).mono ?_; rintro e W1 ⟨rfl, hb⟩; (try replace hr := up_of hb hr); (try replace hB := up_of hb hB); (try replace d0 := up_of hb d0); (try replace d1 := up_of hb d1); (try replace d2 := up_of hb d2); (try replace dl := up_of hb dl)))
  go_upto_region 4 with (first | (go_at_call 35; refine (c1.out _ hr).mono ?_; rintro e A1 ⟨⟨s3, k3, rfl, hu1⟩, hb⟩; (try replace hr := up_of hb hr); (try replace hB := up_of hb hB); (try replace d0 := up_of hb d0); (try replace d1 := up_of hb d1); (try replace d2 := up_of hb d2); (try replace dl := up_of hb dl)))
  refine wp_world fun B1 HB1 => ?_
  have j1 : Below A1.heap.size A1 B1 := by rw [HB1.out]; (repeat (first | exact Below.refl _ _ | refine Below.alloc ?_ (by simp; try omega) _ | refine Below.setCell ?_ (by simp) _ | refine Below.drew ?_))
  have m0 : B1.cell? ⟨A1.heap.size, 0, none⟩ = some (.int .i64 F1.x) := by rw [HB1.out]; simp [go_sem]
  have m1 : B1.cell? ⟨A1.heap.size, 1, none⟩ = some (.int .i64 F1.y) := by rw [HB1.out]; simp [go_sem]
  have m2 : B1.cell? ⟨A1.heap.size, 2, none⟩ = some (.int .i64 F1.z) := by rw [HB1.out]; simp [go_sem]
  have m3 : B1.cell? ⟨A1.heap.size, 3, none⟩ = some (.slice s3 O1.length k3) := by rw [HB1.out]; simp [go_sem]
  have ml : A1.heap.size < B1.heap.size := World.block_lt_of_cell? B1 _ m0
  try replace hr := up_of j1 hr
  try replace hB := up_of j1 hB
  try replace d0 := up_of j1 d0
  try replace d1 := up_of j1 d1
  try replace d2 := up_of j1 d2
  try replace dl := up_of j1 dl
  try replace hu1 := up_of j1 hu1
  go_upto_region 5 with (first | (go_at_call 36; refine (c2.out _ hr).mono ?_; rintro e A2 ⟨⟨s4, k4, rfl, hu2⟩, hb⟩; (try replace hr := up_of hb hr); (try replace hB := up_of hb hB); (try replace d0 := up_of hb d0); (try replace d1 := up_of hb d1); (try replace d2 := up_of hb d2); (try replace dl := up_of hb dl); (try replace hu1 := up_of hb hu1); (try replace j1 := up_of hb j1); (try replace m0 := up_of hb m0); (try replace m1 := up_of hb m1); (try replace m2 := up_of hb m2); (try replace m3 := up_of hb m3); (try replace ml := up_of hb ml)))
  refine wp_world fun B2 HB2 => ?_
  have j2 : Below A2.heap.size A2 B2 := by rw [HB2.out]; (repeat (first | exact Below.refl _ _ | refine Below.alloc ?_ (by simp; try omega) _ | refine Below.setCell ?_ (by simp) _ | refine Below.drew ?_))
  have p0 : B2.cell? ⟨A2.heap.size, 0, none⟩ = some (.int .i64 F1.x) := by rw [HB2.out]; simp [go_sem]
  have p1 : B2.cell? ⟨A2.heap.size, 1, none⟩ = some (.int .i64 F1.y) := by rw [HB2.out]; simp [go_sem]
  have p2 : B2.cell? ⟨A2.heap.size, 2, none⟩ = some (.int .i64 F1.z) := by rw [HB2.out]; simp [go_sem]
  have p3 : B2.cell? ⟨A2.heap.size, 3, none⟩ = some (.slice s4 O1.length k4) := by rw [HB2.out]; simp [go_sem]
  have pl : A2.heap.size < B2.heap.size := World.block_lt_of_cell? B2 _ p0
  try replace hr := up_of j2 hr
  try replace hB := up_of j2 hB
  try replace d0 := up_of j2 d0
  try replace d1 := up_of j2 d1
  try replace d2 := up_of j2 d2
  try replace dl := up_of j2 dl
  try replace hu1 := up_of j2 hu1
  try replace j1 := up_of j2 j1
  try replace m0 := up_of j2 m0
  try replace m1 := up_of j2 m1
  try replace m2 := up_of j2 m2
  try replace m3 := up_of j2 m3
  try replace ml := up_of j2 ml
  try replace hu2 := up_of j2 hu2
  go_wp2_with (first | (go_at_call 37; refine (e1.out _ s3 k3 s4 k4 hu1 hu2).mono ?_; rintro e W1 ⟨rfl, hb⟩; (try replace hr := up_of hb hr); (try replace hB := up_of hb hB); (try replace d0 := up_of hb d0); (try replace d1 := up_of hb d1); (try replace d2 := up_of hb d2); (try replace dl := up_of hb dl); (try replace hu1 := up_of hb hu1); (try replace j1 := up_of hb j1); (try replace m0 := up_of hb m0); (try replace m1 := up_of hb m1); (try replace m2 := up_of hb m2); (try replace m3 := up_of hb m3); (try replace ml := up_of hb ml); (try replace hu2 := up_of hb hu2); (try replace j2 := up_of hb j2); (try replace p0 := up_of hb p0); (try replace p1 := up_of hb p1); (try replace p2 := up_of hb p2); (try replace p3 := up_of hb p3); (try replace pl := up_of hb pl)) | (go_at_call 18; refine (Awake_c _).mono ?_; rintro e W1 ⟨rfl, hb⟩; (try replace hr := up_of hb hr); (try replace hB := up_of hb hB); (try replace d0 := up_of hb d0); (try replace d1 := up_of hb d1); (try replace d2 := up_of hb d2); (try replace dl := up_of hb dl); (try replace hu1 := up_of hb hu1); (try replace j1 := up_of hb j1); (try replace m0 := up_of hb m0); (try replace m1 := up_of hb m1); (try replace m2 := up_of hb m2); (try replace m3 := up_of hb m3); (try replace ml := up_of hb ml); (try replace hu2 := up_of hb hu2); (try replace j2 := up_of hb j2); (try replace p0 := up_of hb p0); (try replace p1 := up_of hb p1); (try replace p2 := up_of hb p2); (try replace p3 := up_of hb p3); (try replace pl := up_of hb pl)))
  go_ret
  exact ⟨rfl, hB⟩
end Go.Proofs.Ytbpdgoedglkefaa
