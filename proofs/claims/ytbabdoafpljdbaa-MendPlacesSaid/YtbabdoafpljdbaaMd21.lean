/- MendPlaces: the walk. -/
import Derived.Test.YtbabdoafpljdbaaMd19
import Derived.Test.YtbabdoafpljdbaaMd20
import Derived.Test.YtbabdoafpljdbaaMdOpen
import Derived.Test.YtbabdoafpljdbaaMdEq
namespace Go.Proofs.Ytbabdoafpljdbaa
open Go.RowKit

set_option maxRecDepth 100000 in
set_option maxHeartbeats 1000000 in
theorem MendPlaces_w (wd ht : Int) (s : Option Addr) (cap : Nat) (F : List Cel) (t : Option Addr) (ct : Nat) (k : List (List Int)) (m : Cel) (w : World) (h : Cels w s cap F) (_ : I64 wd) (_ : I64 ht) (_ : ∀ c ∈ F, I64 c.x ∧ I64 c.y) (g : SlSS intE w t k) (hkl : k.length ≤ 9223372036854775807) (hkw : ∀ l ∈ k, l.length ≤ 9223372036854775807 ∧ ∀ n ∈ l, I64 n) (_ : I64 m.x) (_ : I64 m.y) :
    Calls Try.prog 5 #[.agg #[.int .i64 wd, .int .i64 ht, .slice s F.length cap], .slice t k.length ct, .agg #[.int .i64 m.x, .int .i64 m.y]] w fun e w' => e = .returned (.bool true) ∧ Below w.heap.size w w' := by
  have hFl := h.len
  have hll : ∀ l ∈ k, l.length ≤ 9223372036854775807 := fun l hl => (hkw l hl).1
  have hwi := fun W => wide_c wd ht s cap F.length W
  have hta := fun W (g : SlSS intE W t k) => tall_c t ct k W g hkl hll
  by_cases h200 : 200 < F.length
  · simp only [h200, decide_true] at hwi
    replace hwi := Lib.hid hwi
    clear hkw hta hll
    go_enter Try.func5, Try.ntmps5
    go_upto_region 1 with (fail)
    refine wp_world fun W HW => ?_
    have hB : Below w.heap.size w W := by rw [HW.out]; (repeat (first | exact Below.refl _ _ | refine Below.alloc ?_ (by simp; try omega) _ | refine Below.setCell ?_ (by simp) _ | refine Below.drew ?_))
    have bx0 : W.cell? ⟨w.heap.size, 0, none⟩ = some (.int .i64 wd) := by rw [HW.out]; simp [go_sem]
    have bx1 : W.cell? ⟨w.heap.size, 1, none⟩ = some (.int .i64 ht) := by rw [HW.out]; simp [go_sem]
    have bx2 : W.cell? ⟨w.heap.size, 2, none⟩ = some (.slice s F.length cap) := by rw [HW.out]; simp [go_sem]
    have bxl : w.heap.size < W.heap.size := World.block_lt_of_cell? W _ bx0
    have cx0 : W.cell? ⟨w.heap.size + 1, 0, none⟩ = some (.int .i64 m.x) := by rw [HW.out]; simp [go_sem]
    have cx1 : W.cell? ⟨w.heap.size + 1, 1, none⟩ = some (.int .i64 m.y) := by rw [HW.out]; simp [go_sem]
    have cxl : w.heap.size + 1 < W.heap.size := World.block_lt_of_cell? W _ cx0
    try replace h := up_of hB h
    try replace g := up_of hB g
    go_wp2_with (first | (go_at_call 13; refine (hwi.out _).mono ?_; rintro e W1 ⟨rfl, hb⟩; (try replace h := up_of hb h); (try replace g := up_of hb g); (try replace hB := up_of hb hB); (try replace bx0 := up_of hb bx0); (try replace bx1 := up_of hb bx1); (try replace bx2 := up_of hb bx2); (try replace bxl := up_of hb bxl); (try replace cx0 := up_of hb cx0); (try replace cx1 := up_of hb cx1); (try replace cxl := up_of hb cxl)) | (go_at_call 15; refine (Awake_c _).mono ?_; rintro e W1 ⟨rfl, hb⟩; (try replace h := up_of hb h); (try replace g := up_of hb g); (try replace hB := up_of hb hB); (try replace bx0 := up_of hb bx0); (try replace bx1 := up_of hb bx1); (try replace bx2 := up_of hb bx2); (try replace bxl := up_of hb bxl); (try replace cx0 := up_of hb cx0); (try replace cx1 := up_of hb cx1); (try replace cxl := up_of hb cxl)))
    go_ret
    exact ⟨rfl, hB⟩
  simp only [h200, decide_false] at hwi
  cases hT : talB k
  case true =>
    rw [hT] at hta
    replace hwi := Lib.hid hwi; replace hta := Lib.hid hta
    clear hkw hll
    go_enter Try.func5, Try.ntmps5
    go_upto_region 1 with (fail)
    refine wp_world fun W HW => ?_
    have hB : Below w.heap.size w W := by rw [HW.out]; (repeat (first | exact Below.refl _ _ | refine Below.alloc ?_ (by simp; try omega) _ | refine Below.setCell ?_ (by simp) _ | refine Below.drew ?_))
    have bx0 : W.cell? ⟨w.heap.size, 0, none⟩ = some (.int .i64 wd) := by rw [HW.out]; simp [go_sem]
    have bx1 : W.cell? ⟨w.heap.size, 1, none⟩ = some (.int .i64 ht) := by rw [HW.out]; simp [go_sem]
    have bx2 : W.cell? ⟨w.heap.size, 2, none⟩ = some (.slice s F.length cap) := by rw [HW.out]; simp [go_sem]
    have bxl : w.heap.size < W.heap.size := World.block_lt_of_cell? W _ bx0
    have cx0 : W.cell? ⟨w.heap.size + 1, 0, none⟩ = some (.int .i64 m.x) := by rw [HW.out]; simp [go_sem]
    have cx1 : W.cell? ⟨w.heap.size + 1, 1, none⟩ = some (.int .i64 m.y) := by rw [HW.out]; simp [go_sem]
    have cxl : w.heap.size + 1 < W.heap.size := World.block_lt_of_cell? W _ cx0
    try replace h := up_of hB h
    try replace g := up_of hB g
    go_wp2_with (first | (go_at_call 13; refine (hwi.out _).mono ?_; rintro e W1 ⟨rfl, hb⟩; (try replace h := up_of hb h); (try replace g := up_of hb g); (try replace hB := up_of hb hB); (try replace bx0 := up_of hb bx0); (try replace bx1 := up_of hb bx1); (try replace bx2 := up_of hb bx2); (try replace bxl := up_of hb bxl); (try replace cx0 := up_of hb cx0); (try replace cx1 := up_of hb cx1); (try replace cxl := up_of hb cxl)) | (go_at_call 21; refine (hta.out _ g).mono ?_; rintro e w' ⟨rfl, rfl⟩) | (go_at_call 15; refine (Awake_c _).mono ?_; rintro e W1 ⟨rfl, hb⟩; (try replace h := up_of hb h); (try replace g := up_of hb g); (try replace hB := up_of hb hB); (try replace bx0 := up_of hb bx0); (try replace bx1 := up_of hb bx1); (try replace bx2 := up_of hb bx2); (try replace bxl := up_of hb bxl); (try replace cx0 := up_of hb cx0); (try replace cx1 := up_of hb cx1); (try replace cxl := up_of hb cxl)))
    go_ret
    exact ⟨rfl, hB⟩
  obtain ⟨q1, q2⟩ := talB_no hT
  rw [hT] at hta
  have c1 := fun V (h : Cels V s cap F) (g : SlSS intE V t k) => Place_c wd ht s cap F t ct k m V h g q1 q2
  have c2 := fun V (h : Cels V s cap F) (g : SlSS intE V t k) => rPlace_c wd ht s cap F t ct k m V h g q1 q2
  have c3 := fun V (g : SlSS intE V t k) => Bent_c t ct k V g hkl hll
  have c4 := fun V (g : SlSS intE V t k) => rBent_c t ct k V g hkl hll
  obtain ⟨X, hX⟩ : ∃ x, plX wd ht F k m = x := ⟨_, rfl⟩
  obtain ⟨Y, hY⟩ : ∃ x, plY wd ht F k m = x := ⟨_, rfl⟩
  obtain ⟨E, hE⟩ : ∃ x, plE wd ht F k m = x := ⟨_, rfl⟩
  obtain ⟨BV, hBV⟩ : ∃ x, btV k = x := ⟨_, rfl⟩
  obtain ⟨BE, hBE⟩ : ∃ x, btE k = x := ⟨_, rfl⟩
  simp only [hX, hY, hE] at c1 c2
  simp only [hBV, hBE] at c3 c4
  replace c1 := Lib.hid c1; replace c2 := Lib.hid c2; replace c3 := Lib.hid c3; replace c4 := Lib.hid c4; replace hwi := Lib.hid hwi; replace hta := Lib.hid hta
  clear hX hY hE hBV hBE hkw hll q2 hT
  go_enter Try.func5, Try.ntmps5
  go_upto_region 1 with (fail)
  refine wp_world fun W HW => ?_
  have hB : Below w.heap.size w W := by rw [HW.out]; (repeat (first | exact Below.refl _ _ | refine Below.alloc ?_ (by simp; try omega) _ | refine Below.setCell ?_ (by simp) _ | refine Below.drew ?_))
  have bx0 : W.cell? ⟨w.heap.size, 0, none⟩ = some (.int .i64 wd) := by rw [HW.out]; simp [go_sem]
  have bx1 : W.cell? ⟨w.heap.size, 1, none⟩ = some (.int .i64 ht) := by rw [HW.out]; simp [go_sem]
  have bx2 : W.cell? ⟨w.heap.size, 2, none⟩ = some (.slice s F.length cap) := by rw [HW.out]; simp [go_sem]
  have bxl : w.heap.size < W.heap.size := World.block_lt_of_cell? W _ bx0
  have cx0 : W.cell? ⟨w.heap.size + 1, 0, none⟩ = some (.int .i64 m.x) := by rw [HW.out]; simp [go_sem]
  have cx1 : W.cell? ⟨w.heap.size + 1, 1, none⟩ = some (.int .i64 m.y) := by rw [HW.out]; simp [go_sem]
  have cxl : w.heap.size + 1 < W.heap.size := World.block_lt_of_cell? W _ cx0
  try replace h := up_of hB h
  try replace g := up_of hB g
  go_upto_region 4 with (first | (go_at_call 13; refine (hwi.out _).mono ?_; rintro e W1 ⟨rfl, hb⟩; (try replace h := up_of hb h); (try replace g := up_of hb g); (try replace hB := up_of hb hB); (try replace bx0 := up_of hb bx0); (try replace bx1 := up_of hb bx1); (try replace bx2 := up_of hb bx2); (try replace bxl := up_of hb bxl); (try replace cx0 := up_of hb cx0); (try replace cx1 := up_of hb cx1); (try replace cxl := up_of hb cxl)) | (go_at_call 21; refine (hta.out _ g).mono ?_; rintro e w' ⟨rfl, rfl⟩) | (go_at_call 22; refine (c1.out _ h g).mono ?_; rintro e A1 ⟨rfl, hb⟩; (try replace h := up_of hb h); (try replace g := up_of hb g); (try replace hB := up_of hb hB); (try replace bx0 := up_of hb bx0); (try replace bx1 := up_of hb bx1); (try replace bx2 := up_of hb bx2); (try replace bxl := up_of hb bxl); (try replace cx0 := up_of hb cx0); (try replace cx1 := up_of hb cx1); (try replace cxl := up_of hb cxl)))
  refine wp_world fun A2 HA2 => ?_
  have h2 : Below A1.heap.size A1 A2 := by rw [HA2.out]; (repeat (first | exact Below.refl _ _ | refine Below.alloc ?_ (by simp; try omega) _ | refine Below.setCell ?_ (by simp) _ | refine Below.drew ?_))
  have dx0 : A2.cell? ⟨A1.heap.size, 0, none⟩ = some (.int .i64 X) := by rw [HA2.out]; simp [go_sem]
  have dx1 : A2.cell? ⟨A1.heap.size, 1, none⟩ = some (.int .i64 Y) := by rw [HA2.out]; simp [go_sem]
  have dxl : A1.heap.size < A2.heap.size := World.block_lt_of_cell? A2 _ dx0
  try replace h := up_of h2 h
  try replace g := up_of h2 g
  try replace hB := up_of h2 hB
  try replace bx0 := up_of h2 bx0
  try replace bx1 := up_of h2 bx1
  try replace bx2 := up_of h2 bx2
  try replace bxl := up_of h2 bxl
  try replace cx0 := up_of h2 cx0
  try replace cx1 := up_of h2 cx1
  try replace cxl := up_of h2 cxl
  go_upto_region 5 with (first | (go_at_call 23; refine (c2.out _ h g).mono ?_; rintro e A3 ⟨rfl, hb⟩; (try replace h := up_of hb h); (try replace g := up_of hb g); (try replace hB := up_of hb hB); (try replace bx0 := up_of hb bx0); (try replace bx1 := up_of hb bx1); (try replace bx2 := up_of hb bx2); (try replace bxl := up_of hb bxl); (try replace cx0 := up_of hb cx0); (try replace cx1 := up_of hb cx1); (try replace cxl := up_of hb cxl); (try replace h2 := up_of hb h2); (try replace dx0 := up_of hb dx0); (try replace dx1 := up_of hb dx1); (try replace dxl := up_of hb dxl)))
  refine wp_world fun A4 HA4 => ?_
  have h4 : Below A3.heap.size A3 A4 := by rw [HA4.out]; (repeat (first | exact Below.refl _ _ | refine Below.alloc ?_ (by simp; try omega) _ | refine Below.setCell ?_ (by simp) _ | refine Below.drew ?_))
  have ex0 : A4.cell? ⟨A3.heap.size, 0, none⟩ = some (.int .i64 X) := by rw [HA4.out]; simp [go_sem]
  have ex1 : A4.cell? ⟨A3.heap.size, 1, none⟩ = some (.int .i64 Y) := by rw [HA4.out]; simp [go_sem]
  have exl : A3.heap.size < A4.heap.size := World.block_lt_of_cell? A4 _ ex0
  try replace h := up_of h4 h
  try replace g := up_of h4 g
  try replace hB := up_of h4 hB
  try replace bx0 := up_of h4 bx0
  try replace bx1 := up_of h4 bx1
  try replace bx2 := up_of h4 bx2
  try replace bxl := up_of h4 bxl
  try replace cx0 := up_of h4 cx0
  try replace cx1 := up_of h4 cx1
  try replace cxl := up_of h4 cxl
  try replace h2 := up_of h4 h2
  try replace dx0 := up_of h4 dx0
  try replace dx1 := up_of h4 dx1
  try replace dxl := up_of h4 dxl
  go_wp2_with (first | (go_at_call 24; refine (c3.out _ g).mono ?_; rintro e W1 ⟨rfl, hb⟩; (try replace h := up_of hb h); (try replace g := up_of hb g); (try replace hB := up_of hb hB); (try replace bx0 := up_of hb bx0); (try replace bx1 := up_of hb bx1); (try replace bx2 := up_of hb bx2); (try replace bxl := up_of hb bxl); (try replace cx0 := up_of hb cx0); (try replace cx1 := up_of hb cx1); (try replace cxl := up_of hb cxl); (try replace h2 := up_of hb h2); (try replace dx0 := up_of hb dx0); (try replace dx1 := up_of hb dx1); (try replace dxl := up_of hb dxl); (try replace h4 := up_of hb h4); (try replace ex0 := up_of hb ex0); (try replace ex1 := up_of hb ex1); (try replace exl := up_of hb exl)) | (go_at_call 25; refine (c4.out _ g).mono ?_; rintro e W1 ⟨rfl, hb⟩; (try replace h := up_of hb h); (try replace g := up_of hb g); (try replace hB := up_of hb hB); (try replace bx0 := up_of hb bx0); (try replace bx1 := up_of hb bx1); (try replace bx2 := up_of hb bx2); (try replace bxl := up_of hb bxl); (try replace cx0 := up_of hb cx0); (try replace cx1 := up_of hb cx1); (try replace cxl := up_of hb cxl); (try replace h2 := up_of hb h2); (try replace dx0 := up_of hb dx0); (try replace dx1 := up_of hb dx1); (try replace dxl := up_of hb dxl); (try replace h4 := up_of hb h4); (try replace ex0 := up_of hb ex0); (try replace ex1 := up_of hb ex1); (try replace exl := up_of hb exl)) | (go_at_call 15; refine (Awake_c _).mono ?_; rintro e W1 ⟨rfl, hb⟩; (try replace h := up_of hb h); (try replace g := up_of hb g); (try replace hB := up_of hb hB); (try replace bx0 := up_of hb bx0); (try replace bx1 := up_of hb bx1); (try replace bx2 := up_of hb bx2); (try replace bxl := up_of hb bxl); (try replace cx0 := up_of hb cx0); (try replace cx1 := up_of hb cx1); (try replace cxl := up_of hb cxl); (try replace h2 := up_of hb h2); (try replace dx0 := up_of hb dx0); (try replace dx1 := up_of hb dx1); (try replace dxl := up_of hb dxl); (try replace h4 := up_of hb h4); (try replace ex0 := up_of hb ex0); (try replace ex1 := up_of hb ex1); (try replace exl := up_of hb exl)))
  go_ret
  exact ⟨rfl, hB⟩
end Go.Proofs.Ytbabdoafpljdbaa
