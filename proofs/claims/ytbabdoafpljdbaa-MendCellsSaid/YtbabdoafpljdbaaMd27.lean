/- MendCells: the walk. -/
import Derived.Test.YtbabdoafpljdbaaMd23
import Derived.Test.YtbabdoafpljdbaaMd24
import Derived.Test.YtbabdoafpljdbaaMd26
import Derived.Test.YtbabdoafpljdbaaMdOpen
namespace Go.Proofs.Ytbabdoafpljdbaa
open Go.RowKit

set_option maxRecDepth 100000 in
set_option maxHeartbeats 2000000 in
theorem MendCells_w (wd ht : Int) (s : Option Addr) (cap : Nat) (F : List Cel) (m : Cel) (w : World) (h : Cels w s cap F) (_ : I64 wd) (_ : I64 ht) (_ : ∀ c ∈ F, I64 c.x ∧ I64 c.y) (_ : I64 m.x) (_ : I64 m.y) :
    Calls Try.prog 7 #[.agg #[.int .i64 wd, .int .i64 ht, .slice s F.length cap], .agg #[.int .i64 m.x, .int .i64 m.y]] w fun e w' => e = .returned (.bool true) ∧ Below w.heap.size w w' := by
  have hFl := h.len
  have hwi := fun W => wide_c wd ht s cap F.length W
  by_cases h200 : 200 < F.length
  · simp only [h200, decide_true] at hwi
    replace hwi := Lib.hid hwi
    go_enter Try.func7, Try.ntmps7
    go_upto_region 1 with (fail)
    refine wp_world fun W HW => ?_
    have hB : Below w.heap.size w W := by rw [HW.out]; (repeat (first | exact Below.refl _ _ | refine Below.alloc ?_ (by simp; try omega) _ | refine Below.setCell ?_ (by simp) _ | refine Below.drew ?_))
    have bx0 : W.cell? ⟨w.heap.size, 0, none⟩ = some (.int .i64 wd) := by rw [HW.out]; simp [go_sem]
    have bx1 : W.cell? ⟨w.heap.size, 1, none⟩ = some (.int .i64 ht) := by rw [HW.out]; simp [go_sem]
    have bx2 : W.cell? ⟨w.heap.size, 2, none⟩ = some (.slice s F.length cap) := by rw [HW.out]; simp [go_sem]
    have bxl : w.heap.size < W.heap.size := World.block_lt_of_cell? W _ bx0
    have cx0 : W.cell? ⟨w.heap.size + 1, 0, none⟩ = some (.int .i64 m.x) := by rw [HW.out]; simp [go_sem]
    have cx1 : W.cell? ⟨w.heap.size + 1, 1, none⟩ = some (.int .i64 m.y) := by rw [HW.out]; simp [go_sem]
    have cxl : w.heap.size + 1 < W.heap.size := World.block_lt_of_cell? W _ cx0
    try replace h := up_of hB h
    go_wp2_with (first | (go_at_call 13; refine (hwi.out _).mono ?_; rintro e W1 ⟨rfl, hb⟩; (try replace h := up_of hb h); (try replace hB := up_of hb hB); (try replace bx0 := up_of hb bx0); (try replace bx1 := up_of hb bx1); (try replace bx2 := up_of hb bx2); (try replace bxl := up_of hb bxl); (try replace cx0 := up_of hb cx0); (try replace cx1 := up_of hb cx1); (try replace cxl := up_of hb cxl)) | (go_at_call 15; refine (Awake_c _).mono ?_; rintro e W1 ⟨rfl, hb⟩; (try replace h := up_of hb h); (try replace hB := up_of hb hB); (try replace bx0 := up_of hb bx0); (try replace bx1 := up_of hb bx1); (try replace bx2 := up_of hb bx2); (try replace bxl := up_of hb bxl); (try replace cx0 := up_of hb cx0); (try replace cx1 := up_of hb cx1); (try replace cxl := up_of hb cxl)))
    go_ret
    exact ⟨rfl, hB⟩
  simp only [h200, decide_false] at hwi
  have c1 := fun V (h : Cels V s cap F) => Lives_c wd ht s cap F m V h
  have c2 := fun V (h : Cels V s cap F) => rLives_c wd ht s cap F m V h
  have c3 := fun V (h : Cels V s cap F) => valid_c wd ht s cap F V h
  have c4 := fun V (h : Cels V s cap F) => rValid_c wd ht s cap F V h
  have c5 := fun V (h : Cels V s cap F) => Living_c wd ht s cap F V h
  have c6 := fun V (h : Cels V s cap F) => rLiving_c wd ht s cap F V h
  have c7 := fun V (h : Cels V s cap F) => Worse_c wd ht s cap F m V h
  have c8 := fun V (h : Cels V s cap F) => rWorse_c wd ht s cap F m V h
  have hll : (livR wd ht F).length ≤ 9223372036854775807 := by
    unfold livR
    cases h1 : gvB wd ht F
    · simp
    · obtain ⟨-, h2, -⟩ := gv_facts h1
      rw [if_pos rfl, livL, List.length_map, fld_len]; omega
  have hwl : (wsF wd ht F m).length ≤ 9223372036854775807 := by
    unfold wsF
    split
    · simp; omega
    · simp
  obtain ⟨B, hB0⟩ : ∃ x, lvB wd ht F m = x := ⟨_, rfl⟩
  obtain ⟨E, hE⟩ : ∃ x, lvE wd ht F m = x := ⟨_, rfl⟩
  obtain ⟨G, hG⟩ : ∃ x, gvB wd ht F = x := ⟨_, rfl⟩
  obtain ⟨L, hL⟩ : ∃ x, livR wd ht F = x := ⟨_, rfl⟩
  obtain ⟨E2, hE2⟩ : ∃ x, livE wd ht F = x := ⟨_, rfl⟩
  obtain ⟨X, hX⟩ : ∃ x, wsW wd ht F m = x := ⟨_, rfl⟩
  obtain ⟨Y, hY⟩ : ∃ x, wsH wd ht F m = x := ⟨_, rfl⟩
  obtain ⟨K, hK⟩ : ∃ x, wsF wd ht F m = x := ⟨_, rfl⟩
  obtain ⟨E3, hE3⟩ : ∃ x, wsE wd ht F m = x := ⟨_, rfl⟩
  unfold LvRet at c1 c2
  unfold LivRet at c5 c6
  unfold GrRet at c7 c8
  simp only [hB0, hE] at c1 c2
  simp only [hG] at c3 c4
  simp only [hL, hE2] at c5 c6 hll
  simp only [hX, hY, hK, hE3] at c7 c8 hwl
  clear hB0 hE hG hL hE2 hX hY hK hE3 h200
  have n1 : (B != B) = false := by simp
  have n2 : (E != E) = false := by simp
  have n3 : (G != G) = false := by simp
  have n4 : (E2 != E2) = false := by simp
  have c9 := fun V s1 k1 s2 k2 (h1 : SlS intE V s1 L) (h2 : SlS intE V s2 L) => SameInts_eq s1 s2 k1 k2 L V h1 h2 hll
  have c10 := fun V s1 k1 s2 k2 (h1 : SlS celE V s1 K) (h2 : SlS celE V s2 K) => Same_eq X Y s1 s2 k1 k2 K V h1 h2 hwl
  replace hwi := Lib.hid hwi; replace c1 := Lib.hid c1; replace c2 := Lib.hid c2; replace c3 := Lib.hid c3; replace c4 := Lib.hid c4; replace c5 := Lib.hid c5; replace c6 := Lib.hid c6; replace c7 := Lib.hid c7; replace c8 := Lib.hid c8; replace c9 := Lib.hid c9; replace c10 := Lib.hid c10
  go_enter Try.func7, Try.ntmps7
  go_upto_region 1 with (fail)
  refine wp_world fun W HW => ?_
  have hB : Below w.heap.size w W := by rw [HW.out]; (repeat (first | exact Below.refl _ _ | refine Below.alloc ?_ (by simp; try omega) _ | refine Below.setCell ?_ (by simp) _ | refine Below.drew ?_))
  have bx0 : W.cell? ⟨w.heap.size, 0, none⟩ = some (.int .i64 wd) := by rw [HW.out]; simp [go_sem]
  have bx1 : W.cell? ⟨w.heap.size, 1, none⟩ = some (.int .i64 ht) := by rw [HW.out]; simp [go_sem]
  have bx2 : W.cell? ⟨w.heap.size, 2, none⟩ = some (.slice s F.length cap) := by rw [HW.out]; simp [go_sem]
  have bxl : w.heap.size < W.heap.size := World.block_lt_of_cell? W _ bx0
  have cx0 : W.cell? ⟨w.heap.size + 1, 0, none⟩ = some (.int .i64 m.x) := by rw [HW.out]; simp [go_sem]
  have cx1 : W.cell? ⟨w.heap.size + 1, 1, none⟩ = some (.int .i64 m.y) := by rw [HW.out]; simp [go_sem]
  have cxl : w.heap.size + 1 < W.heap.size := World.block_lt_of_cell? W _ cx0
  try replace h := up_of hB h
  go_upto_region 5 with (first | (go_at_call 13; refine (hwi.out _).mono ?_; rintro e W1 ⟨rfl, hb⟩; (try replace h := up_of hb h); (try replace hB := up_of hb hB); (try replace bx0 := up_of hb bx0); (try replace bx1 := up_of hb bx1); (try replace bx2 := up_of hb bx2); (try replace bxl := up_of hb bxl); (try replace cx0 := up_of hb cx0); (try replace cx1 := up_of hb cx1); (try replace cxl := up_of hb cxl)) | (go_at_call 27; refine (c1.out _ h).mono ?_; rintro e W1 ⟨rfl, hb⟩; (try replace h := up_of hb h); (try replace hB := up_of hb hB); (try replace bx0 := up_of hb bx0); (try replace bx1 := up_of hb bx1); (try replace bx2 := up_of hb bx2); (try replace bxl := up_of hb bxl); (try replace cx0 := up_of hb cx0); (try replace cx1 := up_of hb cx1); (try replace cxl := up_of hb cxl)) | (go_at_call 28; refine (c2.out _ h).mono ?_; rintro e W1 ⟨rfl, hb⟩; (try replace h := up_of hb h); (try replace hB := up_of hb hB); (try replace bx0 := up_of hb bx0); (try replace bx1 := up_of hb bx1); (try replace bx2 := up_of hb bx2); (try replace bxl := up_of hb bxl); (try replace cx0 := up_of hb cx0); (try replace cx1 := up_of hb cx1); (try replace cxl := up_of hb cxl)))
  try have ld_bx0 := World.block_lt_of_cell? _ _ bx0
  try have ld_cx0 := World.block_lt_of_cell? _ _ cx0
  refine region_q (by kernel_rfl) (by kernel_rfl) ?_
  dsimp only [List.toList_toArray]
  repeat (first
   | go_big_quiet_skip
   | (go_big_quiet_want
      first
      | (refine qq_det ?_
         apply Exists.intro; refine ⟨fun W' hW' => ?_, ?_⟩
         (· have hk := cellB hW'; go_simp; try (first | rfl | rw [if_pos (by omega)]))
         simp only [Act.put, List.setIfInBounds_toArray, List.set_cons_zero, List.set_cons_succ]; go_big_quiet_on)
      | (refine qq_call ?_
         apply Exists.intro; apply Exists.intro; refine ⟨fun W' hW' => ?_, ?_⟩
         (· have hk := cellB hW'; go_simp; exact ⟨rfl, rfl⟩)
         apply Exists.intro; refine ⟨fun W' hW' => ?_, ?_⟩
         (· first | (go_at_call 29; exact qc hW' (c3.out _ (up_of hW' h))) | (go_at_call 14; exact qc hW' (c4.out _ (up_of hW' h))))
         simp only [Act.put, List.setIfInBounds_toArray, List.set_cons_zero, List.set_cons_succ]; go_big_quiet_on)))
  refine wpQuiet_nil ?_
  intro W1 hb
  try replace h := up_of hb h
  try replace hB := up_of hb hB
  try replace bx0 := up_of hb bx0
  try replace bx1 := up_of hb bx1
  try replace bx2 := up_of hb bx2
  try replace bxl := up_of hb bxl
  try replace cx0 := up_of hb cx0
  try replace cx1 := up_of hb cx1
  try replace cxl := up_of hb cxl
  clear hb
  go_upto_region 8 with (first | (go_at_call 30; refine (c5.out _ h).mono ?_; rintro e A1 ⟨⟨s1, k1, rfl, ho1⟩, hb⟩; (try replace h := up_of hb h); (try replace hB := up_of hb hB); (try replace bx0 := up_of hb bx0); (try replace bx1 := up_of hb bx1); (try replace bx2 := up_of hb bx2); (try replace bxl := up_of hb bxl); (try replace cx0 := up_of hb cx0); (try replace cx1 := up_of hb cx1); (try replace cxl := up_of hb cxl)))
  have v1 := SlS.of_own (E := intE) ho1
  clear ho1 hb
  go_upto_region 9 with (first | (go_at_call 31; refine (c6.out _ h).mono ?_; rintro e A2 ⟨⟨s2, k2, rfl, ho2⟩, hb⟩; (try replace h := up_of hb h); (try replace hB := up_of hb hB); (try replace bx0 := up_of hb bx0); (try replace bx1 := up_of hb bx1); (try replace bx2 := up_of hb bx2); (try replace bxl := up_of hb bxl); (try replace cx0 := up_of hb cx0); (try replace cx1 := up_of hb cx1); (try replace cxl := up_of hb cxl); (try replace v1 := up_of hb v1)))
  have v2 := SlS.of_own (E := intE) ho2
  clear ho2 hb
  go_upto_region 11 with (first | (go_at_call 32; refine (c9.out _ s1 k1 s2 k2 v1 v2).mono ?_; rintro e W1 ⟨rfl, hb⟩; (try replace h := up_of hb h); (try replace hB := up_of hb hB); (try replace bx0 := up_of hb bx0); (try replace bx1 := up_of hb bx1); (try replace bx2 := up_of hb bx2); (try replace bxl := up_of hb bxl); (try replace cx0 := up_of hb cx0); (try replace cx1 := up_of hb cx1); (try replace cxl := up_of hb cxl); (try replace v1 := up_of hb v1); (try replace v2 := up_of hb v2)))
  clear v1 v2 hb
  go_upto_region 12 with (first | (go_at_call 18; refine (c7.out _ h).mono ?_; rintro e A3 ⟨⟨s3, k3, rfl, ho3⟩, hb⟩; (try replace h := up_of hb h); (try replace hB := up_of hb hB); (try replace bx0 := up_of hb bx0); (try replace bx1 := up_of hb bx1); (try replace bx2 := up_of hb bx2); (try replace bxl := up_of hb bxl); (try replace cx0 := up_of hb cx0); (try replace cx1 := up_of hb cx1); (try replace cxl := up_of hb cxl); (try replace v1 := up_of hb v1); (try replace v2 := up_of hb v2)))
  have v3 := SlS.of_own (E := celE) ho3
  clear ho3 hb
  refine wp_world fun A4 HA4 => ?_
  have h4 : Below A3.heap.size A3 A4 := by rw [HA4.out]; (repeat (first | exact Below.refl _ _ | refine Below.alloc ?_ (by simp; try omega) _ | refine Below.setCell ?_ (by simp) _ | refine Below.drew ?_))
  have dx0 : A4.cell? ⟨A3.heap.size, 0, none⟩ = some (.int .i64 X) := by rw [HA4.out]; simp [go_sem]
  have dx1 : A4.cell? ⟨A3.heap.size, 1, none⟩ = some (.int .i64 Y) := by rw [HA4.out]; simp [go_sem]
  have dx2 : A4.cell? ⟨A3.heap.size, 2, none⟩ = some (.slice s3 K.length k3) := by rw [HA4.out]; simp [go_sem]
  have dxl : A3.heap.size < A4.heap.size := World.block_lt_of_cell? A4 _ dx0
  try replace h := up_of h4 h
  try replace hB := up_of h4 hB
  try replace bx0 := up_of h4 bx0
  try replace bx1 := up_of h4 bx1
  try replace bx2 := up_of h4 bx2
  try replace bxl := up_of h4 bxl
  try replace cx0 := up_of h4 cx0
  try replace cx1 := up_of h4 cx1
  try replace cxl := up_of h4 cxl
  try replace v1 := up_of h4 v1
  try replace v2 := up_of h4 v2
  try replace v3 := up_of h4 v3
  go_upto_region 13 with (first | (go_at_call 33; refine (c8.out _ h).mono ?_; rintro e A5 ⟨⟨s4, k4, rfl, ho4⟩, hb⟩; (try replace h := up_of hb h); (try replace hB := up_of hb hB); (try replace bx0 := up_of hb bx0); (try replace bx1 := up_of hb bx1); (try replace bx2 := up_of hb bx2); (try replace bxl := up_of hb bxl); (try replace cx0 := up_of hb cx0); (try replace cx1 := up_of hb cx1); (try replace cxl := up_of hb cxl); (try replace v1 := up_of hb v1); (try replace v2 := up_of hb v2); (try replace v3 := up_of hb v3); (try replace h4 := up_of hb h4); (try replace dx0 := up_of hb dx0); (try replace dx1 := up_of hb dx1); (try replace dx2 := up_of hb dx2); (try replace dxl := up_of hb dxl)))
  have v4 := SlS.of_own (E := celE) ho4
  clear ho4 hb
  refine wp_world fun A6 HA6 => ?_
  have h6 : Below A5.heap.size A5 A6 := by rw [HA6.out]; (repeat (first | exact Below.refl _ _ | refine Below.alloc ?_ (by simp; try omega) _ | refine Below.setCell ?_ (by simp) _ | refine Below.drew ?_))
  have ex0 : A6.cell? ⟨A5.heap.size, 0, none⟩ = some (.int .i64 X) := by rw [HA6.out]; simp [go_sem]
  have ex1 : A6.cell? ⟨A5.heap.size, 1, none⟩ = some (.int .i64 Y) := by rw [HA6.out]; simp [go_sem]
  have ex2 : A6.cell? ⟨A5.heap.size, 2, none⟩ = some (.slice s4 K.length k4) := by rw [HA6.out]; simp [go_sem]
  have exl : A5.heap.size < A6.heap.size := World.block_lt_of_cell? A6 _ ex0
  try replace h := up_of h6 h
  try replace hB := up_of h6 hB
  try replace bx0 := up_of h6 bx0
  try replace bx1 := up_of h6 bx1
  try replace bx2 := up_of h6 bx2
  try replace bxl := up_of h6 bxl
  try replace cx0 := up_of h6 cx0
  try replace cx1 := up_of h6 cx1
  try replace cxl := up_of h6 cxl
  try replace v1 := up_of h6 v1
  try replace v2 := up_of h6 v2
  try replace v3 := up_of h6 v3
  try replace h4 := up_of h6 h4
  try replace dx0 := up_of h6 dx0
  try replace dx1 := up_of h6 dx1
  try replace dx2 := up_of h6 dx2
  try replace dxl := up_of h6 dxl
  try replace v4 := up_of h6 v4
  go_wp2_with (first | (go_at_call 34; refine (c10.out _ s3 k3 s4 k4 v3 v4).mono ?_; rintro e W1 ⟨rfl, hb⟩; (try replace h := up_of hb h); (try replace hB := up_of hb hB); (try replace bx0 := up_of hb bx0); (try replace bx1 := up_of hb bx1); (try replace bx2 := up_of hb bx2); (try replace bxl := up_of hb bxl); (try replace cx0 := up_of hb cx0); (try replace cx1 := up_of hb cx1); (try replace cxl := up_of hb cxl); (try replace v1 := up_of hb v1); (try replace v2 := up_of hb v2); (try replace v3 := up_of hb v3); (try replace h4 := up_of hb h4); (try replace dx0 := up_of hb dx0); (try replace dx1 := up_of hb dx1); (try replace dx2 := up_of hb dx2); (try replace dxl := up_of hb dxl); (try replace v4 := up_of hb v4); (try replace h6 := up_of hb h6); (try replace ex0 := up_of hb ex0); (try replace ex1 := up_of hb ex1); (try replace ex2 := up_of hb ex2); (try replace exl := up_of hb exl)) | (go_at_call 15; refine (Awake_c _).mono ?_; rintro e W1 ⟨rfl, hb⟩; (try replace h := up_of hb h); (try replace hB := up_of hb hB); (try replace bx0 := up_of hb bx0); (try replace bx1 := up_of hb bx1); (try replace bx2 := up_of hb bx2); (try replace bxl := up_of hb bxl); (try replace cx0 := up_of hb cx0); (try replace cx1 := up_of hb cx1); (try replace cxl := up_of hb cxl); (try replace v1 := up_of hb v1); (try replace v2 := up_of hb v2); (try replace v3 := up_of hb v3); (try replace h4 := up_of hb h4); (try replace dx0 := up_of hb dx0); (try replace dx1 := up_of hb dx1); (try replace dx2 := up_of hb dx2); (try replace dxl := up_of hb dxl); (try replace v4 := up_of hb v4); (try replace h6 := up_of hb h6); (try replace ex0 := up_of hb ex0); (try replace ex1 := up_of hb ex1); (try replace ex2 := up_of hb ex2); (try replace exl := up_of hb exl)))
  go_ret
  exact ⟨rfl, hB⟩
end Go.Proofs.Ytbabdoafpljdbaa
