/- SchedSums: the walk. -/
import Derived.Test.YtbpdgoedglkefaaSch11
import Derived.Test.YtbpdgoedglkefaaSch16
import Derived.Test.YtbpdgoedglkefaaSch25
import Derived.Test.YtbpdgoedglkefaaSch26
import Derived.Test.YtbpdgoedglkefaaB6
import Derived.Test.YtbpdgoedglkefaaEq3
namespace Go.Proofs.Ytbpdgoedglkefaa
open Go.RowKit

set_option maxRecDepth 100000 in
set_option maxHeartbeats 1000000 in
theorem Same_eq (f : Pt) (s1 s2 : Option Addr) (c1 c2 : Nat) (l : List Int) (w : World) (h1 : SlS intE w s1 l) (h2 : SlS intE w s2 l) (hl : l.length ≤ 9223372036854775807) :
    Calls Try.prog 37 #[.agg #[.int .i64 f.x, .int .i64 f.y, .int .i64 f.z, .slice s1 l.length c1], .agg #[.int .i64 f.x, .int .i64 f.y, .int .i64 f.z, .slice s2 l.length c2]] w fun e w' => e = .returned (.bool true) ∧ Below w.heap.size w w' := by
  have hsi := fun V (h1 : SlS intE V s1 l) (h2 : SlS intE V s2 l) => SameInts_eq s1 s2 c1 c2 l V h1 h2 hl
  have he := fun w => pt_eql w 9998 f.x f.y f.z f.x f.y f.z
  simp only [beq_self_eq_true, Bool.and_self] at he
  replace hsi := Lib.hid hsi
  go_enter Try.func37, Try.ntmps37
  go_upto_region 1 with (fail)
  refine wp_world fun W HW => ?_
  have hB : Below w.heap.size w W := by rw [HW.out]; (repeat (first | exact Below.refl _ _ | refine Below.alloc ?_ (by simp; try omega) _ | refine Below.setCell ?_ (by simp) _ | refine Below.drew ?_))
  have a0 : W.cell? ⟨w.heap.size, 0, none⟩ = some (.int .i64 f.x) := by rw [HW.out]; simp [go_sem]
  have a1 : W.cell? ⟨w.heap.size, 1, none⟩ = some (.int .i64 f.y) := by rw [HW.out]; simp [go_sem]
  have a2 : W.cell? ⟨w.heap.size, 2, none⟩ = some (.int .i64 f.z) := by rw [HW.out]; simp [go_sem]
  have a3 : W.cell? ⟨w.heap.size, 3, none⟩ = some (.slice s1 l.length c1) := by rw [HW.out]; simp [go_sem]
  have al : w.heap.size < W.heap.size := World.block_lt_of_cell? W _ a0
  have b0 : W.cell? ⟨w.heap.size + 1, 0, none⟩ = some (.int .i64 f.x) := by rw [HW.out]; simp [go_sem]
  have b1 : W.cell? ⟨w.heap.size + 1, 1, none⟩ = some (.int .i64 f.y) := by rw [HW.out]; simp [go_sem]
  have b2 : W.cell? ⟨w.heap.size + 1, 2, none⟩ = some (.int .i64 f.z) := by rw [HW.out]; simp [go_sem]
  have b3 : W.cell? ⟨w.heap.size + 1, 3, none⟩ = some (.slice s2 l.length c2) := by rw [HW.out]; simp [go_sem]
  have bl : w.heap.size + 1 < W.heap.size := World.block_lt_of_cell? W _ b0
  try replace h1 := up_of hB h1
  try replace h2 := up_of hB h2
  go_wp2_with (first | (go_at_call 45; refine (hsi.out _ h1 h2).mono ?_; rintro e W1 ⟨rfl, hb⟩; (try replace h1 := up_of hb h1); (try replace h2 := up_of hb h2); (try replace hB := up_of hb hB); (try replace a0 := up_of hb a0); (try replace a1 := up_of hb a1); (try replace a2 := up_of hb a2); (try replace a3 := up_of hb a3); (try replace al := up_of hb al); (try replace b0 := up_of hb b0); (try replace b1 := up_of hb b1); (try replace b2 := up_of hb b2); (try replace b3 := up_of hb b3); (try replace bl := up_of hb bl)))
  go_ret
  exact ⟨rfl, hB⟩
set_option maxRecDepth 100000 in
set_option maxHeartbeats 4000000 in
theorem SchedSums_w (n : Int) (s : Option Addr) (cap : Nat) (l : List Iq) (s2 : Option Addr) (cq : Nat) (K : List Vv) (q r : Sd) (kk : Int) (w : World) (hr : RecM w s l s2 cq K) (hq : SdM w q) (hq2 : SdM w r) (_ : I64 kk) :
    Calls Try.prog 8 #[.agg #[.int .i64 n, .slice s l.length cap, .slice s2 K.length cq], .agg #[.int .i64 q.f.x, .int .i64 q.f.y, .int .i64 q.f.z, .slice q.s q.off.length q.cap], .agg #[.int .i64 r.f.x, .int .i64 r.f.y, .int .i64 r.f.z, .slice r.s r.off.length r.cap], .int .i64 kk] w fun e w' => e = .returned (.bool true) ∧ Below w.heap.size w w' := by
  have hwi := fun V (h : RecM V s l s2 cq K) => Wide_c n s cap l s2 cq K V h
  have hlo := fun V (h : SdM V q) => long_c q V h
  have hlo2 := fun V (h : SdM V r) => long_c r V h
  have c1 := fun V (h : RecM V s l s2 cq K) (h1 : SdM V q) (h2 : SdM V r) => Sum_c n s cap l s2 cq K q r V h h1 h2
  have c2 := fun V (h : RecM V s l s2 cq K) (h1 : SdM V q) (h2 : SdM V r) => rSum_c n s cap l s2 cq K q r V h h1 h2
  have c3 := fun V (h : RecM V s l s2 cq K) (h1 : SdM V q) => Slow_c n s cap l s2 cq K q kk V h h1
  have c4 := fun V (h : RecM V s l s2 cq K) (h1 : SdM V q) => rSlow_c n s cap l s2 cq K q kk V h h1
  unfold SdRet at c1 c2 c3 c4
  have hb1 : (if sumE n l K q r = 0 then addO K.length q.off r.off else []).length ≤ 9223372036854775807 := by
    have := hr.len
    split
    · unfold addO; rw [List.length_map, List.length_range]; exact this
    · simp
  have hb2 : (if slowE n l K q kk = 0 then mulO K.length kk q.off else []).length ≤ 9223372036854775807 := by
    have := hr.len
    split
    · unfold mulO; rw [List.length_map, List.length_range]; exact this
    · simp
  obtain ⟨F1, hF1⟩ : ∃ x, (if sumE n l K q r = 0 then addP q.f r.f else ⟨0, 0, 0⟩) = x := ⟨_, rfl⟩
  obtain ⟨O1, hO1⟩ : ∃ x, (if sumE n l K q r = 0 then addO K.length q.off r.off else []) = x := ⟨_, rfl⟩
  obtain ⟨F2, hF2⟩ : ∃ x, (if slowE n l K q kk = 0 then mulP kk q.f else ⟨0, 0, 0⟩) = x := ⟨_, rfl⟩
  obtain ⟨O2, hO2⟩ : ∃ x, (if slowE n l K q kk = 0 then mulO K.length kk q.off else []) = x := ⟨_, rfl⟩
  simp only [hF1, hO1] at c1 c2 hb1
  simp only [hF2, hO2] at c3 c4 hb2
  obtain ⟨E1, hE1⟩ : ∃ x, sumE n l K q r = x := ⟨_, rfl⟩
  obtain ⟨E2, hE2⟩ : ∃ x, slowE n l K q kk = x := ⟨_, rfl⟩
  simp only [hE1] at c1 c2
  simp only [hE2] at c3 c4
  have e1 := fun V s1 k1 s2 k2 (h1 : SlS intE V s1 O1) (h2 : SlS intE V s2 O1) => Same_eq F1 s1 s2 k1 k2 O1 V h1 h2 hb1
  have e2 := fun V s1 k1 s2 k2 (h1 : SlS intE V s1 O2) (h2 : SlS intE V s2 O2) => Same_eq F2 s1 s2 k1 k2 O2 V h1 h2 hb2
  clear hF1 hO1 hF2 hO2 hE1 hE2
  obtain ⟨WB, hWB⟩ : ∃ x, wideB l K = x := ⟨_, rfl⟩
  obtain ⟨LB, hLB⟩ : ∃ x, decide (20 < q.off.length) = x := ⟨_, rfl⟩
  obtain ⟨LC, hLC⟩ : ∃ x, decide (20 < r.off.length) = x := ⟨_, rfl⟩
  simp only [hWB] at hwi
  simp only [hLB] at hlo
  simp only [hLC] at hlo2
  clear hWB hLB hLC
  have z1 : (E1 == E1) = true := by simp
  have z2 : (E2 == E2) = true := by simp
  replace hwi := Lib.hid hwi; replace hlo := Lib.hid hlo; replace hlo2 := Lib.hid hlo2; replace c1 := Lib.hid c1; replace c2 := Lib.hid c2; replace c3 := Lib.hid c3; replace c4 := Lib.hid c4; replace e1 := Lib.hid e1; replace e2 := Lib.hid e2
  cases WB
  case true =>
    go_enter Try.func8, Try.ntmps8
    go_upto_region 1 with (fail)
    refine wp_world fun W HW => ?_
    have hB : Below w.heap.size w W := by rw [HW.out]; (repeat (first | exact Below.refl _ _ | refine Below.alloc ?_ (by simp; try omega) _ | refine Below.setCell ?_ (by simp) _ | refine Below.drew ?_))
    have d0 : W.cell? ⟨w.heap.size, 0, none⟩ = some (.int .i64 n) := by rw [HW.out]; simp [go_sem]
    have d1 : W.cell? ⟨w.heap.size, 1, none⟩ = some (.slice s l.length cap) := by rw [HW.out]; simp [go_sem]
    have d2 : W.cell? ⟨w.heap.size, 2, none⟩ = some (.slice s2 K.length cq) := by rw [HW.out]; simp [go_sem]
    have dl : w.heap.size < W.heap.size := World.block_lt_of_cell? W _ d0
    have g0 : W.cell? ⟨w.heap.size + 1, 0, none⟩ = some (.int .i64 q.f.x) := by rw [HW.out]; simp [go_sem]
    have g1 : W.cell? ⟨w.heap.size + 1, 1, none⟩ = some (.int .i64 q.f.y) := by rw [HW.out]; simp [go_sem]
    have g2 : W.cell? ⟨w.heap.size + 1, 2, none⟩ = some (.int .i64 q.f.z) := by rw [HW.out]; simp [go_sem]
    have g3 : W.cell? ⟨w.heap.size + 1, 3, none⟩ = some (.slice q.s q.off.length q.cap) := by rw [HW.out]; simp [go_sem]
    have gl : w.heap.size + 1 < W.heap.size := World.block_lt_of_cell? W _ g0
    have h0 : W.cell? ⟨w.heap.size + 2, 0, none⟩ = some (.int .i64 r.f.x) := by rw [HW.out]; simp [go_sem]
    have h1 : W.cell? ⟨w.heap.size + 2, 1, none⟩ = some (.int .i64 r.f.y) := by rw [HW.out]; simp [go_sem]
    have h2 : W.cell? ⟨w.heap.size + 2, 2, none⟩ = some (.int .i64 r.f.z) := by rw [HW.out]; simp [go_sem]
    have h3 : W.cell? ⟨w.heap.size + 2, 3, none⟩ = some (.slice r.s r.off.length r.cap) := by rw [HW.out]; simp [go_sem]
    have hl : w.heap.size + 2 < W.heap.size := World.block_lt_of_cell? W _ h0
    try replace hr := up_of hB hr
    try replace hq := up_of hB hq
    try replace hq2 := up_of hB hq2
    go_wp2_with (first | (go_at_call 16; refine (hwi.out _ hr).mono ?_; rintro e W1 ⟨rfl, hb⟩; (try replace hr := up_of hb hr); (try replace hq := up_of hb hq); (try replace hq2 := up_of hb hq2); (try replace hB := up_of hb hB); (try replace d0 := up_of hb d0); (try replace d1 := up_of hb d1); (try replace d2 := up_of hb d2); (try replace dl := up_of hb dl); (try replace g0 := up_of hb g0); (try replace g1 := up_of hb g1); (try replace g2 := up_of hb g2); (try replace g3 := up_of hb g3); (try replace gl := up_of hb gl); (try replace h0 := up_of hb h0); (try replace h1 := up_of hb h1); (try replace h2 := up_of hb h2); (try replace h3 := up_of hb h3); (try replace hl := up_of hb hl)) | (go_at_call 18; refine (Awake_c _).mono ?_; rintro e W1 ⟨rfl, hb⟩; (try replace hr := up_of hb hr); (try replace hq := up_of hb hq); (try replace hq2 := up_of hb hq2); (try replace hB := up_of hb hB); (try replace d0 := up_of hb d0); (try replace d1 := up_of hb d1); (try replace d2 := up_of hb d2); (try replace dl := up_of hb dl); (try replace g0 := up_of hb g0); (try replace g1 := up_of hb g1); (try replace g2 := up_of hb g2); (try replace g3 := up_of hb g3); (try replace gl := up_of hb gl); (try replace h0 := up_of hb h0); (try replace h1 := up_of hb h1); (try replace h2 := up_of hb h2); (try replace h3 := up_of hb h3); (try replace hl := up_of hb hl)))
    go_ret
    exact ⟨rfl, hB⟩
  cases LB
  case true =>
    go_enter Try.func8, Try.ntmps8
    go_upto_region 1 with (fail)
    refine wp_world fun W HW => ?_
    have hB : Below w.heap.size w W := by rw [HW.out]; (repeat (first | exact Below.refl _ _ | refine Below.alloc ?_ (by simp; try omega) _ | refine Below.setCell ?_ (by simp) _ | refine Below.drew ?_))
    have d0 : W.cell? ⟨w.heap.size, 0, none⟩ = some (.int .i64 n) := by rw [HW.out]; simp [go_sem]
    have d1 : W.cell? ⟨w.heap.size, 1, none⟩ = some (.slice s l.length cap) := by rw [HW.out]; simp [go_sem]
    have d2 : W.cell? ⟨w.heap.size, 2, none⟩ = some (.slice s2 K.length cq) := by rw [HW.out]; simp [go_sem]
    have dl : w.heap.size < W.heap.size := World.block_lt_of_cell? W _ d0
    have g0 : W.cell? ⟨w.heap.size + 1, 0, none⟩ = some (.int .i64 q.f.x) := by rw [HW.out]; simp [go_sem]
    have g1 : W.cell? ⟨w.heap.size + 1, 1, none⟩ = some (.int .i64 q.f.y) := by rw [HW.out]; simp [go_sem]
    have g2 : W.cell? ⟨w.heap.size + 1, 2, none⟩ = some (.int .i64 q.f.z) := by rw [HW.out]; simp [go_sem]
    have g3 : W.cell? ⟨w.heap.size + 1, 3, none⟩ = some (.slice q.s q.off.length q.cap) := by rw [HW.out]; simp [go_sem]
    have gl : w.heap.size + 1 < W.heap.size := World.block_lt_of_cell? W _ g0
    have h0 : W.cell? ⟨w.heap.size + 2, 0, none⟩ = some (.int .i64 r.f.x) := by rw [HW.out]; simp [go_sem]
    have h1 : W.cell? ⟨w.heap.size + 2, 1, none⟩ = some (.int .i64 r.f.y) := by rw [HW.out]; simp [go_sem]
    have h2 : W.cell? ⟨w.heap.size + 2, 2, none⟩ = some (.int .i64 r.f.z) := by rw [HW.out]; simp [go_sem]
    have h3 : W.cell? ⟨w.heap.size + 2, 3, none⟩ = some (.slice r.s r.off.length r.cap) := by rw [HW.out]; simp [go_sem]
    have hl : w.heap.size + 2 < W.heap.size := World.block_lt_of_cell? W _ h0
    try replace hr := up_of hB hr
    try replace hq := up_of hB hq
    try replace hq2 := up_of hB hq2
    go_wp2_with (first | (go_at_call 16; refine (hwi.out _ hr).mono ?_; rintro e W1 ⟨rfl, hb⟩; (try replace hr := up_of hb hr); (try replace hq := up_of hb hq); (try replace hq2 := up_of hb hq2); (try replace hB := up_of hb hB); (try replace d0 := up_of hb d0); (try replace d1 := up_of hb d1); (try replace d2 := up_of hb d2); (try replace dl := up_of hb dl); (try replace g0 := up_of hb g0); (try replace g1 := up_of hb g1); (try replace g2 := up_of hb g2); (try replace g3 := up_of hb g3); (try replace gl := up_of hb gl); (try replace h0 := up_of hb h0); (try replace h1 := up_of hb h1); (try replace h2 := up_of hb h2); (try replace h3 := up_of hb h3); (try replace hl := up_of hb hl)) | (go_at_call 17; refine (hlo.out _ hq).mono ?_; rintro e W1 ⟨rfl, hb⟩; (try replace hr := up_of hb hr); (try replace hq := up_of hb hq); (try replace hq2 := up_of hb hq2); (try replace hB := up_of hb hB); (try replace d0 := up_of hb d0); (try replace d1 := up_of hb d1); (try replace d2 := up_of hb d2); (try replace dl := up_of hb dl); (try replace g0 := up_of hb g0); (try replace g1 := up_of hb g1); (try replace g2 := up_of hb g2); (try replace g3 := up_of hb g3); (try replace gl := up_of hb gl); (try replace h0 := up_of hb h0); (try replace h1 := up_of hb h1); (try replace h2 := up_of hb h2); (try replace h3 := up_of hb h3); (try replace hl := up_of hb hl)) | (go_at_call 18; refine (Awake_c _).mono ?_; rintro e W1 ⟨rfl, hb⟩; (try replace hr := up_of hb hr); (try replace hq := up_of hb hq); (try replace hq2 := up_of hb hq2); (try replace hB := up_of hb hB); (try replace d0 := up_of hb d0); (try replace d1 := up_of hb d1); (try replace d2 := up_of hb d2); (try replace dl := up_of hb dl); (try replace g0 := up_of hb g0); (try replace g1 := up_of hb g1); (try replace g2 := up_of hb g2); (try replace g3 := up_of hb g3); (try replace gl := up_of hb gl); (try replace h0 := up_of hb h0); (try replace h1 := up_of hb h1); (try replace h2 := up_of hb h2); (try replace h3 := up_of hb h3); (try replace hl := up_of hb hl)))
    go_ret
    exact ⟨rfl, hB⟩
  cases LC
  case true =>
    go_enter Try.func8, Try.ntmps8
    go_upto_region 1 with (fail)
    refine wp_world fun W HW => ?_
    have hB : Below w.heap.size w W := by rw [HW.out]; (repeat (first | exact Below.refl _ _ | refine Below.alloc ?_ (by simp; try omega) _ | refine Below.setCell ?_ (by simp) _ | refine Below.drew ?_))
    have d0 : W.cell? ⟨w.heap.size, 0, none⟩ = some (.int .i64 n) := by rw [HW.out]; simp [go_sem]
    have d1 : W.cell? ⟨w.heap.size, 1, none⟩ = some (.slice s l.length cap) := by rw [HW.out]; simp [go_sem]
    have d2 : W.cell? ⟨w.heap.size, 2, none⟩ = some (.slice s2 K.length cq) := by rw [HW.out]; simp [go_sem]
    have dl : w.heap.size < W.heap.size := World.block_lt_of_cell? W _ d0
    have g0 : W.cell? ⟨w.heap.size + 1, 0, none⟩ = some (.int .i64 q.f.x) := by rw [HW.out]; simp [go_sem]
    have g1 : W.cell? ⟨w.heap.size + 1, 1, none⟩ = some (.int .i64 q.f.y) := by rw [HW.out]; simp [go_sem]
    have g2 : W.cell? ⟨w.heap.size + 1, 2, none⟩ = some (.int .i64 q.f.z) := by rw [HW.out]; simp [go_sem]
    have g3 : W.cell? ⟨w.heap.size + 1, 3, none⟩ = some (.slice q.s q.off.length q.cap) := by rw [HW.out]; simp [go_sem]
    have gl : w.heap.size + 1 < W.heap.size := World.block_lt_of_cell? W _ g0
    have h0 : W.cell? ⟨w.heap.size + 2, 0, none⟩ = some (.int .i64 r.f.x) := by rw [HW.out]; simp [go_sem]
    have h1 : W.cell? ⟨w.heap.size + 2, 1, none⟩ = some (.int .i64 r.f.y) := by rw [HW.out]; simp [go_sem]
    have h2 : W.cell? ⟨w.heap.size + 2, 2, none⟩ = some (.int .i64 r.f.z) := by rw [HW.out]; simp [go_sem]
    have h3 : W.cell? ⟨w.heap.size + 2, 3, none⟩ = some (.slice r.s r.off.length r.cap) := by rw [HW.out]; simp [go_sem]
    have hl : w.heap.size + 2 < W.heap.size := World.block_lt_of_cell? W _ h0
    try replace hr := up_of hB hr
    try replace hq := up_of hB hq
    try replace hq2 := up_of hB hq2
    go_wp2_with (first | (go_at_call 16; refine (hwi.out _ hr).mono ?_; rintro e W1 ⟨rfl, hb⟩; (try replace hr := up_of hb hr); (try replace hq := up_of hb hq); (try replace hq2 := up_of hb hq2); (try replace hB := up_of hb hB); (try replace d0 := up_of hb d0); (try replace d1 := up_of hb d1); (try replace d2 := up_of hb d2); (try replace dl := up_of hb dl); (try replace g0 := up_of hb g0); (try replace g1 := up_of hb g1); (try replace g2 := up_of hb g2); (try replace g3 := up_of hb g3); (try replace gl := up_of hb gl); (try replace h0 := up_of hb h0); (try replace h1 := up_of hb h1); (try replace h2 := up_of hb h2); (try replace h3 := up_of hb h3); (try replace hl := up_of hb hl)) | (go_at_call 17; with_reducible refine (hlo.out _ hq).mono ?_; rintro e W1 ⟨rfl, hb⟩; (try replace hr := up_of hb hr); (try replace hq := up_of hb hq); (try replace hq2 := up_of hb hq2); (try replace hB := up_of hb hB); (try replace d0 := up_of hb d0); (try replace d1 := up_of hb d1); (try replace d2 := up_of hb d2); (try replace dl := up_of hb dl); (try replace g0 := up_of hb g0); (try replace g1 := up_of hb g1); (try replace g2 := up_of hb g2); (try replace g3 := up_of hb g3); (try replace gl := up_of hb gl); (try replace h0 := up_of hb h0); (try replace h1 := up_of hb h1); (try replace h2 := up_of hb h2); (try replace h3 := up_of hb h3); (try replace hl := up_of hb hl)) | (go_at_call 17; with_reducible refine (hlo2.out _ hq2).mono ?_; rintro e W1 ⟨rfl, hb⟩; (try replace hr := up_of hb hr); (try replace hq := up_of hb hq); (try replace hq2 := up_of hb hq2); (try replace hB := up_of hb hB); (try replace d0 := up_of hb d0); (try replace d1 := up_of hb d1); (try replace d2 := up_of hb d2); (try replace dl := up_of hb dl); (try replace g0 := up_of hb g0); (try replace g1 := up_of hb g1); (try replace g2 := up_of hb g2); (try replace g3 := up_of hb g3); (try replace gl := up_of hb gl); (try replace h0 := up_of hb h0); (try replace h1 := up_of hb h1); (try replace h2 := up_of hb h2); (try replace h3 := up_of hb h3); (try replace hl := up_of hb hl)) | (go_at_call 18; refine (Awake_c _).mono ?_; rintro e W1 ⟨rfl, hb⟩; (try replace hr := up_of hb hr); (try replace hq := up_of hb hq); (try replace hq2 := up_of hb hq2); (try replace hB := up_of hb hB); (try replace d0 := up_of hb d0); (try replace d1 := up_of hb d1); (try replace d2 := up_of hb d2); (try replace dl := up_of hb dl); (try replace g0 := up_of hb g0); (try replace g1 := up_of hb g1); (try replace g2 := up_of hb g2); (try replace g3 := up_of hb g3); (try replace gl := up_of hb gl); (try replace h0 := up_of hb h0); (try replace h1 := up_of hb h1); (try replace h2 := up_of hb h2); (try replace h3 := up_of hb h3); (try replace hl := up_of hb hl)))
    go_ret
    exact ⟨rfl, hB⟩
  go_enter Try.func8, Try.ntmps8
  go_upto_region 1 with (fail)
  refine wp_world fun W HW => ?_
  have hB : Below w.heap.size w W := by rw [HW.out]; (repeat (first | exact Below.refl _ _ | refine Below.alloc ?_ (by simp; try omega) _ | refine Below.setCell ?_ (by simp) _ | refine Below.drew ?_))
  have d0 : W.cell? ⟨w.heap.size, 0, none⟩ = some (.int .i64 n) := by rw [HW.out]; simp [go_sem]
  have d1 : W.cell? ⟨w.heap.size, 1, none⟩ = some (.slice s l.length cap) := by rw [HW.out]; simp [go_sem]
  have d2 : W.cell? ⟨w.heap.size, 2, none⟩ = some (.slice s2 K.length cq) := by rw [HW.out]; simp [go_sem]
  have dl : w.heap.size < W.heap.size := World.block_lt_of_cell? W _ d0
  have g0 : W.cell? ⟨w.heap.size + 1, 0, none⟩ = some (.int .i64 q.f.x) := by rw [HW.out]; simp [go_sem]
  have g1 : W.cell? ⟨w.heap.size + 1, 1, none⟩ = some (.int .i64 q.f.y) := by rw [HW.out]; simp [go_sem]
  have g2 : W.cell? ⟨w.heap.size + 1, 2, none⟩ = some (.int .i64 q.f.z) := by rw [HW.out]; simp [go_sem]
  have g3 : W.cell? ⟨w.heap.size + 1, 3, none⟩ = some (.slice q.s q.off.length q.cap) := by rw [HW.out]; simp [go_sem]
  have gl : w.heap.size + 1 < W.heap.size := World.block_lt_of_cell? W _ g0
  have h0 : W.cell? ⟨w.heap.size + 2, 0, none⟩ = some (.int .i64 r.f.x) := by rw [HW.out]; simp [go_sem]
  have h1 : W.cell? ⟨w.heap.size + 2, 1, none⟩ = some (.int .i64 r.f.y) := by rw [HW.out]; simp [go_sem]
  have h2 : W.cell? ⟨w.heap.size + 2, 2, none⟩ = some (.int .i64 r.f.z) := by rw [HW.out]; simp [go_sem]
  have h3 : W.cell? ⟨w.heap.size + 2, 3, none⟩ = some (.slice r.s r.off.length r.cap) := by rw [HW.out]; simp [go_sem]
  have hl : w.heap.size + 2 < W.heap.size := World.block_lt_of_cell? W _ h0
  try replace hr := up_of hB hr
  try replace hq := up_of hB hq
  try replace hq2 := up_of hB hq2
  go_upto_region 3 with (first | (go_at_call 16; refine (hwi.out _ hr).mono ?_; rintro e W1 ⟨rfl, hb⟩; (try replace hr := up_of hb hr); (try replace hq := up_of hb hq); (try replace hq2 := up_of hb hq2); (try replace hB := up_of hb hB); (try replace d0 := up_of hb d0); (try replace d1 := up_of hb d1); (try replace d2 := up_of hb d2); (try replace dl := up_of hb dl); (try replace g0 := up_of hb g0); (try replace g1 := up_of hb g1); (try replace g2 := up_of hb g2); (try replace g3 := up_of hb g3); (try replace gl := up_of hb gl); (try replace h0 := up_of hb h0); (try replace h1 := up_of hb h1); (try replace h2 := up_of hb h2); (try replace h3 := up_of hb h3); (try replace hl := up_of hb hl)) | (go_at_call 17; with_reducible refine (hlo.out _ hq).mono ?_; rintro e W1 ⟨rfl, hb⟩; (try replace hr := up_of hb hr); (try replace hq := up_of hb hq); (try replace hq2 := up_of hb hq2); (try replace hB := up_of hb hB); (try replace d0 := up_of hb d0); (try replace d1 := up_of hb d1); (try replace d2 := up_of hb d2); (try replace dl := up_of hb dl); (try replace g0 := up_of hb g0); (try replace g1 := up_of hb g1); (try replace g2 := up_of hb g2); (try replace g3 := up_of hb g3); (try replace gl := up_of hb gl); (try replace h0 := up_of hb h0); (try replace h1 := up_of hb h1); (try replace h2 := up_of hb h2); (try replace h3 := up_of hb h3); (try replace hl := up_of hb hl)) | (go_at_call 17; with_reducible refine (hlo2.out _ hq2).mono ?_; rintro e W1 ⟨rfl, hb⟩; (try replace hr := up_of hb hr); (try replace hq := up_of hb hq); (try replace hq2 := up_of hb hq2); (try replace hB := up_of hb hB); (try replace d0 := up_of hb d0); (try replace d1 := up_of hb d1); (try replace d2 := up_of hb d2); (try replace dl := up_of hb dl); (try replace g0 := up_of hb g0); (try replace g1 := up_of hb g1); (try replace g2 := up_of hb g2); (try replace g3 := up_of hb g3); (try replace gl := up_of hb gl); (try replace h0 := up_of hb h0); (try replace h1 := up_of hb h1); (try replace h2 := up_of hb h2); (try replace h3 := up_of hb h3); (try replace hl := up_of hb hl)))
  go_upto_region 4 with (first | (go_at_call 38; refine (c1.out _ hr hq hq2).mono ?_; rintro e A1 ⟨⟨s3, k3, rfl, hu1⟩, hb⟩; (try replace hr := up_of hb hr); (try replace hq := up_of hb hq); (try replace hq2 := up_of hb hq2); (try replace hB := up_of hb hB); (try replace d0 := up_of hb d0); (try replace d1 := up_of hb d1); (try replace d2 := up_of hb d2); (try replace dl := up_of hb dl); (try replace g0 := up_of hb g0); (try replace g1 := up_of hb g1); (try replace g2 := up_of hb g2); (try replace g3 := up_of hb g3); (try replace gl := up_of hb gl); (try replace h0 := up_of hb h0); (try replace h1 := up_of hb h1); (try replace h2 := up_of hb h2); (try replace h3 := up_of hb h3); (try replace hl := up_of hb hl)))
  refine wp_world fun B1 HB1 => ?_
  have j1 : Below A1.heap.size A1 B1 := by rw [HB1.out]; (repeat (first | exact Below.refl _ _ | refine Below.alloc ?_ (by simp; try omega) _ | refine Below.setCell ?_ (by simp) _ | refine Below.drew ?_))
  have m0 : B1.cell? ⟨A1.heap.size, 0, none⟩ = some (.int .i64 F1.x) := by rw [HB1.out]; simp [go_sem]
  have m1 : B1.cell? ⟨A1.heap.size, 1, none⟩ = some (.int .i64 F1.y) := by rw [HB1.out]; simp [go_sem]
  have m2 : B1.cell? ⟨A1.heap.size, 2, none⟩ = some (.int .i64 F1.z) := by rw [HB1.out]; simp [go_sem]
  have m3 : B1.cell? ⟨A1.heap.size, 3, none⟩ = some (.slice s3 O1.length k3) := by rw [HB1.out]; simp [go_sem]
  have ml : A1.heap.size < B1.heap.size := World.block_lt_of_cell? B1 _ m0
  try replace hr := up_of j1 hr
  try replace hq := up_of j1 hq
  try replace hq2 := up_of j1 hq2
  try replace hB := up_of j1 hB
  try replace d0 := up_of j1 d0
  try replace d1 := up_of j1 d1
  try replace d2 := up_of j1 d2
  try replace dl := up_of j1 dl
  try replace g0 := up_of j1 g0
  try replace g1 := up_of j1 g1
  try replace g2 := up_of j1 g2
  try replace g3 := up_of j1 g3
  try replace gl := up_of j1 gl
  try replace h0 := up_of j1 h0
  try replace h1 := up_of j1 h1
  try replace h2 := up_of j1 h2
  try replace h3 := up_of j1 h3
  try replace hl := up_of j1 hl
  try replace hu1 := up_of j1 hu1
  go_upto_region 5 with (first | (go_at_call 39; refine (c2.out _ hr hq hq2).mono ?_; rintro e A2 ⟨⟨s4, k4, rfl, hu2⟩, hb⟩; (try replace hr := up_of hb hr); (try replace hq := up_of hb hq); (try replace hq2 := up_of hb hq2); (try replace hB := up_of hb hB); (try replace d0 := up_of hb d0); (try replace d1 := up_of hb d1); (try replace d2 := up_of hb d2); (try replace dl := up_of hb dl); (try replace g0 := up_of hb g0); (try replace g1 := up_of hb g1); (try replace g2 := up_of hb g2); (try replace g3 := up_of hb g3); (try replace gl := up_of hb gl); (try replace h0 := up_of hb h0); (try replace h1 := up_of hb h1); (try replace h2 := up_of hb h2); (try replace h3 := up_of hb h3); (try replace hl := up_of hb hl); (try replace hu1 := up_of hb hu1); (try replace j1 := up_of hb j1); (try replace m0 := up_of hb m0); (try replace m1 := up_of hb m1); (try replace m2 := up_of hb m2); (try replace m3 := up_of hb m3); (try replace ml := up_of hb ml)))
  refine wp_world fun B2 HB2 => ?_
  have j2 : Below A2.heap.size A2 B2 := by rw [HB2.out]; (repeat (first | exact Below.refl _ _ | refine Below.alloc ?_ (by simp; try omega) _ | refine Below.setCell ?_ (by simp) _ | refine Below.drew ?_))
  have p0 : B2.cell? ⟨A2.heap.size, 0, none⟩ = some (.int .i64 F1.x) := by rw [HB2.out]; simp [go_sem]
  have p1 : B2.cell? ⟨A2.heap.size, 1, none⟩ = some (.int .i64 F1.y) := by rw [HB2.out]; simp [go_sem]
  have p2 : B2.cell? ⟨A2.heap.size, 2, none⟩ = some (.int .i64 F1.z) := by rw [HB2.out]; simp [go_sem]
  have p3 : B2.cell? ⟨A2.heap.size, 3, none⟩ = some (.slice s4 O1.length k4) := by rw [HB2.out]; simp [go_sem]
  have pl : A2.heap.size < B2.heap.size := World.block_lt_of_cell? B2 _ p0
  try replace hr := up_of j2 hr
  try replace hq := up_of j2 hq
  try replace hq2 := up_of j2 hq2
  try replace hB := up_of j2 hB
  try replace d0 := up_of j2 d0
  try replace d1 := up_of j2 d1
  try replace d2 := up_of j2 d2
  try replace dl := up_of j2 dl
  try replace g0 := up_of j2 g0
  try replace g1 := up_of j2 g1
  try replace g2 := up_of j2 g2
  try replace g3 := up_of j2 g3
  try replace gl := up_of j2 gl
  try replace h0 := up_of j2 h0
  try replace h1 := up_of j2 h1
  try replace h2 := up_of j2 h2
  try replace h3 := up_of j2 h3
  try replace hl := up_of j2 hl
  try replace hu1 := up_of j2 hu1
  try replace j1 := up_of j2 j1
  try replace m0 := up_of j2 m0
  try replace m1 := up_of j2 m1
  try replace m2 := up_of j2 m2
  try replace m3 := up_of j2 m3
  try replace ml := up_of j2 ml
  try replace hu2 := up_of j2 hu2
  go_upto_region 6 with (first | (go_at_call 40; refine (c3.out _ hr hq).mono ?_; rintro e A3 ⟨⟨s5, k5, rfl, hu3⟩, hb⟩; (try replace hr := up_of hb hr); (try replace hq := up_of hb hq); (try replace hq2 := up_of hb hq2); (try replace hB := up_of hb hB); (try replace d0 := up_of hb d0); (try replace d1 := up_of hb d1); (try replace d2 := up_of hb d2); (try replace dl := up_of hb dl); (try replace g0 := up_of hb g0); (try replace g1 := up_of hb g1); (try replace g2 := up_of hb g2); (try replace g3 := up_of hb g3); (try replace gl := up_of hb gl); (try replace h0 := up_of hb h0); (try replace h1 := up_of hb h1); (try replace h2 := up_of hb h2); (try replace h3 := up_of hb h3); (try replace hl := up_of hb hl); (try replace hu1 := up_of hb hu1); (try replace j1 := up_of hb j1); (try replace m0 := up_of hb m0); (try replace m1 := up_of hb m1); (try replace m2 := up_of hb m2); (try replace m3 := up_of hb m3); (try replace ml := up_of hb ml); (try replace hu2 := up_of hb hu2); (try replace j2 := up_of hb j2); (try replace p0 := up_of hb p0); (try replace p1 := up_of hb p1); (try replace p2 := up_of hb p2); (try replace p3 := up_of hb p3); (try replace pl := up_of hb pl)))
  refine wp_world fun B3 HB3 => ?_
  have j3 : Below A3.heap.size A3 B3 := by rw [HB3.out]; (repeat (first | exact Below.refl _ _ | refine Below.alloc ?_ (by simp; try omega) _ | refine Below.setCell ?_ (by simp) _ | refine Below.drew ?_))
  have t0 : B3.cell? ⟨A3.heap.size, 0, none⟩ = some (.int .i64 F2.x) := by rw [HB3.out]; simp [go_sem]
  have t1 : B3.cell? ⟨A3.heap.size, 1, none⟩ = some (.int .i64 F2.y) := by rw [HB3.out]; simp [go_sem]
  have t2 : B3.cell? ⟨A3.heap.size, 2, none⟩ = some (.int .i64 F2.z) := by rw [HB3.out]; simp [go_sem]
  have t3 : B3.cell? ⟨A3.heap.size, 3, none⟩ = some (.slice s5 O2.length k5) := by rw [HB3.out]; simp [go_sem]
  have tl : A3.heap.size < B3.heap.size := World.block_lt_of_cell? B3 _ t0
  try replace hr := up_of j3 hr
  try replace hq := up_of j3 hq
  try replace hq2 := up_of j3 hq2
  try replace hB := up_of j3 hB
  try replace d0 := up_of j3 d0
  try replace d1 := up_of j3 d1
  try replace d2 := up_of j3 d2
  try replace dl := up_of j3 dl
  try replace g0 := up_of j3 g0
  try replace g1 := up_of j3 g1
  try replace g2 := up_of j3 g2
  try replace g3 := up_of j3 g3
  try replace gl := up_of j3 gl
  try replace h0 := up_of j3 h0
  try replace h1 := up_of j3 h1
  try replace h2 := up_of j3 h2
  try replace h3 := up_of j3 h3
  try replace hl := up_of j3 hl
  try replace hu1 := up_of j3 hu1
  try replace j1 := up_of j3 j1
  try replace m0 := up_of j3 m0
  try replace m1 := up_of j3 m1
  try replace m2 := up_of j3 m2
  try replace m3 := up_of j3 m3
  try replace ml := up_of j3 ml
  try replace hu2 := up_of j3 hu2
  try replace j2 := up_of j3 j2
  try replace p0 := up_of j3 p0
  try replace p1 := up_of j3 p1
  try replace p2 := up_of j3 p2
  try replace p3 := up_of j3 p3
  try replace pl := up_of j3 pl
  try replace hu3 := up_of j3 hu3
  go_upto_region 7 with (first | (go_at_call 41; refine (c4.out _ hr hq).mono ?_; rintro e A4 ⟨⟨s6, k6, rfl, hu4⟩, hb⟩; (try replace hr := up_of hb hr); (try replace hq := up_of hb hq); (try replace hq2 := up_of hb hq2); (try replace hB := up_of hb hB); (try replace d0 := up_of hb d0); (try replace d1 := up_of hb d1); (try replace d2 := up_of hb d2); (try replace dl := up_of hb dl); (try replace g0 := up_of hb g0); (try replace g1 := up_of hb g1); (try replace g2 := up_of hb g2); (try replace g3 := up_of hb g3); (try replace gl := up_of hb gl); (try replace h0 := up_of hb h0); (try replace h1 := up_of hb h1); (try replace h2 := up_of hb h2); (try replace h3 := up_of hb h3); (try replace hl := up_of hb hl); (try replace hu1 := up_of hb hu1); (try replace j1 := up_of hb j1); (try replace m0 := up_of hb m0); (try replace m1 := up_of hb m1); (try replace m2 := up_of hb m2); (try replace m3 := up_of hb m3); (try replace ml := up_of hb ml); (try replace hu2 := up_of hb hu2); (try replace j2 := up_of hb j2); (try replace p0 := up_of hb p0); (try replace p1 := up_of hb p1); (try replace p2 := up_of hb p2); (try replace p3 := up_of hb p3); (try replace pl := up_of hb pl); (try replace hu3 := up_of hb hu3); (try replace j3 := up_of hb j3); (try replace t0 := up_of hb t0); (try replace t1 := up_of hb t1); (try replace t2 := up_of hb t2); (try replace t3 := up_of hb t3); (try replace tl := up_of hb tl)))
  refine wp_world fun B4 HB4 => ?_
  have j4 : Below A4.heap.size A4 B4 := by rw [HB4.out]; (repeat (first | exact Below.refl _ _ | refine Below.alloc ?_ (by simp; try omega) _ | refine Below.setCell ?_ (by simp) _ | refine Below.drew ?_))
  have v0 : B4.cell? ⟨A4.heap.size, 0, none⟩ = some (.int .i64 F2.x) := by rw [HB4.out]; simp [go_sem]
  have v1 : B4.cell? ⟨A4.heap.size, 1, none⟩ = some (.int .i64 F2.y) := by rw [HB4.out]; simp [go_sem]
  have v2 : B4.cell? ⟨A4.heap.size, 2, none⟩ = some (.int .i64 F2.z) := by rw [HB4.out]; simp [go_sem]
  have v3 : B4.cell? ⟨A4.heap.size, 3, none⟩ = some (.slice s6 O2.length k6) := by rw [HB4.out]; simp [go_sem]
  have vl : A4.heap.size < B4.heap.size := World.block_lt_of_cell? B4 _ v0
  try replace hr := up_of j4 hr
  try replace hq := up_of j4 hq
  try replace hq2 := up_of j4 hq2
  try replace hB := up_of j4 hB
  try replace d0 := up_of j4 d0
  try replace d1 := up_of j4 d1
  try replace d2 := up_of j4 d2
  try replace dl := up_of j4 dl
  try replace g0 := up_of j4 g0
  try replace g1 := up_of j4 g1
  try replace g2 := up_of j4 g2
  try replace g3 := up_of j4 g3
  try replace gl := up_of j4 gl
  try replace h0 := up_of j4 h0
  try replace h1 := up_of j4 h1
  try replace h2 := up_of j4 h2
  try replace h3 := up_of j4 h3
  try replace hl := up_of j4 hl
  try replace hu1 := up_of j4 hu1
  try replace j1 := up_of j4 j1
  try replace m0 := up_of j4 m0
  try replace m1 := up_of j4 m1
  try replace m2 := up_of j4 m2
  try replace m3 := up_of j4 m3
  try replace ml := up_of j4 ml
  try replace hu2 := up_of j4 hu2
  try replace j2 := up_of j4 j2
  try replace p0 := up_of j4 p0
  try replace p1 := up_of j4 p1
  try replace p2 := up_of j4 p2
  try replace p3 := up_of j4 p3
  try replace pl := up_of j4 pl
  try replace hu3 := up_of j4 hu3
  try replace j3 := up_of j4 j3
  try replace t0 := up_of j4 t0
  try replace t1 := up_of j4 t1
  try replace t2 := up_of j4 t2
  try replace t3 := up_of j4 t3
  try replace tl := up_of j4 tl
  try replace hu4 := up_of j4 hu4
  go_wp2_with (first | (go_at_call 37; with_reducible refine (e1.out _ s3 k3 s4 k4 hu1 hu2).mono ?_; rintro e W1 ⟨rfl, hb⟩; (try replace hr := up_of hb hr); (try replace hq := up_of hb hq); (try replace hq2 := up_of hb hq2); (try replace hB := up_of hb hB); (try replace d0 := up_of hb d0); (try replace d1 := up_of hb d1); (try replace d2 := up_of hb d2); (try replace dl := up_of hb dl); (try replace g0 := up_of hb g0); (try replace g1 := up_of hb g1); (try replace g2 := up_of hb g2); (try replace g3 := up_of hb g3); (try replace gl := up_of hb gl); (try replace h0 := up_of hb h0); (try replace h1 := up_of hb h1); (try replace h2 := up_of hb h2); (try replace h3 := up_of hb h3); (try replace hl := up_of hb hl); (try replace hu1 := up_of hb hu1); (try replace j1 := up_of hb j1); (try replace m0 := up_of hb m0); (try replace m1 := up_of hb m1); (try replace m2 := up_of hb m2); (try replace m3 := up_of hb m3); (try replace ml := up_of hb ml); (try replace hu2 := up_of hb hu2); (try replace j2 := up_of hb j2); (try replace p0 := up_of hb p0); (try replace p1 := up_of hb p1); (try replace p2 := up_of hb p2); (try replace p3 := up_of hb p3); (try replace pl := up_of hb pl); (try replace hu3 := up_of hb hu3); (try replace j3 := up_of hb j3); (try replace t0 := up_of hb t0); (try replace t1 := up_of hb t1); (try replace t2 := up_of hb t2); (try replace t3 := up_of hb t3); (try replace tl := up_of hb tl); (try replace hu4 := up_of hb hu4); (try replace j4 := up_of hb j4); (try replace v0 := up_of hb v0); (try replace v1 := up_of hb v1); (try replace v2 := up_of hb v2); (try replace v3 := up_of hb v3); (try replace vl := up_of hb vl)) | (go_at_call 37; with_reducible refine (e2.out _ s5 k5 s6 k6 hu3 hu4).mono ?_; rintro e W1 ⟨rfl, hb⟩; (try replace hr := up_of hb hr); (try replace hq := up_of hb hq); (try replace hq2 := up_of hb hq2); (try replace hB := up_of hb hB); (try replace d0 := up_of hb d0); (try replace d1 := up_of hb d1); (try replace d2 := up_of hb d2); (try replace dl := up_of hb dl); (try replace g0 := up_of hb g0); (try replace g1 := up_of hb g1); (try replace g2 := up_of hb g2); (try replace g3 := up_of hb g3); (try replace gl := up_of hb gl); (try replace h0 := up_of hb h0); (try replace h1 := up_of hb h1); (try replace h2 := up_of hb h2); (try replace h3 := up_of hb h3); (try replace hl := up_of hb hl); (try replace hu1 := up_of hb hu1); (try replace j1 := up_of hb j1); (try replace m0 := up_of hb m0); (try replace m1 := up_of hb m1); (try replace m2 := up_of hb m2); (try replace m3 := up_of hb m3); (try replace ml := up_of hb ml); (try replace hu2 := up_of hb hu2); (try replace j2 := up_of hb j2); (try replace p0 := up_of hb p0); (try replace p1 := up_of hb p1); (try replace p2 := up_of hb p2); (try replace p3 := up_of hb p3); (try replace pl := up_of hb pl); (try replace hu3 := up_of hb hu3); (try replace j3 := up_of hb j3); (try replace t0 := up_of hb t0); (try replace t1 := up_of hb t1); (try replace t2 := up_of hb t2); (try replace t3 := up_of hb t3); (try replace tl := up_of hb tl); (try replace hu4 := up_of hb hu4); (try replace j4 := up_of hb j4); (try replace v0 := up_of hb v0); (try replace v1 := up_of hb v1); (try replace v2 := up_of hb v2); (try replace v3 := up_of hb v3); (try replace vl := up_of hb vl)) | (go_at_call 18; refine (Awake_c _).mono ?_; rintro e W1 ⟨rfl, hb⟩; (try replace hr := up_of hb hr); (try replace hq := up_of hb hq); (try replace hq2 := up_of hb hq2); (try replace hB := up_of hb hB); (try replace d0 := up_of hb d0); (try replace d1 := up_of hb d1); (try replace d2 := up_of hb d2); (try replace dl := up_of hb dl); (try replace g0 := up_of hb g0); (try replace g1 := up_of hb g1); (try replace g2 := up_of hb g2); (try replace g3 := up_of hb g3); (try replace gl := up_of hb gl); (try replace h0 := up_of hb h0); (try replace h1 := up_of hb h1); (try replace h2 := up_of hb h2); (try replace h3 := up_of hb h3); (try replace hl := up_of hb hl); (try replace hu1 := up_of hb hu1); (try replace j1 := up_of hb j1); (try replace m0 := up_of hb m0); (try replace m1 := up_of hb m1); (try replace m2 := up_of hb m2); (try replace m3 := up_of hb m3); (try replace ml := up_of hb ml); (try replace hu2 := up_of hb hu2); (try replace j2 := up_of hb j2); (try replace p0 := up_of hb p0); (try replace p1 := up_of hb p1); (try replace p2 := up_of hb p2); (try replace p3 := up_of hb p3); (try replace pl := up_of hb pl); (try replace hu3 := up_of hb hu3); (try replace j3 := up_of hb j3); (try replace t0 := up_of hb t0); (try replace t1 := up_of hb t1); (try replace t2 := up_of hb t2); (try replace t3 := up_of hb t3); (try replace tl := up_of hb tl); (try replace hu4 := up_of hb hu4); (try replace j4 := up_of hb j4); (try replace v0 := up_of hb v0); (try replace v1 := up_of hb v1); (try replace v2 := up_of hb v2); (try replace v3 := up_of hb v3); (try replace vl := up_of hb vl)))
  go_ret
  exact ⟨rfl, hB⟩
end Go.Proofs.Ytbpdgoedglkefaa
