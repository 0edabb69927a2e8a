/- SchedAdds: the walk. -/
import Derived.Test.YtbpdgoedglkefaaSch11
import Derived.Test.YtbpdgoedglkefaaSch28
import Derived.Test.YtbpdgoedglkefaaB6
import Derived.Test.YtbpdgoedglkefaaRecU8
namespace Go.Proofs.Ytbpdgoedglkefaa
open Go.RowKit

/-- What adds says of a sum that came back. -/
theorem adds_sum (n : Int) (s : Option Addr) (cap : Nat) (l : List Iq) (s2 : Option Addr) (cq : Nat) (K : List Vv) (q r : Sd) (hz : sumE n l K q r = 0) (hk : K.length ≤ 9223372036854775807) (V : World) (s3 : Option Addr) (k3 : Nat) (hr : RecM V s l s2 cq K) (h3 : SlS intE V s3 (if sumE n l K q r = 0 then addO K.length q.off r.off else [])) (hq : SdM V q) (hq2 : SdM V r) :
    Calls Try.prog 42 #[.agg #[.int .i64 n, .slice s l.length cap, .slice s2 K.length cq], .agg #[.int .i64 (if sumE n l K q r = 0 then addP q.f r.f else ⟨0, 0, 0⟩).x, .int .i64 (if sumE n l K q r = 0 then addP q.f r.f else ⟨0, 0, 0⟩).y, .int .i64 (if sumE n l K q r = 0 then addP q.f r.f else ⟨0, 0, 0⟩).z, .slice s3 (if sumE n l K q r = 0 then addO K.length q.off r.off else []).length k3], .agg #[.int .i64 q.f.x, .int .i64 q.f.y, .int .i64 q.f.z, .slice q.s q.off.length q.cap], .agg #[.int .i64 r.f.x, .int .i64 r.f.y, .int .i64 r.f.z, .slice r.s r.off.length r.cap], .int .i64 1, .int .i64 1] V fun e w' => e = .returned (.bool true) ∧ Below V.heap.size V w' := by
  rw [if_pos hz, if_pos hz]
  rw [if_pos hz] at h3
  obtain ⟨c0, c1, c2, g1, g2, hl⟩ := sum_ok hz s3 k3
  exact adds_c n s cap l s2 cq K ⟨addP q.f r.f, addO K.length q.off r.off, s3, k3⟩ q r 1 1 V hr ⟨h3, by show (addO _ _ _).length ≤ _; unfold addO; rw [List.length_map, List.length_range]; exact hk⟩ hq hq2 c0 c1 c2 hl (by omega) (by omega) g1 g2
theorem adds_slow (n : Int) (s : Option Addr) (cap : Nat) (l : List Iq) (s2 : Option Addr) (cq : Nat) (K : List Vv) (q : Sd) (kk : Int) (hz : slowE n l K q kk = 0) (hk : K.length ≤ 9223372036854775807) (V : World) (s3 : Option Addr) (k3 : Nat) (hr : RecM V s l s2 cq K) (h3 : SlS intE V s3 (if slowE n l K q kk = 0 then mulO K.length kk q.off else [])) (hq : SdM V q) :
    Calls Try.prog 42 #[.agg #[.int .i64 n, .slice s l.length cap, .slice s2 K.length cq], .agg #[.int .i64 (if slowE n l K q kk = 0 then mulP kk q.f else ⟨0, 0, 0⟩).x, .int .i64 (if slowE n l K q kk = 0 then mulP kk q.f else ⟨0, 0, 0⟩).y, .int .i64 (if slowE n l K q kk = 0 then mulP kk q.f else ⟨0, 0, 0⟩).z, .slice s3 (if slowE n l K q kk = 0 then mulO K.length kk q.off else []).length k3], .agg #[.int .i64 q.f.x, .int .i64 q.f.y, .int .i64 q.f.z, .slice q.s q.off.length q.cap], .agg #[.int .i64 q.f.x, .int .i64 q.f.y, .int .i64 q.f.z, .slice q.s q.off.length q.cap], .int .i64 kk, .int .i64 0] V fun e w' => e = .returned (.bool true) ∧ Below V.heap.size V w' := by
  rw [if_pos hz, if_pos hz]
  rw [if_pos hz] at h3
  obtain ⟨c0, c1, g1, hk9, hl⟩ := slow_ok hz s3 k3
  exact adds_c n s cap l s2 cq K ⟨mulP kk q.f, mulO K.length kk q.off, s3, k3⟩ q q kk 0 V hr ⟨h3, by show (mulO _ _ _).length ≤ _; unfold mulO; rw [List.length_map, List.length_range]; exact hk⟩ hq hq c0 c1 c1 hl hk9 (by omega) g1 g1
set_option maxRecDepth 100000 in
set_option maxHeartbeats 4000000 in
theorem SchedAdds_w (n : Int) (s : Option Addr) (cap : Nat) (l : List Iq) (s2 : Option Addr) (cq : Nat) (K : List Vv) (q r : Sd) (m : Nat) (w : World) (hr : RecM w s l s2 cq K) (hq : SdM w q) (hq2 : SdM w r) (hm : m ≤ 255) :
    Calls Try.prog 9 #[.agg #[.int .i64 n, .slice s l.length cap, .slice s2 K.length cq], .agg #[.int .i64 q.f.x, .int .i64 q.f.y, .int .i64 q.f.z, .slice q.s q.off.length q.cap], .agg #[.int .i64 r.f.x, .int .i64 r.f.y, .int .i64 r.f.z, .slice r.s r.off.length r.cap], .int .u8 m] w fun e w' => e = .returned (.bool true) ∧ Below w.heap.size w w' := by
  have hwi := fun V (h : RecM V s l s2 cq K) => Wide_c n s cap l s2 cq K V h
  have hlo := fun V (h : SdM V q) => long_c q V h
  have hlo2 := fun V (h : SdM V r) => long_c r V h
  have hkl := hr.len
  obtain ⟨j, hj⟩ : ∃ j, m % 9 = j := ⟨_, rfl⟩
  have hj9 : j < 9 := by omega
  obtain ⟨kk, hkk⟩ : ∃ x : Int, 1 + (j : Int) = x := ⟨_, rfl⟩
  have e3 : ((m : Int) % 9) = j := by omega
  have e4 : (m : Int).tmod 9 = j := by rw [Int.tmod_eq_emod_of_nonneg (by omega)]; exact e3
  have e5 : IntKind.u8.wrap (j : Int) = j := by rw [IntKind.wrap_u8]; omega
  have e6 : IntKind.i64.wrap (j : Int) = j := i64_small (by omega)
  have e7 : IntKind.i64.wrap (1 + (j : Int)) = kk := by rw [i64_small (by omega)]; exact hkk
  have e8 : wrap64 (1 + (j : Int)) = kk := by rw [← hkk]; unfold wrap64; omega
  have z0 : ¬ (9 : Int) = 0 := by decide
  have c1 := fun V (h : RecM V s l s2 cq K) (h1 : SdM V q) (h2 : SdM V r) => Sum_c n s cap l s2 cq K q r V h h1 h2
  have c3 := fun V (h : RecM V s l s2 cq K) (h1 : SdM V q) => Slow_c n s cap l s2 cq K q kk V h h1
  have a1 := fun hz => adds_sum n s cap l s2 cq K q r hz hkl
  have a2 := fun hz => adds_slow n s cap l s2 cq K q kk hz hkl
  unfold SdRet at c1 c3
  obtain ⟨F1, hF1⟩ : ∃ x, (if sumE n l K q r = 0 then addP q.f r.f else ⟨0, 0, 0⟩) = x := ⟨_, rfl⟩
  obtain ⟨O1, hO1⟩ : ∃ x, (if sumE n l K q r = 0 then addO K.length q.off r.off else []) = x := ⟨_, rfl⟩
  obtain ⟨F2, hF2⟩ : ∃ x, (if slowE n l K q kk = 0 then mulP kk q.f else ⟨0, 0, 0⟩) = x := ⟨_, rfl⟩
  obtain ⟨O2, hO2⟩ : ∃ x, (if slowE n l K q kk = 0 then mulO K.length kk q.off else []) = x := ⟨_, rfl⟩
  simp only [hF1, hO1] at c1 a1
  simp only [hF2, hO2] at c3 a2
  obtain ⟨E1, hE1⟩ : ∃ x, sumE n l K q r = x := ⟨_, rfl⟩
  obtain ⟨E2, hE2⟩ : ∃ x, slowE n l K q kk = x := ⟨_, rfl⟩
  simp only [hE1] at c1 a1
  simp only [hE2] at c3 a2
  clear hF1 hO1 hF2 hO2 hE1 hE2
  obtain ⟨WB, hWB⟩ : ∃ x, wideB l K = x := ⟨_, rfl⟩
  obtain ⟨LB, hLB⟩ : ∃ x, decide (20 < q.off.length) = x := ⟨_, rfl⟩
  obtain ⟨LC, hLC⟩ : ∃ x, decide (20 < r.off.length) = x := ⟨_, rfl⟩
  simp only [hWB] at hwi
  simp only [hLB] at hlo
  simp only [hLC] at hlo2
  clear hWB hLB hLC
  replace hwi := Lib.hid hwi; replace hlo := Lib.hid hlo; replace hlo2 := Lib.hid hlo2; replace c1 := Lib.hid c1; replace c3 := Lib.hid c3; replace a1 := Lib.hid a1; replace a2 := Lib.hid a2; replace hj := Lib.hid hj; replace hkk := Lib.hid hkk
  cases WB
  case true =>
    go_enter Try.func9, Try.ntmps9
    go_upto_region 1 with (fail)
    refine wp_world fun W HW => ?_
    have hB : Below w.heap.size w W := by rw [HW.out]; (repeat (first | exact Below.refl _ _ | refine Below.alloc ?_ (by simp; try omega) _ | refine Below.setCell ?_ (by simp) _ | refine Below.drew ?_))
    have d0 : W.cell? ⟨w.heap.size, 0, none⟩ = some (.int .i64 n) := by rw [HW.out]; simp [go_sem]
    have d1 : W.cell? ⟨w.heap.size, 1, none⟩ = some (.slice s l.length cap) := by rw [HW.out]; simp [go_sem]
    have d2 : W.cell? ⟨w.heap.size, 2, none⟩ = some (.slice s2 K.length cq) := by rw [HW.out]; simp [go_sem]
    have dl : w.heap.size < W.heap.size := World.block_lt_of_cell? W _ d0
    have g0 : W.cell? ⟨w.heap.size + 1, 0, none⟩ = some (.int .i64 q.f.x) := by rw [HW.out]; simp [go_sem]
    have g1 : W.cell? ⟨w.heap.size + 1, 1, none⟩ = some (.int .i64 q.f.y) := by rw [HW.out]; simp [go_sem]
    have g2 : W.cell? ⟨w.heap.size + 1, 2, none⟩ = some (.int .i64 q.f.z) := by rw [HW.out]; simp [go_sem]
    have g3 : W.cell? ⟨w.heap.size + 1, 3, none⟩ = some (.slice q.s q.off.length q.cap) := by rw [HW.out]; simp [go_sem]
    have gl : w.heap.size + 1 < W.heap.size := World.block_lt_of_cell? W _ g0
    have h0 : W.cell? ⟨w.heap.size + 2, 0, none⟩ = some (.int .i64 r.f.x) := by rw [HW.out]; simp [go_sem]
    have h1 : W.cell? ⟨w.heap.size + 2, 1, none⟩ = some (.int .i64 r.f.y) := by rw [HW.out]; simp [go_sem]
    have h2 : W.cell? ⟨w.heap.size + 2, 2, none⟩ = some (.int .i64 r.f.z) := by rw [HW.out]; simp [go_sem]
    have h3 : W.cell? ⟨w.heap.size + 2, 3, none⟩ = some (.slice r.s r.off.length r.cap) := by rw [HW.out]; simp [go_sem]
    have hl : w.heap.size + 2 < W.heap.size := World.block_lt_of_cell? W _ h0
    try replace hr := up_of hB hr
    try replace hq := up_of hB hq
    try replace hq2 := up_of hB hq2
    go_wp2_with (first | (go_at_call 16; refine (hwi.out _ hr).mono ?_; rintro e W1 ⟨rfl, hb⟩; (try replace hr := up_of hb hr); (try replace hq := up_of hb hq); (try replace hq2 := up_of hb hq2); (try replace hB := up_of hb hB); (try replace d0 := up_of hb d0); (try replace d1 := up_of hb d1); (try replace d2 := up_of hb d2); (try replace dl := up_of hb dl); (try replace g0 := up_of hb g0); (try replace g1 := up_of hb g1); (try replace g2 := up_of hb g2); (try replace g3 := up_of hb g3); (try replace gl := up_of hb gl); (try replace h0 := up_of hb h0); (try replace h1 := up_of hb h1); (try replace h2 := up_of hb h2); (try replace h3 := up_of hb h3); (try replace hl := up_of hb hl)) | (go_at_call 18; refine (Awake_c _).mono ?_; rintro e W1 ⟨rfl, hb⟩; (try replace hr := up_of hb hr); (try replace hq := up_of hb hq); (try replace hq2 := up_of hb hq2); (try replace hB := up_of hb hB); (try replace d0 := up_of hb d0); (try replace d1 := up_of hb d1); (try replace d2 := up_of hb d2); (try replace dl := up_of hb dl); (try replace g0 := up_of hb g0); (try replace g1 := up_of hb g1); (try replace g2 := up_of hb g2); (try replace g3 := up_of hb g3); (try replace gl := up_of hb gl); (try replace h0 := up_of hb h0); (try replace h1 := up_of hb h1); (try replace h2 := up_of hb h2); (try replace h3 := up_of hb h3); (try replace hl := up_of hb hl)))
    go_ret
    exact ⟨rfl, hB⟩
  cases LB
  case true =>
    go_enter Try.func9, Try.ntmps9
    go_upto_region 1 with (fail)
    refine wp_world fun W HW => ?_
    have hB : Below w.heap.size w W := by rw [HW.out]; (repeat (first | exact Below.refl _ _ | refine Below.alloc ?_ (by simp; try omega) _ | refine Below.setCell ?_ (by simp) _ | refine Below.drew ?_))
    have d0 : W.cell? ⟨w.heap.size, 0, none⟩ = some (.int .i64 n) := by rw [HW.out]; simp [go_sem]
    have d1 : W.cell? ⟨w.heap.size, 1, none⟩ = some (.slice s l.length cap) := by rw [HW.out]; simp [go_sem]
    have d2 : W.cell? ⟨w.heap.size, 2, none⟩ = some (.slice s2 K.length cq) := by rw [HW.out]; simp [go_sem]
    have dl : w.heap.size < W.heap.size := World.block_lt_of_cell? W _ d0
    have g0 : W.cell? ⟨w.heap.size + 1, 0, none⟩ = some (.int .i64 q.f.x) := by rw [HW.out]; simp [go_sem]
    have g1 : W.cell? ⟨w.heap.size + 1, 1, none⟩ = some (.int .i64 q.f.y) := by rw [HW.out]; simp [go_sem]
    have g2 : W.cell? ⟨w.heap.size + 1, 2, none⟩ = some (.int .i64 q.f.z) := by rw [HW.out]; simp [go_sem]
    have g3 : W.cell? ⟨w.heap.size + 1, 3, none⟩ = some (.slice q.s q.off.length q.cap) := by rw [HW.out]; simp [go_sem]
    have gl : w.heap.size + 1 < W.heap.size := World.block_lt_of_cell? W _ g0
    have h0 : W.cell? ⟨w.heap.size + 2, 0, none⟩ = some (.int .i64 r.f.x) := by rw [HW.out]; simp [go_sem]
    have h1 : W.cell? ⟨w.heap.size + 2, 1, none⟩ = some (.int .i64 r.f.y) := by rw [HW.out]; simp [go_sem]
    have h2 : W.cell? ⟨w.heap.size + 2, 2, none⟩ = some (.int .i64 r.f.z) := by rw [HW.out]; simp [go_sem]
    have h3 : W.cell? ⟨w.heap.size + 2, 3, none⟩ = some (.slice r.s r.off.length r.cap) := by rw [HW.out]; simp [go_sem]
    have hl : w.heap.size + 2 < W.heap.size := World.block_lt_of_cell? W _ h0
    try replace hr := up_of hB hr
    try replace hq := up_of hB hq
    try replace hq2 := up_of hB hq2
    go_wp2_with (first | (go_at_call 16; refine (hwi.out _ hr).mono ?_; rintro e W1 ⟨rfl, hb⟩; (try replace hr := up_of hb hr); (try replace hq := up_of hb hq); (try replace hq2 := up_of hb hq2); (try replace hB := up_of hb hB); (try replace d0 := up_of hb d0); (try replace d1 := up_of hb d1); (try replace d2 := up_of hb d2); (try replace dl := up_of hb dl); (try replace g0 := up_of hb g0); (try replace g1 := up_of hb g1); (try replace g2 := up_of hb g2); (try replace g3 := up_of hb g3); (try replace gl := up_of hb gl); (try replace h0 := up_of hb h0); (try replace h1 := up_of hb h1); (try replace h2 := up_of hb h2); (try replace h3 := up_of hb h3); (try replace hl := up_of hb hl)) | (go_at_call 17; refine (hlo.out _ hq).mono ?_; rintro e W1 ⟨rfl, hb⟩; (try replace hr := up_of hb hr); (try replace hq := up_of hb hq); (try replace hq2 := up_of hb hq2); (try replace hB := up_of hb hB); (try replace d0 := up_of hb d0); (try replace d1 := up_of hb d1); (try replace d2 := up_of hb d2); (try replace dl := up_of hb dl); (try replace g0 := up_of hb g0); (try replace g1 := up_of hb g1); (try replace g2 := up_of hb g2); (try replace g3 := up_of hb g3); (try replace gl := up_of hb gl); (try replace h0 := up_of hb h0); (try replace h1 := up_of hb h1); (try replace h2 := up_of hb h2); (try replace h3 := up_of hb h3); (try replace hl := up_of hb hl)) | (go_at_call 18; refine (Awake_c _).mono ?_; rintro e W1 ⟨rfl, hb⟩; (try replace hr := up_of hb hr); (try replace hq := up_of hb hq); (try replace hq2 := up_of hb hq2); (try replace hB := up_of hb hB); (try replace d0 := up_of hb d0); (try replace d1 := up_of hb d1); (try replace d2 := up_of hb d2); (try replace dl := up_of hb dl); (try replace g0 := up_of hb g0); (try replace g1 := up_of hb g1); (try replace g2 := up_of hb g2); (try replace g3 := up_of hb g3); (try replace gl := up_of hb gl); (try replace h0 := up_of hb h0); (try replace h1 := up_of hb h1); (try replace h2 := up_of hb h2); (try replace h3 := up_of hb h3); (try replace hl := up_of hb hl)))
    go_ret
    exact ⟨rfl, hB⟩
  cases LC
  case true =>
    go_enter Try.func9, Try.ntmps9
    go_upto_region 1 with (fail)
    refine wp_world fun W HW => ?_
    have hB : Below w.heap.size w W := by rw [HW.out]; (repeat (first | exact Below.refl _ _ | refine Below.alloc ?_ (by simp; try omega) _ | refine Below.setCell ?_ (by simp) _ | refine Below.drew ?_))
    have d0 : W.cell? ⟨w.heap.size, 0, none⟩ = some (.int .i64 n) := by rw [HW.out]; simp [go_sem]
    have d1 : W.cell? ⟨w.heap.size, 1, none⟩ = some (.slice s l.length cap) := by rw [HW.out]; simp [go_sem]
    have d2 : W.cell? ⟨w.heap.size, 2, none⟩ = some (.slice s2 K.length cq) := by rw [HW.out]; simp [go_sem]
    have dl : w.heap.size < W.heap.size := World.block_lt_of_cell? W _ d0
    have g0 : W.cell? ⟨w.heap.size + 1, 0, none⟩ = some (.int .i64 q.f.x) := by rw [HW.out]; simp [go_sem]
    have g1 : W.cell? ⟨w.heap.size + 1, 1, none⟩ = some (.int .i64 q.f.y) := by rw [HW.out]; simp [go_sem]
    have g2 : W.cell? ⟨w.heap.size + 1, 2, none⟩ = some (.int .i64 q.f.z) := by rw [HW.out]; simp [go_sem]
    have g3 : W.cell? ⟨w.heap.size + 1, 3, none⟩ = some (.slice q.s q.off.length q.cap) := by rw [HW.out]; simp [go_sem]
    have gl : w.heap.size + 1 < W.heap.size := World.block_lt_of_cell? W _ g0
    have h0 : W.cell? ⟨w.heap.size + 2, 0, none⟩ = some (.int .i64 r.f.x) := by rw [HW.out]; simp [go_sem]
    have h1 : W.cell? ⟨w.heap.size + 2, 1, none⟩ = some (.int .i64 r.f.y) := by rw [HW.out]; simp [go_sem]
    have h2 : W.cell? ⟨w.heap.size + 2, 2, none⟩ = some (.int .i64 r.f.z) := by rw [HW.out]; simp [go_sem]
    have h3 : W.cell? ⟨w.heap.size + 2, 3, none⟩ = some (.slice r.s r.off.length r.cap) := by rw [HW.out]; simp [go_sem]
    have hl : w.heap.size + 2 < W.heap.size := World.block_lt_of_cell? W _ h0
    try replace hr := up_of hB hr
    try replace hq := up_of hB hq
    try replace hq2 := up_of hB hq2
    go_wp2_with (first | (go_at_call 16; refine (hwi.out _ hr).mono ?_; rintro e W1 ⟨rfl, hb⟩; (try replace hr := up_of hb hr); (try replace hq := up_of hb hq); (try replace hq2 := up_of hb hq2); (try replace hB := up_of hb hB); (try replace d0 := up_of hb d0); (try replace d1 := up_of hb d1); (try replace d2 := up_of hb d2); (try replace dl := up_of hb dl); (try replace g0 := up_of hb g0); (try replace g1 := up_of hb g1); (try replace g2 := up_of hb g2); (try replace g3 := up_of hb g3); (try replace gl := up_of hb gl); (try replace h0 := up_of hb h0); (try replace h1 := up_of hb h1); (try replace h2 := up_of hb h2); (try replace h3 := up_of hb h3); (try replace hl := up_of hb hl)) | (go_at_call 17; with_reducible refine (hlo.out _ hq).mono ?_; rintro e W1 ⟨rfl, hb⟩; (try replace hr := up_of hb hr); (try replace hq := up_of hb hq); (try replace hq2 := up_of hb hq2); (try replace hB := up_of hb hB); (try replace d0 := up_of hb d0); (try replace d1 := up_of hb d1); (try replace d2 := up_of hb d2); (try replace dl := up_of hb dl); (try replace g0 := up_of hb g0); (try replace g1 := up_of hb g1); (try replace g2 := up_of hb g2); (try replace g3 := up_of hb g3); (try replace gl := up_of hb gl); (try replace h0 := up_of hb h0); (try replace h1 := up_of hb h1); (try replace h2 := up_of hb h2); (try replace h3 := up_of hb h3); (try replace hl := up_of hb hl)) | (go_at_call 17; with_reducible refine (hlo2.out _ hq2).mono ?_; rintro e W1 ⟨rfl, hb⟩; (try replace hr := up_of hb hr); (try replace hq := up_of hb hq); (try replace hq2 := up_of hb hq2); (try replace hB := up_of hb hB); (try replace d0 := up_of hb d0); (try replace d1 := up_of hb d1); (try replace d2 := up_of hb d2); (try replace dl := up_of hb dl); (try replace g0 := up_of hb g0); (try replace g1 := up_of hb g1); (try replace g2 := up_of hb g2); (try replace g3 := up_of hb g3); (try replace gl := up_of hb gl); (try replace h0 := up_of hb h0); (try replace h1 := up_of hb h1); (try replace h2 := up_of hb h2); (try replace h3 := up_of hb h3); (try replace hl := up_of hb hl)) | (go_at_call 18; refine (Awake_c _).mono ?_; rintro e W1 ⟨rfl, hb⟩; (try replace hr := up_of hb hr); (try replace hq := up_of hb hq); (try replace hq2 := up_of hb hq2); (try replace hB := up_of hb hB); (try replace d0 := up_of hb d0); (try replace d1 := up_of hb d1); (try replace d2 := up_of hb d2); (try replace dl := up_of hb dl); (try replace g0 := up_of hb g0); (try replace g1 := up_of hb g1); (try replace g2 := up_of hb g2); (try replace g3 := up_of hb g3); (try replace gl := up_of hb gl); (try replace h0 := up_of hb h0); (try replace h1 := up_of hb h1); (try replace h2 := up_of hb h2); (try replace h3 := up_of hb h3); (try replace hl := up_of hb hl)))
    go_ret
    exact ⟨rfl, hB⟩
  by_cases hz1 : E1 = 0
  · have y1 : (E1 == 0) = true := by simp [hz1]
    have a1' := a1.out hz1
    replace hz1 := Lib.hid hz1; replace a1' := Lib.hid a1'
    by_cases hz2 : E2 = 0
    · have y2 : (E2 != 0) = false := by simp [hz2]
      have a2' := a2.out hz2
      replace hz2 := Lib.hid hz2; replace a2' := Lib.hid a2'
      go_enter Try.func9, Try.ntmps9
      go_upto_region 1 with (fail)
      refine wp_world fun W HW => ?_
      have hB : Below w.heap.size w W := by rw [HW.out]; (repeat (first | exact Below.refl _ _ | refine Below.alloc ?_ (by simp; try omega) _ | refine Below.setCell ?_ (by simp) _ | refine Below.drew ?_))
      have d0 : W.cell? ⟨w.heap.size, 0, none⟩ = some (.int .i64 n) := by rw [HW.out]; simp [go_sem]
      have d1 : W.cell? ⟨w.heap.size, 1, none⟩ = some (.slice s l.length cap) := by rw [HW.out]; simp [go_sem]
      have d2 : W.cell? ⟨w.heap.size, 2, none⟩ = some (.slice s2 K.length cq) := by rw [HW.out]; simp [go_sem]
      have dl : w.heap.size < W.heap.size := World.block_lt_of_cell? W _ d0
      have g0 : W.cell? ⟨w.heap.size + 1, 0, none⟩ = some (.int .i64 q.f.x) := by rw [HW.out]; simp [go_sem]
      have g1 : W.cell? ⟨w.heap.size + 1, 1, none⟩ = some (.int .i64 q.f.y) := by rw [HW.out]; simp [go_sem]
      have g2 : W.cell? ⟨w.heap.size + 1, 2, none⟩ = some (.int .i64 q.f.z) := by rw [HW.out]; simp [go_sem]
      have g3 : W.cell? ⟨w.heap.size + 1, 3, none⟩ = some (.slice q.s q.off.length q.cap) := by rw [HW.out]; simp [go_sem]
      have gl : w.heap.size + 1 < W.heap.size := World.block_lt_of_cell? W _ g0
      have h0 : W.cell? ⟨w.heap.size + 2, 0, none⟩ = some (.int .i64 r.f.x) := by rw [HW.out]; simp [go_sem]
      have h1 : W.cell? ⟨w.heap.size + 2, 1, none⟩ = some (.int .i64 r.f.y) := by rw [HW.out]; simp [go_sem]
      have h2 : W.cell? ⟨w.heap.size + 2, 2, none⟩ = some (.int .i64 r.f.z) := by rw [HW.out]; simp [go_sem]
      have h3 : W.cell? ⟨w.heap.size + 2, 3, none⟩ = some (.slice r.s r.off.length r.cap) := by rw [HW.out]; simp [go_sem]
      have hl : w.heap.size + 2 < W.heap.size := World.block_lt_of_cell? W _ h0
      try replace hr := up_of hB hr
      try replace hq := up_of hB hq
      try replace hq2 := up_of hB hq2
      go_upto_region 3 with (first | (go_at_call 16; refine (hwi.out _ hr).mono ?_; rintro e W1 ⟨rfl, hb⟩; (try replace hr := up_of hb hr); (try replace hq := up_of hb hq); (try replace hq2 := up_of hb hq2); (try replace hB := up_of hb hB); (try replace d0 := up_of hb d0); (try replace d1 := up_of hb d1); (try replace d2 := up_of hb d2); (try replace dl := up_of hb dl); (try replace g0 := up_of hb g0); (try replace g1 := up_of hb g1); (try replace g2 := up_of hb g2); (try replace g3 := up_of hb g3); (try replace gl := up_of hb gl); (try replace h0 := up_of hb h0); (try replace h1 := up_of hb h1); (try replace h2 := up_of hb h2); (try replace h3 := up_of hb h3); (try replace hl := up_of hb hl)) | (go_at_call 17; with_reducible refine (hlo.out _ hq).mono ?_; rintro e W1 ⟨rfl, hb⟩; (try replace hr := up_of hb hr); (try replace hq := up_of hb hq); (try replace hq2 := up_of hb hq2); (try replace hB := up_of hb hB); (try replace d0 := up_of hb d0); (try replace d1 := up_of hb d1); (try replace d2 := up_of hb d2); (try replace dl := up_of hb dl); (try replace g0 := up_of hb g0); (try replace g1 := up_of hb g1); (try replace g2 := up_of hb g2); (try replace g3 := up_of hb g3); (try replace gl := up_of hb gl); (try replace h0 := up_of hb h0); (try replace h1 := up_of hb h1); (try replace h2 := up_of hb h2); (try replace h3 := up_of hb h3); (try replace hl := up_of hb hl)) | (go_at_call 17; with_reducible refine (hlo2.out _ hq2).mono ?_; rintro e W1 ⟨rfl, hb⟩; (try replace hr := up_of hb hr); (try replace hq := up_of hb hq); (try replace hq2 := up_of hb hq2); (try replace hB := up_of hb hB); (try replace d0 := up_of hb d0); (try replace d1 := up_of hb d1); (try replace d2 := up_of hb d2); (try replace dl := up_of hb dl); (try replace g0 := up_of hb g0); (try replace g1 := up_of hb g1); (try replace g2 := up_of hb g2); (try replace g3 := up_of hb g3); (try replace gl := up_of hb gl); (try replace h0 := up_of hb h0); (try replace h1 := up_of hb h1); (try replace h2 := up_of hb h2); (try replace h3 := up_of hb h3); (try replace hl := up_of hb hl)))
      go_upto_region 4 with (first | (go_at_call 38; refine (c1.out _ hr hq hq2).mono ?_; rintro e A1 ⟨⟨s3, k3, rfl, hu1⟩, hb⟩; (try replace hr := up_of hb hr); (try replace hq := up_of hb hq); (try replace hq2 := up_of hb hq2); (try replace hB := up_of hb hB); (try replace d0 := up_of hb d0); (try replace d1 := up_of hb d1); (try replace d2 := up_of hb d2); (try replace dl := up_of hb dl); (try replace g0 := up_of hb g0); (try replace g1 := up_of hb g1); (try replace g2 := up_of hb g2); (try replace g3 := up_of hb g3); (try replace gl := up_of hb gl); (try replace h0 := up_of hb h0); (try replace h1 := up_of hb h1); (try replace h2 := up_of hb h2); (try replace h3 := up_of hb h3); (try replace hl := up_of hb hl)))
      refine wp_world fun B1 HB1 => ?_
      have j1 : Below A1.heap.size A1 B1 := by rw [HB1.out]; (repeat (first | exact Below.refl _ _ | refine Below.alloc ?_ (by simp; try omega) _ | refine Below.setCell ?_ (by simp) _ | refine Below.drew ?_))
      have p0 : B1.cell? ⟨A1.heap.size, 0, none⟩ = some (.int .i64 F1.x) := by rw [HB1.out]; simp [go_sem]
      have p1 : B1.cell? ⟨A1.heap.size, 1, none⟩ = some (.int .i64 F1.y) := by rw [HB1.out]; simp [go_sem]
      have p2 : B1.cell? ⟨A1.heap.size, 2, none⟩ = some (.int .i64 F1.z) := by rw [HB1.out]; simp [go_sem]
      have p3 : B1.cell? ⟨A1.heap.size, 3, none⟩ = some (.slice s3 O1.length k3) := by rw [HB1.out]; simp [go_sem]
      have pl : A1.heap.size < B1.heap.size := World.block_lt_of_cell? B1 _ p0
      try replace hr := up_of j1 hr
      try replace hq := up_of j1 hq
      try replace hq2 := up_of j1 hq2
      try replace hB := up_of j1 hB
      try replace d0 := up_of j1 d0
      try replace d1 := up_of j1 d1
      try replace d2 := up_of j1 d2
      try replace dl := up_of j1 dl
      try replace g0 := up_of j1 g0
      try replace g1 := up_of j1 g1
      try replace g2 := up_of j1 g2
      try replace g3 := up_of j1 g3
      try replace gl := up_of j1 gl
      try replace h0 := up_of j1 h0
      try replace h1 := up_of j1 h1
      try replace h2 := up_of j1 h2
      try replace h3 := up_of j1 h3
      try replace hl := up_of j1 hl
      try replace hu1 := up_of j1 hu1
      go_upto_region 7 with (first | (go_at_call 42; refine (a1'.out _ s3 k3 hr hu1 hq hq2).mono ?_; rintro e W1 ⟨rfl, hb⟩; (try replace hr := up_of hb hr); (try replace hq := up_of hb hq); (try replace hq2 := up_of hb hq2); (try replace hB := up_of hb hB); (try replace d0 := up_of hb d0); (try replace d1 := up_of hb d1); (try replace d2 := up_of hb d2); (try replace dl := up_of hb dl); (try replace g0 := up_of hb g0); (try replace g1 := up_of hb g1); (try replace g2 := up_of hb g2); (try replace g3 := up_of hb g3); (try replace gl := up_of hb gl); (try replace h0 := up_of hb h0); (try replace h1 := up_of hb h1); (try replace h2 := up_of hb h2); (try replace h3 := up_of hb h3); (try replace hl := up_of hb hl); (try replace hu1 := up_of hb hu1); (try replace j1 := up_of hb j1); (try replace p0 := up_of hb p0); (try replace p1 := up_of hb p1); (try replace p2 := up_of hb p2); (try replace p3 := up_of hb p3); (try replace pl := up_of hb pl)))
      go_upto_region 8 with (first | (go_at_call 40; refine (c3.out _ hr hq).mono ?_; rintro e A3 ⟨⟨s5, k5, rfl, hu3⟩, hb⟩; (try replace hr := up_of hb hr); (try replace hq := up_of hb hq); (try replace hq2 := up_of hb hq2); (try replace hB := up_of hb hB); (try replace d0 := up_of hb d0); (try replace d1 := up_of hb d1); (try replace d2 := up_of hb d2); (try replace dl := up_of hb dl); (try replace g0 := up_of hb g0); (try replace g1 := up_of hb g1); (try replace g2 := up_of hb g2); (try replace g3 := up_of hb g3); (try replace gl := up_of hb gl); (try replace h0 := up_of hb h0); (try replace h1 := up_of hb h1); (try replace h2 := up_of hb h2); (try replace h3 := up_of hb h3); (try replace hl := up_of hb hl); (try replace hu1 := up_of hb hu1); (try replace j1 := up_of hb j1); (try replace p0 := up_of hb p0); (try replace p1 := up_of hb p1); (try replace p2 := up_of hb p2); (try replace p3 := up_of hb p3); (try replace pl := up_of hb pl)))
      refine wp_world fun B3 HB3 => ?_
      have j3 : Below A3.heap.size A3 B3 := by rw [HB3.out]; (repeat (first | exact Below.refl _ _ | refine Below.alloc ?_ (by simp; try omega) _ | refine Below.setCell ?_ (by simp) _ | refine Below.drew ?_))
      have t0 : B3.cell? ⟨A3.heap.size, 0, none⟩ = some (.int .i64 F2.x) := by rw [HB3.out]; simp [go_sem]
      have t1 : B3.cell? ⟨A3.heap.size, 1, none⟩ = some (.int .i64 F2.y) := by rw [HB3.out]; simp [go_sem]
      have t2 : B3.cell? ⟨A3.heap.size, 2, none⟩ = some (.int .i64 F2.z) := by rw [HB3.out]; simp [go_sem]
      have t3 : B3.cell? ⟨A3.heap.size, 3, none⟩ = some (.slice s5 O2.length k5) := by rw [HB3.out]; simp [go_sem]
      have tl : A3.heap.size < B3.heap.size := World.block_lt_of_cell? B3 _ t0
      try replace hr := up_of j3 hr
      try replace hq := up_of j3 hq
      try replace hq2 := up_of j3 hq2
      try replace hB := up_of j3 hB
      try replace d0 := up_of j3 d0
      try replace d1 := up_of j3 d1
      try replace d2 := up_of j3 d2
      try replace dl := up_of j3 dl
      try replace g0 := up_of j3 g0
      try replace g1 := up_of j3 g1
      try replace g2 := up_of j3 g2
      try replace g3 := up_of j3 g3
      try replace gl := up_of j3 gl
      try replace h0 := up_of j3 h0
      try replace h1 := up_of j3 h1
      try replace h2 := up_of j3 h2
      try replace h3 := up_of j3 h3
      try replace hl := up_of j3 hl
      try replace hu1 := up_of j3 hu1
      try replace j1 := up_of j3 j1
      try replace p0 := up_of j3 p0
      try replace p1 := up_of j3 p1
      try replace p2 := up_of j3 p2
      try replace p3 := up_of j3 p3
      try replace pl := up_of j3 pl
      try replace hu3 := up_of j3 hu3
      go_wp2_with (first | (go_at_call 42; refine (a2'.out _ s5 k5 hr hu3 hq).mono ?_; rintro e W1 ⟨rfl, hb⟩; (try replace hr := up_of hb hr); (try replace hq := up_of hb hq); (try replace hq2 := up_of hb hq2); (try replace hB := up_of hb hB); (try replace d0 := up_of hb d0); (try replace d1 := up_of hb d1); (try replace d2 := up_of hb d2); (try replace dl := up_of hb dl); (try replace g0 := up_of hb g0); (try replace g1 := up_of hb g1); (try replace g2 := up_of hb g2); (try replace g3 := up_of hb g3); (try replace gl := up_of hb gl); (try replace h0 := up_of hb h0); (try replace h1 := up_of hb h1); (try replace h2 := up_of hb h2); (try replace h3 := up_of hb h3); (try replace hl := up_of hb hl); (try replace hu1 := up_of hb hu1); (try replace j1 := up_of hb j1); (try replace p0 := up_of hb p0); (try replace p1 := up_of hb p1); (try replace p2 := up_of hb p2); (try replace p3 := up_of hb p3); (try replace pl := up_of hb pl); (try replace hu3 := up_of hb hu3); (try replace j3 := up_of hb j3); (try replace t0 := up_of hb t0); (try replace t1 := up_of hb t1); (try replace t2 := up_of hb t2); (try replace t3 := up_of hb t3); (try replace tl := up_of hb tl)) | (go_at_call 18; refine (Awake_c _).mono ?_; rintro e W1 ⟨rfl, hb⟩; (try replace hr := up_of hb hr); (try replace hq := up_of hb hq); (try replace hq2 := up_of hb hq2); (try replace hB := up_of hb hB); (try replace d0 := up_of hb d0); (try replace d1 := up_of hb d1); (try replace d2 := up_of hb d2); (try replace dl := up_of hb dl); (try replace g0 := up_of hb g0); (try replace g1 := up_of hb g1); (try replace g2 := up_of hb g2); (try replace g3 := up_of hb g3); (try replace gl := up_of hb gl); (try replace h0 := up_of hb h0); (try replace h1 := up_of hb h1); (try replace h2 := up_of hb h2); (try replace h3 := up_of hb h3); (try replace hl := up_of hb hl); (try replace hu1 := up_of hb hu1); (try replace j1 := up_of hb j1); (try replace p0 := up_of hb p0); (try replace p1 := up_of hb p1); (try replace p2 := up_of hb p2); (try replace p3 := up_of hb p3); (try replace pl := up_of hb pl); (try replace hu3 := up_of hb hu3); (try replace j3 := up_of hb j3); (try replace t0 := up_of hb t0); (try replace t1 := up_of hb t1); (try replace t2 := up_of hb t2); (try replace t3 := up_of hb t3); (try replace tl := up_of hb tl)))
      go_ret
      exact ⟨rfl, hB⟩

    · have y2 : (E2 != 0) = true := bne_iff_ne.2 hz2
      replace hz2 := Lib.hid hz2
      go_enter Try.func9, Try.ntmps9
      go_upto_region 1 with (fail)
      refine wp_world fun W HW => ?_
      have hB : Below w.heap.size w W := by rw [HW.out]; (repeat (first | exact Below.refl _ _ | refine Below.alloc ?_ (by simp; try omega) _ | refine Below.setCell ?_ (by simp) _ | refine Below.drew ?_))
      have d0 : W.cell? ⟨w.heap.size, 0, none⟩ = some (.int .i64 n) := by rw [HW.out]; simp [go_sem]
      have d1 : W.cell? ⟨w.heap.size, 1, none⟩ = some (.slice s l.length cap) := by rw [HW.out]; simp [go_sem]
      have d2 : W.cell? ⟨w.heap.size, 2, none⟩ = some (.slice s2 K.length cq) := by rw [HW.out]; simp [go_sem]
      have dl : w.heap.size < W.heap.size := World.block_lt_of_cell? W _ d0
      have g0 : W.cell? ⟨w.heap.size + 1, 0, none⟩ = some (.int .i64 q.f.x) := by rw [HW.out]; simp [go_sem]
      have g1 : W.cell? ⟨w.heap.size + 1, 1, none⟩ = some (.int .i64 q.f.y) := by rw [HW.out]; simp [go_sem]
      have g2 : W.cell? ⟨w.heap.size + 1, 2, none⟩ = some (.int .i64 q.f.z) := by rw [HW.out]; simp [go_sem]
      have g3 : W.cell? ⟨w.heap.size + 1, 3, none⟩ = some (.slice q.s q.off.length q.cap) := by rw [HW.out]; simp [go_sem]
      have gl : w.heap.size + 1 < W.heap.size := World.block_lt_of_cell? W _ g0
      have h0 : W.cell? ⟨w.heap.size + 2, 0, none⟩ = some (.int .i64 r.f.x) := by rw [HW.out]; simp [go_sem]
      have h1 : W.cell? ⟨w.heap.size + 2, 1, none⟩ = some (.int .i64 r.f.y) := by rw [HW.out]; simp [go_sem]
      have h2 : W.cell? ⟨w.heap.size + 2, 2, none⟩ = some (.int .i64 r.f.z) := by rw [HW.out]; simp [go_sem]
      have h3 : W.cell? ⟨w.heap.size + 2, 3, none⟩ = some (.slice r.s r.off.length r.cap) := by rw [HW.out]; simp [go_sem]
      have hl : w.heap.size + 2 < W.heap.size := World.block_lt_of_cell? W _ h0
      try replace hr := up_of hB hr
      try replace hq := up_of hB hq
      try replace hq2 := up_of hB hq2
      go_upto_region 3 with (first | (go_at_call 16; refine (hwi.out _ hr).mono ?_; rintro e W1 ⟨rfl, hb⟩; (try replace hr := up_of hb hr); (try replace hq := up_of hb hq); (try replace hq2 := up_of hb hq2); (try replace hB := up_of hb hB); (try replace d0 := up_of hb d0); (try replace d1 := up_of hb d1); (try replace d2 := up_of hb d2); (try replace dl := up_of hb dl); (try replace g0 := up_of hb g0); (try replace g1 := up_of hb g1); (try replace g2 := up_of hb g2); (try replace g3 := up_of hb g3); (try replace gl := up_of hb gl); (try replace h0 := up_of hb h0); (try replace h1 := up_of hb h1); (try replace h2 := up_of hb h2); (try replace h3 := up_of hb h3); (try replace hl := up_of hb hl)) | (go_at_call 17; with_reducible refine (hlo.out _ hq).mono ?_; rintro e W1 ⟨rfl, hb⟩; (try replace hr := up_of hb hr); (try replace hq := up_of hb hq); (try replace hq2 := up_of hb hq2); (try replace hB := up_of hb hB); (try replace d0 := up_of hb d0); (try replace d1 := up_of hb d1); (try replace d2 := up_of hb d2); (try replace dl := up_of hb dl); (try replace g0 := up_of hb g0); (try replace g1 := up_of hb g1); (try replace g2 := up_of hb g2); (try replace g3 := up_of hb g3); (try replace gl := up_of hb gl); (try replace h0 := up_of hb h0); (try replace h1 := up_of hb h1); (try replace h2 := up_of hb h2); (try replace h3 := up_of hb h3); (try replace hl := up_of hb hl)) | (go_at_call 17; with_reducible refine (hlo2.out _ hq2).mono ?_; rintro e W1 ⟨rfl, hb⟩; (try replace hr := up_of hb hr); (try replace hq := up_of hb hq); (try replace hq2 := up_of hb hq2); (try replace hB := up_of hb hB); (try replace d0 := up_of hb d0); (try replace d1 := up_of hb d1); (try replace d2 := up_of hb d2); (try replace dl := up_of hb dl); (try replace g0 := up_of hb g0); (try replace g1 := up_of hb g1); (try replace g2 := up_of hb g2); (try replace g3 := up_of hb g3); (try replace gl := up_of hb gl); (try replace h0 := up_of hb h0); (try replace h1 := up_of hb h1); (try replace h2 := up_of hb h2); (try replace h3 := up_of hb h3); (try replace hl := up_of hb hl)))
      go_upto_region 4 with (first | (go_at_call 38; refine (c1.out _ hr hq hq2).mono ?_; rintro e A1 ⟨⟨s3, k3, rfl, hu1⟩, hb⟩; (try replace hr := up_of hb hr); (try replace hq := up_of hb hq); (try replace hq2 := up_of hb hq2); (try replace hB := up_of hb hB); (try replace d0 := up_of hb d0); (try replace d1 := up_of hb d1); (try replace d2 := up_of hb d2); (try replace dl := up_of hb dl); (try replace g0 := up_of hb g0); (try replace g1 := up_of hb g1); (try replace g2 := up_of hb g2); (try replace g3 := up_of hb g3); (try replace gl := up_of hb gl); (try replace h0 := up_of hb h0); (try replace h1 := up_of hb h1); (try replace h2 := up_of hb h2); (try replace h3 := up_of hb h3); (try replace hl := up_of hb hl)))
      refine wp_world fun B1 HB1 => ?_
      have j1 : Below A1.heap.size A1 B1 := by rw [HB1.out]; (repeat (first | exact Below.refl _ _ | refine Below.alloc ?_ (by simp; try omega) _ | refine Below.setCell ?_ (by simp) _ | refine Below.drew ?_))
      have p0 : B1.cell? ⟨A1.heap.size, 0, none⟩ = some (.int .i64 F1.x) := by rw [HB1.out]; simp [go_sem]
      have p1 : B1.cell? ⟨A1.heap.size, 1, none⟩ = some (.int .i64 F1.y) := by rw [HB1.out]; simp [go_sem]
      have p2 : B1.cell? ⟨A1.heap.size, 2, none⟩ = some (.int .i64 F1.z) := by rw [HB1.out]; simp [go_sem]
      have p3 : B1.cell? ⟨A1.heap.size, 3, none⟩ = some (.slice s3 O1.length k3) := by rw [HB1.out]; simp [go_sem]
      have pl : A1.heap.size < B1.heap.size := World.block_lt_of_cell? B1 _ p0
      try replace hr := up_of j1 hr
      try replace hq := up_of j1 hq
      try replace hq2 := up_of j1 hq2
      try replace hB := up_of j1 hB
      try replace d0 := up_of j1 d0
      try replace d1 := up_of j1 d1
      try replace d2 := up_of j1 d2
      try replace dl := up_of j1 dl
      try replace g0 := up_of j1 g0
      try replace g1 := up_of j1 g1
      try replace g2 := up_of j1 g2
      try replace g3 := up_of j1 g3
      try replace gl := up_of j1 gl
      try replace h0 := up_of j1 h0
      try replace h1 := up_of j1 h1
      try replace h2 := up_of j1 h2
      try replace h3 := up_of j1 h3
      try replace hl := up_of j1 hl
      try replace hu1 := up_of j1 hu1
      go_upto_region 7 with (first | (go_at_call 42; refine (a1'.out _ s3 k3 hr hu1 hq hq2).mono ?_; rintro e W1 ⟨rfl, hb⟩; (try replace hr := up_of hb hr); (try replace hq := up_of hb hq); (try replace hq2 := up_of hb hq2); (try replace hB := up_of hb hB); (try replace d0 := up_of hb d0); (try replace d1 := up_of hb d1); (try replace d2 := up_of hb d2); (try replace dl := up_of hb dl); (try replace g0 := up_of hb g0); (try replace g1 := up_of hb g1); (try replace g2 := up_of hb g2); (try replace g3 := up_of hb g3); (try replace gl := up_of hb gl); (try replace h0 := up_of hb h0); (try replace h1 := up_of hb h1); (try replace h2 := up_of hb h2); (try replace h3 := up_of hb h3); (try replace hl := up_of hb hl); (try replace hu1 := up_of hb hu1); (try replace j1 := up_of hb j1); (try replace p0 := up_of hb p0); (try replace p1 := up_of hb p1); (try replace p2 := up_of hb p2); (try replace p3 := up_of hb p3); (try replace pl := up_of hb pl)))
      go_upto_region 8 with (first | (go_at_call 40; refine (c3.out _ hr hq).mono ?_; rintro e A3 ⟨⟨s5, k5, rfl, hu3⟩, hb⟩; (try replace hr := up_of hb hr); (try replace hq := up_of hb hq); (try replace hq2 := up_of hb hq2); (try replace hB := up_of hb hB); (try replace d0 := up_of hb d0); (try replace d1 := up_of hb d1); (try replace d2 := up_of hb d2); (try replace dl := up_of hb dl); (try replace g0 := up_of hb g0); (try replace g1 := up_of hb g1); (try replace g2 := up_of hb g2); (try replace g3 := up_of hb g3); (try replace gl := up_of hb gl); (try replace h0 := up_of hb h0); (try replace h1 := up_of hb h1); (try replace h2 := up_of hb h2); (try replace h3 := up_of hb h3); (try replace hl := up_of hb hl); (try replace hu1 := up_of hb hu1); (try replace j1 := up_of hb j1); (try replace p0 := up_of hb p0); (try replace p1 := up_of hb p1); (try replace p2 := up_of hb p2); (try replace p3 := up_of hb p3); (try replace pl := up_of hb pl)))
      refine wp_world fun B3 HB3 => ?_
      have j3 : Below A3.heap.size A3 B3 := by rw [HB3.out]; (repeat (first | exact Below.refl _ _ | refine Below.alloc ?_ (by simp; try omega) _ | refine Below.setCell ?_ (by simp) _ | refine Below.drew ?_))
      have t0 : B3.cell? ⟨A3.heap.size, 0, none⟩ = some (.int .i64 F2.x) := by rw [HB3.out]; simp [go_sem]
      have t1 : B3.cell? ⟨A3.heap.size, 1, none⟩ = some (.int .i64 F2.y) := by rw [HB3.out]; simp [go_sem]
      have t2 : B3.cell? ⟨A3.heap.size, 2, none⟩ = some (.int .i64 F2.z) := by rw [HB3.out]; simp [go_sem]
      have t3 : B3.cell? ⟨A3.heap.size, 3, none⟩ = some (.slice s5 O2.length k5) := by rw [HB3.out]; simp [go_sem]
      have tl : A3.heap.size < B3.heap.size := World.block_lt_of_cell? B3 _ t0
      try replace hr := up_of j3 hr
      try replace hq := up_of j3 hq
      try replace hq2 := up_of j3 hq2
      try replace hB := up_of j3 hB
      try replace d0 := up_of j3 d0
      try replace d1 := up_of j3 d1
      try replace d2 := up_of j3 d2
      try replace dl := up_of j3 dl
      try replace g0 := up_of j3 g0
      try replace g1 := up_of j3 g1
      try replace g2 := up_of j3 g2
      try replace g3 := up_of j3 g3
      try replace gl := up_of j3 gl
      try replace h0 := up_of j3 h0
      try replace h1 := up_of j3 h1
      try replace h2 := up_of j3 h2
      try replace h3 := up_of j3 h3
      try replace hl := up_of j3 hl
      try replace hu1 := up_of j3 hu1
      try replace j1 := up_of j3 j1
      try replace p0 := up_of j3 p0
      try replace p1 := up_of j3 p1
      try replace p2 := up_of j3 p2
      try replace p3 := up_of j3 p3
      try replace pl := up_of j3 pl
      try replace hu3 := up_of j3 hu3
      go_wp2_with (first | (go_at_call 17; refine (hlo.out _ hq).mono ?_; rintro e W1 ⟨rfl, hb⟩; (try replace hr := up_of hb hr); (try replace hq := up_of hb hq); (try replace hq2 := up_of hb hq2); (try replace hB := up_of hb hB); (try replace d0 := up_of hb d0); (try replace d1 := up_of hb d1); (try replace d2 := up_of hb d2); (try replace dl := up_of hb dl); (try replace g0 := up_of hb g0); (try replace g1 := up_of hb g1); (try replace g2 := up_of hb g2); (try replace g3 := up_of hb g3); (try replace gl := up_of hb gl); (try replace h0 := up_of hb h0); (try replace h1 := up_of hb h1); (try replace h2 := up_of hb h2); (try replace h3 := up_of hb h3); (try replace hl := up_of hb hl); (try replace hu1 := up_of hb hu1); (try replace j1 := up_of hb j1); (try replace p0 := up_of hb p0); (try replace p1 := up_of hb p1); (try replace p2 := up_of hb p2); (try replace p3 := up_of hb p3); (try replace pl := up_of hb pl); (try replace hu3 := up_of hb hu3); (try replace j3 := up_of hb j3); (try replace t0 := up_of hb t0); (try replace t1 := up_of hb t1); (try replace t2 := up_of hb t2); (try replace t3 := up_of hb t3); (try replace tl := up_of hb tl)) | (go_at_call 18; refine (Awake_c _).mono ?_; rintro e W1 ⟨rfl, hb⟩; (try replace hr := up_of hb hr); (try replace hq := up_of hb hq); (try replace hq2 := up_of hb hq2); (try replace hB := up_of hb hB); (try replace d0 := up_of hb d0); (try replace d1 := up_of hb d1); (try replace d2 := up_of hb d2); (try replace dl := up_of hb dl); (try replace g0 := up_of hb g0); (try replace g1 := up_of hb g1); (try replace g2 := up_of hb g2); (try replace g3 := up_of hb g3); (try replace gl := up_of hb gl); (try replace h0 := up_of hb h0); (try replace h1 := up_of hb h1); (try replace h2 := up_of hb h2); (try replace h3 := up_of hb h3); (try replace hl := up_of hb hl); (try replace hu1 := up_of hb hu1); (try replace j1 := up_of hb j1); (try replace p0 := up_of hb p0); (try replace p1 := up_of hb p1); (try replace p2 := up_of hb p2); (try replace p3 := up_of hb p3); (try replace pl := up_of hb pl); (try replace hu3 := up_of hb hu3); (try replace j3 := up_of hb j3); (try replace t0 := up_of hb t0); (try replace t1 := up_of hb t1); (try replace t2 := up_of hb t2); (try replace t3 := up_of hb t3); (try replace tl := up_of hb tl)))
      go_ret
      exact ⟨rfl, hB⟩

  · have y1 : (E1 == 0) = false := by simp [hz1]
    replace hz1 := Lib.hid hz1
    by_cases hz2 : E2 = 0
    · have y2 : (E2 != 0) = false := by simp [hz2]
      have a2' := a2.out hz2
      replace hz2 := Lib.hid hz2; replace a2' := Lib.hid a2'
      go_enter Try.func9, Try.ntmps9
      go_upto_region 1 with (fail)
      refine wp_world fun W HW => ?_
      have hB : Below w.heap.size w W := by rw [HW.out]; (repeat (first | exact Below.refl _ _ | refine Below.alloc ?_ (by simp; try omega) _ | refine Below.setCell ?_ (by simp) _ | refine Below.drew ?_))
      have d0 : W.cell? ⟨w.heap.size, 0, none⟩ = some (.int .i64 n) := by rw [HW.out]; simp [go_sem]
      have d1 : W.cell? ⟨w.heap.size, 1, none⟩ = some (.slice s l.length cap) := by rw [HW.out]; simp [go_sem]
      have d2 : W.cell? ⟨w.heap.size, 2, none⟩ = some (.slice s2 K.length cq) := by rw [HW.out]; simp [go_sem]
      have dl : w.heap.size < W.heap.size := World.block_lt_of_cell? W _ d0
      have g0 : W.cell? ⟨w.heap.size + 1, 0, none⟩ = some (.int .i64 q.f.x) := by rw [HW.out]; simp [go_sem]
      have g1 : W.cell? ⟨w.heap.size + 1, 1, none⟩ = some (.int .i64 q.f.y) := by rw [HW.out]; simp [go_sem]
      have g2 : W.cell? ⟨w.heap.size + 1, 2, none⟩ = some (.int .i64 q.f.z) := by rw [HW.out]; simp [go_sem]
      have g3 : W.cell? ⟨w.heap.size + 1, 3, none⟩ = some (.slice q.s q.off.length q.cap) := by rw [HW.out]; simp [go_sem]
      have gl : w.heap.size + 1 < W.heap.size := World.block_lt_of_cell? W _ g0
      have h0 : W.cell? ⟨w.heap.size + 2, 0, none⟩ = some (.int .i64 r.f.x) := by rw [HW.out]; simp [go_sem]
      have h1 : W.cell? ⟨w.heap.size + 2, 1, none⟩ = some (.int .i64 r.f.y) := by rw [HW.out]; simp [go_sem]
      have h2 : W.cell? ⟨w.heap.size + 2, 2, none⟩ = some (.int .i64 r.f.z) := by rw [HW.out]; simp [go_sem]
      have h3 : W.cell? ⟨w.heap.size + 2, 3, none⟩ = some (.slice r.s r.off.length r.cap) := by rw [HW.out]; simp [go_sem]
      have hl : w.heap.size + 2 < W.heap.size := World.block_lt_of_cell? W _ h0
      try replace hr := up_of hB hr
      try replace hq := up_of hB hq
      try replace hq2 := up_of hB hq2
      go_upto_region 3 with (first | (go_at_call 16; refine (hwi.out _ hr).mono ?_; rintro e W1 ⟨rfl, hb⟩; (try replace hr := up_of hb hr); (try replace hq := up_of hb hq); (try replace hq2 := up_of hb hq2); (try replace hB := up_of hb hB); (try replace d0 := up_of hb d0); (try replace d1 := up_of hb d1); (try replace d2 := up_of hb d2); (try replace dl := up_of hb dl); (try replace g0 := up_of hb g0); (try replace g1 := up_of hb g1); (try replace g2 := up_of hb g2); (try replace g3 := up_of hb g3); (try replace gl := up_of hb gl); (try replace h0 := up_of hb h0); (try replace h1 := up_of hb h1); (try replace h2 := up_of hb h2); (try replace h3 := up_of hb h3); (try replace hl := up_of hb hl)) | (go_at_call 17; with_reducible refine (hlo.out _ hq).mono ?_; rintro e W1 ⟨rfl, hb⟩; (try replace hr := up_of hb hr); (try replace hq := up_of hb hq); (try replace hq2 := up_of hb hq2); (try replace hB := up_of hb hB); (try replace d0 := up_of hb d0); (try replace d1 := up_of hb d1); (try replace d2 := up_of hb d2); (try replace dl := up_of hb dl); (try replace g0 := up_of hb g0); (try replace g1 := up_of hb g1); (try replace g2 := up_of hb g2); (try replace g3 := up_of hb g3); (try replace gl := up_of hb gl); (try replace h0 := up_of hb h0); (try replace h1 := up_of hb h1); (try replace h2 := up_of hb h2); (try replace h3 := up_of hb h3); (try replace hl := up_of hb hl)) | (go_at_call 17; with_reducible refine (hlo2.out _ hq2).mono ?_; rintro e W1 ⟨rfl, hb⟩; (try replace hr := up_of hb hr); (try replace hq := up_of hb hq); (try replace hq2 := up_of hb hq2); (try replace hB := up_of hb hB); (try replace d0 := up_of hb d0); (try replace d1 := up_of hb d1); (try replace d2 := up_of hb d2); (try replace dl := up_of hb dl); (try replace g0 := up_of hb g0); (try replace g1 := up_of hb g1); (try replace g2 := up_of hb g2); (try replace g3 := up_of hb g3); (try replace gl := up_of hb gl); (try replace h0 := up_of hb h0); (try replace h1 := up_of hb h1); (try replace h2 := up_of hb h2); (try replace h3 := up_of hb h3); (try replace hl := up_of hb hl)))
      go_upto_region 4 with (first | (go_at_call 38; refine (c1.out _ hr hq hq2).mono ?_; rintro e A1 ⟨⟨s3, k3, rfl, hu1⟩, hb⟩; (try replace hr := up_of hb hr); (try replace hq := up_of hb hq); (try replace hq2 := up_of hb hq2); (try replace hB := up_of hb hB); (try replace d0 := up_of hb d0); (try replace d1 := up_of hb d1); (try replace d2 := up_of hb d2); (try replace dl := up_of hb dl); (try replace g0 := up_of hb g0); (try replace g1 := up_of hb g1); (try replace g2 := up_of hb g2); (try replace g3 := up_of hb g3); (try replace gl := up_of hb gl); (try replace h0 := up_of hb h0); (try replace h1 := up_of hb h1); (try replace h2 := up_of hb h2); (try replace h3 := up_of hb h3); (try replace hl := up_of hb hl)))
      refine wp_world fun B1 HB1 => ?_
      have j1 : Below A1.heap.size A1 B1 := by rw [HB1.out]; (repeat (first | exact Below.refl _ _ | refine Below.alloc ?_ (by simp; try omega) _ | refine Below.setCell ?_ (by simp) _ | refine Below.drew ?_))
      have p0 : B1.cell? ⟨A1.heap.size, 0, none⟩ = some (.int .i64 F1.x) := by rw [HB1.out]; simp [go_sem]
      have p1 : B1.cell? ⟨A1.heap.size, 1, none⟩ = some (.int .i64 F1.y) := by rw [HB1.out]; simp [go_sem]
      have p2 : B1.cell? ⟨A1.heap.size, 2, none⟩ = some (.int .i64 F1.z) := by rw [HB1.out]; simp [go_sem]
      have p3 : B1.cell? ⟨A1.heap.size, 3, none⟩ = some (.slice s3 O1.length k3) := by rw [HB1.out]; simp [go_sem]
      have pl : A1.heap.size < B1.heap.size := World.block_lt_of_cell? B1 _ p0
      try replace hr := up_of j1 hr
      try replace hq := up_of j1 hq
      try replace hq2 := up_of j1 hq2
      try replace hB := up_of j1 hB
      try replace d0 := up_of j1 d0
      try replace d1 := up_of j1 d1
      try replace d2 := up_of j1 d2
      try replace dl := up_of j1 dl
      try replace g0 := up_of j1 g0
      try replace g1 := up_of j1 g1
      try replace g2 := up_of j1 g2
      try replace g3 := up_of j1 g3
      try replace gl := up_of j1 gl
      try replace h0 := up_of j1 h0
      try replace h1 := up_of j1 h1
      try replace h2 := up_of j1 h2
      try replace h3 := up_of j1 h3
      try replace hl := up_of j1 hl
      try replace hu1 := up_of j1 hu1
      go_upto_region 7 with (first | (go_at_call 17; refine (hlo.out _ hq).mono ?_; rintro e W1 ⟨rfl, hb⟩; (try replace hr := up_of hb hr); (try replace hq := up_of hb hq); (try replace hq2 := up_of hb hq2); (try replace hB := up_of hb hB); (try replace d0 := up_of hb d0); (try replace d1 := up_of hb d1); (try replace d2 := up_of hb d2); (try replace dl := up_of hb dl); (try replace g0 := up_of hb g0); (try replace g1 := up_of hb g1); (try replace g2 := up_of hb g2); (try replace g3 := up_of hb g3); (try replace gl := up_of hb gl); (try replace h0 := up_of hb h0); (try replace h1 := up_of hb h1); (try replace h2 := up_of hb h2); (try replace h3 := up_of hb h3); (try replace hl := up_of hb hl); (try replace hu1 := up_of hb hu1); (try replace j1 := up_of hb j1); (try replace p0 := up_of hb p0); (try replace p1 := up_of hb p1); (try replace p2 := up_of hb p2); (try replace p3 := up_of hb p3); (try replace pl := up_of hb pl)))
      go_upto_region 8 with (first | (go_at_call 40; refine (c3.out _ hr hq).mono ?_; rintro e A3 ⟨⟨s5, k5, rfl, hu3⟩, hb⟩; (try replace hr := up_of hb hr); (try replace hq := up_of hb hq); (try replace hq2 := up_of hb hq2); (try replace hB := up_of hb hB); (try replace d0 := up_of hb d0); (try replace d1 := up_of hb d1); (try replace d2 := up_of hb d2); (try replace dl := up_of hb dl); (try replace g0 := up_of hb g0); (try replace g1 := up_of hb g1); (try replace g2 := up_of hb g2); (try replace g3 := up_of hb g3); (try replace gl := up_of hb gl); (try replace h0 := up_of hb h0); (try replace h1 := up_of hb h1); (try replace h2 := up_of hb h2); (try replace h3 := up_of hb h3); (try replace hl := up_of hb hl); (try replace hu1 := up_of hb hu1); (try replace j1 := up_of hb j1); (try replace p0 := up_of hb p0); (try replace p1 := up_of hb p1); (try replace p2 := up_of hb p2); (try replace p3 := up_of hb p3); (try replace pl := up_of hb pl)))
      refine wp_world fun B3 HB3 => ?_
      have j3 : Below A3.heap.size A3 B3 := by rw [HB3.out]; (repeat (first | exact Below.refl _ _ | refine Below.alloc ?_ (by simp; try omega) _ | refine Below.setCell ?_ (by simp) _ | refine Below.drew ?_))
      have t0 : B3.cell? ⟨A3.heap.size, 0, none⟩ = some (.int .i64 F2.x) := by rw [HB3.out]; simp [go_sem]
      have t1 : B3.cell? ⟨A3.heap.size, 1, none⟩ = some (.int .i64 F2.y) := by rw [HB3.out]; simp [go_sem]
      have t2 : B3.cell? ⟨A3.heap.size, 2, none⟩ = some (.int .i64 F2.z) := by rw [HB3.out]; simp [go_sem]
      have t3 : B3.cell? ⟨A3.heap.size, 3, none⟩ = some (.slice s5 O2.length k5) := by rw [HB3.out]; simp [go_sem]
      have tl : A3.heap.size < B3.heap.size := World.block_lt_of_cell? B3 _ t0
      try replace hr := up_of j3 hr
      try replace hq := up_of j3 hq
      try replace hq2 := up_of j3 hq2
      try replace hB := up_of j3 hB
      try replace d0 := up_of j3 d0
      try replace d1 := up_of j3 d1
      try replace d2 := up_of j3 d2
      try replace dl := up_of j3 dl
      try replace g0 := up_of j3 g0
      try replace g1 := up_of j3 g1
      try replace g2 := up_of j3 g2
      try replace g3 := up_of j3 g3
      try replace gl := up_of j3 gl
      try replace h0 := up_of j3 h0
      try replace h1 := up_of j3 h1
      try replace h2 := up_of j3 h2
      try replace h3 := up_of j3 h3
      try replace hl := up_of j3 hl
      try replace hu1 := up_of j3 hu1
      try replace j1 := up_of j3 j1
      try replace p0 := up_of j3 p0
      try replace p1 := up_of j3 p1
      try replace p2 := up_of j3 p2
      try replace p3 := up_of j3 p3
      try replace pl := up_of j3 pl
      try replace hu3 := up_of j3 hu3
      go_wp2_with (first | (go_at_call 42; refine (a2'.out _ s5 k5 hr hu3 hq).mono ?_; rintro e W1 ⟨rfl, hb⟩; (try replace hr := up_of hb hr); (try replace hq := up_of hb hq); (try replace hq2 := up_of hb hq2); (try replace hB := up_of hb hB); (try replace d0 := up_of hb d0); (try replace d1 := up_of hb d1); (try replace d2 := up_of hb d2); (try replace dl := up_of hb dl); (try replace g0 := up_of hb g0); (try replace g1 := up_of hb g1); (try replace g2 := up_of hb g2); (try replace g3 := up_of hb g3); (try replace gl := up_of hb gl); (try replace h0 := up_of hb h0); (try replace h1 := up_of hb h1); (try replace h2 := up_of hb h2); (try replace h3 := up_of hb h3); (try replace hl := up_of hb hl); (try replace hu1 := up_of hb hu1); (try replace j1 := up_of hb j1); (try replace p0 := up_of hb p0); (try replace p1 := up_of hb p1); (try replace p2 := up_of hb p2); (try replace p3 := up_of hb p3); (try replace pl := up_of hb pl); (try replace hu3 := up_of hb hu3); (try replace j3 := up_of hb j3); (try replace t0 := up_of hb t0); (try replace t1 := up_of hb t1); (try replace t2 := up_of hb t2); (try replace t3 := up_of hb t3); (try replace tl := up_of hb tl)) | (go_at_call 18; refine (Awake_c _).mono ?_; rintro e W1 ⟨rfl, hb⟩; (try replace hr := up_of hb hr); (try replace hq := up_of hb hq); (try replace hq2 := up_of hb hq2); (try replace hB := up_of hb hB); (try replace d0 := up_of hb d0); (try replace d1 := up_of hb d1); (try replace d2 := up_of hb d2); (try replace dl := up_of hb dl); (try replace g0 := up_of hb g0); (try replace g1 := up_of hb g1); (try replace g2 := up_of hb g2); (try replace g3 := up_of hb g3); (try replace gl := up_of hb gl); (try replace h0 := up_of hb h0); (try replace h1 := up_of hb h1); (try replace h2 := up_of hb h2); (try replace h3 := up_of hb h3); (try replace hl := up_of hb hl); (try replace hu1 := up_of hb hu1); (try replace j1 := up_of hb j1); (try replace p0 := up_of hb p0); (try replace p1 := up_of hb p1); (try replace p2 := up_of hb p2); (try replace p3 := up_of hb p3); (try replace pl := up_of hb pl); (try replace hu3 := up_of hb hu3); (try replace j3 := up_of hb j3); (try replace t0 := up_of hb t0); (try replace t1 := up_of hb t1); (try replace t2 := up_of hb t2); (try replace t3 := up_of hb t3); (try replace tl := up_of hb tl)))
      go_ret
      exact ⟨rfl, hB⟩

    · have y2 : (E2 != 0) = true := bne_iff_ne.2 hz2
      replace hz2 := Lib.hid hz2
      go_enter Try.func9, Try.ntmps9
      go_upto_region 1 with (fail)
      refine wp_world fun W HW => ?_
      have hB : Below w.heap.size w W := by rw [HW.out]; (repeat (first | exact Below.refl _ _ | refine Below.alloc ?_ (by simp; try omega) _ | refine Below.setCell ?_ (by simp) _ | refine Below.drew ?_))
      have d0 : W.cell? ⟨w.heap.size, 0, none⟩ = some (.int .i64 n) := by rw [HW.out]; simp [go_sem]
      have d1 : W.cell? ⟨w.heap.size, 1, none⟩ = some (.slice s l.length cap) := by rw [HW.out]; simp [go_sem]
      have d2 : W.cell? ⟨w.heap.size, 2, none⟩ = some (.slice s2 K.length cq) := by rw [HW.out]; simp [go_sem]
      have dl : w.heap.size < W.heap.size := World.block_lt_of_cell? W _ d0
      have g0 : W.cell? ⟨w.heap.size + 1, 0, none⟩ = some (.int .i64 q.f.x) := by rw [HW.out]; simp [go_sem]
      have g1 : W.cell? ⟨w.heap.size + 1, 1, none⟩ = some (.int .i64 q.f.y) := by rw [HW.out]; simp [go_sem]
      have g2 : W.cell? ⟨w.heap.size + 1, 2, none⟩ = some (.int .i64 q.f.z) := by rw [HW.out]; simp [go_sem]
      have g3 : W.cell? ⟨w.heap.size + 1, 3, none⟩ = some (.slice q.s q.off.length q.cap) := by rw [HW.out]; simp [go_sem]
      have gl : w.heap.size + 1 < W.heap.size := World.block_lt_of_cell? W _ g0
      have h0 : W.cell? ⟨w.heap.size + 2, 0, none⟩ = some (.int .i64 r.f.x) := by rw [HW.out]; simp [go_sem]
      have h1 : W.cell? ⟨w.heap.size + 2, 1, none⟩ = some (.int .i64 r.f.y) := by rw [HW.out]; simp [go_sem]
      have h2 : W.cell? ⟨w.heap.size + 2, 2, none⟩ = some (.int .i64 r.f.z) := by rw [HW.out]; simp [go_sem]
      have h3 : W.cell? ⟨w.heap.size + 2, 3, none⟩ = some (.slice r.s r.off.length r.cap) := by rw [HW.out]; simp [go_sem]
      have hl : w.heap.size + 2 < W.heap.size := World.block_lt_of_cell? W _ h0
      try replace hr := up_of hB hr
      try replace hq := up_of hB hq
      try replace hq2 := up_of hB hq2
      go_upto_region 3 with (first | (go_at_call 16; refine (hwi.out _ hr).mono ?_; rintro e W1 ⟨rfl, hb⟩; (try replace hr := up_of hb hr); (try replace hq := up_of hb hq); (try replace hq2 := up_of hb hq2); (try replace hB := up_of hb hB); (try replace d0 := up_of hb d0); (try replace d1 := up_of hb d1); (try replace d2 := up_of hb d2); (try replace dl := up_of hb dl); (try replace g0 := up_of hb g0); (try replace g1 := up_of hb g1); (try replace g2 := up_of hb g2); (try replace g3 := up_of hb g3); (try replace gl := up_of hb gl); (try replace h0 := up_of hb h0); (try replace h1 := up_of hb h1); (try replace h2 := up_of hb h2); (try replace h3 := up_of hb h3); (try replace hl := up_of hb hl)) | (go_at_call 17; with_reducible refine (hlo.out _ hq).mono ?_; rintro e W1 ⟨rfl, hb⟩; (try replace hr := up_of hb hr); (try replace hq := up_of hb hq); (try replace hq2 := up_of hb hq2); (try replace hB := up_of hb hB); (try replace d0 := up_of hb d0); (try replace d1 := up_of hb d1); (try replace d2 := up_of hb d2); (try replace dl := up_of hb dl); (try replace g0 := up_of hb g0); (try replace g1 := up_of hb g1); (try replace g2 := up_of hb g2); (try replace g3 := up_of hb g3); (try replace gl := up_of hb gl); (try replace h0 := up_of hb h0); (try replace h1 := up_of hb h1); (try replace h2 := up_of hb h2); (try replace h3 := up_of hb h3); (try replace hl := up_of hb hl)) | (go_at_call 17; with_reducible refine (hlo2.out _ hq2).mono ?_; rintro e W1 ⟨rfl, hb⟩; (try replace hr := up_of hb hr); (try replace hq := up_of hb hq); (try replace hq2 := up_of hb hq2); (try replace hB := up_of hb hB); (try replace d0 := up_of hb d0); (try replace d1 := up_of hb d1); (try replace d2 := up_of hb d2); (try replace dl := up_of hb dl); (try replace g0 := up_of hb g0); (try replace g1 := up_of hb g1); (try replace g2 := up_of hb g2); (try replace g3 := up_of hb g3); (try replace gl := up_of hb gl); (try replace h0 := up_of hb h0); (try replace h1 := up_of hb h1); (try replace h2 := up_of hb h2); (try replace h3 := up_of hb h3); (try replace hl := up_of hb hl)))
      go_upto_region 4 with (first | (go_at_call 38; refine (c1.out _ hr hq hq2).mono ?_; rintro e A1 ⟨⟨s3, k3, rfl, hu1⟩, hb⟩; (try replace hr := up_of hb hr); (try replace hq := up_of hb hq); (try replace hq2 := up_of hb hq2); (try replace hB := up_of hb hB); (try replace d0 := up_of hb d0); (try replace d1 := up_of hb d1); (try replace d2 := up_of hb d2); (try replace dl := up_of hb dl); (try replace g0 := up_of hb g0); (try replace g1 := up_of hb g1); (try replace g2 := up_of hb g2); (try replace g3 := up_of hb g3); (try replace gl := up_of hb gl); (try replace h0 := up_of hb h0); (try replace h1 := up_of hb h1); (try replace h2 := up_of hb h2); (try replace h3 := up_of hb h3); (try replace hl := up_of hb hl)))
      refine wp_world fun B1 HB1 => ?_
      have j1 : Below A1.heap.size A1 B1 := by rw [HB1.out]; (repeat (first | exact Below.refl _ _ | refine Below.alloc ?_ (by simp; try omega) _ | refine Below.setCell ?_ (by simp) _ | refine Below.drew ?_))
      have p0 : B1.cell? ⟨A1.heap.size, 0, none⟩ = some (.int .i64 F1.x) := by rw [HB1.out]; simp [go_sem]
      have p1 : B1.cell? ⟨A1.heap.size, 1, none⟩ = some (.int .i64 F1.y) := by rw [HB1.out]; simp [go_sem]
      have p2 : B1.cell? ⟨A1.heap.size, 2, none⟩ = some (.int .i64 F1.z) := by rw [HB1.out]; simp [go_sem]
      have p3 : B1.cell? ⟨A1.heap.size, 3, none⟩ = some (.slice s3 O1.length k3) := by rw [HB1.out]; simp [go_sem]
      have pl : A1.heap.size < B1.heap.size := World.block_lt_of_cell? B1 _ p0
      try replace hr := up_of j1 hr
      try replace hq := up_of j1 hq
      try replace hq2 := up_of j1 hq2
      try replace hB := up_of j1 hB
      try replace d0 := up_of j1 d0
      try replace d1 := up_of j1 d1
      try replace d2 := up_of j1 d2
      try replace dl := up_of j1 dl
      try replace g0 := up_of j1 g0
      try replace g1 := up_of j1 g1
      try replace g2 := up_of j1 g2
      try replace g3 := up_of j1 g3
      try replace gl := up_of j1 gl
      try replace h0 := up_of j1 h0
      try replace h1 := up_of j1 h1
      try replace h2 := up_of j1 h2
      try replace h3 := up_of j1 h3
      try replace hl := up_of j1 hl
      try replace hu1 := up_of j1 hu1
      go_upto_region 7 with (first | (go_at_call 17; refine (hlo.out _ hq).mono ?_; rintro e W1 ⟨rfl, hb⟩; (try replace hr := up_of hb hr); (try replace hq := up_of hb hq); (try replace hq2 := up_of hb hq2); (try replace hB := up_of hb hB); (try replace d0 := up_of hb d0); (try replace d1 := up_of hb d1); (try replace d2 := up_of hb d2); (try replace dl := up_of hb dl); (try replace g0 := up_of hb g0); (try replace g1 := up_of hb g1); (try replace g2 := up_of hb g2); (try replace g3 := up_of hb g3); (try replace gl := up_of hb gl); (try replace h0 := up_of hb h0); (try replace h1 := up_of hb h1); (try replace h2 := up_of hb h2); (try replace h3 := up_of hb h3); (try replace hl := up_of hb hl); (try replace hu1 := up_of hb hu1); (try replace j1 := up_of hb j1); (try replace p0 := up_of hb p0); (try replace p1 := up_of hb p1); (try replace p2 := up_of hb p2); (try replace p3 := up_of hb p3); (try replace pl := up_of hb pl)))
      go_upto_region 8 with (first | (go_at_call 40; refine (c3.out _ hr hq).mono ?_; rintro e A3 ⟨⟨s5, k5, rfl, hu3⟩, hb⟩; (try replace hr := up_of hb hr); (try replace hq := up_of hb hq); (try replace hq2 := up_of hb hq2); (try replace hB := up_of hb hB); (try replace d0 := up_of hb d0); (try replace d1 := up_of hb d1); (try replace d2 := up_of hb d2); (try replace dl := up_of hb dl); (try replace g0 := up_of hb g0); (try replace g1 := up_of hb g1); (try replace g2 := up_of hb g2); (try replace g3 := up_of hb g3); (try replace gl := up_of hb gl); (try replace h0 := up_of hb h0); (try replace h1 := up_of hb h1); (try replace h2 := up_of hb h2); (try replace h3 := up_of hb h3); (try replace hl := up_of hb hl); (try replace hu1 := up_of hb hu1); (try replace j1 := up_of hb j1); (try replace p0 := up_of hb p0); (try replace p1 := up_of hb p1); (try replace p2 := up_of hb p2); (try replace p3 := up_of hb p3); (try replace pl := up_of hb pl)))
      refine wp_world fun B3 HB3 => ?_
      have j3 : Below A3.heap.size A3 B3 := by rw [HB3.out]; (repeat (first | exact Below.refl _ _ | refine Below.alloc ?_ (by simp; try omega) _ | refine Below.setCell ?_ (by simp) _ | refine Below.drew ?_))
      have t0 : B3.cell? ⟨A3.heap.size, 0, none⟩ = some (.int .i64 F2.x) := by rw [HB3.out]; simp [go_sem]
      have t1 : B3.cell? ⟨A3.heap.size, 1, none⟩ = some (.int .i64 F2.y) := by rw [HB3.out]; simp [go_sem]
      have t2 : B3.cell? ⟨A3.heap.size, 2, none⟩ = some (.int .i64 F2.z) := by rw [HB3.out]; simp [go_sem]
      have t3 : B3.cell? ⟨A3.heap.size, 3, none⟩ = some (.slice s5 O2.length k5) := by rw [HB3.out]; simp [go_sem]
      have tl : A3.heap.size < B3.heap.size := World.block_lt_of_cell? B3 _ t0
      try replace hr := up_of j3 hr
      try replace hq := up_of j3 hq
      try replace hq2 := up_of j3 hq2
      try replace hB := up_of j3 hB
      try replace d0 := up_of j3 d0
      try replace d1 := up_of j3 d1
      try replace d2 := up_of j3 d2
      try replace dl := up_of j3 dl
      try replace g0 := up_of j3 g0
      try replace g1 := up_of j3 g1
      try replace g2 := up_of j3 g2
      try replace g3 := up_of j3 g3
      try replace gl := up_of j3 gl
      try replace h0 := up_of j3 h0
      try replace h1 := up_of j3 h1
      try replace h2 := up_of j3 h2
      try replace h3 := up_of j3 h3
      try replace hl := up_of j3 hl
      try replace hu1 := up_of j3 hu1
      try replace j1 := up_of j3 j1
      try replace p0 := up_of j3 p0
      try replace p1 := up_of j3 p1
      try replace p2 := up_of j3 p2
      try replace p3 := up_of j3 p3
      try replace pl := up_of j3 pl
      try replace hu3 := up_of j3 hu3
      go_wp2_with (first | (go_at_call 17; refine (hlo.out _ hq).mono ?_; rintro e W1 ⟨rfl, hb⟩; (try replace hr := up_of hb hr); (try replace hq := up_of hb hq); (try replace hq2 := up_of hb hq2); (try replace hB := up_of hb hB); (try replace d0 := up_of hb d0); (try replace d1 := up_of hb d1); (try replace d2 := up_of hb d2); (try replace dl := up_of hb dl); (try replace g0 := up_of hb g0); (try replace g1 := up_of hb g1); (try replace g2 := up_of hb g2); (try replace g3 := up_of hb g3); (try replace gl := up_of hb gl); (try replace h0 := up_of hb h0); (try replace h1 := up_of hb h1); (try replace h2 := up_of hb h2); (try replace h3 := up_of hb h3); (try replace hl := up_of hb hl); (try replace hu1 := up_of hb hu1); (try replace j1 := up_of hb j1); (try replace p0 := up_of hb p0); (try replace p1 := up_of hb p1); (try replace p2 := up_of hb p2); (try replace p3 := up_of hb p3); (try replace pl := up_of hb pl); (try replace hu3 := up_of hb hu3); (try replace j3 := up_of hb j3); (try replace t0 := up_of hb t0); (try replace t1 := up_of hb t1); (try replace t2 := up_of hb t2); (try replace t3 := up_of hb t3); (try replace tl := up_of hb tl)) | (go_at_call 18; refine (Awake_c _).mono ?_; rintro e W1 ⟨rfl, hb⟩; (try replace hr := up_of hb hr); (try replace hq := up_of hb hq); (try replace hq2 := up_of hb hq2); (try replace hB := up_of hb hB); (try replace d0 := up_of hb d0); (try replace d1 := up_of hb d1); (try replace d2 := up_of hb d2); (try replace dl := up_of hb dl); (try replace g0 := up_of hb g0); (try replace g1 := up_of hb g1); (try replace g2 := up_of hb g2); (try replace g3 := up_of hb g3); (try replace gl := up_of hb gl); (try replace h0 := up_of hb h0); (try replace h1 := up_of hb h1); (try replace h2 := up_of hb h2); (try replace h3 := up_of hb h3); (try replace hl := up_of hb hl); (try replace hu1 := up_of hb hu1); (try replace j1 := up_of hb j1); (try replace p0 := up_of hb p0); (try replace p1 := up_of hb p1); (try replace p2 := up_of hb p2); (try replace p3 := up_of hb p3); (try replace pl := up_of hb pl); (try replace hu3 := up_of hb hu3); (try replace j3 := up_of hb j3); (try replace t0 := up_of hb t0); (try replace t1 := up_of hb t1); (try replace t2 := up_of hb t2); (try replace t3 := up_of hb t3); (try replace tl := up_of hb tl)))
      go_ret
      exact ⟨rfl, hB⟩

end Go.Proofs.Ytbpdgoedglkefaa
