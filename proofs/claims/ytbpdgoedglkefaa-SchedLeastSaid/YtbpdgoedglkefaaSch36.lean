/- The spread of a form's values and of offsets: the reference. -/
import Derived.Test.YtbpdgoedglkefaaB5
namespace Go.Proofs.Ytbpdgoedglkefaa
open Go.RowKit

set_option maxRecDepth 100000 in
set_option maxHeartbeats 2000000 in
theorem spread_c (s : Option Addr) (cap : Nat) (L : List Pt) (f : Pt) (w : World) (hp : PtS w s L) (h1 : 1 ≤ L.length) (hl : L.length ≤ 9223372036854775807) :
    Calls Try.prog 82 #[.slice s L.length cap, .agg #[.int .i64 f.x, .int .i64 f.y, .int .i64 f.z]] w fun e w' => e = .returned (.int .i64 (wrap64 (hiL (L.map (tmP f)) - loL (L.map (tmP f))))) ∧ Below w.heap.size w w' := by
  obtain ⟨T, hT, hlen, hat⟩ : ∃ T : List Int, L.map (tmP f) = T ∧ T.length = L.length ∧ ∀ j (hj : j < L.length) (hj' : j < T.length), T[j] = tmP f L[j] := ⟨_, rfl, List.length_map .., fun j hj hj' => List.getElem_map ..⟩
  rw [hT]
  clear hT
  obtain ⟨fl, l0, lx, lf⟩ := lo_seq (T := T) (by omega)
  obtain ⟨fh, m0, mx, mf⟩ := hi_seq (T := T) (by omega)
  have htm2 : ∀ (j : Nat) (hj : j < L.length) (hj' : j < T.length) V, Calls Try.prog 78 #[.agg #[.int .i64 f.x, .int .i64 f.y, .int .i64 f.z], .agg #[.int .i64 L[j].x, .int .i64 L[j].y, .int .i64 L[j].z]] V fun e w' => e = .returned (.int .i64 T[j]) ∧ Below V.heap.size V w' := fun j hj hj' V => by rw [hat j hj hj']; exact Dot_c f L[j] V
  rw [hat 0 (by omega) (by omega)] at l0 m0
  have ht0 := htm2 0 (by omega) (by omega)
  rw [hat 0 (by omega) (by omega)] at ht0
  obtain ⟨p0, hp0⟩ : ∃ x, L[0]'(by omega) = x := ⟨_, rfl⟩
  obtain ⟨t0, ht⟩ : ∃ x, tmP f p0 = x := ⟨_, rfl⟩
  rw [hp0, ht] at l0 m0
  simp only [hp0, ht] at ht0
  rw [← lf, ← mf, hlen]
  clear lf mf ht
  replace hat := Lib.hid hat; replace l0 := Lib.hid l0; replace m0 := Lib.hid m0; replace lx := Lib.hid lx; replace mx := Lib.hid mx
  replace htm2 := Lib.hid htm2; replace ht0 := Lib.hid ht0; replace hp0 := Lib.hid hp0; replace hlen := Lib.hid hlen
  have v0 : (0 : Int) < (L.length : Int) := by omega
  have v8 : 0 < L.length := by omega
  have v9 : L ≠ [] := by rintro rfl; simp at h1
  go_enter Try.func82, Try.ntmps82
  go_upto_region 1 with (fail)
  refine wp_world fun W HW => ?_
  have hB : Below w.heap.size w W := by rw [HW.out]; (repeat (first | exact Below.refl _ _ | refine Below.alloc ?_ (by simp; try omega) _ | refine Below.setCell ?_ (by simp) _ | refine Below.drew ?_))
  have g0 : W.cell? ⟨w.heap.size, 0, none⟩ = some (.int .i64 f.x) := by rw [HW.out]; simp [go_sem]
  have g1 : W.cell? ⟨w.heap.size, 1, none⟩ = some (.int .i64 f.y) := by rw [HW.out]; simp [go_sem]
  have g2 : W.cell? ⟨w.heap.size, 2, none⟩ = some (.int .i64 f.z) := by rw [HW.out]; simp [go_sem]
  have gl : w.heap.size < W.heap.size := World.block_lt_of_cell? W _ g0
  try replace hp := up_of hB hp
  obtain ⟨b, off, rfl, hb, y0, y1, y2⟩ := hp.at (i := 0) (by omega)
  rw [hp0.out] at y0 y1 y2
  simp only [Nat.zero_mul, Nat.add_zero] at y0 y1 y2
  go_region_held3 (fun V => V.cell? ⟨w.heap.size, 0, none⟩ = some (.int .i64 f.x) ∧ V.cell? ⟨w.heap.size, 1, none⟩ = some (.int .i64 f.y) ∧ V.cell? ⟨w.heap.size, 2, none⟩ = some (.int .i64 f.z) ∧ V.cell? ⟨b, off, none⟩ = some (.int .i64 p0.x) ∧ V.cell? ⟨b, off + 1, none⟩ = some (.int .i64 p0.y) ∧ V.cell? ⟨b, off + 2, none⟩ = some (.int .i64 p0.z)) ((first | (with_reducible exact ⟨g0, g1, g2, y0, y1, y2⟩) | ((try dsimp only); (repeat' apply And.intro) <;> (repeat (first | (with_reducible assumption) | (with_reducible refine cell_set (by simp; try omega) ?_) | (with_reducible refine cell_drew ?_) | (with_reducible refine cell_alloc ?_ _)))))) ((first | (go_at_call 78; refine calls_below (W0 := W) ?_ fun hpre => ?_; (repeat (first | exact Below.refl _ _ | refine Below.alloc ?_ (by simp; try omega) _ | refine Below.drew ?_)); refine (ht0.out _).mono ?_; rintro e N1 ⟨rfl, hb1⟩; have hb := Up.trans hpre hb1; clear hpre; (first | have hs_N1 := below_alloc_lt hb1 | have hs_N1 := below_alloc_lt (drewB hb1) | skip); have gl_N1 := gl; (try replace hp := up_of hb hp); (try replace hB := up_of hb hB); (try replace g0 := up_of hb g0); (try replace g1 := up_of hb g1); (try replace g2 := up_of hb g2); (try replace gl := up_of hb gl); (try replace y0 := up_of hb y0); (try replace y1 := up_of hb y1); (try replace y2 := up_of hb y2); (first | have nB := new_up hb1 | have nB := new_up (drewB hb1) | (try replace nB := up_of hb nB))) | (go_at_call 78; refine calls_below (W0 := N1) ?_ fun hpre => ?_; (repeat (first | exact Below.refl _ _ | refine Below.alloc ?_ (by simp; try omega) _ | refine Below.drew ?_)); refine (ht0.out _).mono ?_; rintro e N2 ⟨rfl, hb1⟩; have hb := Up.trans hpre hb1; clear hpre; (first | have hs_N2 := below_alloc_lt hb1 | have hs_N2 := below_alloc_lt (drewB hb1) | skip); have gl_N2 := gl; (try replace hp := up_of hb hp); (try replace hB := up_of hb hB); (try replace g0 := up_of hb g0); (try replace g1 := up_of hb g1); (try replace g2 := up_of hb g2); (try replace gl := up_of hb gl); (try replace y0 := up_of hb y0); (try replace y1 := up_of hb y1); (try replace y2 := up_of hb y2); (first | have nB := new_up hb1 | have nB := new_up (drewB hb1) | (try replace nB := up_of hb nB)))))
  all_goals
    go_wp2
    go_loopw [5, 6, 21] (fun a c i V => ∃ j : Nat, j ≤ L.length ∧ i = .int .i64 j ∧ a = .int .i64 (fl j) ∧ c = .int .i64 (fh j) ∧ Below N2.heap.size N2 V) (fun _ _ i _ => L.length - (intOf i).toNat)
    case atStart => exact ⟨0, by omega, rfl, by rw [l0.out], by rw [m0.out], Below.refl _ _⟩
    case round =>
      obtain ⟨j, hj, rfl, rfl, rfl, hBV⟩ := hrel
      try replace hp := up_of hBV hp
      try replace hB := up_of hBV hB
      try replace g0 := up_of hBV g0
      try replace g1 := up_of hBV g1
      try replace g2 := up_of hBV g2
      try replace gl := up_of hBV gl
      try replace y0 := up_of hBV y0
      try replace y1 := up_of hBV y1
      try replace y2 := up_of hBV y2
      by_cases hlt : j < L.length
      · have hjT : j < T.length := by have := hlen.out; omega
        obtain ⟨b', off', e', hb', z0, z1, z2⟩ := hp.at hlt
        cases e'
        have htj := htm2.out j hlt hjT
        have e1 := lx.out j hjT
        have e2 := mx.out j hjT
        obtain ⟨tj, htj0⟩ : ∃ x, T[j] = x := ⟨_, rfl⟩
        obtain ⟨pj, hpj0⟩ : ∃ x, L[j] = x := ⟨_, rfl⟩
        simp only [htj0] at htj e1 e2
        simp only [hpj0] at htj z0 z1 z2
        clear htj0 hpj0
        replace htj := Lib.hid htj; replace e1 := Lib.hid e1; replace e2 := Lib.hid e2
        have i4 : (0 : Int) ≤ (j : Int) := by omega
        have i5 : (j : Int) < (L.length : Int) := by omega
        go_upto_region 5 with (fail)
        refine wp_world fun Y HY => ?_
        have hY : Below wr.heap.size wr Y := by rw [HY.out]; (repeat (first | exact Below.refl _ _ | refine Below.alloc ?_ (by simp; try omega) _ | refine Below.setCell ?_ (by simp) _ | refine Below.drew ?_))
        have x0 : Y.cell? ⟨wr.heap.size, 0, none⟩ = some (.int .i64 pj.x) := by rw [HY.out]; simp [go_sem]
        have x1 : Y.cell? ⟨wr.heap.size, 1, none⟩ = some (.int .i64 pj.y) := by rw [HY.out]; simp [go_sem]
        have x2 : Y.cell? ⟨wr.heap.size, 2, none⟩ = some (.int .i64 pj.z) := by rw [HY.out]; simp [go_sem]
        have xl : wr.heap.size < Y.heap.size := World.block_lt_of_cell? Y _ x0
        try replace hp := up_of hY hp
        try replace hB := up_of hY hB
        try replace g0 := up_of hY g0
        try replace g1 := up_of hY g1
        try replace g2 := up_of hY g2
        try replace gl := up_of hY gl
        try replace y0 := up_of hY y0
        try replace y1 := up_of hY y1
        try replace y2 := up_of hY y2
        try replace hBV := up_of hY hBV
        try have ld_g0 := World.block_lt_of_cell? _ _ g0
        try have ld_y0 := World.block_lt_of_cell? _ _ y0
        try have ld_x0 := World.block_lt_of_cell? _ _ x0
        refine region_q (by kernel_rfl) (by kernel_rfl) ?_
        dsimp only [List.toList_toArray]
        repeat (first
         | go_big_quiet_skip
         | (go_big_quiet_want
            first
            | (refine qq_det ?_
               apply Exists.intro; refine ⟨fun W' hW' => ?_, ?_⟩
               (· have hk := cellB hW'; go_simp; try (first | rfl | rw [if_pos (by omega)]))
               simp only [Act.put, List.setIfInBounds_toArray, List.set_cons_zero, List.set_cons_succ]; go_big_quiet_on)
            | (refine qq_call ?_
               apply Exists.intro; apply Exists.intro; refine ⟨fun W' hW' => ?_, ?_⟩
               (· have hk := cellB hW'; go_simp; exact ⟨rfl, rfl⟩)
               apply Exists.intro; refine ⟨fun W' hW' => ?_, ?_⟩
               (· first | (go_at_call 78; exact qc hW' (htj.out _)))
               simp only [Act.put, List.setIfInBounds_toArray, List.set_cons_zero, List.set_cons_succ]; go_big_quiet_on)))
        refine wpQuiet_nil ?_
        intro Z hb
        try replace hp := up_of hb hp
        try replace hB := up_of hb hB
        try replace g0 := up_of hb g0
        try replace g1 := up_of hb g1
        try replace g2 := up_of hb g2
        try replace gl := up_of hb gl
        try replace y0 := up_of hb y0
        try replace y1 := up_of hb y1
        try replace y2 := up_of hb y2
        try replace hBV := up_of hb hBV
        try replace hY := up_of hb hY
        try replace x0 := up_of hb x0
        try replace x1 := up_of hb x1
        try replace x2 := up_of hb x2
        try replace xl := up_of hb xl
        go_wp2
        go_roundw
        case rel => exact ⟨j + 1, by omega, rfl, congrArg (Value.int .i64) (by rw [e1.out]; (first | rfl | ((repeat' split) <;> omega))), congrArg (Value.int .i64) (by rw [e2.out]; (first | rfl | ((repeat' split) <;> omega))), hBV⟩
        case measure => exact meas hlt
      · obtain rfl : j = L.length := by omega
        go_wp2
        go_ret
        exact ⟨rfl, hB⟩
set_option maxRecDepth 100000 in
set_option maxHeartbeats 2000000 in
theorem widest_c (s : Option Addr) (cap : Nat) (T : List Int) (w : World) (hp : SlS intE w s T) (h1 : 1 ≤ T.length) (hl : T.length ≤ 9223372036854775807) :
    Calls Try.prog 83 #[.slice s T.length cap] w fun e w' => e = .returned (.int .i64 (wrap64 (hiL T - loL T))) ∧ Below w.heap.size w w' := by
  obtain ⟨fl, l0, lx, lf⟩ := lo_seq (T := T) (by omega)
  obtain ⟨fh, m0, mx, mf⟩ := hi_seq (T := T) (by omega)
  rw [← lf, ← mf]
  clear lf mf
  obtain ⟨t0, ht⟩ : ∃ x, T[0]'(by omega) = x := ⟨_, rfl⟩
  rw [ht] at l0 m0
  have v0 : (0 : Int) < (T.length : Int) := by omega
  have v8 : 0 < T.length := by omega
  have v9 : T ≠ [] := by rintro rfl; simp at h1
  replace l0 := Lib.hid l0; replace m0 := Lib.hid m0; replace lx := Lib.hid lx; replace mx := Lib.hid mx; replace ht := Lib.hid ht
  go_enter Try.func83, Try.ntmps83
  go_upto_region 1 with (fail)
  refine wp_world fun W HW => ?_
  have hB : Below w.heap.size w W := by rw [HW.out]; (repeat (first | exact Below.refl _ _ | refine Below.alloc ?_ (by simp; try omega) _ | refine Below.setCell ?_ (by simp) _ | refine Below.drew ?_))
  try replace hp := up_of hB hp
  obtain ⟨b, off, rfl, hb, y0⟩ := hp.int_at (i := 0) (by omega)
  rw [ht.out] at y0
  simp only [Nat.add_zero] at y0
  try have ld_y0 := World.block_lt_of_cell? _ _ y0
  refine region_q (by kernel_rfl) (by kernel_rfl) ?_
  dsimp only [List.toList_toArray]
  repeat (first
   | go_big_quiet_skip
   | (go_big_quiet_want
      first
      | (refine qq_det ?_
         apply Exists.intro; refine ⟨fun W' hW' => ?_, ?_⟩
         (· have hk := cellB hW'; go_simp; try (first | rfl | rw [if_pos (by omega)]))
         simp only [Act.put, List.setIfInBounds_toArray, List.set_cons_zero, List.set_cons_succ]; go_big_quiet_on)))
  refine wpQuiet_nil ?_
  intro N2 hb
  try replace hp := up_of hb hp
  try replace hB := up_of hb hB
  try replace y0 := up_of hb y0
  go_wp2
  go_loopw [3, 4, 15] (fun a c i V => ∃ j : Nat, j ≤ T.length ∧ i = .int .i64 j ∧ a = .int .i64 (fl j) ∧ c = .int .i64 (fh j) ∧ Below N2.heap.size N2 V) (fun _ _ i _ => T.length - (intOf i).toNat)
  case atStart => exact ⟨0, by omega, rfl, by rw [l0.out], by rw [m0.out], Below.refl _ _⟩
  case round =>
    obtain ⟨j, hj, rfl, rfl, rfl, hBV⟩ := hrel
    try replace hp := up_of hBV hp
    try replace hB := up_of hBV hB
    try replace y0 := up_of hBV y0
    by_cases hlt : j < T.length
    · obtain ⟨b', off', e', hb', z0⟩ := hp.int_at hlt
      cases e'
      have e1 := lx.out j hlt
      have e2 := mx.out j hlt
      obtain ⟨tj, htj0⟩ : ∃ x, T[j] = x := ⟨_, rfl⟩
      rw [htj0] at z0 e1 e2
      clear htj0
      replace e1 := Lib.hid e1; replace e2 := Lib.hid e2
      have i4 : (0 : Int) ≤ (j : Int) := by omega
      have i5 : (j : Int) < (T.length : Int) := by omega
      go_wp2
      go_roundw
      case rel => exact ⟨j + 1, by omega, rfl, congrArg (Value.int .i64) (by rw [e1.out]; (first | rfl | ((repeat' split) <;> omega))), congrArg (Value.int .i64) (by rw [e2.out]; (first | rfl | ((repeat' split) <;> omega))), hBV⟩
      case measure => exact meas hlt
    · obtain rfl : j = T.length := by omega
      go_wp2
      go_ret
      exact ⟨rfl, hB⟩
end Go.Proofs.Ytbpdgoedglkefaa
