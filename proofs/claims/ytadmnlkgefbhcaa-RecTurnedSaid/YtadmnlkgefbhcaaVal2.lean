/- What operations make of their arguments: the reference; first values in the reference. -/
import Derived.Test.YtadmnlkgefbhcaaVal1
namespace Go.Proofs.Ytadmnlkgefbhcaa
open Go.RowKit

set_option maxRecDepth 100000 in
set_option maxHeartbeats 1000000 in
theorem apply2_c (s : Option Addr) (ca : Nat) (l : List Int) (w : World) (hs : SlS intE w s l) (hb : Vb l) (hl : l.length = 2) : Calls Try.prog 37 #[.int .i64 2, .slice s l.length ca] w fun e w' => e = .returned (.int .i64 (appl 2 l)) ∧ Below w.heap.size w w' := by
  obtain ⟨a, c, b, off, rfl, rfl, hbb, x0, x1⟩ := ints2 hs hl
  have ha := hb a (by simp); have hc := hb c (by simp)
  have hm := mul_vb ha hc
  have w0 : IntKind.i64.wrap (a + c) = a + c := i64_small (by omega)
  have w1 : IntKind.i64.wrap (a - c + 10007) = a - c + 10007 := i64_small (by omega)
  have hap : appl 2 [a, c] = (a + c) % 10007 := rfl
  have e1 : IntKind.i64.wrap ((a + c).tmod 10007) = (a + c) % 10007 := by
    rw [appl_mod (by omega), i64_small (by omega)]
  have hB : Below w.heap.size w w := Below.refl _ _
  rw [hap]
  clear hs hb hap
  go_enter Try.func37, Try.ntmps37
  go_upto_region 6 with (fail)
  try have ld_x0 := World.block_lt_of_cell? _ _ x0
  refine region_q (by kernel_rfl) (by kernel_rfl) ?_
  dsimp only [List.toList_toArray]
  repeat (first
   | go_big_quiet_skip
   | (go_big_quiet_want
      first
      | (refine qq_det ?_
         apply Exists.intro; refine ⟨fun W' hW' => ?_, ?_⟩
         (· have hk := cellB hW'; go_simp; try (first | rfl | rw [if_pos (by omega)]))
         simp only [Act.put, List.setIfInBounds_toArray, List.set_cons_zero, List.set_cons_succ]; go_big_quiet_on)))
  refine wpQuiet_nil ?_
  intro W1 hb
  try replace hB := up_of hb hB
  try replace x0 := up_of hb x0
  try replace x1 := up_of hb x1
  go_wp2
  go_ret
  exact ⟨rfl, hB⟩

set_option maxRecDepth 100000 in
set_option maxHeartbeats 1000000 in
theorem apply3_c (s : Option Addr) (ca : Nat) (l : List Int) (w : World) (hs : SlS intE w s l) (hb : Vb l) (hl : l.length = 2) : Calls Try.prog 37 #[.int .i64 3, .slice s l.length ca] w fun e w' => e = .returned (.int .i64 (appl 3 l)) ∧ Below w.heap.size w w' := by
  obtain ⟨a, c, b, off, rfl, rfl, hbb, x0, x1⟩ := ints2 hs hl
  have ha := hb a (by simp); have hc := hb c (by simp)
  have hm := mul_vb ha hc
  have w0 : IntKind.i64.wrap (a - c) = a - c := i64_small (by omega)
  have w1 : IntKind.i64.wrap (a - c + 10007) = a - c + 10007 := i64_small (by omega)
  have hap : appl 3 [a, c] = (a - c) % 10007 := rfl
  have e1 : IntKind.i64.wrap ((a - c + 10007).tmod 10007) = (a - c) % 10007 := by
    rw [appl_mod (by omega), i64_small (by omega)]; omega
  have hB : Below w.heap.size w w := Below.refl _ _
  rw [hap]
  clear hs hb hap
  go_enter Try.func37, Try.ntmps37
  go_upto_region 8 with (fail)
  try have ld_x0 := World.block_lt_of_cell? _ _ x0
  refine region_q (by kernel_rfl) (by kernel_rfl) ?_
  dsimp only [List.toList_toArray]
  repeat (first
   | go_big_quiet_skip
   | (go_big_quiet_want
      first
      | (refine qq_det ?_
         apply Exists.intro; refine ⟨fun W' hW' => ?_, ?_⟩
         (· have hk := cellB hW'; go_simp; try (first | rfl | rw [if_pos (by omega)]))
         simp only [Act.put, List.setIfInBounds_toArray, List.set_cons_zero, List.set_cons_succ]; go_big_quiet_on)))
  refine wpQuiet_nil ?_
  intro W1 hb
  try replace hB := up_of hb hB
  try replace x0 := up_of hb x0
  try replace x1 := up_of hb x1
  go_wp2
  go_ret
  exact ⟨rfl, hB⟩

set_option maxRecDepth 100000 in
set_option maxHeartbeats 1000000 in
theorem apply4_c (s : Option Addr) (ca : Nat) (l : List Int) (w : World) (hs : SlS intE w s l) (hb : Vb l) (hl : l.length = 2) : Calls Try.prog 37 #[.int .i64 4, .slice s l.length ca] w fun e w' => e = .returned (.int .i64 (appl 4 l)) ∧ Below w.heap.size w w' := by
  obtain ⟨a, c, b, off, rfl, rfl, hbb, x0, x1⟩ := ints2 hs hl
  have ha := hb a (by simp); have hc := hb c (by simp)
  have hm := mul_vb ha hc
  have w0 : IntKind.i64.wrap (a * c) = a * c := i64_small (by omega)
  have w1 : IntKind.i64.wrap (a - c + 10007) = a - c + 10007 := i64_small (by omega)
  have hap : appl 4 [a, c] = (a * c) % 10007 := rfl
  have e1 : IntKind.i64.wrap ((a * c).tmod 10007) = (a * c) % 10007 := by
    rw [appl_mod (by omega), i64_small (by omega)]
  have hB : Below w.heap.size w w := Below.refl _ _
  rw [hap]
  clear hs hb hap
  go_enter Try.func37, Try.ntmps37
  go_upto_region 10 with (fail)
  try have ld_x0 := World.block_lt_of_cell? _ _ x0
  refine region_q (by kernel_rfl) (by kernel_rfl) ?_
  dsimp only [List.toList_toArray]
  repeat (first
   | go_big_quiet_skip
   | (go_big_quiet_want
      first
      | (refine qq_det ?_
         apply Exists.intro; refine ⟨fun W' hW' => ?_, ?_⟩
         (· have hk := cellB hW'; go_simp; try (first | rfl | rw [if_pos (by omega)]))
         simp only [Act.put, List.setIfInBounds_toArray, List.set_cons_zero, List.set_cons_succ]; go_big_quiet_on)))
  refine wpQuiet_nil ?_
  intro W1 hb
  try replace hB := up_of hb hB
  try replace x0 := up_of hb x0
  try replace x1 := up_of hb x1
  go_wp2
  go_ret
  exact ⟨rfl, hB⟩

set_option maxRecDepth 100000 in
set_option maxHeartbeats 1000000 in
theorem apply6_c (s : Option Addr) (ca : Nat) (l : List Int) (w : World) (hs : SlS intE w s l) (hb : Vb l) (hl : l.length = 2) : Calls Try.prog 37 #[.int .i64 6, .slice s l.length ca] w fun e w' => e = .returned (.int .i64 (appl 6 l)) ∧ Below w.heap.size w w' := by
  obtain ⟨a, c, b, off, rfl, rfl, hbb, x0, x1⟩ := ints2 hs hl
  have ha := hb a (by simp); have hc := hb c (by simp)
  have hap : appl 6 [a, c] = (max a c) % 10007 := rfl
  have e1 : IntKind.i64.wrap (a.tmod 10007) = a % 10007 := by
    rw [appl_mod (by omega), i64_small (by omega)]
  have e2 : IntKind.i64.wrap (c.tmod 10007) = c % 10007 := by
    rw [appl_mod (by omega), i64_small (by omega)]
  have hB : Below w.heap.size w w := Below.refl _ _
  rw [hap]
  clear hs hb hap
  go_enter Try.func37, Try.ntmps37
  go_upto_region 14 with (fail)
  try have ld_x0 := World.block_lt_of_cell? _ _ x0
  refine region_q (by kernel_rfl) (by kernel_rfl) ?_
  dsimp only [List.toList_toArray]
  repeat (first
   | go_big_quiet_skip
   | (go_big_quiet_want
      first
      | (refine qq_det ?_
         apply Exists.intro; refine ⟨fun W' hW' => ?_, ?_⟩
         (· have hk := cellB hW'; go_simp; try (first | rfl | rw [if_pos (by omega)]))
         simp only [Act.put, List.setIfInBounds_toArray, List.set_cons_zero, List.set_cons_succ]; go_big_quiet_on)))
  refine wpQuiet_nil ?_
  intro W1 hb
  try replace hB := up_of hb hB
  try replace x0 := up_of hb x0
  try replace x1 := up_of hb x1
  go_wp2
  all_goals
    go_ret
    first | exact ⟨rfl, hB⟩ | exact ⟨ret_int (by omega), hB⟩

set_option maxRecDepth 100000 in
set_option maxHeartbeats 1000000 in
theorem apply7_c (s : Option Addr) (ca : Nat) (l : List Int) (w : World) (hs : SlS intE w s l) (hb : Vb l) (hl : l.length = 2) : Calls Try.prog 37 #[.int .i64 7, .slice s l.length ca] w fun e w' => e = .returned (.int .i64 (appl 7 l)) ∧ Below w.heap.size w w' := by
  obtain ⟨a, c, b, off, rfl, rfl, hbb, x0, x1⟩ := ints2 hs hl
  have ha := hb a (by simp); have hc := hb c (by simp)
  have hap : appl 7 [a, c] = (min a c) % 10007 := rfl
  have e1 : IntKind.i64.wrap (a.tmod 10007) = a % 10007 := by
    rw [appl_mod (by omega), i64_small (by omega)]
  have e2 : IntKind.i64.wrap (c.tmod 10007) = c % 10007 := by
    rw [appl_mod (by omega), i64_small (by omega)]
  have hB : Below w.heap.size w w := Below.refl _ _
  rw [hap]
  clear hs hb hap
  go_enter Try.func37, Try.ntmps37
  go_upto_region 16 with (fail)
  try have ld_x0 := World.block_lt_of_cell? _ _ x0
  refine region_q (by kernel_rfl) (by kernel_rfl) ?_
  dsimp only [List.toList_toArray]
  repeat (first
   | go_big_quiet_skip
   | (go_big_quiet_want
      first
      | (refine qq_det ?_
         apply Exists.intro; refine ⟨fun W' hW' => ?_, ?_⟩
         (· have hk := cellB hW'; go_simp; try (first | rfl | rw [if_pos (by omega)]))
         simp only [Act.put, List.setIfInBounds_toArray, List.set_cons_zero, List.set_cons_succ]; go_big_quiet_on)))
  refine wpQuiet_nil ?_
  intro W1 hb
  try replace hB := up_of hb hB
  try replace x0 := up_of hb x0
  try replace x1 := up_of hb x1
  go_wp2
  all_goals
    go_ret
    first | exact ⟨rfl, hB⟩ | exact ⟨ret_int (by omega), hB⟩

set_option maxRecDepth 100000 in
set_option maxHeartbeats 1000000 in
theorem apply1_c (s : Option Addr) (ca : Nat) (l : List Int) (w : World) (hs : SlS intE w s l) (hb : Vb l) (hl : l.length = 1) : Calls Try.prog 37 #[.int .i64 1, .slice s l.length ca] w fun e w' => e = .returned (.int .i64 (appl 1 l)) ∧ Below w.heap.size w w' := by
  obtain ⟨a, b, off, rfl, rfl, hbb, x0⟩ := ints1 hs hl
  have ha := hb a (by simp)
  have hap : appl 1 [a] = a % 10007 := rfl
  have e1 : IntKind.i64.wrap (a.tmod 10007) = a % 10007 := by
    rw [appl_mod (by omega), i64_small (by omega)]
  have hB : Below w.heap.size w w := Below.refl _ _
  rw [hap]
  clear hs hb hap
  go_enter Try.func37, Try.ntmps37
  go_wp2
  go_ret
  exact ⟨rfl, hB⟩
set_option maxRecDepth 100000 in
set_option maxHeartbeats 1000000 in
theorem apply5_c (s : Option Addr) (ca : Nat) (l : List Int) (w : World) (hs : SlS intE w s l) (hb : Vb l) (hl : l.length = 3) : Calls Try.prog 37 #[.int .i64 5, .slice s l.length ca] w fun e w' => e = .returned (.int .i64 (appl 5 l)) ∧ Below w.heap.size w w' := by
  obtain ⟨a, c, d, b, off, rfl, rfl, hbb, x0, x1, x2⟩ := ints3 hs hl
  have ha := hb a (by simp); have hc := hb c (by simp); have hd := hb d (by simp)
  have hm := mul_vb hc hd
  have w0 : IntKind.i64.wrap (c * d) = c * d := i64_small (by omega)
  have w1 : IntKind.i64.wrap (a + c * d) = a + c * d := i64_small (by omega)
  have hap : appl 5 [a, c, d] = (a + c * d) % 10007 := rfl
  have e1 : IntKind.i64.wrap ((a + c * d).tmod 10007) = (a + c * d) % 10007 := by
    rw [appl_mod (by omega), i64_small (by omega)]
  have hB : Below w.heap.size w w := Below.refl _ _
  rw [hap]
  clear hs hb hap
  go_enter Try.func37, Try.ntmps37
  go_upto_region 12 with (fail)
  try have ld_x0 := World.block_lt_of_cell? _ _ x0
  refine region_q (by kernel_rfl) (by kernel_rfl) ?_
  dsimp only [List.toList_toArray]
  repeat (first
   | go_big_quiet_skip
   | (go_big_quiet_want
      first
      | (refine qq_det ?_
         apply Exists.intro; refine ⟨fun W' hW' => ?_, ?_⟩
         (· have hk := cellB hW'; go_simp; try (first | rfl | rw [if_pos (by omega)]))
         simp only [Act.put, List.setIfInBounds_toArray, List.set_cons_zero, List.set_cons_succ]; go_big_quiet_on)))
  refine wpQuiet_nil ?_
  intro W1 hb
  try replace hB := up_of hb hB
  try replace x0 := up_of hb x0
  try replace x1 := up_of hb x1
  try replace x2 := up_of hb x2
  go_wp2
  go_ret
  exact ⟨rfl, hB⟩
theorem Apply_c (op : Int) (s : Option Addr) (ca : Nat) (l : List Int) (w : World) (hs : SlS intE w s l) (hb : Vb l) (h1 : 1 ≤ op ∧ op ≤ 7) (hl : l.length = needs op) : Calls Try.prog 37 #[.int .i64 op, .slice s l.length ca] w fun e w' => e = .returned (.int .i64 (appl op l)) ∧ Below w.heap.size w w' := by
  have hc : op = 1 ∨ op = 2 ∨ op = 3 ∨ op = 4 ∨ op = 5 ∨ op = 6 ∨ op = 7 := by omega
  rcases hc with rfl | rfl | rfl | rfl | rfl | rfl | rfl
  · exact apply1_c s ca l w hs hb hl
  · exact apply2_c s ca l w hs hb hl
  · exact apply3_c s ca l w hs hb hl
  · exact apply4_c s ca l w hs hb hl
  · exact apply5_c s ca l w hs hb hl
  · exact apply6_c s ca l w hs hb hl
  · exact apply7_c s ca l w hs hb hl
set_option maxRecDepth 100000 in
set_option maxHeartbeats 1000000 in
theorem rfirst_c (v : Vv) (sa : Option Addr) (la ca : Nat) (p : Pt) (w : World) (hv : v.small) (hp : p.small 1000) :
    Calls Try.prog 69 #[.agg #[.string v.name, .int .i64 v.op, .slice sa la ca, .int .i64 v.i0, .int .i64 v.i1, .int .i64 v.i2, .int .i64 v.i3], .agg #[.int .i64 p.x, .int .i64 p.y, .int .i64 p.z]] w fun e w' => e = .returned (.int .i64 (frst v p)) ∧ Below w.heap.size w w' := by
  obtain ⟨a1, a2, a3⟩ := frst_bds hv hp
  obtain ⟨b0, b1, b2, b3⟩ := hv
  have hfr : frst v p = (v.i0 + v.i1 * p.x + v.i2 * p.y + v.i3 * p.z) % 10007 := rfl
  rw [hfr]
  clear hfr
  obtain ⟨name, op, args, i0, i1, i2, i3⟩ := v
  obtain ⟨x, y, z⟩ := p
  simp only at a1 a2 a3 b0 b1 b2 b3 ⊢
  obtain ⟨m1, hm1⟩ : ∃ m, i1 * x = m := ⟨_, rfl⟩
  obtain ⟨m2, hm2⟩ : ∃ m, i2 * y = m := ⟨_, rfl⟩
  obtain ⟨m3, hm3⟩ : ∃ m, i3 * z = m := ⟨_, rfl⟩
  rw [hm1] at a1; rw [hm2] at a2; rw [hm3] at a3
  rw [hm1, hm2, hm3]
  have t1 : IntKind.i64.wrap (i1 * x) = m1 := by rw [hm1]; exact i64_small (by omega)
  have t2 : IntKind.i64.wrap (i2 * y) = m2 := by rw [hm2]; exact i64_small (by omega)
  have t3 : IntKind.i64.wrap (i3 * z) = m3 := by rw [hm3]; exact i64_small (by omega)
  have u1 : IntKind.i64.wrap (i0 + m1) = i0 + m1 := i64_small (by omega)
  have u2 : IntKind.i64.wrap (i0 + m1 + m2) = i0 + m1 + m2 := i64_small (by omega)
  have u3 : IntKind.i64.wrap (i0 + m1 + m2 + m3) = i0 + m1 + m2 + m3 := i64_small (by omega)
  have h1 := mod_law (i0 + m1 + m2 + m3)
  have h0 : ((i0 + m1 + m2 + m3).tmod 10007).natAbs < 10007 := by
    rw [Int.natAbs_tmod]; exact Nat.mod_lt _ (by decide)
  have k2 : IntKind.i64.wrap ((i0 + m1 + m2 + m3).tmod 10007 + 10007) = (i0 + m1 + m2 + m3).tmod 10007 + 10007 := i64_small (by omega)
  replace h1 := Lib.hid h1
  clear a1 a2 a3 b0 b1 b2 b3 hm1 hm2 hm3 h0
  go_enter Try.func69, Try.ntmps69
  go_upto_region 1 with (fail)
  refine wp_world fun W HW => ?_
  have hB : Below w.heap.size w W := by rw [HW.out]; (repeat (first | exact Below.refl _ _ | refine Below.alloc ?_ (by simp; try omega) _ | refine Below.setCell ?_ (by simp) _ | refine Below.drew ?_))
  have v0 : W.cell? ⟨w.heap.size, 0, none⟩ = some (.string name) := by rw [HW.out]; simp [go_sem]
  have v1 : W.cell? ⟨w.heap.size, 1, none⟩ = some (.int .i64 op) := by rw [HW.out]; simp [go_sem]
  have v2 : W.cell? ⟨w.heap.size, 2, none⟩ = some (.slice sa la ca) := by rw [HW.out]; simp [go_sem]
  have v3 : W.cell? ⟨w.heap.size, 3, none⟩ = some (.int .i64 i0) := by rw [HW.out]; simp [go_sem]
  have v4 : W.cell? ⟨w.heap.size, 4, none⟩ = some (.int .i64 i1) := by rw [HW.out]; simp [go_sem]
  have v5 : W.cell? ⟨w.heap.size, 5, none⟩ = some (.int .i64 i2) := by rw [HW.out]; simp [go_sem]
  have v6 : W.cell? ⟨w.heap.size, 6, none⟩ = some (.int .i64 i3) := by rw [HW.out]; simp [go_sem]
  have vl : w.heap.size < W.heap.size := World.block_lt_of_cell? W _ v0
  have q0 : W.cell? ⟨w.heap.size + 1, 0, none⟩ = some (.int .i64 x) := by rw [HW.out]; simp [go_sem]
  have q1 : W.cell? ⟨w.heap.size + 1, 1, none⟩ = some (.int .i64 y) := by rw [HW.out]; simp [go_sem]
  have q2 : W.cell? ⟨w.heap.size + 1, 2, none⟩ = some (.int .i64 z) := by rw [HW.out]; simp [go_sem]
  have ql : w.heap.size + 1 < W.heap.size := World.block_lt_of_cell? W _ q0
  go_wp2
  go_ret
  exact ⟨ret_int h1.out, hB⟩
end Go.Proofs.Ytadmnlkgefbhcaa
