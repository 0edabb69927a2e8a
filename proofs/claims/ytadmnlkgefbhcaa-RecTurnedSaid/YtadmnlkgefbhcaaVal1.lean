/- What operations make of their arguments: the program and the reference; first values in the reference. -/
import Derived.Test.YtadmnlkgefbhcaaNet1
namespace Go.Proofs.Ytadmnlkgefbhcaa
open Go.RowKit

theorem ints1 {w : World} {s : Option Addr} {l : List Int} (h : SlS intE w s l) (hl : l.length = 1) : ∃ a b off, l = [a] ∧ s = some ⟨b, off, none⟩ ∧ b < w.heap.size ∧ w.cell? ⟨b, off, none⟩ = some (.int .i64 a) := by
  match l, hl with
  | [a], _ =>
    obtain ⟨b, off, rfl, hb, h0⟩ := h.int_at (i := 0) (by simp)
    exact ⟨a, b, off, rfl, rfl, hb, h0⟩
theorem ints2 {w : World} {s : Option Addr} {l : List Int} (h : SlS intE w s l) (hl : l.length = 2) : ∃ a c b off, l = [a, c] ∧ s = some ⟨b, off, none⟩ ∧ b < w.heap.size ∧ w.cell? ⟨b, off, none⟩ = some (.int .i64 a) ∧ w.cell? ⟨b, off + 1, none⟩ = some (.int .i64 c) := by
  match l, hl with
  | [a, c], _ =>
    obtain ⟨b, off, rfl, hb, h0⟩ := h.int_at (i := 0) (by simp)
    obtain ⟨b', off', e, -, h1⟩ := h.int_at (i := 1) (by simp)
    cases e
    exact ⟨a, c, b, off, rfl, rfl, hb, h0, h1⟩
theorem ints3 {w : World} {s : Option Addr} {l : List Int} (h : SlS intE w s l) (hl : l.length = 3) : ∃ a c d b off, l = [a, c, d] ∧ s = some ⟨b, off, none⟩ ∧ b < w.heap.size ∧ w.cell? ⟨b, off, none⟩ = some (.int .i64 a) ∧ w.cell? ⟨b, off + 1, none⟩ = some (.int .i64 c) ∧ w.cell? ⟨b, off + 2, none⟩ = some (.int .i64 d) := by
  match l, hl with
  | [a, c, d], _ =>
    obtain ⟨b, off, rfl, hb, h0⟩ := h.int_at (i := 0) (by simp)
    obtain ⟨b', off', e, -, h1⟩ := h.int_at (i := 1) (by simp)
    cases e
    obtain ⟨b', off', e, -, h2⟩ := h.int_at (i := 2) (by simp)
    cases e
    exact ⟨a, c, d, b, off, rfl, rfl, hb, h0, h1, h2⟩
/-- Numbers of a value's range. -/
def Vb (l : List Int) : Prop := ∀ x ∈ l, 0 ≤ x ∧ x ≤ 10006
theorem mul_vb {a b : Int} (ha : 0 ≤ a ∧ a ≤ 10006) (hb : 0 ≤ b ∧ b ≤ 10006) : 0 ≤ a * b ∧ a * b ≤ 100120036 := by
  have := mul_bd2 (a := a) (b := b) (A := 10006) (B := 10006) (by omega) (by omega)
  have h2 : 0 ≤ a * b := Int.mul_nonneg ha.1 hb.1
  omega
theorem appl_mod {x : Int} (h : 0 ≤ x) : x.tmod 10007 = x % 10007 := Int.tmod_eq_emod_of_nonneg h
section
variable (s : Option Addr) (ca : Nat) (l : List Int) (w : World) (hs : SlS intE w s l) (hb : Vb l)
include hs hb
set_option maxRecDepth 100000 in
set_option maxHeartbeats 1000000 in
theorem do1_c (hl : l.length = 1) : Calls Try.prog 123 #[.slice s l.length ca] w fun e w' => e = .returned (.int .i64 (l.getD 0 0)) ∧ Below w.heap.size w w' := by
  obtain ⟨a, b, off, rfl, rfl, hbb, x0⟩ := ints1 hs hl
  clear hs hb
  go_enter Try.func123, Try.ntmps123
  go_wp2
  go_ret
  exact ⟨rfl, Below.refl _ _⟩
set_option maxRecDepth 100000 in
set_option maxHeartbeats 1000000 in
theorem do2_c (hl : l.length = 2) : Calls Try.prog 124 #[.slice s l.length ca] w fun e w' => e = .returned (.int .i64 (l.getD 0 0 + l.getD 1 0)) ∧ Below w.heap.size w w' := by
  obtain ⟨a, c, b, off, rfl, rfl, hbb, x0, x1⟩ := ints2 hs hl
  have ha := hb a (by simp); have hc := hb c (by simp)
  have hm := mul_vb ha hc
  have w0 : IntKind.i64.wrap (a + c) = a + c := i64_small (by omega)
  have hB : Below w.heap.size w w := Below.refl _ _
  clear hs hb
  go_enter Try.func124, Try.ntmps124
  go_upto_region 1 with (fail)
  try have ld_x0 := World.block_lt_of_cell? _ _ x0
  refine region_q (by kernel_rfl) (by kernel_rfl) ?_
  dsimp only [List.toList_toArray]
  repeat (first
   | go_big_quiet_skip
   | (go_big_quiet_want
      first
      | (refine qq_det ?_
         apply Exists.intro; refine ⟨fun W' hW' => ?_, ?_⟩
         (· have hk := cellB hW'; go_simp; try (first | rfl | rw [if_pos (by omega)]))
         simp only [Act.put, List.setIfInBounds_toArray, List.set_cons_zero, List.set_cons_succ]; go_big_quiet_on)))
  refine wpQuiet_nil ?_
  intro W1 hb
  try replace hB := up_of hb hB
  try replace x0 := up_of hb x0
  try replace x1 := up_of hb x1
  go_wp2
  all_goals
    go_ret
    first | exact ⟨rfl, hB⟩ | exact ⟨ret_int (by show _ = (_ : Int); simp only [List.getD_cons_zero, List.getD_cons_succ] at *; omega), hB⟩ | exact ⟨ret_int (by omega), hB⟩

set_option maxRecDepth 100000 in
set_option maxHeartbeats 1000000 in
theorem do3_c (hl : l.length = 2) : Calls Try.prog 125 #[.slice s l.length ca] w fun e w' => e = .returned (.int .i64 (l.getD 0 0 - l.getD 1 0)) ∧ Below w.heap.size w w' := by
  obtain ⟨a, c, b, off, rfl, rfl, hbb, x0, x1⟩ := ints2 hs hl
  have ha := hb a (by simp); have hc := hb c (by simp)
  have hm := mul_vb ha hc
  have w0 : IntKind.i64.wrap (a - c) = a - c := i64_small (by omega)
  have hB : Below w.heap.size w w := Below.refl _ _
  clear hs hb
  go_enter Try.func125, Try.ntmps125
  go_upto_region 1 with (fail)
  try have ld_x0 := World.block_lt_of_cell? _ _ x0
  refine region_q (by kernel_rfl) (by kernel_rfl) ?_
  dsimp only [List.toList_toArray]
  repeat (first
   | go_big_quiet_skip
   | (go_big_quiet_want
      first
      | (refine qq_det ?_
         apply Exists.intro; refine ⟨fun W' hW' => ?_, ?_⟩
         (· have hk := cellB hW'; go_simp; try (first | rfl | rw [if_pos (by omega)]))
         simp only [Act.put, List.setIfInBounds_toArray, List.set_cons_zero, List.set_cons_succ]; go_big_quiet_on)))
  refine wpQuiet_nil ?_
  intro W1 hb
  try replace hB := up_of hb hB
  try replace x0 := up_of hb x0
  try replace x1 := up_of hb x1
  go_wp2
  all_goals
    go_ret
    first | exact ⟨rfl, hB⟩ | exact ⟨ret_int (by show _ = (_ : Int); simp only [List.getD_cons_zero, List.getD_cons_succ] at *; omega), hB⟩ | exact ⟨ret_int (by omega), hB⟩

set_option maxRecDepth 100000 in
set_option maxHeartbeats 1000000 in
theorem do4_c (hl : l.length = 2) : Calls Try.prog 126 #[.slice s l.length ca] w fun e w' => e = .returned (.int .i64 (l.getD 0 0 * l.getD 1 0)) ∧ Below w.heap.size w w' := by
  obtain ⟨a, c, b, off, rfl, rfl, hbb, x0, x1⟩ := ints2 hs hl
  have ha := hb a (by simp); have hc := hb c (by simp)
  have hm := mul_vb ha hc
  have w0 : IntKind.i64.wrap (a * c) = a * c := i64_small (by omega)
  have hB : Below w.heap.size w w := Below.refl _ _
  clear hs hb
  go_enter Try.func126, Try.ntmps126
  go_upto_region 1 with (fail)
  try have ld_x0 := World.block_lt_of_cell? _ _ x0
  refine region_q (by kernel_rfl) (by kernel_rfl) ?_
  dsimp only [List.toList_toArray]
  repeat (first
   | go_big_quiet_skip
   | (go_big_quiet_want
      first
      | (refine qq_det ?_
         apply Exists.intro; refine ⟨fun W' hW' => ?_, ?_⟩
         (· have hk := cellB hW'; go_simp; try (first | rfl | rw [if_pos (by omega)]))
         simp only [Act.put, List.setIfInBounds_toArray, List.set_cons_zero, List.set_cons_succ]; go_big_quiet_on)))
  refine wpQuiet_nil ?_
  intro W1 hb
  try replace hB := up_of hb hB
  try replace x0 := up_of hb x0
  try replace x1 := up_of hb x1
  go_wp2
  all_goals
    go_ret
    first | exact ⟨rfl, hB⟩ | exact ⟨ret_int (by show _ = (_ : Int); simp only [List.getD_cons_zero, List.getD_cons_succ] at *; omega), hB⟩ | exact ⟨ret_int (by omega), hB⟩

set_option maxRecDepth 100000 in
set_option maxHeartbeats 1000000 in
theorem do6_c (hl : l.length = 2) : Calls Try.prog 128 #[.slice s l.length ca] w fun e w' => e = .returned (.int .i64 (max (l.getD 0 0) (l.getD 1 0))) ∧ Below w.heap.size w w' := by
  obtain ⟨a, c, b, off, rfl, rfl, hbb, x0, x1⟩ := ints2 hs hl
  have ha := hb a (by simp); have hc := hb c (by simp)
  have hm := mul_vb ha hc
  have w0 : IntKind.i64.wrap (a) = a := i64_small (by omega)
  have hB : Below w.heap.size w w := Below.refl _ _
  clear hs hb
  go_enter Try.func128, Try.ntmps128
  go_upto_region 1 with (fail)
  try have ld_x0 := World.block_lt_of_cell? _ _ x0
  refine region_q (by kernel_rfl) (by kernel_rfl) ?_
  dsimp only [List.toList_toArray]
  repeat (first
   | go_big_quiet_skip
   | (go_big_quiet_want
      first
      | (refine qq_det ?_
         apply Exists.intro; refine ⟨fun W' hW' => ?_, ?_⟩
         (· have hk := cellB hW'; go_simp; try (first | rfl | rw [if_pos (by omega)]))
         simp only [Act.put, List.setIfInBounds_toArray, List.set_cons_zero, List.set_cons_succ]; go_big_quiet_on)))
  refine wpQuiet_nil ?_
  intro W1 hb
  try replace hB := up_of hb hB
  try replace x0 := up_of hb x0
  try replace x1 := up_of hb x1
  go_wp2
  all_goals
    go_ret
    first | exact ⟨rfl, hB⟩ | exact ⟨ret_int (by show _ = (_ : Int); simp only [List.getD_cons_zero, List.getD_cons_succ] at *; omega), hB⟩ | exact ⟨ret_int (by omega), hB⟩

set_option maxRecDepth 100000 in
set_option maxHeartbeats 1000000 in
theorem do7_c (hl : l.length = 2) : Calls Try.prog 129 #[.slice s l.length ca] w fun e w' => e = .returned (.int .i64 (min (l.getD 0 0) (l.getD 1 0))) ∧ Below w.heap.size w w' := by
  obtain ⟨a, c, b, off, rfl, rfl, hbb, x0, x1⟩ := ints2 hs hl
  have ha := hb a (by simp); have hc := hb c (by simp)
  have hm := mul_vb ha hc
  have w0 : IntKind.i64.wrap (a) = a := i64_small (by omega)
  have hB : Below w.heap.size w w := Below.refl _ _
  clear hs hb
  go_enter Try.func129, Try.ntmps129
  go_upto_region 1 with (fail)
  try have ld_x0 := World.block_lt_of_cell? _ _ x0
  refine region_q (by kernel_rfl) (by kernel_rfl) ?_
  dsimp only [List.toList_toArray]
  repeat (first
   | go_big_quiet_skip
   | (go_big_quiet_want
      first
      | (refine qq_det ?_
         apply Exists.intro; refine ⟨fun W' hW' => ?_, ?_⟩
         (· have hk := cellB hW'; go_simp; try (first | rfl | rw [if_pos (by omega)]))
         simp only [Act.put, List.setIfInBounds_toArray, List.set_cons_zero, List.set_cons_succ]; go_big_quiet_on)))
  refine wpQuiet_nil ?_
  intro W1 hb
  try replace hB := up_of hb hB
  try replace x0 := up_of hb x0
  try replace x1 := up_of hb x1
  go_wp2
  all_goals
    go_ret
    first | exact ⟨rfl, hB⟩ | exact ⟨ret_int (by show _ = (_ : Int); simp only [List.getD_cons_zero, List.getD_cons_succ] at *; omega), hB⟩ | exact ⟨ret_int (by omega), hB⟩

set_option maxRecDepth 100000 in
set_option maxHeartbeats 1000000 in
theorem do5_c (hl : l.length = 3) : Calls Try.prog 127 #[.slice s l.length ca] w fun e w' => e = .returned (.int .i64 (l.getD 0 0 + l.getD 1 0 * l.getD 2 0)) ∧ Below w.heap.size w w' := by
  obtain ⟨a, c, d, b, off, rfl, rfl, hbb, x0, x1, x2⟩ := ints3 hs hl
  have ha := hb a (by simp); have hc := hb c (by simp); have hd := hb d (by simp)
  have hm := mul_vb hc hd
  have w0 : IntKind.i64.wrap (c * d) = c * d := i64_small (by omega)
  have w1 : IntKind.i64.wrap (a + c * d) = a + c * d := i64_small (by omega)
  have hB : Below w.heap.size w w := Below.refl _ _
  clear hs hb
  go_enter Try.func127, Try.ntmps127
  go_upto_region 1 with (fail)
  try have ld_x0 := World.block_lt_of_cell? _ _ x0
  refine region_q (by kernel_rfl) (by kernel_rfl) ?_
  dsimp only [List.toList_toArray]
  repeat (first
   | go_big_quiet_skip
   | (go_big_quiet_want
      first
      | (refine qq_det ?_
         apply Exists.intro; refine ⟨fun W' hW' => ?_, ?_⟩
         (· have hk := cellB hW'; go_simp; try (first | rfl | rw [if_pos (by omega)]))
         simp only [Act.put, List.setIfInBounds_toArray, List.set_cons_zero, List.set_cons_succ]; go_big_quiet_on)))
  refine wpQuiet_nil ?_
  intro W1 hb
  try replace hB := up_of hb hB
  try replace x0 := up_of hb x0
  try replace x1 := up_of hb x1
  try replace x2 := up_of hb x2
  go_wp2
  go_ret
  exact ⟨rfl, hB⟩
set_option maxRecDepth 100000 in
set_option maxHeartbeats 1000000 in
/-- What the operation of a valid variable makes of its arguments. -/
theorem do_c (op : Int) (h1 : 1 ≤ op ∧ op ≤ 7) (hl : l.length = needs op) : Calls Try.prog (kF op) #[.slice s l.length ca] w fun e w' => e = .returned (.int .i64 (applZ op l)) ∧ Below w.heap.size w w' := by
  have hc : op = 1 ∨ op = 2 ∨ op = 3 ∨ op = 4 ∨ op = 5 ∨ op = 6 ∨ op = 7 := by omega
  rcases hc with rfl | rfl | rfl | rfl | rfl | rfl | rfl
  · exact do1_c s ca l w hs hb hl
  · exact do2_c s ca l w hs hb hl
  · exact do3_c s ca l w hs hb hl
  · exact do4_c s ca l w hs hb hl
  · exact do5_c s ca l w hs hb hl
  · exact do6_c s ca l w hs hb hl
  · exact do7_c s ca l w hs hb hl
end
theorem applZ_bd {op : Int} {l : List Int} (hb : Vb l) : (applZ op l).natAbs ≤ 1000000000000 := by
  have hg : ∀ i, 0 ≤ l.getD i 0 ∧ l.getD i 0 ≤ 10006 := fun i => by
    rw [List.getD_eq_getElem?_getD]
    cases h : l[i]? with
    | none => simp
    | some x => exact hb x (List.mem_of_getElem? h)
  have h0 := hg 0; have h1 := hg 1; have h2 := hg 2
  have m1 := mul_vb h0 h1; have m2 := mul_vb h1 h2
  unfold applZ
  repeat' split
  all_goals omega
end Go.Proofs.Ytadmnlkgefbhcaa
