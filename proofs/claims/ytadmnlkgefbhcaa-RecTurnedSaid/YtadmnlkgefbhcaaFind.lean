/- Where an element is: the program. -/
import Derived.Test.YtadmnlkgefbhcaaNet2
import Derived.Test.YtadmnlkgefbhcaaOf2
namespace Go.Proofs.Ytadmnlkgefbhcaa
open Go.RowKit Go.Maps

section
variable {g : Nat} {n : Int} {s : Option Addr} {cap : Nat} {l : List Iq} {s2 : Option Addr} {cq : Nat} {K : List Vv} {sp : Option Addr} {cp mb : Nat} {P : List Pt}
theorem isEl_in (K : List Vv) (P : List Pt) (y : Ar) : isEl K P y.v y.p = (isIn P y && bw 0 y.v (K.length - 1)) := rfl
set_option maxRecDepth 100000 in
set_option maxHeartbeats 1000000 in
theorem find_c (y : Ar) (w : World) (h : Net 106 w g n s cap l s2 cq K sp cp mb P) (ok : NetOk n K P) (hy : y.p.I64) :
    Calls Try.prog 56 #[.pointer (some ⟨g, 0, none⟩), .agg #[.int .i64 y.v, .int .i64 y.p.x, .int .i64 y.p.y, .int .i64 y.p.z]] w fun e w' => (∃ z, e = .returned (.tuple #[.int .i64 z, .bool (isEl K P y.v y.p)]) ∧ (isEl K P y.v y.p = true → z = (elNum P y : Nat) ∧ elNum P y < K.length * P.length ∧ elOf P (elNum P y) = y)) ∧ Below w.heap.size w w' := by
  have hlk := fun V (h : Net 106 V g n s cap l s2 cq K sp cp mb P) => (h.look ok hy).1
  have hkl := ok.vars
  have hPl := ok.len
  have hNs := ok.size
  have hil := pix_lt (P := P) (p := y.p)
  have hfin : isEl K P y.v y.p = true → IntKind.i64.wrap (IntKind.i64.wrap (y.v * (P.length : Int)) + ((pix P y.p).getD 0 : Nat)) = (elNum P y : Nat) ∧ elNum P y < K.length * P.length ∧ elOf P (elNum P y) = y := fun he => by
    rw [isEl_in, Bool.and_eq_true] at he
    obtain ⟨h1, h2⟩ := elOf_num ok he.2 he.1
    have hb := bw_iff.1 he.2
    refine ⟨?_, h2, h1⟩
    have e0 : elNum P y = y.v.toNat * P.length + (pix P y.p).getD 0 := rfl
    have e1 : y.v * (P.length : Int) = ((y.v.toNat * P.length : Nat) : Int) := by rw [Int.natCast_mul, Int.toNat_of_nonneg hb.1]
    rw [e1, i64_small (n := ((y.v.toNat * P.length : Nat) : Int)) (by omega), i64_small (by omega), e0]
    omega
  have hB0 : isEl K P y.v y.p = ((pix P y.p).isSome && bw 0 y.v (K.length - 1)) := rfl
  obtain ⟨FN, hFN⟩ : ∃ x, elNum P y = x := ⟨_, rfl⟩
  simp only [hFN] at hfin ⊢
  obtain ⟨QQ, hQQ⟩ : ∃ x, (FN < K.length * P.length ∧ elOf P FN = y) = x := ⟨_, rfl⟩
  rw [hQQ] at hfin ⊢
  rw [hB0] at hfin ⊢
  clear hB0 hFN hQQ
  obtain ⟨v, ⟨x, yy, z⟩⟩ := y
  simp only at hlk hfin hil ⊢
  obtain ⟨i, hi⟩ : ∃ i, (pix P ⟨x, yy, z⟩).getD 0 = i := ⟨_, rfl⟩
  obtain ⟨B, hB1⟩ : ∃ B, (pix P ⟨x, yy, z⟩).isSome = B := ⟨_, rfl⟩
  simp only [hi, hB1] at hlk hfin hil ⊢
  obtain ⟨A, hA⟩ : ∃ a, IntKind.i64.wrap (v * (P.length : Int)) = a := ⟨_, rfl⟩
  rw [hA] at hfin
  obtain ⟨Z, hZ⟩ : ∃ a, IntKind.i64.wrap (A + (i : Int)) = a := ⟨_, rfl⟩
  rw [hZ] at hfin
  have hbt := fun V => (recBetween_c 0 v (K.length - 1) V).mono (R' := fun e w' => e = .returned (.bool (bw 0 v (K.length - 1))) ∧ Below V.heap.size V w') (fun e w' ⟨h1, h2⟩ => ⟨h1, by rw [h2]; exact Below.refl _ _⟩)
  obtain ⟨XB, hXB⟩ : ∃ q, bw 0 v ((K.length : Int) - 1) = q := ⟨_, rfl⟩
  rw [hXB] at hfin ⊢
  simp only [hXB] at hbt
  have hk1 := i64_small (n := (K.length : Int) - 1) (by omega)
  obtain ⟨n0, n1, n2, n3, n4⟩ := h.cells
  replace hlk := Lib.hid hlk; replace hi := Lib.hid hi; replace hB1 := Lib.hid hB1; replace hXB := Lib.hid hXB; replace hfin := Lib.hid hfin; replace hbt := Lib.hid hbt
  clear hy
  have h0 := Lib.hid h
  clear h ok
  go_enter Try.func56, Try.ntmps56
  go_upto_region 1 with (fail)
  refine wp_world fun W HW => ?_
  have hB : Below w.heap.size w W := by rw [HW.out]; (repeat (first | exact Below.refl _ _ | refine Below.alloc ?_ (by simp; try omega) _ | refine Below.setCell ?_ (by simp) _ | refine Below.drew ?_))
  have q0 : W.cell? ⟨w.heap.size, 0, none⟩ = some (.int .i64 v) := by rw [HW.out]; simp [go_sem]
  have q1 : W.cell? ⟨w.heap.size, 1, none⟩ = some (.int .i64 x) := by rw [HW.out]; simp [go_sem]
  have q2 : W.cell? ⟨w.heap.size, 2, none⟩ = some (.int .i64 yy) := by rw [HW.out]; simp [go_sem]
  have q3 : W.cell? ⟨w.heap.size, 3, none⟩ = some (.int .i64 z) := by rw [HW.out]; simp [go_sem]
  have ql : w.heap.size < W.heap.size := World.block_lt_of_cell? W _ q0
  try replace h0 := up_of hB h0
  try replace n0 := up_of hB n0
  try replace n2 := up_of hB n2
  try replace n3 := up_of hB n3
  try replace n4 := up_of hB n4
  try have ld_h0 := World.block_lt_of_cell? _ _ h0
  try have ld_n0 := World.block_lt_of_cell? _ _ n0
  try have ld_q0 := World.block_lt_of_cell? _ _ q0
  refine region_q (by kernel_rfl) (by kernel_rfl) ?_
  dsimp only [List.toList_toArray]
  repeat (first
   | go_big_quiet_skip
   | (go_big_quiet_want
      first
      | (refine qq_det ?_
         apply Exists.intro; refine ⟨fun W' hW' => ?_, ?_⟩
         (· have hk := cellB hW'; have hlk9 := hlk.out W' (up_of hW' h0).out; go_simp; try (first | rfl | rw [if_pos (by omega)]))
         simp only [Act.put, List.setIfInBounds_toArray, List.set_cons_zero, List.set_cons_succ]; go_big_quiet_on)))
  refine wpQuiet_nil ?_
  intro X1 hb
  try replace h0 := up_of hb h0
  try replace n0 := up_of hb n0
  try replace n2 := up_of hb n2
  try replace n3 := up_of hb n3
  try replace n4 := up_of hb n4
  try replace hB := up_of hb hB
  try replace q0 := up_of hb q0
  try replace q1 := up_of hb q1
  try replace q2 := up_of hb q2
  try replace q3 := up_of hb q3
  try replace ql := up_of hb ql
  go_upto_region 2 with (fail)
  cases B
  · try have ld_h0 := World.block_lt_of_cell? _ _ h0
    try have ld_n0 := World.block_lt_of_cell? _ _ n0
    try have ld_q0 := World.block_lt_of_cell? _ _ q0
    refine region_q (by kernel_rfl) (by kernel_rfl) ?_
    dsimp only [List.toList_toArray]
    repeat (first
     | go_big_quiet_skip
     | (go_big_quiet_want
        first
        | (refine qq_det ?_
           apply Exists.intro; refine ⟨fun W' hW' => ?_, ?_⟩
           (· have hk := cellB hW'; go_simp; try (first | rfl | rw [if_pos (by omega)]))
           simp only [Act.put, List.setIfInBounds_toArray, List.set_cons_zero, List.set_cons_succ]; go_big_quiet_on)))
    refine wpQuiet_nil ?_
    intro X2 hb
    try replace h0 := up_of hb h0
    try replace n0 := up_of hb n0
    try replace n2 := up_of hb n2
    try replace n3 := up_of hb n3
    try replace n4 := up_of hb n4
    try replace hB := up_of hb hB
    try replace q0 := up_of hb q0
    try replace q1 := up_of hb q1
    try replace q2 := up_of hb q2
    try replace q3 := up_of hb q3
    try replace ql := up_of hb ql
    go_wp2
    refine bodyPost_ret (results_tmp2 rfl _ _ _) rfl ?_
    first | exact ⟨⟨_, rfl, fun h => by cases h⟩, hB⟩ | exact ⟨⟨_, rfl⟩, hB⟩
  · try have ld_h0 := World.block_lt_of_cell? _ _ h0
    try have ld_n0 := World.block_lt_of_cell? _ _ n0
    try have ld_q0 := World.block_lt_of_cell? _ _ q0
    refine region_q (by kernel_rfl) (by kernel_rfl) ?_
    dsimp only [List.toList_toArray]
    repeat (first
     | go_big_quiet_skip
     | (go_big_quiet_want
        first
        | (refine qq_det ?_
           apply Exists.intro; refine ⟨fun W' hW' => ?_, ?_⟩
           (· have hk := cellB hW'; go_simp; try (first | rfl | rw [if_pos (by omega)]))
           simp only [Act.put, List.setIfInBounds_toArray, List.set_cons_zero, List.set_cons_succ]; go_big_quiet_on)
        | (refine qq_call ?_
           apply Exists.intro; apply Exists.intro; refine ⟨fun W' hW' => ?_, ?_⟩
           (· have hk := cellB hW'; go_simp; exact ⟨rfl, rfl⟩)
           apply Exists.intro; refine ⟨fun W' hW' => ?_, ?_⟩
           (· first | (go_at_call 63; exact qc hW' (hbt.out _)))
           simp only [Act.put, List.setIfInBounds_toArray, List.set_cons_zero, List.set_cons_succ]; go_big_quiet_on)))
    refine wpQuiet_nil ?_
    intro X2 hb
    try replace h0 := up_of hb h0
    try replace n0 := up_of hb n0
    try replace n2 := up_of hb n2
    try replace n3 := up_of hb n3
    try replace n4 := up_of hb n4
    try replace hB := up_of hb hB
    try replace q0 := up_of hb q0
    try replace q1 := up_of hb q1
    try replace q2 := up_of hb q2
    try replace q3 := up_of hb q3
    try replace ql := up_of hb ql
    go_wp2
    refine bodyPost_ret (results_tmp2 rfl _ _ _) rfl ?_
    refine ⟨⟨_, rfl, fun h => ?_⟩, hB⟩
    exact hfin.out h
end
end Go.Proofs.Ytadmnlkgefbhcaa
