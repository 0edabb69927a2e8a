/- Valid variables: the second reference's validVar. -/
import Derived.Test.YtakbpjgnjfigcaaGreatB3
import Derived.Test.YtakbpjgnjfigcaaGreatPtGet
namespace Go.Proofs.YtakbpjgnjfigcaaGreat
open Go.RowKit Go.Maps

set_option maxRecDepth 100000 in
set_option maxHeartbeats 2000000 in
theorem Needs_c (op : Int) (w : World) : Calls Tryz.prog 68 #[.int .i64 op] w fun e w' => e = .returned (.int .i64 (needs op : Nat)) ∧ w = w' := by
  by_cases h : op = 1 ∨ op = 2 ∨ op = 3 ∨ op = 4 ∨ op = 5 ∨ op = 6 ∨ op = 7
  · rcases h with rfl | rfl | rfl | rfl | rfl | rfl | rfl
    all_goals
      go_enter Tryz.func68, Tryz.ntmps68
      go_wp2
      go_ret
      exact ⟨rfl, rfl⟩
  · have hn : needs op = 0 := needs_out (by omega)
    rw [hn]
    clear hn
    have h1 : (op == 1) = false := by simp; omega
    have h2 : (op == 2) = false := by simp; omega
    have h3 : (op == 3) = false := by simp; omega
    have h4 : (op == 4) = false := by simp; omega
    have h5 : (op == 5) = false := by simp; omega
    have h6 : (op == 6) = false := by simp; omega
    have h7 : (op == 7) = false := by simp; omega
    go_enter Tryz.func68, Tryz.ntmps68
    go_wp2
    go_ret
    exact ⟨rfl, rfl⟩
/-- A variable's validity without its name's. -/
def vrB (vars n : Int) (v : Vv) : Bool := decide (needs v.op ≠ 0) && (decide (v.args.length = needs v.op) && (initB v n && v.args.all (argC vars n)))
theorem varB_vr (vars n : Int) (v : Vv) : varB vars n v = (nameB v.name && vrB vars n v) := by
  unfold varB vrB
  cases nameB v.name <;> simp
theorem vr_ways (vars n : Int) (v : Vv) : (needs v.op = 0 ∧ vrB vars n v = false) ∨ (needs v.op ≠ 0 ∧ v.args.length ≠ needs v.op ∧ vrB vars n v = false) ∨ (needs v.op ≠ 0 ∧ v.args.length = needs v.op ∧ vrB vars n v = (initB v n && v.args.all (argC vars n))) := by
  unfold vrB
  by_cases h1 : needs v.op = 0
  · exact .inl ⟨h1, by simp [h1]⟩
  · by_cases h2 : v.args.length = needs v.op
    · exact .inr (.inr ⟨h1, h2, by simp [h1, h2]⟩)
    · exact .inr (.inl ⟨h1, h2, by simp [h2]⟩)
theorem bw_no {a n b : Int} (h : bw a n b = false) : n < a ∨ b < n := by
  by_cases h1 : a ≤ n ∧ n ≤ b
  · rw [bw_iff.2 h1] at h; cases h
  · omega
set_option maxRecDepth 100000 in
set_option maxHeartbeats 4000000 in
theorem validVar2_c (v : Vv) (sa : Option Addr) (ca : Nat) (n : Nat) (s : Option Addr) (len cap : Nat) (s2 : Option Addr) (vars cq : Nat) (w : World) (hs : SlS arE w sa v.args) (hl : v.args.length ≤ 9223372036854775807) (_hn : 1 ≤ n ∧ n ≤ 3) (_hv : 1 ≤ vars ∧ vars ≤ 4) :
    Calls Tryz.prog 29 #[.agg #[.int .i64 n, .slice s len cap, .slice s2 vars cq], .agg #[.string v.name, .int .i64 v.op, .slice sa v.args.length ca, .int .i64 v.i0, .int .i64 v.i1, .int .i64 v.i2, .int .i64 v.i3]] w fun e w' => e = .returned (.bool (vrB vars n v)) ∧ Below w.heap.size w w' := by
  have har := fun V => Needs_c v.op V
  have hw := vr_ways vars n v
  have hno := fun (i : Nat) (hi : i < 4) hh => init_no (v := v) (n := n) hi hh
  have hyes := fun hh => init_yes (v := v) (n := n) hh
  have ano := fun (j : Nat) (hj : j < v.args.length) => all_no (f := argC vars n) hj
  have ayes := all_yes (f := argC vars n) (l := v.args)
  obtain ⟨name, op, args, i0, i1, i2, i3⟩ := v
  simp only at hs hl har hw ano ayes ⊢
  obtain ⟨nd, hnd⟩ : ∃ x, needs op = x := ⟨_, rfl⟩
  obtain ⟨B, hB0⟩ : ∃ x, vrB vars n ⟨name, op, args, i0, i1, i2, i3⟩ = x := ⟨_, rfl⟩
  simp only [hnd] at har hw
  simp only [hB0] at hw ⊢
  clear hnd hB0
  replace har := Lib.hid har; replace hno := Lib.hid hno; replace hyes := Lib.hid hyes; replace ano := Lib.hid ano; replace ayes := Lib.hid ayes
  rcases hw with ⟨h1, rfl⟩ | ⟨h1, h6, rfl⟩ | ⟨h1, h6, h7⟩
  · subst h1
    go_enter Tryz.func29, Tryz.ntmps29
    go_upto_region 1 with (fail)
    refine wp_world fun W HW => ?_
    have hB : Below w.heap.size w W := by rw [HW.out]; (repeat (first | exact Below.refl _ _ | refine Below.alloc ?_ (by simp; try omega) _ | refine Below.setCell ?_ (by simp) _ | refine Below.drew ?_))
    have d0 : W.cell? ⟨w.heap.size, 0, none⟩ = some (.int .i64 n) := by rw [HW.out]; simp [go_sem]
    have d1 : W.cell? ⟨w.heap.size, 1, none⟩ = some (.slice s len cap) := by rw [HW.out]; simp [go_sem]
    have d2 : W.cell? ⟨w.heap.size, 2, none⟩ = some (.slice s2 vars cq) := by rw [HW.out]; simp [go_sem]
    have dl : w.heap.size < W.heap.size := World.block_lt_of_cell? W _ d0
    have vb0 : W.cell? ⟨w.heap.size + 1, 0, none⟩ = some (.string name) := by rw [HW.out]; simp [go_sem]
    have vb1 : W.cell? ⟨w.heap.size + 1, 1, none⟩ = some (.int .i64 op) := by rw [HW.out]; simp [go_sem]
    have vb2 : W.cell? ⟨w.heap.size + 1, 2, none⟩ = some (.slice sa args.length ca) := by rw [HW.out]; simp [go_sem]
    have vb3 : W.cell? ⟨w.heap.size + 1, 3, none⟩ = some (.int .i64 i0) := by rw [HW.out]; simp [go_sem]
    have vb4 : W.cell? ⟨w.heap.size + 1, 4, none⟩ = some (.int .i64 i1) := by rw [HW.out]; simp [go_sem]
    have vb5 : W.cell? ⟨w.heap.size + 1, 5, none⟩ = some (.int .i64 i2) := by rw [HW.out]; simp [go_sem]
    have vb6 : W.cell? ⟨w.heap.size + 1, 6, none⟩ = some (.int .i64 i3) := by rw [HW.out]; simp [go_sem]
    have vbl : w.heap.size + 1 < W.heap.size := World.block_lt_of_cell? W _ vb0
    try replace hs := up_of hB hs
    try have ld_d0 := World.block_lt_of_cell? _ _ d0
    try have ld_vb0 := World.block_lt_of_cell? _ _ vb0
    refine region_q (by kernel_rfl) (by kernel_rfl) ?_
    dsimp only [List.toList_toArray]
    repeat (first
     | go_big_quiet_skip
     | (go_big_quiet_want
        first
        | (refine qq_det ?_
           apply Exists.intro; refine ⟨fun W' hW' => ?_, ?_⟩
           (· have hk := cellB hW'; go_simp; try (first | rfl | rw [if_pos (by omega)]))
           simp only [Act.put, List.setIfInBounds_toArray, List.set_cons_zero, List.set_cons_succ]; go_big_quiet_on)
        | (refine qq_call ?_
           apply Exists.intro; apply Exists.intro; refine ⟨fun W' hW' => ?_, ?_⟩
           (· have hk := cellB hW'; go_simp; exact ⟨rfl, rfl⟩)
           apply Exists.intro; refine ⟨fun W' hW' => ?_, ?_⟩
           (· first | (go_at_call 68; exact qs hW' (har.out _)))
           simp only [Act.put, List.setIfInBounds_toArray, List.set_cons_zero, List.set_cons_succ]; go_big_quiet_on)))
    refine wpQuiet_nil ?_
    intro W1 hb
    try replace hs := up_of hb hs
    try replace hB := up_of hb hB
    try replace d0 := up_of hb d0
    try replace d1 := up_of hb d1
    try replace d2 := up_of hb d2
    try replace dl := up_of hb dl
    try replace vb0 := up_of hb vb0
    try replace vb1 := up_of hb vb1
    try replace vb2 := up_of hb vb2
    try replace vb3 := up_of hb vb3
    try replace vb4 := up_of hb vb4
    try replace vb5 := up_of hb vb5
    try replace vb6 := up_of hb vb6
    try replace vbl := up_of hb vbl
    go_wp2
    go_ret
    exact ⟨rfl, hB⟩
  · have k3 : ((nd : Int) == 0) = false := by simp; omega
    have k4 : ((args.length : Int) != (nd : Int)) = true := by rw [bne_iff_ne]; omega
    clear h1 h6
    go_enter Tryz.func29, Tryz.ntmps29
    go_upto_region 1 with (fail)
    refine wp_world fun W HW => ?_
    have hB : Below w.heap.size w W := by rw [HW.out]; (repeat (first | exact Below.refl _ _ | refine Below.alloc ?_ (by simp; try omega) _ | refine Below.setCell ?_ (by simp) _ | refine Below.drew ?_))
    have d0 : W.cell? ⟨w.heap.size, 0, none⟩ = some (.int .i64 n) := by rw [HW.out]; simp [go_sem]
    have d1 : W.cell? ⟨w.heap.size, 1, none⟩ = some (.slice s len cap) := by rw [HW.out]; simp [go_sem]
    have d2 : W.cell? ⟨w.heap.size, 2, none⟩ = some (.slice s2 vars cq) := by rw [HW.out]; simp [go_sem]
    have dl : w.heap.size < W.heap.size := World.block_lt_of_cell? W _ d0
    have vb0 : W.cell? ⟨w.heap.size + 1, 0, none⟩ = some (.string name) := by rw [HW.out]; simp [go_sem]
    have vb1 : W.cell? ⟨w.heap.size + 1, 1, none⟩ = some (.int .i64 op) := by rw [HW.out]; simp [go_sem]
    have vb2 : W.cell? ⟨w.heap.size + 1, 2, none⟩ = some (.slice sa args.length ca) := by rw [HW.out]; simp [go_sem]
    have vb3 : W.cell? ⟨w.heap.size + 1, 3, none⟩ = some (.int .i64 i0) := by rw [HW.out]; simp [go_sem]
    have vb4 : W.cell? ⟨w.heap.size + 1, 4, none⟩ = some (.int .i64 i1) := by rw [HW.out]; simp [go_sem]
    have vb5 : W.cell? ⟨w.heap.size + 1, 5, none⟩ = some (.int .i64 i2) := by rw [HW.out]; simp [go_sem]
    have vb6 : W.cell? ⟨w.heap.size + 1, 6, none⟩ = some (.int .i64 i3) := by rw [HW.out]; simp [go_sem]
    have vbl : w.heap.size + 1 < W.heap.size := World.block_lt_of_cell? W _ vb0
    try replace hs := up_of hB hs
    try have ld_d0 := World.block_lt_of_cell? _ _ d0
    try have ld_vb0 := World.block_lt_of_cell? _ _ vb0
    refine region_q (by kernel_rfl) (by kernel_rfl) ?_
    dsimp only [List.toList_toArray]
    repeat (first
     | go_big_quiet_skip
     | (go_big_quiet_want
        first
        | (refine qq_det ?_
           apply Exists.intro; refine ⟨fun W' hW' => ?_, ?_⟩
           (· have hk := cellB hW'; go_simp; try (first | rfl | rw [if_pos (by omega)]))
           simp only [Act.put, List.setIfInBounds_toArray, List.set_cons_zero, List.set_cons_succ]; go_big_quiet_on)
        | (refine qq_call ?_
           apply Exists.intro; apply Exists.intro; refine ⟨fun W' hW' => ?_, ?_⟩
           (· have hk := cellB hW'; go_simp; exact ⟨rfl, rfl⟩)
           apply Exists.intro; refine ⟨fun W' hW' => ?_, ?_⟩
           (· first | (go_at_call 68; exact qs hW' (har.out _)))
           simp only [Act.put, List.setIfInBounds_toArray, List.set_cons_zero, List.set_cons_succ]; go_big_quiet_on)))
    refine wpQuiet_nil ?_
    intro W1 hb
    try replace hs := up_of hb hs
    try replace hB := up_of hb hB
    try replace d0 := up_of hb d0
    try replace d1 := up_of hb d1
    try replace d2 := up_of hb d2
    try replace dl := up_of hb dl
    try replace vb0 := up_of hb vb0
    try replace vb1 := up_of hb vb1
    try replace vb2 := up_of hb vb2
    try replace vb3 := up_of hb vb3
    try replace vb4 := up_of hb vb4
    try replace vb5 := up_of hb vb5
    try replace vb6 := up_of hb vb6
    try replace vbl := up_of hb vbl
    go_wp2
    go_ret
    exact ⟨rfl, hB⟩
  have k3 : ((nd : Int) == 0) = false := by simp; omega
  have k4 : ((args.length : Int) != (nd : Int)) = false := by rw [h6]; simp
  clear h1 h6
  obtain ⟨IB, hIB⟩ : ∃ x, initB ⟨name, op, args, i0, i1, i2, i3⟩ n = x := ⟨_, rfl⟩
  obtain ⟨AB, hAB⟩ : ∃ x, args.all (argC vars n) = x := ⟨_, rfl⟩
  simp only [hIB, hAB] at h7
  simp only [hIB] at hno hyes
  simp only [hAB] at ano ayes
  clear hIB hAB
  subst h7
  have hini : ∀ i : Nat, initV ⟨name, op, args, i0, i1, i2, i3⟩ i = if i = 0 then i0 else if i = 1 then i1 else if i = 2 then i2 else i3 := fun _ => rfl
  obtain ⟨iv, hiv⟩ : ∃ f : Nat → Int, initV ⟨name, op, args, i0, i1, i2, i3⟩ = f := ⟨_, rfl⟩
  simp only [hiv] at hno hyes hini
  clear hiv
  replace hini := Lib.hid hini
  go_enter Tryz.func29, Tryz.ntmps29
  go_upto_region 1 with (fail)
  refine wp_world fun W HW => ?_
  have hB : Below w.heap.size w W := by rw [HW.out]; (repeat (first | exact Below.refl _ _ | refine Below.alloc ?_ (by simp; try omega) _ | refine Below.setCell ?_ (by simp) _ | refine Below.drew ?_))
  have d0 : W.cell? ⟨w.heap.size, 0, none⟩ = some (.int .i64 n) := by rw [HW.out]; simp [go_sem]
  have d1 : W.cell? ⟨w.heap.size, 1, none⟩ = some (.slice s len cap) := by rw [HW.out]; simp [go_sem]
  have d2 : W.cell? ⟨w.heap.size, 2, none⟩ = some (.slice s2 vars cq) := by rw [HW.out]; simp [go_sem]
  have dl : w.heap.size < W.heap.size := World.block_lt_of_cell? W _ d0
  have vb0 : W.cell? ⟨w.heap.size + 1, 0, none⟩ = some (.string name) := by rw [HW.out]; simp [go_sem]
  have vb1 : W.cell? ⟨w.heap.size + 1, 1, none⟩ = some (.int .i64 op) := by rw [HW.out]; simp [go_sem]
  have vb2 : W.cell? ⟨w.heap.size + 1, 2, none⟩ = some (.slice sa args.length ca) := by rw [HW.out]; simp [go_sem]
  have vb3 : W.cell? ⟨w.heap.size + 1, 3, none⟩ = some (.int .i64 i0) := by rw [HW.out]; simp [go_sem]
  have vb4 : W.cell? ⟨w.heap.size + 1, 4, none⟩ = some (.int .i64 i1) := by rw [HW.out]; simp [go_sem]
  have vb5 : W.cell? ⟨w.heap.size + 1, 5, none⟩ = some (.int .i64 i2) := by rw [HW.out]; simp [go_sem]
  have vb6 : W.cell? ⟨w.heap.size + 1, 6, none⟩ = some (.int .i64 i3) := by rw [HW.out]; simp [go_sem]
  have vbl : w.heap.size + 1 < W.heap.size := World.block_lt_of_cell? W _ vb0
  try replace hs := up_of hB hs
  try have ld_d0 := World.block_lt_of_cell? _ _ d0
  try have ld_vb0 := World.block_lt_of_cell? _ _ vb0
  refine region_q (by kernel_rfl) (by kernel_rfl) ?_
  dsimp only [List.toList_toArray]
  repeat (first
   | go_big_quiet_skip
   | (go_big_quiet_want
      first
      | (refine qq_det ?_
         apply Exists.intro; refine ⟨fun W' hW' => ?_, ?_⟩
         (· have hk := cellB hW'; go_simp; try (first | rfl | rw [if_pos (by omega)]))
         simp only [Act.put, List.setIfInBounds_toArray, List.set_cons_zero, List.set_cons_succ]; go_big_quiet_on)
      | (refine qq_call ?_
         apply Exists.intro; apply Exists.intro; refine ⟨fun W' hW' => ?_, ?_⟩
         (· have hk := cellB hW'; go_simp; exact ⟨rfl, rfl⟩)
         apply Exists.intro; refine ⟨fun W' hW' => ?_, ?_⟩
         (· first | (go_at_call 68; exact qs hW' (har.out _)))
         simp only [Act.put, List.setIfInBounds_toArray, List.set_cons_zero, List.set_cons_succ]; go_big_quiet_on)))
  refine wpQuiet_nil ?_
  intro W1 hb
  try replace hs := up_of hb hs
  try replace hB := up_of hb hB
  try replace d0 := up_of hb d0
  try replace d1 := up_of hb d1
  try replace d2 := up_of hb d2
  try replace dl := up_of hb dl
  try replace vb0 := up_of hb vb0
  try replace vb1 := up_of hb vb1
  try replace vb2 := up_of hb vb2
  try replace vb3 := up_of hb vb3
  try replace vb4 := up_of hb vb4
  try replace vb5 := up_of hb vb5
  try replace vb6 := up_of hb vb6
  try replace vbl := up_of hb vbl
  have hix : Hid (∀ i : Nat, i < 4 → W1.cell? ⟨w.heap.size + 1, 3 + i, none⟩ = some (.int .i64 (iv i))) := Lib.hid fun i hi => by
    have h4 : i = 0 ∨ i = 1 ∨ i = 2 ∨ i = 3 := by omega
    rw [hini.out]
    rcases h4 with rfl | rfl | rfl | rfl
    · exact vb3
    · exact vb4
    · exact vb5
    · exact vb6
  go_wp2
  go_loop [5] (fun ii => ∃ i : Nat, i ≤ 4 ∧ ii = .int .i64 i ∧ Hid (∀ k : Nat, k < i → initC k (iv k) n = true)) (fun ii => 4 - (intOf ii).toNat)
  case atStart => exact ⟨0, by omega, rfl, fun k h => absurd h (by omega)⟩
  case round =>
    obtain ⟨i, hi, rfl, hall⟩ := hrel
    by_cases hlt : i < 4
    · have vi := hix.out i hlt
      have hbad := hno.out i hlt
      have hgood : initC i (iv i) n = true → ∀ k : Nat, k < i + 1 → initC k (iv k) n = true := fun h k hk => by
        by_cases h3 : k < i
        · exact hall.out k h3
        · obtain rfl : k = i := by omega
          exact h
      have hC : initC i (iv i) n = (bw 0 (iv i) 10006 && (decide ((i : Int) ≤ n) || decide (iv i = 0))) := rfl
      obtain ⟨x, hx⟩ : ∃ x, iv i = x := ⟨_, rfl⟩
      simp only [hx] at vi hbad hgood hC
      clear hx hall
      have g1 : (0 : Int) ≤ (i : Int) := by omega
      have g2 : (i : Int) < 4 := by omega
      by_cases hx0 : x < 0
      · have : initC i x n = false := by rw [hC, show bw 0 x 10006 = false by simp [bw]; omega]; rfl
        obtain rfl := hbad this
        clear hgood hC hbad this
        go_wp2
        go_ret
        exact ⟨rfl, hB⟩
      by_cases hx1 : 10007 ≤ x
      · have : initC i x n = false := by rw [hC, show bw 0 x 10006 = false by simp [bw]; omega]; rfl
        obtain rfl := hbad this
        clear hgood hC hbad this
        go_wp2
        go_ret
        exact ⟨rfl, hB⟩
      have hb : bw 0 x 10006 = true := by rw [bw_iff]; omega
      by_cases hn1 : (n : Int) < (i : Int)
      · by_cases hz : x = 0
        · have hok := Lib.hid (hgood (by rw [hC, hb, hz]; simp))
          have hz2 : (x != 0) = false := by rw [hz]; rfl
          clear hgood hC hbad hb hz
          go_wp2
          go_round
          case rel => exact ⟨i + 1, by omega, rfl, hok⟩
          case measure => exact meas hlt
        · have : initC i x n = false := by rw [hC, hb]; simp; omega
          have hz2 : (x != 0) = true := by rw [bne_iff_ne]; exact hz
          obtain rfl := hbad this
          clear hgood hC hbad this hb hz
          go_wp2
          go_ret
          exact ⟨rfl, hB⟩
      · have hok := Lib.hid (hgood (by rw [hC, hb]; simp; omega))
        clear hgood hC hbad hb
        go_wp2
        go_round
        case rel => exact ⟨i + 1, by omega, rfl, hok⟩
        case measure => exact meas hlt
    · obtain rfl : i = 4 := by omega
      obtain rfl := hyes.out hall.out
      clear hall hix hyes hno
      go_wp2
      go_loopw [6] (fun ii V => ∃ j : Nat, j ≤ args.length ∧ ii = .int .i64 j ∧ Below W1.heap.size W1 V ∧ Hid (∀ k (hk : k < args.length), k < j → argC vars n args[k] = true)) (fun ii _ => args.length - (intOf ii).toNat)
      case atStart => exact ⟨0, by omega, rfl, Below.refl _ _, fun k hk h => absurd h (by omega)⟩
      case round =>
        obtain ⟨j, hj, rfl, hBV, hall⟩ := hrel
        try replace hs := up_of hBV hs
        try replace hB := up_of hBV hB
        try replace d0 := up_of hBV d0
        try replace d1 := up_of hBV d1
        try replace d2 := up_of hBV d2
        try replace dl := up_of hBV dl
        try replace vb0 := up_of hBV vb0
        try replace vb1 := up_of hBV vb1
        try replace vb2 := up_of hBV vb2
        try replace vb3 := up_of hBV vb3
        try replace vb4 := up_of hBV vb4
        try replace vb5 := up_of hBV vb5
        try replace vb6 := up_of hBV vb6
        try replace vbl := up_of hBV vbl
        by_cases hlt : j < args.length
        · obtain ⟨bk, off, rfl, hbk, q0, q1, q2, q3⟩ := hs.ar_at hlt
          have hbad := ano.out j hlt
          have hgood : argC vars n args[j] = true → ∀ k (hk : k < args.length), k < j + 1 → argC vars n args[k] = true := fun h k hk hk2 => by
            by_cases hk3 : k < j
            · exact hall.out k hk hk3
            · obtain rfl : k = j := by omega
              exact h
          obtain ⟨a, ha⟩ : ∃ a, args[j] = a := ⟨_, rfl⟩
          rw [ha] at q0 q1 q2 q3 hbad hgood
          have har2 : argC vars n a = (flatB a.p n 3 && bw 0 a.v (vars - 1)) := rfl
          rw [har2] at hbad hgood
          have hfno := fun (k : Nat) (hk : k < 3) (h : flatC k (a.p.get k) n 3 = false) => flat_no (m := 3) hk h
          have hfyes := flat_yes (p := a.p) (n := n) (m := 3)
          have hpg : ∀ k : Nat, a.p.get k = if k = 0 then a.p.x else if k = 1 then a.p.y else a.p.z := fun _ => rfl
          obtain ⟨⟨px, py, pz⟩, hap⟩ : ∃ x, a.p = x := ⟨_, rfl⟩
          obtain ⟨av, hav⟩ : ∃ x, a.v = x := ⟨_, rfl⟩
          simp only [hap] at q1 q2 q3 hpg
          simp only [hav] at q0 hbad hgood
          obtain ⟨pf, hpf⟩ : ∃ f : Nat → Int, a.p.get = f := ⟨_, rfl⟩
          rw [hap] at hpf hbad hgood hfno hfyes
          simp only [hpf] at hpg hfno hfyes
          obtain ⟨FB, hFB⟩ : ∃ x, flatB ⟨px, py, pz⟩ n 3 = x := ⟨_, rfl⟩
          simp only [hFB] at hbad hgood hfno hfyes
          clear ha har2 hap hav hpf hFB hall
          replace hfno := Lib.hid hfno; replace hfyes := Lib.hid hfyes; replace hpg := Lib.hid hpg; replace hbad := Lib.hid hbad; replace hgood := Lib.hid hgood
          have g1 : (0 : Int) ≤ (j : Int) := by omega
          have g2 : (j : Int) < (args.length : Int) := by omega
          go_upto_region 12 with (fail)
          refine wp_world fun Y HY => ?_
          have hY : Below wr.heap.size wr Y := by rw [HY.out]; (repeat (first | exact Below.refl _ _ | refine Below.alloc ?_ (by simp; try omega) _ | refine Below.setCell ?_ (by simp) _ | refine Below.drew ?_))
          have z0 : Y.cell? ⟨wr.heap.size, 0, none⟩ = some (.int .i64 av) := by rw [HY.out]; simp [go_sem]
          have z1 : Y.cell? ⟨wr.heap.size, 1, none⟩ = some (.int .i64 px) := by rw [HY.out]; simp [go_sem]
          have z2 : Y.cell? ⟨wr.heap.size, 2, none⟩ = some (.int .i64 py) := by rw [HY.out]; simp [go_sem]
          have z3 : Y.cell? ⟨wr.heap.size, 3, none⟩ = some (.int .i64 pz) := by rw [HY.out]; simp [go_sem]
          have zl : wr.heap.size < Y.heap.size := World.block_lt_of_cell? Y _ z0
          try replace hs := up_of hY hs
          try replace hB := up_of hY hB
          try replace d0 := up_of hY d0
          try replace d1 := up_of hY d1
          try replace d2 := up_of hY d2
          try replace dl := up_of hY dl
          try replace vb0 := up_of hY vb0
          try replace vb1 := up_of hY vb1
          try replace vb2 := up_of hY vb2
          try replace vb3 := up_of hY vb3
          try replace vb4 := up_of hY vb4
          try replace vb5 := up_of hY vb5
          try replace vb6 := up_of hY vb6
          try replace vbl := up_of hY vbl
          try replace hBV := up_of hY hBV
          by_cases hv0 : av < 0
          · obtain rfl := hbad.out (by rw [show bw 0 av ((vars : Int) - 1) = false by simp [bw]; omega, Bool.and_false])
            clear hbad hgood hfno hfyes hpg
            go_wp2
            go_ret
            exact ⟨rfl, hB⟩
          by_cases hv1 : (vars : Int) ≤ av
          · obtain rfl := hbad.out (by rw [show bw 0 av ((vars : Int) - 1) = false by simp [bw]; omega, Bool.and_false])
            clear hbad hgood hfno hfyes hpg
            go_wp2
            go_ret
            exact ⟨rfl, hB⟩
          have hvb : bw 0 av ((vars : Int) - 1) = true := by rw [bw_iff]; omega
          replace hvb := Lib.hid hvb
          have hpx : Hid (∀ k : Nat, k < 3 → Y.cell? ⟨wr.heap.size, 1 + k, none⟩ = some (.int .i64 (pf k))) := Lib.hid fun k hk => by
            have h3 : k = 0 ∨ k = 1 ∨ k = 2 := by omega
            rw [hpg.out]
            rcases h3 with rfl | rfl | rfl
            · exact z1
            · exact z2
            · exact z3
          go_wp2
          go_loop [8] (fun kk => ∃ k : Nat, k ≤ 3 ∧ kk = .int .i64 k ∧ Hid (∀ i : Nat, i < k → flatC i (pf i) n 3 = true)) (fun kk => 3 - (intOf kk).toNat)
          case atStart => exact ⟨0, by omega, rfl, fun k h => absurd h (by omega)⟩
          case round =>
            obtain ⟨k, hk, rfl, hall⟩ := hrel
            by_cases hlk : k < 3
            · have pk := hpx.out k hlk
              have hb2 := hfno.out k hlk
              have hg2 : flatC k (pf k) n 3 = true → ∀ i : Nat, i < k + 1 → flatC i (pf i) n 3 = true := fun h i hi => by
                by_cases h3 : i < k
                · exact hall.out i h3
                · obtain rfl : i = k := by omega
                  exact h
              have hC : flatC k (pf k) n 3 = (bw (-3) (pf k) 3 && (decide ((k : Int) < n) || decide (pf k = 0))) := by simp [flatC]
              obtain ⟨x, hx⟩ : ∃ x, pf k = x := ⟨_, rfl⟩
              simp only [hx] at pk hb2 hg2 hC
              clear hx hall
              have g3 : (0 : Int) ≤ (k : Int) := by omega
              have g4 : (k : Int) < 3 := by omega
              by_cases hx0 : x < -3
              · have : flatC k x n 3 = false := by rw [hC, show bw (-3) x 3 = false by simp [bw]; omega]; rfl
                obtain rfl := hb2 this
                obtain rfl := hbad.out (by rw [Bool.false_and])
                clear hg2 hC hb2 this hbad hgood hfno hfyes
                go_wp2
                go_ret
                exact ⟨rfl, hB⟩
              by_cases hx1 : 3 < x
              · have : flatC k x n 3 = false := by rw [hC, show bw (-3) x 3 = false by simp [bw]; omega]; rfl
                obtain rfl := hb2 this
                obtain rfl := hbad.out (by rw [Bool.false_and])
                clear hg2 hC hb2 this hbad hgood hfno hfyes
                go_wp2
                go_ret
                exact ⟨rfl, hB⟩
              have hb : bw (-3) x 3 = true := by rw [bw_iff]; omega
              by_cases hn1 : (n : Int) ≤ (k : Int)
              · by_cases hz : x = 0
                · have hok := Lib.hid (hg2 (by rw [hC, hb, hz]; simp))
                  have hz2 : (x != 0) = false := by rw [hz]; rfl
                  clear hg2 hC hb2 hb hz
                  go_wp2
                  go_round
                  case rel => exact ⟨k + 1, by omega, rfl, hok⟩
                  case measure => exact meas hlk
                · have : flatC k x n 3 = false := by rw [hC, hb]; simp; omega
                  have hz2 : (x != 0) = true := by rw [bne_iff_ne]; exact hz
                  obtain rfl := hb2 this
                  obtain rfl := hbad.out (by rw [Bool.false_and])
                  clear hg2 hC hb2 this hb hz hbad hgood hfno hfyes
                  go_wp2
                  go_ret
                  exact ⟨rfl, hB⟩
              · have hok := Lib.hid (hg2 (by rw [hC, hb]; simp; omega))
                clear hg2 hC hb2 hb
                go_wp2
                go_round
                case rel => exact ⟨k + 1, by omega, rfl, hok⟩
                case measure => exact meas hlk
            · obtain rfl : k = 3 := by omega
              obtain rfl := hfyes.out hall.out
              have hok := Lib.hid (hgood.out (by rw [Bool.true_and, hvb.out]))
              clear hall hpx hfyes hfno hgood hbad
              go_wp2
              go_roundw
              case rel => exact ⟨j + 1, by omega, rfl, hBV, hok⟩
              case measure => exact meas hlt
        · obtain rfl : j = args.length := by omega
          obtain rfl := ayes.out (fun i hi => hall.out i hi hi)
          clear hall
          go_wp2
          go_ret
          exact ⟨rfl, hB⟩
end Go.Proofs.YtakbpjgnjfigcaaGreat
