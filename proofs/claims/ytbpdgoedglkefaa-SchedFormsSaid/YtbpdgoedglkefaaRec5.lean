/- Valid variables: the reference's isVar. -/
import Derived.Test.YtbpdgoedglkefaaRec4
namespace Go.Proofs.Ytbpdgoedglkefaa
open Go.RowKit Go.Maps

set_option maxRecDepth 100000 in
set_option maxHeartbeats 2000000 in
theorem arity_c (op : Int) (w : World) : Calls Try.prog 147 #[.int .i64 op] w fun e w' => e = .returned (.int .i64 (needs op : Nat)) ∧ w = w' := by
  by_cases h : op = 1 ∨ op = 2 ∨ op = 3 ∨ op = 4 ∨ op = 5 ∨ op = 6 ∨ op = 7
  · rcases h with rfl | rfl | rfl | rfl | rfl | rfl | rfl
    all_goals
      go_enter Try.func147, Try.ntmps147
      go_wp2
      go_ret
      exact ⟨rfl, rfl⟩
  · have hn : needs op = 0 := needs_out (by omega)
    rw [hn]
    clear hn
    have h1 : (op == 1) = false := by simp; omega
    have h2 : (op == 2) = false := by simp; omega
    have h3 : (op == 3) = false := by simp; omega
    have h4 : (op == 4) = false := by simp; omega
    have h5 : (op == 5) = false := by simp; omega
    have h6 : (op == 6) = false := by simp; omega
    have h7 : (op == 7) = false := by simp; omega
    go_enter Try.func147, Try.ntmps147
    go_wp2
    go_ret
    exact ⟨rfl, rfl⟩
/-- The ways a variable's head can be, in the reference's order. -/
theorem var_ways2 (vars n : Int) (v : Vv) : (¬ v.name.size = 1 ∧ varB vars n v = false) ∨ (∃ b : UInt8, v.name = ⟨#[b]⟩ ∧ ((b.toNat < 97 ∧ varB vars n v = false) ∨ (97 ≤ b.toNat ∧ 122 < b.toNat ∧ varB vars n v = false) ∨ (97 ≤ b.toNat ∧ b.toNat ≤ 122 ∧ needs v.op = 0 ∧ varB vars n v = false) ∨ (97 ≤ b.toNat ∧ b.toNat ≤ 122 ∧ needs v.op ≠ 0 ∧ v.args.length ≠ needs v.op ∧ varB vars n v = false) ∨ (97 ≤ b.toNat ∧ b.toNat ≤ 122 ∧ needs v.op ≠ 0 ∧ v.args.length = needs v.op ∧ varB vars n v = (initB v n && v.args.all (argC vars n))))) := by
  by_cases h2 : v.name.size = 1
  · obtain ⟨b, hb⟩ := one_byte h2
    refine .inr ⟨b, hb, ?_⟩
    unfold varB
    rw [hb, nameB_one]
    by_cases h3 : 97 ≤ b.toNat
    · by_cases h4 : b.toNat ≤ 122
      · by_cases h1 : needs v.op = 0
        · exact .inr (.inr (.inl ⟨h3, h4, h1, by simp [h1]⟩))
        · by_cases h5 : v.args.length = needs v.op
          · exact .inr (.inr (.inr (.inr ⟨h3, h4, h1, h5, by simp [h1, h3, h4, h5]⟩)))
          · exact .inr (.inr (.inr (.inl ⟨h3, h4, h1, h5, by simp [h5]⟩)))
      · exact .inr (.inl ⟨h3, by omega, by simp [h4]⟩)
    · exact .inl ⟨by omega, by simp [h3]⟩
  · exact .inl ⟨h2, by unfold varB; rw [nameB_size h2]; simp⟩
theorem all_no {f : Ar → Bool} {l : List Ar} {j : Nat} (h : j < l.length) (hf : f l[j] = false) : l.all f = false := by
  cases hh : l.all f
  · rfl
  · rw [List.all_eq_true] at hh; rw [hh _ (List.getElem_mem h)] at hf; cases hf
theorem all_yes {f : Ar → Bool} {l : List Ar} (h : ∀ j (hj : j < l.length), f l[j] = true) : l.all f = true := by
  rw [List.all_eq_true]; intro x hx; obtain ⟨i, hi, rfl⟩ := List.getElem_of_mem hx; exact h i hi
set_option maxRecDepth 100000 in
set_option maxHeartbeats 4000000 in
theorem isVar_c (v : Vv) (sa : Option Addr) (ca : Nat) (vars : Nat) (n : Nat) (w : World) (hs : SlS arE w sa v.args) (hl : v.args.length ≤ 9223372036854775807) (_hn : 1 ≤ n ∧ n ≤ 3) (_hv : 1 ≤ vars ∧ vars ≤ 4) :
    Calls Try.prog 118 #[.agg #[.string v.name, .int .i64 v.op, .slice sa v.args.length ca, .int .i64 v.i0, .int .i64 v.i1, .int .i64 v.i2, .int .i64 v.i3], .int .i64 vars, .int .i64 n] w fun e w' => e = .returned (.bool (varB vars n v)) ∧ Below w.heap.size w w' := by
  have har := fun V => arity_c v.op V
  have hw := var_ways2 vars n v
  obtain ⟨name, op, args, i0, i1, i2, i3⟩ := v
  simp only at hs hl har hw ⊢
  obtain ⟨nd, hnd⟩ : ∃ x, needs op = x := ⟨_, rfl⟩
  obtain ⟨B, hB0⟩ : ∃ x, varB vars n ⟨name, op, args, i0, i1, i2, i3⟩ = x := ⟨_, rfl⟩
  simp only [hnd] at har hw
  simp only [hB0] at hw ⊢
  clear hnd hB0
  replace har := Lib.hid har
  rcases hw with ⟨h2, rfl⟩ | ⟨b, rfl, h3⟩
  · have h4 : ((name.size : Int) != 1) = true := by rw [bne_iff_ne]; omega
    clear h2
    go_enter Try.func118, Try.ntmps118
    go_upto_region 1 with (fail)
    refine wp_world fun W HW => ?_
    have hB : Below w.heap.size w W := by rw [HW.out]; (repeat (first | exact Below.refl _ _ | refine Below.alloc ?_ (by simp; try omega) _ | refine Below.setCell ?_ (by simp) _ | refine Below.drew ?_))
    have vb0 : W.cell? ⟨w.heap.size, 0, none⟩ = some (.string name) := by rw [HW.out]; simp [go_sem]
    have vb1 : W.cell? ⟨w.heap.size, 1, none⟩ = some (.int .i64 op) := by rw [HW.out]; simp [go_sem]
    have vb2 : W.cell? ⟨w.heap.size, 2, none⟩ = some (.slice sa args.length ca) := by rw [HW.out]; simp [go_sem]
    have vb3 : W.cell? ⟨w.heap.size, 3, none⟩ = some (.int .i64 i0) := by rw [HW.out]; simp [go_sem]
    have vb4 : W.cell? ⟨w.heap.size, 4, none⟩ = some (.int .i64 i1) := by rw [HW.out]; simp [go_sem]
    have vb5 : W.cell? ⟨w.heap.size, 5, none⟩ = some (.int .i64 i2) := by rw [HW.out]; simp [go_sem]
    have vb6 : W.cell? ⟨w.heap.size, 6, none⟩ = some (.int .i64 i3) := by rw [HW.out]; simp [go_sem]
    have vbl : w.heap.size < W.heap.size := World.block_lt_of_cell? W _ vb0
    try replace hs := up_of hB hs
    try have ld_vb0 := World.block_lt_of_cell? _ _ vb0
    refine region_q (by kernel_rfl) (by kernel_rfl) ?_
    dsimp only [List.toList_toArray]
    repeat (first
     | go_big_quiet_skip
     | (go_big_quiet_want
        first
        | (refine qq_det ?_
           apply Exists.intro; refine ⟨fun W' hW' => ?_, ?_⟩
           (· have hk := cellB hW'; go_simp; try (first | rfl | rw [if_pos (by omega)]))
           simp only [Act.put, List.setIfInBounds_toArray, List.set_cons_zero, List.set_cons_succ]; go_big_quiet_on)
        | (refine qq_call ?_
           apply Exists.intro; apply Exists.intro; refine ⟨fun W' hW' => ?_, ?_⟩
           (· have hk := cellB hW'; go_simp; exact ⟨rfl, rfl⟩)
           apply Exists.intro; refine ⟨fun W' hW' => ?_, ?_⟩
           (· first | (go_at_call 147; exact qs hW' (har.out _)))
           simp only [Act.put, List.setIfInBounds_toArray, List.set_cons_zero, List.set_cons_succ]; go_big_quiet_on)))
    refine wpQuiet_nil ?_
    intro W1 hb
    try replace hs := up_of hb hs
    try replace hB := up_of hb hB
    try replace vb0 := up_of hb vb0
    try replace vb1 := up_of hb vb1
    try replace vb2 := up_of hb vb2
    try replace vb3 := up_of hb vb3
    try replace vb4 := up_of hb vb4
    try replace vb5 := up_of hb vb5
    try replace vb6 := up_of hb vb6
    try replace vbl := up_of hb vbl
    go_wp2
    go_ret
    exact ⟨rfl, hB⟩
  have h8 : b.toNat < 256 := b.toNat_lt
  rcases h3 with ⟨h4, rfl⟩ | ⟨h4, h5, rfl⟩ | ⟨h4, h5, h1, rfl⟩ | ⟨h4, h5, h1, h6, rfl⟩ | ⟨h4, h5, h1, h6, h7⟩
  · have k1 : ((((⟨#[b]⟩ : ByteArray)[0]'Nat.zero_lt_one).toNat : Nat) : Int) < 97 := by show (b.toNat : Int) < 97; omega
    go_enter Try.func118, Try.ntmps118
    go_upto_region 1 with (fail)
    refine wp_world fun W HW => ?_
    have hB : Below w.heap.size w W := by rw [HW.out]; (repeat (first | exact Below.refl _ _ | refine Below.alloc ?_ (by simp; try omega) _ | refine Below.setCell ?_ (by simp) _ | refine Below.drew ?_))
    have vb0 : W.cell? ⟨w.heap.size, 0, none⟩ = some (.string ⟨#[b]⟩) := by rw [HW.out]; simp [go_sem]
    have vb1 : W.cell? ⟨w.heap.size, 1, none⟩ = some (.int .i64 op) := by rw [HW.out]; simp [go_sem]
    have vb2 : W.cell? ⟨w.heap.size, 2, none⟩ = some (.slice sa args.length ca) := by rw [HW.out]; simp [go_sem]
    have vb3 : W.cell? ⟨w.heap.size, 3, none⟩ = some (.int .i64 i0) := by rw [HW.out]; simp [go_sem]
    have vb4 : W.cell? ⟨w.heap.size, 4, none⟩ = some (.int .i64 i1) := by rw [HW.out]; simp [go_sem]
    have vb5 : W.cell? ⟨w.heap.size, 5, none⟩ = some (.int .i64 i2) := by rw [HW.out]; simp [go_sem]
    have vb6 : W.cell? ⟨w.heap.size, 6, none⟩ = some (.int .i64 i3) := by rw [HW.out]; simp [go_sem]
    have vbl : w.heap.size < W.heap.size := World.block_lt_of_cell? W _ vb0
    try replace hs := up_of hB hs
    try have ld_vb0 := World.block_lt_of_cell? _ _ vb0
    refine region_q (by kernel_rfl) (by kernel_rfl) ?_
    dsimp only [List.toList_toArray]
    repeat (first
     | go_big_quiet_skip
     | (go_big_quiet_want
        first
        | (refine qq_det ?_
           apply Exists.intro; refine ⟨fun W' hW' => ?_, ?_⟩
           (· have hk := cellB hW'; go_simp; try (first | rfl | rw [if_pos (by omega)]))
           simp only [Act.put, List.setIfInBounds_toArray, List.set_cons_zero, List.set_cons_succ]; go_big_quiet_on)
        | (refine qq_call ?_
           apply Exists.intro; apply Exists.intro; refine ⟨fun W' hW' => ?_, ?_⟩
           (· have hk := cellB hW'; go_simp; exact ⟨rfl, rfl⟩)
           apply Exists.intro; refine ⟨fun W' hW' => ?_, ?_⟩
           (· first | (go_at_call 147; exact qs hW' (har.out _)))
           simp only [Act.put, List.setIfInBounds_toArray, List.set_cons_zero, List.set_cons_succ]; go_big_quiet_on)))
    refine wpQuiet_nil ?_
    intro W1 hb
    try replace hs := up_of hb hs
    try replace hB := up_of hb hB
    try replace vb0 := up_of hb vb0
    try replace vb1 := up_of hb vb1
    try replace vb2 := up_of hb vb2
    try replace vb3 := up_of hb vb3
    try replace vb4 := up_of hb vb4
    try replace vb5 := up_of hb vb5
    try replace vb6 := up_of hb vb6
    try replace vbl := up_of hb vbl
    go_wp2
    go_ret
    exact ⟨rfl, hB⟩
  · have k1 : ¬ ((((⟨#[b]⟩ : ByteArray)[0]'Nat.zero_lt_one).toNat : Nat) : Int) < 97 := by show ¬ (b.toNat : Int) < 97; omega
    have k2 : (122 : Int) < ((((⟨#[b]⟩ : ByteArray)[0]'Nat.zero_lt_one).toNat : Nat) : Int) := by show (122 : Int) < (b.toNat : Int); omega
    go_enter Try.func118, Try.ntmps118
    go_upto_region 1 with (fail)
    refine wp_world fun W HW => ?_
    have hB : Below w.heap.size w W := by rw [HW.out]; (repeat (first | exact Below.refl _ _ | refine Below.alloc ?_ (by simp; try omega) _ | refine Below.setCell ?_ (by simp) _ | refine Below.drew ?_))
    have vb0 : W.cell? ⟨w.heap.size, 0, none⟩ = some (.string ⟨#[b]⟩) := by rw [HW.out]; simp [go_sem]
    have vb1 : W.cell? ⟨w.heap.size, 1, none⟩ = some (.int .i64 op) := by rw [HW.out]; simp [go_sem]
    have vb2 : W.cell? ⟨w.heap.size, 2, none⟩ = some (.slice sa args.length ca) := by rw [HW.out]; simp [go_sem]
    have vb3 : W.cell? ⟨w.heap.size, 3, none⟩ = some (.int .i64 i0) := by rw [HW.out]; simp [go_sem]
    have vb4 : W.cell? ⟨w.heap.size, 4, none⟩ = some (.int .i64 i1) := by rw [HW.out]; simp [go_sem]
    have vb5 : W.cell? ⟨w.heap.size, 5, none⟩ = some (.int .i64 i2) := by rw [HW.out]; simp [go_sem]
    have vb6 : W.cell? ⟨w.heap.size, 6, none⟩ = some (.int .i64 i3) := by rw [HW.out]; simp [go_sem]
    have vbl : w.heap.size < W.heap.size := World.block_lt_of_cell? W _ vb0
    try replace hs := up_of hB hs
    try have ld_vb0 := World.block_lt_of_cell? _ _ vb0
    refine region_q (by kernel_rfl) (by kernel_rfl) ?_
    dsimp only [List.toList_toArray]
    repeat (first
     | go_big_quiet_skip
     | (go_big_quiet_want
        first
        | (refine qq_det ?_
           apply Exists.intro; refine ⟨fun W' hW' => ?_, ?_⟩
           (· have hk := cellB hW'; go_simp; try (first | rfl | rw [if_pos (by omega)]))
           simp only [Act.put, List.setIfInBounds_toArray, List.set_cons_zero, List.set_cons_succ]; go_big_quiet_on)
        | (refine qq_call ?_
           apply Exists.intro; apply Exists.intro; refine ⟨fun W' hW' => ?_, ?_⟩
           (· have hk := cellB hW'; go_simp; exact ⟨rfl, rfl⟩)
           apply Exists.intro; refine ⟨fun W' hW' => ?_, ?_⟩
           (· first | (go_at_call 147; exact qs hW' (har.out _)))
           simp only [Act.put, List.setIfInBounds_toArray, List.set_cons_zero, List.set_cons_succ]; go_big_quiet_on)))
    refine wpQuiet_nil ?_
    intro W1 hb
    try replace hs := up_of hb hs
    try replace hB := up_of hb hB
    try replace vb0 := up_of hb vb0
    try replace vb1 := up_of hb vb1
    try replace vb2 := up_of hb vb2
    try replace vb3 := up_of hb vb3
    try replace vb4 := up_of hb vb4
    try replace vb5 := up_of hb vb5
    try replace vb6 := up_of hb vb6
    try replace vbl := up_of hb vbl
    go_wp2
    go_ret
    exact ⟨rfl, hB⟩
  · have k1 : ¬ ((((⟨#[b]⟩ : ByteArray)[0]'Nat.zero_lt_one).toNat : Nat) : Int) < 97 := by show ¬ (b.toNat : Int) < 97; omega
    have k2 : ¬ (122 : Int) < ((((⟨#[b]⟩ : ByteArray)[0]'Nat.zero_lt_one).toNat : Nat) : Int) := by show ¬ (122 : Int) < (b.toNat : Int); omega
    subst h1
    go_enter Try.func118, Try.ntmps118
    go_upto_region 1 with (fail)
    refine wp_world fun W HW => ?_
    have hB : Below w.heap.size w W := by rw [HW.out]; (repeat (first | exact Below.refl _ _ | refine Below.alloc ?_ (by simp; try omega) _ | refine Below.setCell ?_ (by simp) _ | refine Below.drew ?_))
    have vb0 : W.cell? ⟨w.heap.size, 0, none⟩ = some (.string ⟨#[b]⟩) := by rw [HW.out]; simp [go_sem]
    have vb1 : W.cell? ⟨w.heap.size, 1, none⟩ = some (.int .i64 op) := by rw [HW.out]; simp [go_sem]
    have vb2 : W.cell? ⟨w.heap.size, 2, none⟩ = some (.slice sa args.length ca) := by rw [HW.out]; simp [go_sem]
    have vb3 : W.cell? ⟨w.heap.size, 3, none⟩ = some (.int .i64 i0) := by rw [HW.out]; simp [go_sem]
    have vb4 : W.cell? ⟨w.heap.size, 4, none⟩ = some (.int .i64 i1) := by rw [HW.out]; simp [go_sem]
    have vb5 : W.cell? ⟨w.heap.size, 5, none⟩ = some (.int .i64 i2) := by rw [HW.out]; simp [go_sem]
    have vb6 : W.cell? ⟨w.heap.size, 6, none⟩ = some (.int .i64 i3) := by rw [HW.out]; simp [go_sem]
    have vbl : w.heap.size < W.heap.size := World.block_lt_of_cell? W _ vb0
    try replace hs := up_of hB hs
    try have ld_vb0 := World.block_lt_of_cell? _ _ vb0
    refine region_q (by kernel_rfl) (by kernel_rfl) ?_
    dsimp only [List.toList_toArray]
    repeat (first
     | go_big_quiet_skip
     | (go_big_quiet_want
        first
        | (refine qq_det ?_
           apply Exists.intro; refine ⟨fun W' hW' => ?_, ?_⟩
           (· have hk := cellB hW'; go_simp; try (first | rfl | rw [if_pos (by omega)]))
           simp only [Act.put, List.setIfInBounds_toArray, List.set_cons_zero, List.set_cons_succ]; go_big_quiet_on)
        | (refine qq_call ?_
           apply Exists.intro; apply Exists.intro; refine ⟨fun W' hW' => ?_, ?_⟩
           (· have hk := cellB hW'; go_simp; exact ⟨rfl, rfl⟩)
           apply Exists.intro; refine ⟨fun W' hW' => ?_, ?_⟩
           (· first | (go_at_call 147; exact qs hW' (har.out _)))
           simp only [Act.put, List.setIfInBounds_toArray, List.set_cons_zero, List.set_cons_succ]; go_big_quiet_on)))
    refine wpQuiet_nil ?_
    intro W1 hb
    try replace hs := up_of hb hs
    try replace hB := up_of hb hB
    try replace vb0 := up_of hb vb0
    try replace vb1 := up_of hb vb1
    try replace vb2 := up_of hb vb2
    try replace vb3 := up_of hb vb3
    try replace vb4 := up_of hb vb4
    try replace vb5 := up_of hb vb5
    try replace vb6 := up_of hb vb6
    try replace vbl := up_of hb vbl
    go_wp2
    go_ret
    exact ⟨rfl, hB⟩
  · have k1 : ¬ ((((⟨#[b]⟩ : ByteArray)[0]'Nat.zero_lt_one).toNat : Nat) : Int) < 97 := by show ¬ (b.toNat : Int) < 97; omega
    have k2 : ¬ (122 : Int) < ((((⟨#[b]⟩ : ByteArray)[0]'Nat.zero_lt_one).toNat : Nat) : Int) := by show ¬ (122 : Int) < (b.toNat : Int); omega
    have k3 : ((nd : Int) == 0) = false := by simp; omega
    have k4 : ((args.length : Int) != (nd : Int)) = true := by rw [bne_iff_ne]; omega
    clear h1 h6
    go_enter Try.func118, Try.ntmps118
    go_upto_region 1 with (fail)
    refine wp_world fun W HW => ?_
    have hB : Below w.heap.size w W := by rw [HW.out]; (repeat (first | exact Below.refl _ _ | refine Below.alloc ?_ (by simp; try omega) _ | refine Below.setCell ?_ (by simp) _ | refine Below.drew ?_))
    have vb0 : W.cell? ⟨w.heap.size, 0, none⟩ = some (.string ⟨#[b]⟩) := by rw [HW.out]; simp [go_sem]
    have vb1 : W.cell? ⟨w.heap.size, 1, none⟩ = some (.int .i64 op) := by rw [HW.out]; simp [go_sem]
    have vb2 : W.cell? ⟨w.heap.size, 2, none⟩ = some (.slice sa args.length ca) := by rw [HW.out]; simp [go_sem]
    have vb3 : W.cell? ⟨w.heap.size, 3, none⟩ = some (.int .i64 i0) := by rw [HW.out]; simp [go_sem]
    have vb4 : W.cell? ⟨w.heap.size, 4, none⟩ = some (.int .i64 i1) := by rw [HW.out]; simp [go_sem]
    have vb5 : W.cell? ⟨w.heap.size, 5, none⟩ = some (.int .i64 i2) := by rw [HW.out]; simp [go_sem]
    have vb6 : W.cell? ⟨w.heap.size, 6, none⟩ = some (.int .i64 i3) := by rw [HW.out]; simp [go_sem]
    have vbl : w.heap.size < W.heap.size := World.block_lt_of_cell? W _ vb0
    try replace hs := up_of hB hs
    try have ld_vb0 := World.block_lt_of_cell? _ _ vb0
    refine region_q (by kernel_rfl) (by kernel_rfl) ?_
    dsimp only [List.toList_toArray]
    repeat (first
     | go_big_quiet_skip
     | (go_big_quiet_want
        first
        | (refine qq_det ?_
           apply Exists.intro; refine ⟨fun W' hW' => ?_, ?_⟩
           (· have hk := cellB hW'; go_simp; try (first | rfl | rw [if_pos (by omega)]))
           simp only [Act.put, List.setIfInBounds_toArray, List.set_cons_zero, List.set_cons_succ]; go_big_quiet_on)
        | (refine qq_call ?_
           apply Exists.intro; apply Exists.intro; refine ⟨fun W' hW' => ?_, ?_⟩
           (· have hk := cellB hW'; go_simp; exact ⟨rfl, rfl⟩)
           apply Exists.intro; refine ⟨fun W' hW' => ?_, ?_⟩
           (· first | (go_at_call 147; exact qs hW' (har.out _)))
           simp only [Act.put, List.setIfInBounds_toArray, List.set_cons_zero, List.set_cons_succ]; go_big_quiet_on)))
    refine wpQuiet_nil ?_
    intro W1 hb
    try replace hs := up_of hb hs
    try replace hB := up_of hb hB
    try replace vb0 := up_of hb vb0
    try replace vb1 := up_of hb vb1
    try replace vb2 := up_of hb vb2
    try replace vb3 := up_of hb vb3
    try replace vb4 := up_of hb vb4
    try replace vb5 := up_of hb vb5
    try replace vb6 := up_of hb vb6
    try replace vbl := up_of hb vbl
    go_wp2
    go_ret
    exact ⟨rfl, hB⟩
  · have k1 : ¬ ((((⟨#[b]⟩ : ByteArray)[0]'Nat.zero_lt_one).toNat : Nat) : Int) < 97 := by show ¬ (b.toNat : Int) < 97; omega
    have k2 : ¬ (122 : Int) < ((((⟨#[b]⟩ : ByteArray)[0]'Nat.zero_lt_one).toNat : Nat) : Int) := by show ¬ (122 : Int) < (b.toNat : Int); omega
    have k3 : ((nd : Int) == 0) = false := by simp; omega
    have k4 : ((args.length : Int) != (nd : Int)) = false := by rw [h6]; simp
    clear h1 h6
    have hno := fun (i : Nat) (hi : i < 4) hh => init_no (v := ⟨⟨#[b]⟩, op, args, i0, i1, i2, i3⟩) (n := n) hi hh
    have hyes := fun hh => init_yes (v := ⟨⟨#[b]⟩, op, args, i0, i1, i2, i3⟩) (n := n) hh
    have ano := fun (j : Nat) (hj : j < args.length) => all_no (f := argC vars n) hj
    have ayes := all_yes (f := argC vars n) (l := args)
    obtain ⟨IB, hIB⟩ : ∃ x, initB ⟨⟨#[b]⟩, op, args, i0, i1, i2, i3⟩ n = x := ⟨_, rfl⟩
    obtain ⟨AB, hAB⟩ : ∃ x, args.all (argC vars n) = x := ⟨_, rfl⟩
    rw [hIB, hAB] at h7
    simp only [hIB] at hno hyes
    simp only [hAB] at ano ayes
    clear hIB hAB
    subst h7
    replace hno := Lib.hid hno; replace hyes := Lib.hid hyes; replace ano := Lib.hid ano; replace ayes := Lib.hid ayes
    go_enter Try.func118, Try.ntmps118
    go_upto_region 1 with (fail)
    refine wp_world fun W HW => ?_
    have hB : Below w.heap.size w W := by rw [HW.out]; (repeat (first | exact Below.refl _ _ | refine Below.alloc ?_ (by simp; try omega) _ | refine Below.setCell ?_ (by simp) _ | refine Below.drew ?_))
    have vb0 : W.cell? ⟨w.heap.size, 0, none⟩ = some (.string ⟨#[b]⟩) := by rw [HW.out]; simp [go_sem]
    have vb1 : W.cell? ⟨w.heap.size, 1, none⟩ = some (.int .i64 op) := by rw [HW.out]; simp [go_sem]
    have vb2 : W.cell? ⟨w.heap.size, 2, none⟩ = some (.slice sa args.length ca) := by rw [HW.out]; simp [go_sem]
    have vb3 : W.cell? ⟨w.heap.size, 3, none⟩ = some (.int .i64 i0) := by rw [HW.out]; simp [go_sem]
    have vb4 : W.cell? ⟨w.heap.size, 4, none⟩ = some (.int .i64 i1) := by rw [HW.out]; simp [go_sem]
    have vb5 : W.cell? ⟨w.heap.size, 5, none⟩ = some (.int .i64 i2) := by rw [HW.out]; simp [go_sem]
    have vb6 : W.cell? ⟨w.heap.size, 6, none⟩ = some (.int .i64 i3) := by rw [HW.out]; simp [go_sem]
    have vbl : w.heap.size < W.heap.size := World.block_lt_of_cell? W _ vb0
    try replace hs := up_of hB hs
    try have ld_vb0 := World.block_lt_of_cell? _ _ vb0
    refine region_q (by kernel_rfl) (by kernel_rfl) ?_
    dsimp only [List.toList_toArray]
    repeat (first
     | go_big_quiet_skip
     | (go_big_quiet_want
        first
        | (refine qq_det ?_
           apply Exists.intro; refine ⟨fun W' hW' => ?_, ?_⟩
           (· have hk := cellB hW'; go_simp; try (first | rfl | rw [if_pos (by omega)]))
           simp only [Act.put, List.setIfInBounds_toArray, List.set_cons_zero, List.set_cons_succ]; go_big_quiet_on)
        | (refine qq_call ?_
           apply Exists.intro; apply Exists.intro; refine ⟨fun W' hW' => ?_, ?_⟩
           (· have hk := cellB hW'; go_simp; exact ⟨rfl, rfl⟩)
           apply Exists.intro; refine ⟨fun W' hW' => ?_, ?_⟩
           (· first | (go_at_call 147; exact qs hW' (har.out _)))
           simp only [Act.put, List.setIfInBounds_toArray, List.set_cons_zero, List.set_cons_succ]; go_big_quiet_on)))
    refine wpQuiet_nil ?_
    intro W1 hb
    try replace hs := up_of hb hs
    try replace hB := up_of hb hB
    try replace vb0 := up_of hb vb0
    try replace vb1 := up_of hb vb1
    try replace vb2 := up_of hb vb2
    try replace vb3 := up_of hb vb3
    try replace vb4 := up_of hb vb4
    try replace vb5 := up_of hb vb5
    try replace vb6 := up_of hb vb6
    try replace vbl := up_of hb vbl
    have hix := fun (V : World) (i : Nat) (hi : i < 4) => ixI (name := ⟨#[b]⟩) (op := op) (args := args) (i0 := i0) (i1 := i1) (i2 := i2) (i3 := i3) hi V
    replace hix := Lib.hid hix
    go_wp2
    go_loopw [45] (fun i V => ∃ j : Nat, j ≤ args.length ∧ i = .int .i64 j ∧ Below W1.heap.size W1 V ∧ Hid (∀ k (hk : k < args.length), k < j → argC vars n args[k] = true)) (fun i _ => args.length - (intOf i).toNat)
    case atStart => exact ⟨0, by omega, rfl, Below.refl _ _, fun k hk h => absurd h (by omega)⟩
    case round =>
      obtain ⟨j, hj, rfl, hBV, hall⟩ := hrel
      try replace hs := up_of hBV hs
      try replace hB := up_of hBV hB
      try replace vb0 := up_of hBV vb0
      try replace vb1 := up_of hBV vb1
      try replace vb2 := up_of hBV vb2
      try replace vb3 := up_of hBV vb3
      try replace vb4 := up_of hBV vb4
      try replace vb5 := up_of hBV vb5
      try replace vb6 := up_of hBV vb6
      try replace vbl := up_of hBV vbl
      by_cases hlt : j < args.length
      · obtain ⟨bk, off, rfl, hbk, q0, q1, q2, q3⟩ := hs.ar_at hlt
        have hbad := ano.out j hlt
        have hgood : argC vars n args[j] = true → ∀ k (hk : k < args.length), k < j + 1 → argC vars n args[k] = true := fun h k hk hk2 => by
          by_cases hk3 : k < j
          · exact hall.out k hk hk3
          · obtain rfl : k = j := by omega
            exact h
        obtain ⟨a, ha⟩ : ∃ a, args[j] = a := ⟨_, rfl⟩
        rw [ha] at q0 q1 q2 q3 hbad hgood
        have hfl := fun V => Flat_c a.p n 3 V (by omega) (by omega)
        have har2 : argC vars n a = (flatB a.p n 3 && bw 0 a.v (vars - 1)) := rfl
        rw [har2] at hbad hgood
        clear ha har2
        have g1 : (0 : Int) ≤ (j : Int) := by omega
        have g2 : (j : Int) < (args.length : Int) := by omega
        go_upto_region 6 with (fail)
        refine wp_world fun Y HY => ?_
        have hY : Below wr.heap.size wr Y := by rw [HY.out]; (repeat (first | exact Below.refl _ _ | refine Below.alloc ?_ (by simp; try omega) _ | refine Below.setCell ?_ (by simp) _ | refine Below.drew ?_))
        have c0 : Y.cell? ⟨wr.heap.size, 0, none⟩ = some (.int .i64 a.v) := by rw [HY.out]; simp [go_sem]
        have c1 : Y.cell? ⟨wr.heap.size, 1, none⟩ = some (.int .i64 a.p.x) := by rw [HY.out]; simp [go_sem]
        have c2 : Y.cell? ⟨wr.heap.size, 2, none⟩ = some (.int .i64 a.p.y) := by rw [HY.out]; simp [go_sem]
        have c3 : Y.cell? ⟨wr.heap.size, 3, none⟩ = some (.int .i64 a.p.z) := by rw [HY.out]; simp [go_sem]
        have cl : wr.heap.size < Y.heap.size := World.block_lt_of_cell? Y _ c0
        try replace hs := up_of hY hs
        try replace hB := up_of hY hB
        try replace vb0 := up_of hY vb0
        try replace vb1 := up_of hY vb1
        try replace vb2 := up_of hY vb2
        try replace vb3 := up_of hY vb3
        try replace vb4 := up_of hY vb4
        try replace vb5 := up_of hY vb5
        try replace vb6 := up_of hY vb6
        try replace vbl := up_of hY vbl
        try replace hBV := up_of hY hBV
        obtain ⟨fb, hfb⟩ : ∃ x, flatB a.p n 3 = x := ⟨_, rfl⟩
        rw [hfb] at hbad hgood
        simp only [hfb] at hfl
        replace hfl := Lib.hid hfl
        clear hfb hall
        by_cases hv0 : a.v < 0
        · obtain rfl := hbad (by rw [show bw 0 a.v (vars - 1) = false by simp [bw]; omega]; simp)
          clear hgood
          go_wp2_with (first | (go_at_call 46; refine (hfl.out _).mono ?_; rintro e W1 ⟨rfl, hb⟩; (try replace hs := up_of hb hs); (try replace hB := up_of hb hB); (try replace vb0 := up_of hb vb0); (try replace vb1 := up_of hb vb1); (try replace vb2 := up_of hb vb2); (try replace vb3 := up_of hb vb3); (try replace vb4 := up_of hb vb4); (try replace vb5 := up_of hb vb5); (try replace vb6 := up_of hb vb6); (try replace vbl := up_of hb vbl); (try replace hBV := up_of hb hBV); (try replace hY := up_of hb hY); (try replace c0 := up_of hb c0); (try replace c1 := up_of hb c1); (try replace c2 := up_of hb c2); (try replace c3 := up_of hb c3); (try replace cl := up_of hb cl)))
          go_ret
          exact ⟨ret_bool (by simp), hB⟩
        by_cases hv1 : (vars : Int) ≤ a.v
        · obtain rfl := hbad (by rw [show bw 0 a.v (vars - 1) = false by simp [bw]; omega]; simp)
          clear hgood
          go_wp2_with (first | (go_at_call 46; refine (hfl.out _).mono ?_; rintro e W1 ⟨rfl, hb⟩; (try replace hs := up_of hb hs); (try replace hB := up_of hb hB); (try replace vb0 := up_of hb vb0); (try replace vb1 := up_of hb vb1); (try replace vb2 := up_of hb vb2); (try replace vb3 := up_of hb vb3); (try replace vb4 := up_of hb vb4); (try replace vb5 := up_of hb vb5); (try replace vb6 := up_of hb vb6); (try replace vbl := up_of hb vbl); (try replace hBV := up_of hb hBV); (try replace hY := up_of hb hY); (try replace c0 := up_of hb c0); (try replace c1 := up_of hb c1); (try replace c2 := up_of hb c2); (try replace c3 := up_of hb c3); (try replace cl := up_of hb cl)))
          go_ret
          exact ⟨ret_bool (by simp), hB⟩
        rw [show bw 0 a.v (vars - 1) = true by rw [bw_iff]; omega] at hbad hgood
        cases fb
        · obtain rfl := hbad rfl
          clear hgood
          go_wp2_with (first | (go_at_call 46; refine (hfl.out _).mono ?_; rintro e W1 ⟨rfl, hb⟩; (try replace hs := up_of hb hs); (try replace hB := up_of hb hB); (try replace vb0 := up_of hb vb0); (try replace vb1 := up_of hb vb1); (try replace vb2 := up_of hb vb2); (try replace vb3 := up_of hb vb3); (try replace vb4 := up_of hb vb4); (try replace vb5 := up_of hb vb5); (try replace vb6 := up_of hb vb6); (try replace vbl := up_of hb vbl); (try replace hBV := up_of hb hBV); (try replace hY := up_of hb hY); (try replace c0 := up_of hb c0); (try replace c1 := up_of hb c1); (try replace c2 := up_of hb c2); (try replace c3 := up_of hb c3); (try replace cl := up_of hb cl)))
          go_ret
          exact ⟨ret_bool (by simp), hB⟩
        · have hok := Lib.hid (hgood rfl)
          clear hgood hbad
          go_wp2_with (first | (go_at_call 46; refine (hfl.out _).mono ?_; rintro e W1 ⟨rfl, hb⟩; (try replace hs := up_of hb hs); (try replace hB := up_of hb hB); (try replace vb0 := up_of hb vb0); (try replace vb1 := up_of hb vb1); (try replace vb2 := up_of hb vb2); (try replace vb3 := up_of hb vb3); (try replace vb4 := up_of hb vb4); (try replace vb5 := up_of hb vb5); (try replace vb6 := up_of hb vb6); (try replace vbl := up_of hb vbl); (try replace hBV := up_of hb hBV); (try replace hY := up_of hb hY); (try replace c0 := up_of hb c0); (try replace c1 := up_of hb c1); (try replace c2 := up_of hb c2); (try replace c3 := up_of hb c3); (try replace cl := up_of hb cl)))
          go_roundw
          case rel => exact ⟨j + 1, by omega, rfl, hBV, hok⟩
          case measure => exact meas hlt
      · obtain rfl : j = args.length := by omega
        obtain rfl := ayes.out (fun k hk => hall.out k hk hk)
        clear hall
        have hix2 := hix.out wr
        replace hix2 := Lib.hid hix2
        go_wp2
        go_loop [68] (fun ii => ∃ i : Nat, i ≤ 4 ∧ ii = .int .i64 i ∧ Hid (∀ j, j < i → initC j (initV ⟨⟨#[b]⟩, op, args, i0, i1, i2, i3⟩ j) n = true)) (fun ii => 4 - (intOf ii).toNat)
        case atStart => exact ⟨0, by omega, rfl, fun j h => absurd h (by omega)⟩
        case round =>
          obtain ⟨i, hi, rfl, hall⟩ := hrel
          by_cases hlt : i < 4
          · have gix := hix2.out i hlt
            have hbad := hno.out i hlt
            have hgood : initC i (initV ⟨⟨#[b]⟩, op, args, i0, i1, i2, i3⟩ i) n = true → ∀ j, j < i + 1 → initC j (initV ⟨⟨#[b]⟩, op, args, i0, i1, i2, i3⟩ j) n = true := fun h j hj => by
              by_cases hj2 : j < i
              · exact hall.out j hj2
              · obtain rfl : j = i := by omega
                exact h
            obtain ⟨x, hx⟩ : ∃ x, initV ⟨⟨#[b]⟩, op, args, i0, i1, i2, i3⟩ i = x := ⟨_, rfl⟩
            rw [hx] at gix hbad hgood
            clear hx hall
            unfold initC at hbad hgood
            have i1 : (i : Int) < 4 := by omega
            by_cases hx0 : x < 0
            · obtain rfl := hbad (by rw [show bw 0 x 10006 = false by simp [bw]; omega]; rfl)
              clear hgood
              go_wp2
              go_ret
              exact ⟨rfl, hB⟩
            by_cases hx1 : 10007 ≤ x
            · obtain rfl := hbad (by rw [show bw 0 x 10006 = false by simp [bw]; omega]; rfl)
              clear hgood
              go_wp2
              go_ret
              exact ⟨rfl, hB⟩
            rw [show bw 0 x 10006 = true by rw [bw_iff]; omega] at hbad hgood
            by_cases hin : (i : Int) ≤ (n : Int)
            · have hok := hgood (by rw [decide_eq_true hin]; rfl)
              have i2 : ¬ (n : Int) < (i : Int) := by omega
              replace hok := Lib.hid hok
              clear hbad hgood hin
              go_wp2
              go_round
              case rel => exact ⟨i + 1, by omega, by go_num, hok⟩
              case measure => exact meas hlt
            · have i2 : (n : Int) < (i : Int) := by omega
              by_cases hxz : x = 0
              · have hok := hgood (by rw [decide_eq_true hxz]; simp)
                have hz : (x != 0) = false := by rw [hxz]; rfl
                replace hok := Lib.hid hok
                clear hbad hgood hin hxz
                go_wp2
                go_round
                case rel => exact ⟨i + 1, by omega, by go_num, hok⟩
                case measure => exact meas hlt
              · obtain rfl := hbad (by rw [decide_eq_false hxz, decide_eq_false hin]; rfl)
                have hz : (x != 0) = true := bne_iff_ne.2 hxz
                clear hgood hin hxz
                go_wp2
                go_ret
                exact ⟨rfl, hB⟩
          · obtain rfl : i = 4 := by omega
            obtain rfl := hyes.out hall.out
            clear hall
            go_wp2
            go_ret
            exact ⟨rfl, hB⟩
end Go.Proofs.Ytbpdgoedglkefaa
