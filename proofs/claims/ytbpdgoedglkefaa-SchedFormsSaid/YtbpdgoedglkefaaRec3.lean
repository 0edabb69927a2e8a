/- Valid variables: the program's validVar. -/
import Derived.Test.YtbpdgoedglkefaaRec2
import Derived.Laws.Tables
namespace Go.Proofs.Ytbpdgoedglkefaa
open Go.RowKit

theorem one_byte {s : ByteArray} (h : s.size = 1) : ∃ b : UInt8, s = ⟨#[b]⟩ := by
  rcases s with ⟨⟨l⟩⟩
  have h2 : l.length = 1 := h
  match l, h2 with
  | [b], _ => exact ⟨b, rfl⟩
theorem nameB_size {s : ByteArray} (h : ¬ s.size = 1) : nameB s = false := by unfold nameB; rw [decide_eq_false h]; rfl
theorem nameB_one (b : UInt8) : nameB ⟨#[b]⟩ = (decide (97 ≤ b.toNat) && decide (b.toNat ≤ 122)) := rfl
/-- The ways a variable's head can be. -/
theorem var_ways (vars n : Int) (v : Vv) : (needs v.op = 0 ∧ varB vars n v = false) ∨ (needs v.op ≠ 0 ∧ ¬ v.name.size = 1 ∧ varB vars n v = false) ∨ (needs v.op ≠ 0 ∧ ∃ b : UInt8, v.name = ⟨#[b]⟩ ∧ ((b.toNat < 97 ∧ varB vars n v = false) ∨ (97 ≤ b.toNat ∧ 122 < b.toNat ∧ varB vars n v = false) ∨ (97 ≤ b.toNat ∧ b.toNat ≤ 122 ∧ v.args.length ≠ needs v.op ∧ varB vars n v = false) ∨ (97 ≤ b.toNat ∧ b.toNat ≤ 122 ∧ v.args.length = needs v.op ∧ varB vars n v = (initB v n && v.args.all (argC vars n))))) := by
  unfold varB
  by_cases h1 : needs v.op = 0
  · exact .inl ⟨h1, by simp [h1]⟩
  · by_cases h2 : v.name.size = 1
    · obtain ⟨b, hb⟩ := one_byte h2
      refine .inr (.inr ⟨h1, b, hb, ?_⟩)
      rw [hb, nameB_one]
      by_cases h3 : 97 ≤ b.toNat
      · by_cases h4 : b.toNat ≤ 122
        · by_cases h5 : v.args.length = needs v.op
          · exact .inr (.inr (.inr ⟨h3, h4, h5, by simp [h1, h3, h4, h5]⟩))
          · exact .inr (.inr (.inl ⟨h3, h4, h5, by simp [h5]⟩))
        · exact .inr (.inl ⟨h3, by omega, by simp [h4]⟩)
      · exact .inl ⟨by omega, by simp [h3]⟩
    · exact .inr (.inl ⟨h1, h2, by rw [nameB_size h2]; simp⟩)
def initV (v : Vv) (i : Nat) : Int := if i = 0 then v.i0 else if i = 1 then v.i1 else if i = 2 then v.i2 else v.i3
theorem init_no {v : Vv} {n : Int} {i : Nat} (hi : i < 4) (h : initC i (initV v i) n = false) : initB v n = false := by
  have : i = 0 ∨ i = 1 ∨ i = 2 ∨ i = 3 := by omega
  rcases this with rfl | rfl | rfl | rfl
  all_goals
    simp [initV] at h
    simp [initB, h]
theorem init_yes {v : Vv} {n : Int} (h : ∀ i : Nat, i < 4 → initC i (initV v i) n = true) : initB v n = true := by
  have h0 := h 0 (by omega); have h1 := h 1 (by omega); have h2 := h 2 (by omega); have h3 := h 3 (by omega)
  simp [initV] at h0 h1 h2 h3
  simp [initB, h0, h1, h2, h3]
theorem ix4 (a b c d : Value) (w : World) : (Instr.index 81 (.agg #[a, b, c, d]) (.int .i64 0)).run Try.prog w = .ok a w ∧ (Instr.index 81 (.agg #[a, b, c, d]) (.int .i64 1)).run Try.prog w = .ok b w ∧ (Instr.index 81 (.agg #[a, b, c, d]) (.int .i64 2)).run Try.prog w = .ok c w ∧ (Instr.index 81 (.agg #[a, b, c, d]) (.int .i64 3)).run Try.prog w = .ok d w := ⟨by kernel_rfl, by kernel_rfl, by kernel_rfl, by kernel_rfl⟩
theorem ixI {name : ByteArray} {op : Int} {args : List Ar} {i0 i1 i2 i3 : Int} {i : Nat} (hi : i < 4) (w : World) : (Instr.index 81 (.agg #[.int .i64 i0, .int .i64 i1, .int .i64 i2, .int .i64 i3]) (.int .i64 (i : Int))).run Try.prog w = .ok (.int .i64 (initV ⟨name, op, args, i0, i1, i2, i3⟩ i)) w := by
  have h := ix4 (.int .i64 i0) (.int .i64 i1) (.int .i64 i2) (.int .i64 i3) w
  have : i = 0 ∨ i = 1 ∨ i = 2 ∨ i = 3 := by omega
  rcases this with rfl | rfl | rfl | rfl
  · exact h.1
  · exact h.2.1
  · exact h.2.2.1
  · exact h.2.2.2
set_option maxRecDepth 100000 in
set_option maxHeartbeats 4000000 in
theorem validVar_c (v : Vv) (sa : Option Addr) (ca : Nat) (vars : Nat) (n : Nat) (w : World) (hs : SlS arE w sa v.args) (hl : v.args.length ≤ 9223372036854775807) (hn : 1 ≤ n ∧ n ≤ 3) (hv : 1 ≤ vars ∧ vars ≤ 4) :
    Calls Try.prog 115 #[.agg #[.string v.name, .int .i64 v.op, .slice sa v.args.length ca, .int .i64 v.i0, .int .i64 v.i1, .int .i64 v.i2, .int .i64 v.i3], .int .i64 vars, .int .i64 n] w fun e w' => e = .returned (.bool (varB vars n v)) ∧ Below w.heap.size w w' := by
  have hk := fun V => kindOf_c v.op V
  unfold KindRet at hk
  have hw := var_ways vars n v
  obtain ⟨name, op, args, i0, i1, i2, i3⟩ := v
  simp only at hs hl hk hw ⊢
  have hk0 := fun V (h : needs op = 0) => (hk V).mono (R' := fun e w' => (∃ a : ByteArray, e = .returned (.tuple #[.agg #[.string a, .int .i64 (needs op : Nat), .nilFunc], .bool (decide (needs op ≠ 0))])) ∧ Below V.heap.size V w') (fun e w' ⟨⟨a, b, he, hb⟩, hB⟩ => by rw [if_pos h] at hb; subst hb; exact ⟨⟨a, he⟩, hB⟩)
  have hk1 := fun V (h : needs op ≠ 0) => (hk V).mono (R' := fun e w' => (∃ (a : ByteArray) (f : Nat), e = .returned (.tuple #[.agg #[.string a, .int .i64 (needs op : Nat), .func (.func f) #[] #[]], .bool (decide (needs op ≠ 0))])) ∧ Below V.heap.size V w') (fun e w' ⟨⟨a, b, he, hb⟩, hB⟩ => by rw [if_neg h] at hb; obtain ⟨f, rfl⟩ := hb; exact ⟨⟨a, f, he⟩, hB⟩)
  clear hk
  obtain ⟨nd, hnd⟩ : ∃ x, needs op = x := ⟨_, rfl⟩
  obtain ⟨B, hB0⟩ : ∃ x, varB vars n ⟨name, op, args, i0, i1, i2, i3⟩ = x := ⟨_, rfl⟩
  simp only [hnd] at hk0 hk1 hw
  simp only [hB0] at hw ⊢
  obtain ⟨ok, hok⟩ : ∃ x, decide (nd ≠ 0) = x := ⟨_, rfl⟩
  simp only [hok] at hk0 hk1
  have hz0 : nd = 0 → ok = false := fun h => by rw [← hok, h]; rfl
  have hz1 : nd ≠ 0 → ok = true := fun h => by rw [← hok]; exact decide_eq_true h
  clear hnd hB0 hok
  have hwl : ∀ W2 : World, Below w.heap.size w W2 → Below w.heap.size w W2 := fun _ h => h
  rcases hw with ⟨h1, rfl⟩ | ⟨h1, h2, rfl⟩ | ⟨h1, b, rfl, h3⟩
  · obtain rfl := hz0 h1
    have hk := fun V => hk0 V h1
    replace hk := Lib.hid hk
    clear hz0 hz1 h1 hk0 hk1
    go_enter Try.func115, Try.ntmps115
    go_upto_region 1 with (fail)
    refine wp_world fun W HW => ?_
    have hB : Below w.heap.size w W := by rw [HW.out]; (repeat (first | exact Below.refl _ _ | refine Below.alloc ?_ (by simp; try omega) _ | refine Below.setCell ?_ (by simp) _ | refine Below.drew ?_))
    have vb0 : W.cell? ⟨w.heap.size, 0, none⟩ = some (.string name) := by rw [HW.out]; simp [go_sem]
    have vb1 : W.cell? ⟨w.heap.size, 1, none⟩ = some (.int .i64 op) := by rw [HW.out]; simp [go_sem]
    have vb2 : W.cell? ⟨w.heap.size, 2, none⟩ = some (.slice sa args.length ca) := by rw [HW.out]; simp [go_sem]
    have vb3 : W.cell? ⟨w.heap.size, 3, none⟩ = some (.int .i64 i0) := by rw [HW.out]; simp [go_sem]
    have vb4 : W.cell? ⟨w.heap.size, 4, none⟩ = some (.int .i64 i1) := by rw [HW.out]; simp [go_sem]
    have vb5 : W.cell? ⟨w.heap.size, 5, none⟩ = some (.int .i64 i2) := by rw [HW.out]; simp [go_sem]
    have vb6 : W.cell? ⟨w.heap.size, 6, none⟩ = some (.int .i64 i3) := by rw [HW.out]; simp [go_sem]
    have vbl : w.heap.size < W.heap.size := World.block_lt_of_cell? W _ vb0
    have ub0 : W.cell? ⟨w.heap.size + 1, 0, none⟩ = some (.int .i64 vars) := by rw [HW.out]; simp [go_sem]
    have ubl : w.heap.size + 1 < W.heap.size := World.block_lt_of_cell? W _ ub0
    have nb0 : W.cell? ⟨w.heap.size + 2, 0, none⟩ = some (.int .i64 n) := by rw [HW.out]; simp [go_sem]
    have nbl : w.heap.size + 2 < W.heap.size := World.block_lt_of_cell? W _ nb0
    try replace hs := up_of hB hs
    go_upto_region 2 with (first | (go_at_call 142; refine (hk.out _).mono ?_; rintro e W2 ⟨⟨ka, rfl⟩, hb⟩; (try replace hs := up_of hb hs); (try replace hB := up_of hb hB); (try replace vb0 := up_of hb vb0); (try replace vb1 := up_of hb vb1); (try replace vb2 := up_of hb vb2); (try replace vb3 := up_of hb vb3); (try replace vb4 := up_of hb vb4); (try replace vb5 := up_of hb vb5); (try replace vb6 := up_of hb vb6); (try replace vbl := up_of hb vbl); (try replace ub0 := up_of hb ub0); (try replace ubl := up_of hb ubl); (try replace nb0 := up_of hb nb0); (try replace nbl := up_of hb nbl)) | (refine wpList_store_row rfl 165 _ _ rfl W2.heap.size #[.string ka, .int .i64 nd, .nilFunc] rfl (by kernel_rfl) 165 _ (Row.new W2 _ _) (by kernel_rfl) (by kernel_rfl) (by kernel_rfl) ?_))
    refine wp_world fun W3 HW3 => ?_
    have h3 : Below W2.heap.size W2 W3 := by
      rw [HW3.out]
      exact ((Below.refl _ W2).alloc (Nat.le_refl _) _).trans ⟨rfl, rfl, rfl, by simp [World.setRow], fun k hk => setRow_other _ _ k _ (by omega)⟩
    have kxN : Row (W2.alloc (.cells #[.string ⟨#[]⟩, .int .i64 0, .nilFunc] 165)) W2.heap.size 165 _ := Row.new W2 _ _
    have kxR : Row W3 W2.heap.size 165 #[.string ka, .int .i64 nd, .nilFunc] := by rw [HW3.out]; exact setRow_heap _ _ _ _ _ _ kxN
    have kx1 : W3.cell? ⟨W2.heap.size, 1, none⟩ = some (.int .i64 nd) := kxR.cell rfl
    have kxl := World.block_lt_of_cell? _ _ kx1
    try replace hs := up_of h3 hs
    try replace hB := up_of h3 hB
    try replace vb0 := up_of h3 vb0
    try replace vb1 := up_of h3 vb1
    try replace vb2 := up_of h3 vb2
    try replace vb3 := up_of h3 vb3
    try replace vb4 := up_of h3 vb4
    try replace vb5 := up_of h3 vb5
    try replace vb6 := up_of h3 vb6
    try replace vbl := up_of h3 vbl
    try replace ub0 := up_of h3 ub0
    try replace ubl := up_of h3 ubl
    try replace nb0 := up_of h3 nb0
    try replace nbl := up_of h3 nbl
    clear HW3
    go_wp2
    go_ret
    exact ⟨rfl, hB⟩
  · obtain rfl := hz1 h1
    have hk := fun V => hk1 V h1
    have h4 : ((name.size : Int) != 1) = true := by rw [bne_iff_ne]; omega
    replace hk := Lib.hid hk
    clear hz0 hz1 h1 hk0 hk1
    go_enter Try.func115, Try.ntmps115
    go_upto_region 1 with (fail)
    refine wp_world fun W HW => ?_
    have hB : Below w.heap.size w W := by rw [HW.out]; (repeat (first | exact Below.refl _ _ | refine Below.alloc ?_ (by simp; try omega) _ | refine Below.setCell ?_ (by simp) _ | refine Below.drew ?_))
    have vb0 : W.cell? ⟨w.heap.size, 0, none⟩ = some (.string name) := by rw [HW.out]; simp [go_sem]
    have vb1 : W.cell? ⟨w.heap.size, 1, none⟩ = some (.int .i64 op) := by rw [HW.out]; simp [go_sem]
    have vb2 : W.cell? ⟨w.heap.size, 2, none⟩ = some (.slice sa args.length ca) := by rw [HW.out]; simp [go_sem]
    have vb3 : W.cell? ⟨w.heap.size, 3, none⟩ = some (.int .i64 i0) := by rw [HW.out]; simp [go_sem]
    have vb4 : W.cell? ⟨w.heap.size, 4, none⟩ = some (.int .i64 i1) := by rw [HW.out]; simp [go_sem]
    have vb5 : W.cell? ⟨w.heap.size, 5, none⟩ = some (.int .i64 i2) := by rw [HW.out]; simp [go_sem]
    have vb6 : W.cell? ⟨w.heap.size, 6, none⟩ = some (.int .i64 i3) := by rw [HW.out]; simp [go_sem]
    have vbl : w.heap.size < W.heap.size := World.block_lt_of_cell? W _ vb0
    have ub0 : W.cell? ⟨w.heap.size + 1, 0, none⟩ = some (.int .i64 vars) := by rw [HW.out]; simp [go_sem]
    have ubl : w.heap.size + 1 < W.heap.size := World.block_lt_of_cell? W _ ub0
    have nb0 : W.cell? ⟨w.heap.size + 2, 0, none⟩ = some (.int .i64 n) := by rw [HW.out]; simp [go_sem]
    have nbl : w.heap.size + 2 < W.heap.size := World.block_lt_of_cell? W _ nb0
    try replace hs := up_of hB hs
    go_upto_region 2 with (first | (go_at_call 142; refine (hk.out _).mono ?_; rintro e W2 ⟨⟨ka, kf, rfl⟩, hb⟩; (try replace hs := up_of hb hs); (try replace hB := up_of hb hB); (try replace vb0 := up_of hb vb0); (try replace vb1 := up_of hb vb1); (try replace vb2 := up_of hb vb2); (try replace vb3 := up_of hb vb3); (try replace vb4 := up_of hb vb4); (try replace vb5 := up_of hb vb5); (try replace vb6 := up_of hb vb6); (try replace vbl := up_of hb vbl); (try replace ub0 := up_of hb ub0); (try replace ubl := up_of hb ubl); (try replace nb0 := up_of hb nb0); (try replace nbl := up_of hb nbl)) | (refine wpList_store_row rfl 165 _ _ rfl W2.heap.size #[.string ka, .int .i64 nd, .func (.func kf) #[] #[]] rfl (by kernel_rfl) 165 _ (Row.new W2 _ _) (by kernel_rfl) (by kernel_rfl) (by kernel_rfl) ?_))
    refine wp_world fun W3 HW3 => ?_
    have h3 : Below W2.heap.size W2 W3 := by
      rw [HW3.out]
      exact ((Below.refl _ W2).alloc (Nat.le_refl _) _).trans ⟨rfl, rfl, rfl, by simp [World.setRow], fun k hk => setRow_other _ _ k _ (by omega)⟩
    have kxN : Row (W2.alloc (.cells #[.string ⟨#[]⟩, .int .i64 0, .nilFunc] 165)) W2.heap.size 165 _ := Row.new W2 _ _
    have kxR : Row W3 W2.heap.size 165 #[.string ka, .int .i64 nd, .func (.func kf) #[] #[]] := by rw [HW3.out]; exact setRow_heap _ _ _ _ _ _ kxN
    have kx1 : W3.cell? ⟨W2.heap.size, 1, none⟩ = some (.int .i64 nd) := kxR.cell rfl
    have kxl := World.block_lt_of_cell? _ _ kx1
    try replace hs := up_of h3 hs
    try replace hB := up_of h3 hB
    try replace vb0 := up_of h3 vb0
    try replace vb1 := up_of h3 vb1
    try replace vb2 := up_of h3 vb2
    try replace vb3 := up_of h3 vb3
    try replace vb4 := up_of h3 vb4
    try replace vb5 := up_of h3 vb5
    try replace vb6 := up_of h3 vb6
    try replace vbl := up_of h3 vbl
    try replace ub0 := up_of h3 ub0
    try replace ubl := up_of h3 ubl
    try replace nb0 := up_of h3 nb0
    try replace nbl := up_of h3 nbl
    clear HW3
    go_wp2
    go_ret
    exact ⟨rfl, hB⟩
  obtain rfl := hz1 h1
  have h8 : b.toNat < 256 := b.toNat_lt
  have hk := fun V => hk1 V h1
  clear hz0 hz1 h1 hk0 hk1
  rcases h3 with ⟨h4, rfl⟩ | ⟨h4, h5, rfl⟩ | ⟨h4, h5, h6, rfl⟩ | ⟨h4, h5, h6, h7⟩
  · replace hk := Lib.hid hk
    have k1 : ((((⟨#[b]⟩ : ByteArray)[0]'Nat.zero_lt_one).toNat : Nat) : Int) < 97 := by show (b.toNat : Int) < 97; omega
    go_enter Try.func115, Try.ntmps115
    go_upto_region 1 with (fail)
    refine wp_world fun W HW => ?_
    have hB : Below w.heap.size w W := by rw [HW.out]; (repeat (first | exact Below.refl _ _ | refine Below.alloc ?_ (by simp; try omega) _ | refine Below.setCell ?_ (by simp) _ | refine Below.drew ?_))
    have vb0 : W.cell? ⟨w.heap.size, 0, none⟩ = some (.string ⟨#[b]⟩) := by rw [HW.out]; simp [go_sem]
    have vb1 : W.cell? ⟨w.heap.size, 1, none⟩ = some (.int .i64 op) := by rw [HW.out]; simp [go_sem]
    have vb2 : W.cell? ⟨w.heap.size, 2, none⟩ = some (.slice sa args.length ca) := by rw [HW.out]; simp [go_sem]
    have vb3 : W.cell? ⟨w.heap.size, 3, none⟩ = some (.int .i64 i0) := by rw [HW.out]; simp [go_sem]
    have vb4 : W.cell? ⟨w.heap.size, 4, none⟩ = some (.int .i64 i1) := by rw [HW.out]; simp [go_sem]
    have vb5 : W.cell? ⟨w.heap.size, 5, none⟩ = some (.int .i64 i2) := by rw [HW.out]; simp [go_sem]
    have vb6 : W.cell? ⟨w.heap.size, 6, none⟩ = some (.int .i64 i3) := by rw [HW.out]; simp [go_sem]
    have vbl : w.heap.size < W.heap.size := World.block_lt_of_cell? W _ vb0
    have ub0 : W.cell? ⟨w.heap.size + 1, 0, none⟩ = some (.int .i64 vars) := by rw [HW.out]; simp [go_sem]
    have ubl : w.heap.size + 1 < W.heap.size := World.block_lt_of_cell? W _ ub0
    have nb0 : W.cell? ⟨w.heap.size + 2, 0, none⟩ = some (.int .i64 n) := by rw [HW.out]; simp [go_sem]
    have nbl : w.heap.size + 2 < W.heap.size := World.block_lt_of_cell? W _ nb0
    try replace hs := up_of hB hs
    go_upto_region 2 with (first | (go_at_call 142; refine (hk.out _).mono ?_; rintro e W2 ⟨⟨ka, kf, rfl⟩, hb⟩; (try replace hs := up_of hb hs); (try replace hB := up_of hb hB); (try replace vb0 := up_of hb vb0); (try replace vb1 := up_of hb vb1); (try replace vb2 := up_of hb vb2); (try replace vb3 := up_of hb vb3); (try replace vb4 := up_of hb vb4); (try replace vb5 := up_of hb vb5); (try replace vb6 := up_of hb vb6); (try replace vbl := up_of hb vbl); (try replace ub0 := up_of hb ub0); (try replace ubl := up_of hb ubl); (try replace nb0 := up_of hb nb0); (try replace nbl := up_of hb nbl)) | (refine wpList_store_row rfl 165 _ _ rfl W2.heap.size #[.string ka, .int .i64 nd, .func (.func kf) #[] #[]] rfl (by kernel_rfl) 165 _ (Row.new W2 _ _) (by kernel_rfl) (by kernel_rfl) (by kernel_rfl) ?_))
    refine wp_world fun W3 HW3 => ?_
    have h3 : Below W2.heap.size W2 W3 := by
      rw [HW3.out]
      exact ((Below.refl _ W2).alloc (Nat.le_refl _) _).trans ⟨rfl, rfl, rfl, by simp [World.setRow], fun k hk => setRow_other _ _ k _ (by omega)⟩
    have kxN : Row (W2.alloc (.cells #[.string ⟨#[]⟩, .int .i64 0, .nilFunc] 165)) W2.heap.size 165 _ := Row.new W2 _ _
    have kxR : Row W3 W2.heap.size 165 #[.string ka, .int .i64 nd, .func (.func kf) #[] #[]] := by rw [HW3.out]; exact setRow_heap _ _ _ _ _ _ kxN
    have kx1 : W3.cell? ⟨W2.heap.size, 1, none⟩ = some (.int .i64 nd) := kxR.cell rfl
    have kxl := World.block_lt_of_cell? _ _ kx1
    try replace hs := up_of h3 hs
    try replace hB := up_of h3 hB
    try replace vb0 := up_of h3 vb0
    try replace vb1 := up_of h3 vb1
    try replace vb2 := up_of h3 vb2
    try replace vb3 := up_of h3 vb3
    try replace vb4 := up_of h3 vb4
    try replace vb5 := up_of h3 vb5
    try replace vb6 := up_of h3 vb6
    try replace vbl := up_of h3 vbl
    try replace ub0 := up_of h3 ub0
    try replace ubl := up_of h3 ubl
    try replace nb0 := up_of h3 nb0
    try replace nbl := up_of h3 nbl
    clear HW3
    go_wp2
    go_ret
    exact ⟨rfl, hB⟩
  · replace hk := Lib.hid hk
    have k1 : ¬ ((((⟨#[b]⟩ : ByteArray)[0]'Nat.zero_lt_one).toNat : Nat) : Int) < 97 := by show ¬ (b.toNat : Int) < 97; omega
    have k2 : (122 : Int) < ((((⟨#[b]⟩ : ByteArray)[0]'Nat.zero_lt_one).toNat : Nat) : Int) := by show (122 : Int) < (b.toNat : Int); omega
    go_enter Try.func115, Try.ntmps115
    go_upto_region 1 with (fail)
    refine wp_world fun W HW => ?_
    have hB : Below w.heap.size w W := by rw [HW.out]; (repeat (first | exact Below.refl _ _ | refine Below.alloc ?_ (by simp; try omega) _ | refine Below.setCell ?_ (by simp) _ | refine Below.drew ?_))
    have vb0 : W.cell? ⟨w.heap.size, 0, none⟩ = some (.string ⟨#[b]⟩) := by rw [HW.out]; simp [go_sem]
    have vb1 : W.cell? ⟨w.heap.size, 1, none⟩ = some (.int .i64 op) := by rw [HW.out]; simp [go_sem]
    have vb2 : W.cell? ⟨w.heap.size, 2, none⟩ = some (.slice sa args.length ca) := by rw [HW.out]; simp [go_sem]
    have vb3 : W.cell? ⟨w.heap.size, 3, none⟩ = some (.int .i64 i0) := by rw [HW.out]; simp [go_sem]
    have vb4 : W.cell? ⟨w.heap.size, 4, none⟩ = some (.int .i64 i1) := by rw [HW.out]; simp [go_sem]
    have vb5 : W.cell? ⟨w.heap.size, 5, none⟩ = some (.int .i64 i2) := by rw [HW.out]; simp [go_sem]
    have vb6 : W.cell? ⟨w.heap.size, 6, none⟩ = some (.int .i64 i3) := by rw [HW.out]; simp [go_sem]
    have vbl : w.heap.size < W.heap.size := World.block_lt_of_cell? W _ vb0
    have ub0 : W.cell? ⟨w.heap.size + 1, 0, none⟩ = some (.int .i64 vars) := by rw [HW.out]; simp [go_sem]
    have ubl : w.heap.size + 1 < W.heap.size := World.block_lt_of_cell? W _ ub0
    have nb0 : W.cell? ⟨w.heap.size + 2, 0, none⟩ = some (.int .i64 n) := by rw [HW.out]; simp [go_sem]
    have nbl : w.heap.size + 2 < W.heap.size := World.block_lt_of_cell? W _ nb0
    try replace hs := up_of hB hs
    go_upto_region 2 with (first | (go_at_call 142; refine (hk.out _).mono ?_; rintro e W2 ⟨⟨ka, kf, rfl⟩, hb⟩; (try replace hs := up_of hb hs); (try replace hB := up_of hb hB); (try replace vb0 := up_of hb vb0); (try replace vb1 := up_of hb vb1); (try replace vb2 := up_of hb vb2); (try replace vb3 := up_of hb vb3); (try replace vb4 := up_of hb vb4); (try replace vb5 := up_of hb vb5); (try replace vb6 := up_of hb vb6); (try replace vbl := up_of hb vbl); (try replace ub0 := up_of hb ub0); (try replace ubl := up_of hb ubl); (try replace nb0 := up_of hb nb0); (try replace nbl := up_of hb nbl)) | (refine wpList_store_row rfl 165 _ _ rfl W2.heap.size #[.string ka, .int .i64 nd, .func (.func kf) #[] #[]] rfl (by kernel_rfl) 165 _ (Row.new W2 _ _) (by kernel_rfl) (by kernel_rfl) (by kernel_rfl) ?_))
    refine wp_world fun W3 HW3 => ?_
    have h3 : Below W2.heap.size W2 W3 := by
      rw [HW3.out]
      exact ((Below.refl _ W2).alloc (Nat.le_refl _) _).trans ⟨rfl, rfl, rfl, by simp [World.setRow], fun k hk => setRow_other _ _ k _ (by omega)⟩
    have kxN : Row (W2.alloc (.cells #[.string ⟨#[]⟩, .int .i64 0, .nilFunc] 165)) W2.heap.size 165 _ := Row.new W2 _ _
    have kxR : Row W3 W2.heap.size 165 #[.string ka, .int .i64 nd, .func (.func kf) #[] #[]] := by rw [HW3.out]; exact setRow_heap _ _ _ _ _ _ kxN
    have kx1 : W3.cell? ⟨W2.heap.size, 1, none⟩ = some (.int .i64 nd) := kxR.cell rfl
    have kxl := World.block_lt_of_cell? _ _ kx1
    try replace hs := up_of h3 hs
    try replace hB := up_of h3 hB
    try replace vb0 := up_of h3 vb0
    try replace vb1 := up_of h3 vb1
    try replace vb2 := up_of h3 vb2
    try replace vb3 := up_of h3 vb3
    try replace vb4 := up_of h3 vb4
    try replace vb5 := up_of h3 vb5
    try replace vb6 := up_of h3 vb6
    try replace vbl := up_of h3 vbl
    try replace ub0 := up_of h3 ub0
    try replace ubl := up_of h3 ubl
    try replace nb0 := up_of h3 nb0
    try replace nbl := up_of h3 nbl
    clear HW3
    go_wp2
    go_ret
    exact ⟨rfl, hB⟩
  · replace hk := Lib.hid hk
    have k1 : ¬ ((((⟨#[b]⟩ : ByteArray)[0]'Nat.zero_lt_one).toNat : Nat) : Int) < 97 := by show ¬ (b.toNat : Int) < 97; omega
    have k2 : ¬ (122 : Int) < ((((⟨#[b]⟩ : ByteArray)[0]'Nat.zero_lt_one).toNat : Nat) : Int) := by show ¬ (122 : Int) < (b.toNat : Int); omega
    have k3 : ((args.length : Int) != (nd : Int)) = true := by rw [bne_iff_ne]; omega
    clear h6
    go_enter Try.func115, Try.ntmps115
    go_upto_region 1 with (fail)
    refine wp_world fun W HW => ?_
    have hB : Below w.heap.size w W := by rw [HW.out]; (repeat (first | exact Below.refl _ _ | refine Below.alloc ?_ (by simp; try omega) _ | refine Below.setCell ?_ (by simp) _ | refine Below.drew ?_))
    have vb0 : W.cell? ⟨w.heap.size, 0, none⟩ = some (.string ⟨#[b]⟩) := by rw [HW.out]; simp [go_sem]
    have vb1 : W.cell? ⟨w.heap.size, 1, none⟩ = some (.int .i64 op) := by rw [HW.out]; simp [go_sem]
    have vb2 : W.cell? ⟨w.heap.size, 2, none⟩ = some (.slice sa args.length ca) := by rw [HW.out]; simp [go_sem]
    have vb3 : W.cell? ⟨w.heap.size, 3, none⟩ = some (.int .i64 i0) := by rw [HW.out]; simp [go_sem]
    have vb4 : W.cell? ⟨w.heap.size, 4, none⟩ = some (.int .i64 i1) := by rw [HW.out]; simp [go_sem]
    have vb5 : W.cell? ⟨w.heap.size, 5, none⟩ = some (.int .i64 i2) := by rw [HW.out]; simp [go_sem]
    have vb6 : W.cell? ⟨w.heap.size, 6, none⟩ = some (.int .i64 i3) := by rw [HW.out]; simp [go_sem]
    have vbl : w.heap.size < W.heap.size := World.block_lt_of_cell? W _ vb0
    have ub0 : W.cell? ⟨w.heap.size + 1, 0, none⟩ = some (.int .i64 vars) := by rw [HW.out]; simp [go_sem]
    have ubl : w.heap.size + 1 < W.heap.size := World.block_lt_of_cell? W _ ub0
    have nb0 : W.cell? ⟨w.heap.size + 2, 0, none⟩ = some (.int .i64 n) := by rw [HW.out]; simp [go_sem]
    have nbl : w.heap.size + 2 < W.heap.size := World.block_lt_of_cell? W _ nb0
    try replace hs := up_of hB hs
    go_upto_region 2 with (first | (go_at_call 142; refine (hk.out _).mono ?_; rintro e W2 ⟨⟨ka, kf, rfl⟩, hb⟩; (try replace hs := up_of hb hs); (try replace hB := up_of hb hB); (try replace vb0 := up_of hb vb0); (try replace vb1 := up_of hb vb1); (try replace vb2 := up_of hb vb2); (try replace vb3 := up_of hb vb3); (try replace vb4 := up_of hb vb4); (try replace vb5 := up_of hb vb5); (try replace vb6 := up_of hb vb6); (try replace vbl := up_of hb vbl); (try replace ub0 := up_of hb ub0); (try replace ubl := up_of hb ubl); (try replace nb0 := up_of hb nb0); (try replace nbl := up_of hb nbl)) | (refine wpList_store_row rfl 165 _ _ rfl W2.heap.size #[.string ka, .int .i64 nd, .func (.func kf) #[] #[]] rfl (by kernel_rfl) 165 _ (Row.new W2 _ _) (by kernel_rfl) (by kernel_rfl) (by kernel_rfl) ?_))
    refine wp_world fun W3 HW3 => ?_
    have h3 : Below W2.heap.size W2 W3 := by
      rw [HW3.out]
      exact ((Below.refl _ W2).alloc (Nat.le_refl _) _).trans ⟨rfl, rfl, rfl, by simp [World.setRow], fun k hk => setRow_other _ _ k _ (by omega)⟩
    have kxN : Row (W2.alloc (.cells #[.string ⟨#[]⟩, .int .i64 0, .nilFunc] 165)) W2.heap.size 165 _ := Row.new W2 _ _
    have kxR : Row W3 W2.heap.size 165 #[.string ka, .int .i64 nd, .func (.func kf) #[] #[]] := by rw [HW3.out]; exact setRow_heap _ _ _ _ _ _ kxN
    have kx1 : W3.cell? ⟨W2.heap.size, 1, none⟩ = some (.int .i64 nd) := kxR.cell rfl
    have kxl := World.block_lt_of_cell? _ _ kx1
    try replace hs := up_of h3 hs
    try replace hB := up_of h3 hB
    try replace vb0 := up_of h3 vb0
    try replace vb1 := up_of h3 vb1
    try replace vb2 := up_of h3 vb2
    try replace vb3 := up_of h3 vb3
    try replace vb4 := up_of h3 vb4
    try replace vb5 := up_of h3 vb5
    try replace vb6 := up_of h3 vb6
    try replace vbl := up_of h3 vbl
    try replace ub0 := up_of h3 ub0
    try replace ubl := up_of h3 ubl
    try replace nb0 := up_of h3 nb0
    try replace nbl := up_of h3 nbl
    clear HW3
    go_wp2
    go_ret
    exact ⟨rfl, hB⟩
  · have k1 : ¬ ((((⟨#[b]⟩ : ByteArray)[0]'Nat.zero_lt_one).toNat : Nat) : Int) < 97 := by show ¬ (b.toNat : Int) < 97; omega
    have k2 : ¬ (122 : Int) < ((((⟨#[b]⟩ : ByteArray)[0]'Nat.zero_lt_one).toNat : Nat) : Int) := by show ¬ (122 : Int) < (b.toNat : Int); omega
    have k3 : ((args.length : Int) != (nd : Int)) = false := by rw [h6]; simp
    have hno := fun (i : Nat) (hi : i < 4) hh => init_no (v := ⟨⟨#[b]⟩, op, args, i0, i1, i2, i3⟩) (n := n) hi hh
    have hyes := fun hh => init_yes (v := ⟨⟨#[b]⟩, op, args, i0, i1, i2, i3⟩) (n := n) hh
    obtain ⟨IB, hIB⟩ : ∃ x, initB ⟨⟨#[b]⟩, op, args, i0, i1, i2, i3⟩ n = x := ⟨_, rfl⟩
    obtain ⟨AB, hAB⟩ : ∃ x, args.all (argC vars n) = x := ⟨_, rfl⟩
    rw [hIB, hAB] at h7
    simp only [hIB] at hno hyes
    have hiv : ∀ i : Nat, initV ⟨⟨#[b]⟩, op, args, i0, i1, i2, i3⟩ i = if i = 0 then i0 else if i = 1 then i1 else if i = 2 then i2 else i3 := fun i => rfl
    subst h7
    have hcont := fun V bn bv (gn : V.cell? ⟨bn, 0, none⟩ = some (.int .i64 n)) (gv : V.cell? ⟨bv, 0, none⟩ = some (.int .i64 vars)) (hs : SlS arE V sa args) => arg_containsf 144 #[.pointer (some ⟨bn, 0, none⟩), .pointer (some ⟨bv, 0, none⟩)] (fun _ _ => by simp [go_sem]) sa ca args (fun a => !argC vars n a) V hs hl (fun q _ W hW => validVar1_c bn bv n vars q W hn (by omega) (Up.cell hW gn) (Up.cell hW gv))
    have han : (args.any fun a => !argC vars n a) = !AB := by rw [← hAB, ← any_not]; simp
    simp only [han] at hcont
    replace hk := Lib.hid hk; replace hno := Lib.hid hno; replace hyes := Lib.hid hyes; replace hIB := Lib.hid hIB; replace hAB := Lib.hid hAB; replace hcont := Lib.hid hcont; replace h6 := Lib.hid h6; replace hiv := Lib.hid hiv
    clear han
    go_enter Try.func115, Try.ntmps115
    go_upto_region 1 with (fail)
    refine wp_world fun W HW => ?_
    have hB : Below w.heap.size w W := by rw [HW.out]; (repeat (first | exact Below.refl _ _ | refine Below.alloc ?_ (by simp; try omega) _ | refine Below.setCell ?_ (by simp) _ | refine Below.drew ?_))
    have vb0 : W.cell? ⟨w.heap.size, 0, none⟩ = some (.string ⟨#[b]⟩) := by rw [HW.out]; simp [go_sem]
    have vb1 : W.cell? ⟨w.heap.size, 1, none⟩ = some (.int .i64 op) := by rw [HW.out]; simp [go_sem]
    have vb2 : W.cell? ⟨w.heap.size, 2, none⟩ = some (.slice sa args.length ca) := by rw [HW.out]; simp [go_sem]
    have vb3 : W.cell? ⟨w.heap.size, 3, none⟩ = some (.int .i64 i0) := by rw [HW.out]; simp [go_sem]
    have vb4 : W.cell? ⟨w.heap.size, 4, none⟩ = some (.int .i64 i1) := by rw [HW.out]; simp [go_sem]
    have vb5 : W.cell? ⟨w.heap.size, 5, none⟩ = some (.int .i64 i2) := by rw [HW.out]; simp [go_sem]
    have vb6 : W.cell? ⟨w.heap.size, 6, none⟩ = some (.int .i64 i3) := by rw [HW.out]; simp [go_sem]
    have vbl : w.heap.size < W.heap.size := World.block_lt_of_cell? W _ vb0
    have ub0 : W.cell? ⟨w.heap.size + 1, 0, none⟩ = some (.int .i64 vars) := by rw [HW.out]; simp [go_sem]
    have ubl : w.heap.size + 1 < W.heap.size := World.block_lt_of_cell? W _ ub0
    have nb0 : W.cell? ⟨w.heap.size + 2, 0, none⟩ = some (.int .i64 n) := by rw [HW.out]; simp [go_sem]
    have nbl : w.heap.size + 2 < W.heap.size := World.block_lt_of_cell? W _ nb0
    try replace hs := up_of hB hs
    go_upto_region 2 with (first | (go_at_call 142; refine (hk.out _).mono ?_; rintro e W2 ⟨⟨ka, kf, rfl⟩, hb⟩; (try replace hs := up_of hb hs); (try replace hB := up_of hb hB); (try replace vb0 := up_of hb vb0); (try replace vb1 := up_of hb vb1); (try replace vb2 := up_of hb vb2); (try replace vb3 := up_of hb vb3); (try replace vb4 := up_of hb vb4); (try replace vb5 := up_of hb vb5); (try replace vb6 := up_of hb vb6); (try replace vbl := up_of hb vbl); (try replace ub0 := up_of hb ub0); (try replace ubl := up_of hb ubl); (try replace nb0 := up_of hb nb0); (try replace nbl := up_of hb nbl)) | (refine wpList_store_row rfl 165 _ _ rfl W2.heap.size #[.string ka, .int .i64 nd, .func (.func kf) #[] #[]] rfl (by kernel_rfl) 165 _ (Row.new W2 _ _) (by kernel_rfl) (by kernel_rfl) (by kernel_rfl) ?_))
    refine wp_world fun W3 HW3 => ?_
    have h3 : Below W2.heap.size W2 W3 := by
      rw [HW3.out]
      exact ((Below.refl _ W2).alloc (Nat.le_refl _) _).trans ⟨rfl, rfl, rfl, by simp [World.setRow], fun k hk => setRow_other _ _ k _ (by omega)⟩
    have kxN : Row (W2.alloc (.cells #[.string ⟨#[]⟩, .int .i64 0, .nilFunc] 165)) W2.heap.size 165 _ := Row.new W2 _ _
    have kxR : Row W3 W2.heap.size 165 #[.string ka, .int .i64 nd, .func (.func kf) #[] #[]] := by rw [HW3.out]; exact setRow_heap _ _ _ _ _ _ kxN
    have kx1 : W3.cell? ⟨W2.heap.size, 1, none⟩ = some (.int .i64 nd) := kxR.cell rfl
    have kxl := World.block_lt_of_cell? _ _ kx1
    try replace hs := up_of h3 hs
    try replace hB := up_of h3 hB
    try replace vb0 := up_of h3 vb0
    try replace vb1 := up_of h3 vb1
    try replace vb2 := up_of h3 vb2
    try replace vb3 := up_of h3 vb3
    try replace vb4 := up_of h3 vb4
    try replace vb5 := up_of h3 vb5
    try replace vb6 := up_of h3 vb6
    try replace vbl := up_of h3 vbl
    try replace ub0 := up_of h3 ub0
    try replace ubl := up_of h3 ubl
    try replace nb0 := up_of h3 nb0
    try replace nbl := up_of h3 nbl
    clear HW3
    have hix := fun (i : Nat) (hi : i < 4) => ixI (name := ⟨#[b]⟩) (op := op) (args := args) (i0 := i0) (i1 := i1) (i2 := i2) (i3 := i3) hi W3
    replace hix := Lib.hid hix
    clear hb h3 hwl hiv
    go_wp2
    clear kxN kxR kx1 kxl
    go_loop [47] (fun ii => ∃ i : Nat, i ≤ 4 ∧ ii = .int .i64 i ∧ Hid (∀ j, j < i → initC j (initV ⟨⟨#[b]⟩, op, args, i0, i1, i2, i3⟩ j) n = true)) (fun ii => 4 - (intOf ii).toNat)
    case atStart => exact ⟨0, by omega, rfl, fun j h => absurd h (by omega)⟩
    case round =>
      obtain ⟨i, hi, rfl, hall⟩ := hrel
      by_cases hlt : i < 4
      · have gix := hix.out i hlt
        have hbad := hno.out i hlt
        have hgood : initC i (initV ⟨⟨#[b]⟩, op, args, i0, i1, i2, i3⟩ i) n = true → ∀ j, j < i + 1 → initC j (initV ⟨⟨#[b]⟩, op, args, i0, i1, i2, i3⟩ j) n = true := fun h j hj => by
          by_cases hj2 : j < i
          · exact hall.out j hj2
          · obtain rfl : j = i := by omega
            exact h
        obtain ⟨x, hx⟩ : ∃ x, initV ⟨⟨#[b]⟩, op, args, i0, i1, i2, i3⟩ i = x := ⟨_, rfl⟩
        rw [hx] at gix hbad hgood
        clear hx
        unfold initC at hbad hgood
        have i1 : (i : Int) < 4 := by omega
        have hbt := fun V => recBetween_c 0 x 10006 V
        cases hb2 : bw 0 x 10006
        · rw [hb2] at hbt hbad
          obtain rfl := hbad rfl
          replace hbt := Lib.hid hbt
          clear hgood hall hb2
          go_wp2_with (first | (go_at_call 114; refine (hbt.out _).mono ?_; rintro e w' ⟨rfl, rfl⟩))
          go_ret
          exact ⟨rfl, hB⟩
        rw [hb2] at hbt hbad hgood
        replace hbt := Lib.hid hbt
        by_cases hin : (i : Int) ≤ (n : Int)
        · have hok := hgood (by rw [decide_eq_true hin]; rfl)
          have i2 : ¬ (n : Int) < (i : Int) := by omega
          replace hok := Lib.hid hok
          clear hbad hgood hall hb2 hin
          go_wp2_with (first | (go_at_call 114; refine (hbt.out _).mono ?_; rintro e w' ⟨rfl, rfl⟩))
          go_round
          case rel => exact ⟨i + 1, by omega, by go_num, hok⟩
          case measure => exact meas hlt
        · have i2 : (n : Int) < (i : Int) := by omega
          by_cases hx0 : x = 0
          · have hok := hgood (by rw [decide_eq_true hx0]; simp)
            have hz : (x != 0) = false := by rw [hx0]; rfl
            replace hok := Lib.hid hok
            clear hbad hgood hall hb2 hin hx0
            go_wp2_with (first | (go_at_call 114; refine (hbt.out _).mono ?_; rintro e w' ⟨rfl, rfl⟩))
            go_round
            case rel => exact ⟨i + 1, by omega, by go_num, hok⟩
            case measure => exact meas hlt
          · obtain rfl := hbad (by rw [decide_eq_false hx0, decide_eq_false hin]; rfl)
            have hz : (x != 0) = true := bne_iff_ne.2 hx0
            clear hgood hall hb2 hin hx0
            go_wp2_with (first | (go_at_call 114; refine (hbt.out _).mono ?_; rintro e w' ⟨rfl, rfl⟩))
            go_ret
            exact ⟨rfl, hB⟩
      · obtain rfl : i = 4 := by omega
        obtain rfl := hyes.out hall.out
        clear hall
        go_wp2_with (first | (go_at_call 143; refine (hcont.out _ _ _ nb0 ub0 hs).mono ?_; rintro e W1 ⟨rfl, hb⟩; (try replace hs := up_of hb hs); (try replace hB := up_of hb hB); (try replace vb0 := up_of hb vb0); (try replace vb1 := up_of hb vb1); (try replace vb2 := up_of hb vb2); (try replace vb3 := up_of hb vb3); (try replace vb4 := up_of hb vb4); (try replace vb5 := up_of hb vb5); (try replace vb6 := up_of hb vb6); (try replace vbl := up_of hb vbl); (try replace ub0 := up_of hb ub0); (try replace ubl := up_of hb ubl); (try replace nb0 := up_of hb nb0); (try replace nbl := up_of hb nbl)))
        go_ret
        exact ⟨ret_bool (by simp), hB⟩
end Go.Proofs.Ytbpdgoedglkefaa
