/- before, and what the list of all points is like: ascending, and just the points of the domain. -/
import Derived.Test.YtfebkccdcbkdiaaPoly10
import Derived.Test.YtfebkccdcbkdiaaAuto
namespace Go.Proofs.Ytfebkccdcbkdiaa
open Go.RowKit

instance {W W' : World} {s : Option Addr} {l : List Iq} : UpF W W' (Dom W s l) (Dom W' s l) := ⟨fun h c => Up.dom h c⟩

theorem bne_f {a b : Int} (h : (a != b) = false) : a = b := by simpa using h

set_option maxRecDepth 100000 in
theorem before_c (p q : Pt) (w : World) :
    Calls Try.prog 24 #[.agg #[.int .i64 p.x, .int .i64 p.y, .int .i64 p.z], .agg #[.int .i64 q.x, .int .i64 q.y, .int .i64 q.z]] w fun e w' => e = .returned (.bool (ltP p q)) ∧ Below w.heap.size w w' := by
  have hr : Hid ((p.x != q.x) = true → ltP p q = decide (p.x < q.x)) := Lib.hid fun h => by simp [ltP]; simp at h; intro h'; exact absurd h' h
  have hr2 : Hid (p.x = q.x → (p.y != q.y) = true → ltP p q = decide (p.y < q.y)) := Lib.hid fun h k => by simp [ltP]; simp at h k; simp [h, k]
  have hr3 : Hid (p.x = q.x → p.y = q.y → ltP p q = decide (p.z < q.z)) := Lib.hid fun h k => by simp [ltP, h, k]
  go_enter Try.func24, Try.ntmps24
  go_upto_region 1 with (fail)
  refine wp_world fun W HW => ?_
  have hB : Below w.heap.size w W := by rw [HW.out]; (repeat (first | exact Below.refl _ _ | refine Below.alloc ?_ (by simp; try omega) _ | refine Below.setCell ?_ (by simp) _ | refine Below.drew ?_))
  have p0 : W.cell? ⟨w.heap.size, 0, none⟩ = some (.int .i64 p.x) := by rw [HW.out]; simp [go_sem]
  have p1 : W.cell? ⟨w.heap.size, 1, none⟩ = some (.int .i64 p.y) := by rw [HW.out]; simp [go_sem]
  have p2 : W.cell? ⟨w.heap.size, 2, none⟩ = some (.int .i64 p.z) := by rw [HW.out]; simp [go_sem]
  have pl : w.heap.size < W.heap.size := World.block_lt_of_cell? W _ p0
  have q0 : W.cell? ⟨w.heap.size + 1, 0, none⟩ = some (.int .i64 q.x) := by rw [HW.out]; simp [go_sem]
  have q1 : W.cell? ⟨w.heap.size + 1, 1, none⟩ = some (.int .i64 q.y) := by rw [HW.out]; simp [go_sem]
  have q2 : W.cell? ⟨w.heap.size + 1, 2, none⟩ = some (.int .i64 q.z) := by rw [HW.out]; simp [go_sem]
  have ql : w.heap.size + 1 < W.heap.size := World.block_lt_of_cell? W _ q0
  go_wp2
  go_loopw [6] (fun i wr => (i = .int .i64 0 ∨ (i = .int .i64 1 ∧ Hid (p.x = q.x)) ∨ (i = .int .i64 2 ∧ Hid (p.x = q.x) ∧ Hid (p.y = q.y)) ∨ (i = .int .i64 3 ∧ Hid (p.x = q.x) ∧ Hid (p.y = q.y) ∧ Hid (p.z = q.z))) ∧ Below W.heap.size W wr) (fun i _ => 3 - (intOf i).toNat)
  case atStart => exact ⟨.inl rfl, Below.refl _ _⟩
  case round =>
    obtain ⟨hrel, hR⟩ := hrel
    replace hB := Up.to hB hR hB.size
    replace p0 := Up.cell hR p0
    replace p1 := Up.cell hR p1
    replace p2 := Up.cell hR p2
    replace q0 := Up.cell hR q0
    replace q1 := Up.cell hR q1
    replace q2 := Up.cell hR q2
    replace pl := World.block_lt_of_cell? wr _ p0
    replace ql := World.block_lt_of_cell? wr _ q0
    rcases hrel with rfl | ⟨rfl, c0⟩ | ⟨rfl, c0, c1⟩ | ⟨rfl, c0, c1, c2⟩
    · cases hx : (p.x != q.x)
      · go_upto_region 4 with (fail)
        refine wp_region_quiet (C := fun V0 => Below wr.heap.size wr V0) (by kernel_rfl) (by kernel_rfl) (Below.refl wr.heap.size wr).drew ?_
        dsimp only [List.toList_toArray]
        repeat (first
         | (refine q_det rfl ?_
            apply Exists.intro; refine ⟨fun W' hW' => ?_, ?_⟩
            (· have hk := cellB hW'; go_simp; try rfl)
            simp only [Act.put, List.setIfInBounds_toArray, List.set_cons_zero, List.set_cons_succ])
         | (refine q_skip rfl ?_; simp only [Act.put, List.setIfInBounds_toArray, List.set_cons_zero, List.set_cons_succ]))
        refine wpQuiet_nil ?_
        intro W' hW'
        go_wp2
        go_roundw
        case rel => exact ⟨.inr (.inl ⟨rfl, Lib.hid (bne_f hx)⟩), Up.trans hR hW'⟩
        case measure => simp [intOf]
      · go_upto_region 4 with (fail)
        refine wp_region_quiet (C := fun V0 => Below wr.heap.size wr V0) (by kernel_rfl) (by kernel_rfl) (Below.refl wr.heap.size wr).drew ?_
        dsimp only [List.toList_toArray]
        repeat (first
         | (refine q_det rfl ?_
            apply Exists.intro; refine ⟨fun W' hW' => ?_, ?_⟩
            (· have hk := cellB hW'; go_simp; try rfl)
            simp only [Act.put, List.setIfInBounds_toArray, List.set_cons_zero, List.set_cons_succ])
         | (refine q_skip rfl ?_; simp only [Act.put, List.setIfInBounds_toArray, List.set_cons_zero, List.set_cons_succ]))
        refine wpQuiet_nil ?_
        intro W' hW'
        replace hB := Up.to hB hW' hB.size
        replace p0 := Up.cell hW' p0
        replace q0 := Up.cell hW' q0
        replace pl := World.block_lt_of_cell? W' _ p0
        replace ql := World.block_lt_of_cell? W' _ q0
        go_upto_region 5 with (fail)
        refine wp_region_quiet (C := fun V0 => Below W'.heap.size W' V0) (by kernel_rfl) (by kernel_rfl) (Below.refl W'.heap.size W').drew ?_
        dsimp only [List.toList_toArray]
        repeat (first
         | (refine q_det rfl ?_
            apply Exists.intro; refine ⟨fun W' hW' => ?_, ?_⟩
            (· have hk := cellB hW'; go_simp; try rfl)
            simp only [Act.put, List.setIfInBounds_toArray, List.set_cons_zero, List.set_cons_succ])
         | (refine q_skip rfl ?_; simp only [Act.put, List.setIfInBounds_toArray, List.set_cons_zero, List.set_cons_succ]))
        refine wpQuiet_nil ?_
        intro W' hW'
        go_wp2
        go_ret
        exact ⟨ret_bool (hr.out hx).symm, Up.to hB hW' hB.size⟩
    · cases hx : (p.y != q.y)
      · go_upto_region 4 with (fail)
        refine wp_region_quiet (C := fun V0 => Below wr.heap.size wr V0) (by kernel_rfl) (by kernel_rfl) (Below.refl wr.heap.size wr).drew ?_
        dsimp only [List.toList_toArray]
        repeat (first
         | (refine q_det rfl ?_
            apply Exists.intro; refine ⟨fun W' hW' => ?_, ?_⟩
            (· have hk := cellB hW'; go_simp; try rfl)
            simp only [Act.put, List.setIfInBounds_toArray, List.set_cons_zero, List.set_cons_succ])
         | (refine q_skip rfl ?_; simp only [Act.put, List.setIfInBounds_toArray, List.set_cons_zero, List.set_cons_succ]))
        refine wpQuiet_nil ?_
        intro W' hW'
        go_wp2
        go_roundw
        case rel => exact ⟨.inr (.inr (.inl ⟨rfl, c0, Lib.hid (bne_f hx)⟩)), Up.trans hR hW'⟩
        case measure => simp [intOf]
      · go_upto_region 4 with (fail)
        refine wp_region_quiet (C := fun V0 => Below wr.heap.size wr V0) (by kernel_rfl) (by kernel_rfl) (Below.refl wr.heap.size wr).drew ?_
        dsimp only [List.toList_toArray]
        repeat (first
         | (refine q_det rfl ?_
            apply Exists.intro; refine ⟨fun W' hW' => ?_, ?_⟩
            (· have hk := cellB hW'; go_simp; try rfl)
            simp only [Act.put, List.setIfInBounds_toArray, List.set_cons_zero, List.set_cons_succ])
         | (refine q_skip rfl ?_; simp only [Act.put, List.setIfInBounds_toArray, List.set_cons_zero, List.set_cons_succ]))
        refine wpQuiet_nil ?_
        intro W' hW'
        replace hB := Up.to hB hW' hB.size
        replace p1 := Up.cell hW' p1
        replace q1 := Up.cell hW' q1
        replace pl := World.block_lt_of_cell? W' _ p1
        replace ql := World.block_lt_of_cell? W' _ q1
        go_upto_region 5 with (fail)
        refine wp_region_quiet (C := fun V0 => Below W'.heap.size W' V0) (by kernel_rfl) (by kernel_rfl) (Below.refl W'.heap.size W').drew ?_
        dsimp only [List.toList_toArray]
        repeat (first
         | (refine q_det rfl ?_
            apply Exists.intro; refine ⟨fun W' hW' => ?_, ?_⟩
            (· have hk := cellB hW'; go_simp; try rfl)
            simp only [Act.put, List.setIfInBounds_toArray, List.set_cons_zero, List.set_cons_succ])
         | (refine q_skip rfl ?_; simp only [Act.put, List.setIfInBounds_toArray, List.set_cons_zero, List.set_cons_succ]))
        refine wpQuiet_nil ?_
        intro W' hW'
        go_wp2
        go_ret
        exact ⟨ret_bool (hr2.out c0.out hx).symm, Up.to hB hW' hB.size⟩
    · cases hx : (p.z != q.z)
      · go_upto_region 4 with (fail)
        refine wp_region_quiet (C := fun V0 => Below wr.heap.size wr V0) (by kernel_rfl) (by kernel_rfl) (Below.refl wr.heap.size wr).drew ?_
        dsimp only [List.toList_toArray]
        repeat (first
         | (refine q_det rfl ?_
            apply Exists.intro; refine ⟨fun W' hW' => ?_, ?_⟩
            (· have hk := cellB hW'; go_simp; try rfl)
            simp only [Act.put, List.setIfInBounds_toArray, List.set_cons_zero, List.set_cons_succ])
         | (refine q_skip rfl ?_; simp only [Act.put, List.setIfInBounds_toArray, List.set_cons_zero, List.set_cons_succ]))
        refine wpQuiet_nil ?_
        intro W' hW'
        go_wp2
        go_roundw
        case rel => exact ⟨.inr (.inr (.inr ⟨rfl, c0, c1, Lib.hid (bne_f hx)⟩)), Up.trans hR hW'⟩
        case measure => simp [intOf]
      · go_upto_region 4 with (fail)
        refine wp_region_quiet (C := fun V0 => Below wr.heap.size wr V0) (by kernel_rfl) (by kernel_rfl) (Below.refl wr.heap.size wr).drew ?_
        dsimp only [List.toList_toArray]
        repeat (first
         | (refine q_det rfl ?_
            apply Exists.intro; refine ⟨fun W' hW' => ?_, ?_⟩
            (· have hk := cellB hW'; go_simp; try rfl)
            simp only [Act.put, List.setIfInBounds_toArray, List.set_cons_zero, List.set_cons_succ])
         | (refine q_skip rfl ?_; simp only [Act.put, List.setIfInBounds_toArray, List.set_cons_zero, List.set_cons_succ]))
        refine wpQuiet_nil ?_
        intro W' hW'
        replace hB := Up.to hB hW' hB.size
        replace p2 := Up.cell hW' p2
        replace q2 := Up.cell hW' q2
        replace pl := World.block_lt_of_cell? W' _ p2
        replace ql := World.block_lt_of_cell? W' _ q2
        go_upto_region 5 with (fail)
        refine wp_region_quiet (C := fun V0 => Below W'.heap.size W' V0) (by kernel_rfl) (by kernel_rfl) (Below.refl W'.heap.size W').drew ?_
        dsimp only [List.toList_toArray]
        repeat (first
         | (refine q_det rfl ?_
            apply Exists.intro; refine ⟨fun W' hW' => ?_, ?_⟩
            (· have hk := cellB hW'; go_simp; try rfl)
            simp only [Act.put, List.setIfInBounds_toArray, List.set_cons_zero, List.set_cons_succ])
         | (refine q_skip rfl ?_; simp only [Act.put, List.setIfInBounds_toArray, List.set_cons_zero, List.set_cons_succ]))
        refine wpQuiet_nil ?_
        intro W' hW'
        go_wp2
        go_ret
        exact ⟨ret_bool (hr3.out c0.out c1.out).symm, Up.to hB hW' hB.size⟩
    · have hz : ltP p q = false := by rw [hr3.out c0.out c1.out]; have c2 := c2.out; simp [c2]
      replace hz := Lib.hid hz
      go_wp2
      go_ret
      exact ⟨ret_bool hz.out.symm, hB⟩
/-! ### What the list is like -/
theorem ltP_iff {p q : Pt} : ltP p q = true ↔ p.x < q.x ∨ (p.x = q.x ∧ (p.y < q.y ∨ (p.y = q.y ∧ p.z < q.z))) := by
  unfold ltP
  by_cases h0 : p.x = q.x <;> by_cases h1 : p.y = q.y <;> simp [h0, h1] <;> omega
theorem mem_ptsZ {l : List Iq} {x y : Int} {zs : List Int} {q : Pt} : q ∈ ptsZ l x y zs ↔ q.x = x ∧ q.y = y ∧ q.z ∈ zs ∧ holdsB l q 1 = true := by
  unfold ptsZ
  simp only [List.mem_flatMap]
  constructor
  · rintro ⟨z, hz, h⟩
    split at h
    · rename_i hh; simp at h; subst h; exact ⟨rfl, rfl, hz, hh⟩
    · cases h
  · rintro ⟨rfl, rfl, hz, hh⟩
    exact ⟨q.z, hz, by rw [if_pos hh]; simp⟩
theorem mem_ptsY {n : Int} {l : List Iq} {x : Int} {ys : List Int} {q : Pt} : q ∈ ptsY n l x ys ↔ q.x = x ∧ q.y ∈ ys ∧ q.z ∈ up (-far n 2) (far n 2) ∧ holdsB l q 1 = true := by
  unfold ptsY
  simp only [List.mem_flatMap, mem_ptsZ]
  constructor
  · rintro ⟨y, hy, h0, rfl, h1, h2⟩; exact ⟨h0, hy, h1, h2⟩
  · rintro ⟨h0, hy, h1, h2⟩; exact ⟨_, hy, h0, rfl, h1, h2⟩
theorem mem_ptsX {n : Int} {l : List Iq} {xs : List Int} {q : Pt} : q ∈ ptsX n l xs ↔ q.x ∈ xs ∧ q.y ∈ up (-far n 1) (far n 1) ∧ q.z ∈ up (-far n 2) (far n 2) ∧ holdsB l q 1 = true := by
  unfold ptsX
  simp only [List.mem_flatMap, mem_ptsY]
  constructor
  · rintro ⟨x, hx, rfl, h⟩; exact ⟨hx, h⟩
  · rintro ⟨hx, h⟩; exact ⟨_, hx, rfl, h⟩
theorem flatB_far {n : Int} {q : Pt} : flatB q n 20 = true ↔ (-far n 0 ≤ q.x ∧ q.x ≤ far n 0) ∧ (-far n 1 ≤ q.y ∧ q.y ≤ far n 1) ∧ (-far n 2 ≤ q.z ∧ q.z ≤ far n 2) := by
  have e : ∀ i x, flatC i x n 20 = true ↔ -far n i ≤ x ∧ x ≤ far n i := fun i x => by
    simp only [flatC, bw, far, Bool.and_eq_true, Bool.or_eq_true, decide_eq_true_eq]
    split <;> omega
  simp only [flatB, Bool.and_eq_true, e]
theorem mem_pts {n : Int} {l : List Iq} {q : Pt} : q ∈ pts n l ↔ hasB n l q = true := by
  unfold pts
  rw [mem_ptsX, mem_up, mem_up, mem_up, hasB, Bool.and_eq_true, flatB_far]
  constructor
  · rintro ⟨a, b, c, d⟩; exact ⟨⟨a, b, c⟩, d⟩
  · rintro ⟨⟨a, b, c⟩, d⟩; exact ⟨a, b, c, d⟩
theorem upTo_sorted : ∀ (k : Nat) (lo : Int), (upTo k lo).Pairwise (· < ·)
  | 0, lo => .nil
  | k + 1, lo => by
    simp only [upTo, List.pairwise_cons]
    exact ⟨fun x hx => by have := (mem_upTo k (lo + 1)).1 hx; omega, upTo_sorted k (lo + 1)⟩
theorem flatMap_sorted {α β : Type} {r : α → α → Prop} {s : β → β → Prop} (f : α → List β) (hin : ∀ a, (f a).Pairwise s) (hx : ∀ a b, r a b → ∀ x ∈ f a, ∀ y ∈ f b, s x y) :
    ∀ l : List α, l.Pairwise r → (l.flatMap f).Pairwise s
  | [], _ => by simp
  | a :: l, h => by
    rw [List.pairwise_cons] at h
    rw [List.flatMap_cons, List.pairwise_append]
    refine ⟨hin a, flatMap_sorted f hin hx l h.2, fun x hxa y hy => ?_⟩
    obtain ⟨b, hb, hy⟩ := List.mem_flatMap.1 hy
    exact hx a b (h.1 b hb) x hxa y hy
theorem ptsZ_sorted (l : List Iq) (x y : Int) (zs : List Int) (h : zs.Pairwise (· < ·)) : (ptsZ l x y zs).Pairwise (fun p q => ltP p q = true) := by
  unfold ptsZ
  refine flatMap_sorted _ (fun z => by split <;> simp) (fun a b hab p hp q hq => ?_) zs h
  have e1 : p.x = x ∧ p.y = y ∧ p.z = a := by split at hp <;> simp at hp; subst hp; simp
  have e2 : q.x = x ∧ q.y = y ∧ q.z = b := by split at hq <;> simp at hq; subst hq; simp
  rw [ltP_iff]; omega
theorem ptsY_sorted (n : Int) (l : List Iq) (x : Int) (ys : List Int) (h : ys.Pairwise (· < ·)) : (ptsY n l x ys).Pairwise (fun p q => ltP p q = true) := by
  unfold ptsY
  refine flatMap_sorted _ (fun y => ptsZ_sorted l x y _ (upTo_sorted _ _)) (fun a b hab p hp q hq => ?_) ys h
  have e1 := mem_ptsZ.1 hp
  have e2 := mem_ptsZ.1 hq
  rw [ltP_iff]; omega
theorem pts_sorted (n : Int) (l : List Iq) : (pts n l).Pairwise (fun p q => ltP p q = true) := by
  unfold pts ptsX
  refine flatMap_sorted _ (fun x => ptsY_sorted n l x _ (upTo_sorted _ _)) (fun a b hab p hp q hq => ?_) _ (upTo_sorted _ _)
  have e1 := mem_ptsY.1 hp
  have e2 := mem_ptsY.1 hq
  rw [ltP_iff]; omega
theorem pts_step {n : Int} {l : List Iq} {k : Nat} (hk : k + 1 < (pts n l).length) : ltP (pts n l)[k] (pts n l)[k + 1] = true :=
  List.pairwise_iff_getElem.1 (pts_sorted n l) k (k + 1) (by omega) hk (by omega)
end Go.Proofs.Ytfebkccdcbkdiaa
