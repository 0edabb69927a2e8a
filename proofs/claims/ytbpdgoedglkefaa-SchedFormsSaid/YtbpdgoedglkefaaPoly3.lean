/- Validity and membership of layer 1. -/
import Derived.Test.YtbpdgoedglkefaaPoly2
namespace Go.Proofs.Ytbpdgoedglkefaa
open Go.RowKit

theorem any_not {α : Type} (f : α → Bool) (l : List α) : (!l.any fun x => !f x) = l.all f := by
  induction l with
  | nil => rfl
  | cons x l ih => simp only [List.any_cons, List.all_cons, Bool.not_or, Bool.not_not, ih]

set_option maxRecDepth 100000 in
set_option maxHeartbeats 400000 in
theorem holds_c (s : Option Addr) (cap : Nat) (l : List Iq) (p : Pt) (m : Int) (w : World) (hs : IqS w s l) (hl : l.length ≤ 9223372036854775807) :
    Calls Try.prog 138 #[.slice s l.length cap, .agg #[.int .i64 p.x, .int .i64 p.y, .int .i64 p.z], .int .i64 m] w fun e w' => e = .returned (.bool (holdsB l p m)) ∧ Below w.heap.size w w' := by
  have H : ∀ W, Below w.heap.size w W → ∀ b1 b2, W.cell? ⟨b1, 0, none⟩ = some (.int .i64 p.x) → W.cell? ⟨b1, 1, none⟩ = some (.int .i64 p.y) → W.cell? ⟨b1, 2, none⟩ = some (.int .i64 p.z) → W.cell? ⟨b2, 0, none⟩ = some (.int .i64 m) →
      Calls Try.prog 135 #[.slice s l.length cap, .func (.func 156) #[] #[.pointer (some ⟨b1, 0, none⟩), .pointer (some ⟨b2, 0, none⟩)]] W
        fun e w' => e = .returned (.bool (l.any fun q => !holdQ p m q)) ∧ Below W.heap.size W w' := fun W hW b1 b2 h0 h1 h2 h3 =>
    containsQ_c _ _ (fun _ _ => by simp [go_sem]) s cap l _ W (Up.iq hW hs) hl fun q _ W' hW' =>
      holdQ_c q p m b1 b2 W' (Up.cell hW' h0) (Up.cell hW' h1) (Up.cell hW' h2) (Up.cell hW' h3)
  replace H := Lib.hid H
  clear hs
  go_enter Try.func138, Try.ntmps138
  go_upto_region 1 with (fail)
  refine wp_world fun W HW => ?_
  have hB : Below w.heap.size w W := by rw [HW.out]; (repeat (first | exact Below.refl _ _ | refine Below.alloc ?_ (by simp; try omega) _ | refine Below.setCell ?_ (by simp) _ | refine Below.drew ?_))
  have p0 : W.cell? ⟨w.heap.size, 0, none⟩ = some (.int .i64 p.x) := by rw [HW.out]; simp [go_sem]
  have p1 : W.cell? ⟨w.heap.size, 1, none⟩ = some (.int .i64 p.y) := by rw [HW.out]; simp [go_sem]
  have p2 : W.cell? ⟨w.heap.size, 2, none⟩ = some (.int .i64 p.z) := by rw [HW.out]; simp [go_sem]
  have pl : w.heap.size < W.heap.size := World.block_lt_of_cell? W _ p0
  have m0 : W.cell? ⟨w.heap.size + 1, 0, none⟩ = some (.int .i64 m) := by rw [HW.out]; simp [go_sem]
  have ml : w.heap.size + 1 < W.heap.size := World.block_lt_of_cell? W _ m0
  go_wp2_with (first | (go_at_call 135; refine (H.out _ hB _ _ p0 p1 p2 m0).mono ?_; rintro e W1 ⟨rfl, hb⟩; replace hB := Up.to hB hb hB.size))
  go_ret
  exact ⟨ret_bool (any_not _ _), hB⟩

set_option maxRecDepth 100000 in
set_option maxHeartbeats 400000 in
theorem valid_c (n : Int) (s : Option Addr) (cap : Nat) (l : List Iq) (w : World) (hs : IqS w s l) (hl : l.length ≤ 9223372036854775807) :
    Calls Try.prog 103 #[.agg #[.int .i64 n, .slice s l.length cap]] w fun e w' => e = .returned (.bool (validB n l)) ∧ Below w.heap.size w w' := by
  have H : ∀ W, Below w.heap.size w W → ∀ b1, W.cell? ⟨b1, 0, none⟩ = some (.int .i64 n) →
      Calls Try.prog 135 #[.slice s l.length cap, .func (.func 136) #[] #[.pointer (some ⟨b1, 0, none⟩)]] W
        fun e w' => e = .returned (.bool (l.any fun q => !okQ n q)) ∧ Below W.heap.size W w' := fun W hW b1 h0 =>
    containsQ_c _ _ (fun _ _ => by simp [go_sem]) s cap l _ W (Up.iq hW hs) hl fun q _ W' hW' => validQ_c q n b1 W' (Up.cell hW' h0)
  replace H := Lib.hid H
  clear hs
  cases h1 : bw 1 n 3
  all_goals
    by_cases h2 : (l.length : Int) ≤ 6
    all_goals
      go_enter Try.func103, Try.ntmps103
      go_upto_region 1 with (fail)
      refine wp_world fun W HW => ?_
      have hB : Below w.heap.size w W := by rw [HW.out]; (repeat (first | exact Below.refl _ _ | refine Below.alloc ?_ (by simp; try omega) _ | refine Below.setCell ?_ (by simp) _ | refine Below.drew ?_))
      have d0 : W.cell? ⟨w.heap.size, 0, none⟩ = some (.int .i64 n) := by rw [HW.out]; simp [go_sem]
      have d1 : W.cell? ⟨w.heap.size, 1, none⟩ = some (.slice s l.length cap) := by rw [HW.out]; simp [go_sem]
      have dl : w.heap.size < W.heap.size := World.block_lt_of_cell? W _ d0
      go_wp2_with (first | (go_at_call 134; refine (between_c _ _ _ _).mono ?_; rintro e w' ⟨rfl, rfl⟩) | (go_at_call 135; refine (H.out _ hB _ d0).mono ?_; rintro e W1 ⟨rfl, hb⟩; replace hB := Up.to hB hb hB.size; replace d0 := Up.cell hb d0; replace d1 := Up.cell hb d1))
      go_ret
      exact ⟨ret_bool (by simp [validB, h1, any_not]; try omega), hB⟩

set_option maxRecDepth 100000 in
set_option maxHeartbeats 400000 in
theorem rvalid_c (n : Int) (s : Option Addr) (cap : Nat) (l : List Iq) (w : World) (hs : IqS w s l) (hl : l.length ≤ 9223372036854775807) :
    Calls Try.prog 105 #[.agg #[.int .i64 n, .slice s l.length cap]] w fun e w' => e = .returned (.bool (validB n l)) ∧ Below w.heap.size w w' := by
  have V1 : n < 1 → false = validB n l := fun h => by simp [validB, bw]; omega
  have V2 : 3 < n → false = validB n l := fun h => by simp [validB, bw]; omega
  have V3 : 6 < (l.length : Int) → false = validB n l := fun h => by simp [validB]; omega
  have V4 : ∀ k (hk : k < l.length), okQ n l[k] = false → false = validB n l := fun k hk h => by
    have : l.all (okQ n) = false := by rw [List.all_eq_false]; exact ⟨_, List.getElem_mem hk, by simp [h]⟩
    simp [validB, this]
  have V5 : 1 ≤ n → n ≤ 3 → (l.length : Int) ≤ 6 → (∀ j (hj : j < l.length), okQ n l[j] = true) → true = validB n l := fun h1 h2 h3 h => by
    have : l.all (okQ n) = true := by
      rw [List.all_eq_true]; intro x hx
      obtain ⟨j, hj, rfl⟩ := List.getElem_of_mem hx
      exact h j hj
    simp [validB, this, bw, h1, h2]; omega
  replace V1 := Lib.hid V1
  replace V2 := Lib.hid V2
  replace V3 := Lib.hid V3
  replace V4 := Lib.hid V4
  replace V5 := Lib.hid V5
  by_cases h1 : n < 1
  · go_enter Try.func105, Try.ntmps105
    go_upto_region 1 with (fail)
    refine wp_world fun W HW => ?_
    have hB : Below w.heap.size w W := by rw [HW.out]; (repeat (first | exact Below.refl _ _ | refine Below.alloc ?_ (by simp; try omega) _ | refine Below.setCell ?_ (by simp) _ | refine Below.drew ?_))
    have d0 : W.cell? ⟨w.heap.size, 0, none⟩ = some (.int .i64 n) := by rw [HW.out]; simp [go_sem]
    have d1 : W.cell? ⟨w.heap.size, 1, none⟩ = some (.slice s l.length cap) := by rw [HW.out]; simp [go_sem]
    have dl : w.heap.size < W.heap.size := World.block_lt_of_cell? W _ d0
    go_wp2
    go_ret
    exact ⟨ret_bool (V1.out h1), hB⟩
  by_cases h2 : 3 < n
  · go_enter Try.func105, Try.ntmps105
    go_upto_region 1 with (fail)
    refine wp_world fun W HW => ?_
    have hB : Below w.heap.size w W := by rw [HW.out]; (repeat (first | exact Below.refl _ _ | refine Below.alloc ?_ (by simp; try omega) _ | refine Below.setCell ?_ (by simp) _ | refine Below.drew ?_))
    have d0 : W.cell? ⟨w.heap.size, 0, none⟩ = some (.int .i64 n) := by rw [HW.out]; simp [go_sem]
    have d1 : W.cell? ⟨w.heap.size, 1, none⟩ = some (.slice s l.length cap) := by rw [HW.out]; simp [go_sem]
    have dl : w.heap.size < W.heap.size := World.block_lt_of_cell? W _ d0
    go_wp2
    go_ret
    exact ⟨ret_bool (V2.out h2), hB⟩
  by_cases h3 : 6 < (l.length : Int)
  · go_enter Try.func105, Try.ntmps105
    go_upto_region 1 with (fail)
    refine wp_world fun W HW => ?_
    have hB : Below w.heap.size w W := by rw [HW.out]; (repeat (first | exact Below.refl _ _ | refine Below.alloc ?_ (by simp; try omega) _ | refine Below.setCell ?_ (by simp) _ | refine Below.drew ?_))
    have d0 : W.cell? ⟨w.heap.size, 0, none⟩ = some (.int .i64 n) := by rw [HW.out]; simp [go_sem]
    have d1 : W.cell? ⟨w.heap.size, 1, none⟩ = some (.slice s l.length cap) := by rw [HW.out]; simp [go_sem]
    have dl : w.heap.size < W.heap.size := World.block_lt_of_cell? W _ d0
    go_wp2
    go_ret
    exact ⟨ret_bool (V3.out h3), hB⟩
  go_enter Try.func105, Try.ntmps105
  go_upto_region 1 with (fail)
  refine wp_world fun W HW => ?_
  have hB : Below w.heap.size w W := by rw [HW.out]; (repeat (first | exact Below.refl _ _ | refine Below.alloc ?_ (by simp; try omega) _ | refine Below.setCell ?_ (by simp) _ | refine Below.drew ?_))
  have d0 : W.cell? ⟨w.heap.size, 0, none⟩ = some (.int .i64 n) := by rw [HW.out]; simp [go_sem]
  have d1 : W.cell? ⟨w.heap.size, 1, none⟩ = some (.slice s l.length cap) := by rw [HW.out]; simp [go_sem]
  have dl : w.heap.size < W.heap.size := World.block_lt_of_cell? W _ d0
  go_wp2
  go_loopw [22] (fun i wr => ∃ k : Nat, k ≤ l.length ∧ i = .int .i64 k ∧ Below W.heap.size W wr ∧ Hid (∀ j (hj : j < l.length), j < k → okQ n l[j] = true)) (fun i _ => l.length - (intOf i).toNat)
  case atStart => exact ⟨0, by omega, rfl, Below.refl _ _, fun j _ h => absurd h (by omega)⟩
  case round =>
    obtain ⟨k, hk, rfl, hR, hall⟩ := hrel
    by_cases hlt : k < l.length
    · obtain ⟨b, off, rfl, hb, e0, e1, e2, e3⟩ := (Up.iq (Up.to hB hR hB.size) hs).at hlt
      clear hs
      replace d0 := Up.cell hR d0
      replace d1 := Up.cell hR d1
      cases c1 : flatB l[k].a n 20
      all_goals
        cases c2 : bw (-1000) l[k].b 1000
        all_goals
          go_upto_region 6 with (fail)
          refine wp_world fun X HX => ?_
          have hX : Below wr.heap.size wr X := by rw [HX.out]; (repeat (first | exact Below.refl _ _ | refine Below.alloc ?_ (by simp; try omega) _ | refine Below.setCell ?_ (by simp) _ | refine Below.drew ?_))
          have q0 : X.cell? ⟨wr.heap.size, 0, none⟩ = some (.int .i64 l[k].a.x) := by rw [HX.out]; simp [go_sem]
          have q1 : X.cell? ⟨wr.heap.size, 1, none⟩ = some (.int .i64 l[k].a.y) := by rw [HX.out]; simp [go_sem]
          have q2 : X.cell? ⟨wr.heap.size, 2, none⟩ = some (.int .i64 l[k].a.z) := by rw [HX.out]; simp [go_sem]
          have q3 : X.cell? ⟨wr.heap.size, 3, none⟩ = some (.int .i64 l[k].b) := by rw [HX.out]; simp [go_sem]
          have ql : wr.heap.size < X.heap.size := World.block_lt_of_cell? X _ q0
          replace d0 := Up.cell hX d0
          replace d1 := Up.cell hX d1
          replace hB := Up.to (Up.to hB hR hB.size) hX (Nat.le_trans hB.size hR.size)
          replace hR := Up.trans hR hX
          go_wp2_with (first | (go_at_call 89; refine (flat_c _ _ _ _ (by omega) (by omega)).mono ?_; rintro e W1 ⟨rfl, hb⟩; replace hB := Up.to hB hb hB.size; replace q0 := Up.cell hb q0; replace q1 := Up.cell hb q1; replace q2 := Up.cell hb q2; replace q3 := Up.cell hb q3; replace d0 := Up.cell hb d0; replace d1 := Up.cell hb d1; replace hR := Up.trans hR hb) | (go_at_call 125; refine (inRange_c _ _ _ (by omega) (by omega)).mono ?_; rintro e w' ⟨rfl, rfl⟩))
          first
            | (go_ret; exact ⟨ret_bool (V4.out k hlt (by simp [okQ, c1, c2])), hB⟩)
            | (go_roundw
               case rel => exact ⟨k + 1, by omega, by go_num, hR, fun j hj h => by rcases Nat.lt_succ_iff_lt_or_eq.1 h with h | rfl; exact hall j hj h; simp [okQ, c1, c2]⟩
               case measure => simp [intOf]; omega)
    · obtain rfl : k = l.length := by omega
      clear hs
      go_wp2
      go_ret
      exact ⟨ret_bool (V5.out (by omega) (by omega) (by omega) (fun j hj => hall j hj hj)), Up.to hB hR hB.size⟩

set_option maxRecDepth 100000 in
set_option maxHeartbeats 400000 in
theorem rhas_c (n : Int) (s : Option Addr) (cap : Nat) (l : List Iq) (p : Pt) (w : World) (hs : IqS w s l) (hl : l.length ≤ 9223372036854775807) (hwf : ∀ q ∈ l, -9223372036854775808 ≤ q.b ∧ q.b ≤ 9223372036854775807) :
    Calls Try.prog 100 #[.agg #[.int .i64 n, .slice s l.length cap], .agg #[.int .i64 p.x, .int .i64 p.y, .int .i64 p.z]] w fun e w' => e = .returned (.bool (hasB n l p)) ∧ Below w.heap.size w w' := by
  have V4 : ∀ k (hk : k < l.length), wrap64 l[k].b < wrap64 (dotZ l[k].a p) → false = hasB n l p := fun k hk h => by
    have : holdsB l p 1 = false := by
      unfold holdsB; rw [List.all_eq_false]; exact ⟨_, List.getElem_mem hk, by simp [holdQ, h]⟩
    simp [hasB, this]
  have V5 : flatB p n 20 = true → (∀ j (hj : j < l.length), wrap64 (dotZ l[j].a p) ≤ wrap64 l[j].b) → true = hasB n l p := fun h0 h => by
    have : holdsB l p 1 = true := by
      unfold holdsB; rw [List.all_eq_true]; intro x hx
      obtain ⟨j, hj, rfl⟩ := List.getElem_of_mem hx
      simp [holdQ, h j hj]
    simp [hasB, this, h0]
  replace V4 := Lib.hid V4
  replace V5 := Lib.hid V5
  cases h1 : flatB p n 20
  · go_enter Try.func100, Try.ntmps100
    go_upto_region 1 with (fail)
    refine wp_world fun W HW => ?_
    have hB : Below w.heap.size w W := by rw [HW.out]; (repeat (first | exact Below.refl _ _ | refine Below.alloc ?_ (by simp; try omega) _ | refine Below.setCell ?_ (by simp) _ | refine Below.drew ?_))
    have d0 : W.cell? ⟨w.heap.size, 0, none⟩ = some (.int .i64 n) := by rw [HW.out]; simp [go_sem]
    have d1 : W.cell? ⟨w.heap.size, 1, none⟩ = some (.slice s l.length cap) := by rw [HW.out]; simp [go_sem]
    have dl : w.heap.size < W.heap.size := World.block_lt_of_cell? W _ d0
    have p0 : W.cell? ⟨w.heap.size + 1, 0, none⟩ = some (.int .i64 p.x) := by rw [HW.out]; simp [go_sem]
    have p1 : W.cell? ⟨w.heap.size + 1, 1, none⟩ = some (.int .i64 p.y) := by rw [HW.out]; simp [go_sem]
    have p2 : W.cell? ⟨w.heap.size + 1, 2, none⟩ = some (.int .i64 p.z) := by rw [HW.out]; simp [go_sem]
    have pl : w.heap.size + 1 < W.heap.size := World.block_lt_of_cell? W _ p0
    go_wp2_with (first | (go_at_call 89; refine (flat_c _ _ _ _ (by omega) (by omega)).mono ?_; rintro e W1 ⟨rfl, hb⟩; replace hB := Up.to hB hb hB.size; replace d0 := Up.cell hb d0; replace d1 := Up.cell hb d1; replace p0 := Up.cell hb p0; replace p1 := Up.cell hb p1; replace p2 := Up.cell hb p2))
    go_ret
    exact ⟨ret_bool (by simp [hasB, h1]), hB⟩
  go_enter Try.func100, Try.ntmps100
  go_upto_region 1 with (fail)
  refine wp_world fun W HW => ?_
  have hB : Below w.heap.size w W := by rw [HW.out]; (repeat (first | exact Below.refl _ _ | refine Below.alloc ?_ (by simp; try omega) _ | refine Below.setCell ?_ (by simp) _ | refine Below.drew ?_))
  have d0 : W.cell? ⟨w.heap.size, 0, none⟩ = some (.int .i64 n) := by rw [HW.out]; simp [go_sem]
  have d1 : W.cell? ⟨w.heap.size, 1, none⟩ = some (.slice s l.length cap) := by rw [HW.out]; simp [go_sem]
  have dl : w.heap.size < W.heap.size := World.block_lt_of_cell? W _ d0
  have p0 : W.cell? ⟨w.heap.size + 1, 0, none⟩ = some (.int .i64 p.x) := by rw [HW.out]; simp [go_sem]
  have p1 : W.cell? ⟨w.heap.size + 1, 1, none⟩ = some (.int .i64 p.y) := by rw [HW.out]; simp [go_sem]
  have p2 : W.cell? ⟨w.heap.size + 1, 2, none⟩ = some (.int .i64 p.z) := by rw [HW.out]; simp [go_sem]
  have pl : w.heap.size + 1 < W.heap.size := World.block_lt_of_cell? W _ p0
  go_wp2_with (first | (go_at_call 89; refine (flat_c _ _ _ _ (by omega) (by omega)).mono ?_; rintro e W1 ⟨rfl, hb⟩; replace hB := Up.to hB hb hB.size; replace d0 := Up.cell hb d0; replace d1 := Up.cell hb d1; replace p0 := Up.cell hb p0; replace p1 := Up.cell hb p1; replace p2 := Up.cell hb p2))
  go_loopw [15] (fun i wr => ∃ k : Nat, k ≤ l.length ∧ i = .int .i64 k ∧ Below W1.heap.size W1 wr ∧ Hid (∀ j (hj : j < l.length), j < k → wrap64 (dotZ l[j].a p) ≤ wrap64 l[j].b)) (fun i _ => l.length - (intOf i).toNat)
  case atStart => exact ⟨0, by omega, rfl, Below.refl _ _, fun j _ h => absurd h (by omega)⟩
  case round =>
    obtain ⟨k, hk, rfl, hR, hall⟩ := hrel
    by_cases hlt : k < l.length
    · obtain ⟨b, off, rfl, hb, e0, e1, e2, e3⟩ := (Up.iq (Up.to hB hR hB.size) hs).at hlt
      have hwk := hwf l[k] (List.getElem_mem hlt)
      have hwq : wrap64 l[k].b = l[k].b := by unfold wrap64; omega
      clear hs hwf
      replace p0 := Up.cell hR p0
      replace p1 := Up.cell hR p1
      replace p2 := Up.cell hR p2
      go_upto_region 6 with (fail)
      refine wp_world fun X HX => ?_
      have hX : Below wr.heap.size wr X := by rw [HX.out]; (repeat (first | exact Below.refl _ _ | refine Below.alloc ?_ (by simp; try omega) _ | refine Below.setCell ?_ (by simp) _ | refine Below.drew ?_))
      have q0 : X.cell? ⟨wr.heap.size, 0, none⟩ = some (.int .i64 l[k].a.x) := by rw [HX.out]; simp [go_sem]
      have q1 : X.cell? ⟨wr.heap.size, 1, none⟩ = some (.int .i64 l[k].a.y) := by rw [HX.out]; simp [go_sem]
      have q2 : X.cell? ⟨wr.heap.size, 2, none⟩ = some (.int .i64 l[k].a.z) := by rw [HX.out]; simp [go_sem]
      have q3 : X.cell? ⟨wr.heap.size, 3, none⟩ = some (.int .i64 l[k].b) := by rw [HX.out]; simp [go_sem]
      have ql : wr.heap.size < X.heap.size := World.block_lt_of_cell? X _ q0
      replace p0 := Up.cell hX p0
      replace p1 := Up.cell hX p1
      replace p2 := Up.cell hX p2
      have pl := World.block_lt_of_cell? X _ p0
      replace hB := Up.to (Up.to hB hR hB.size) hX (Nat.le_trans hB.size hR.size)
      replace hR := Up.trans hR hX
      replace hwq := Lib.hid hwq
      refine wp_region_quiet (C := fun V0 => Below X.heap.size X V0) (by kernel_rfl) (by kernel_rfl) (Below.refl X.heap.size X).drew ?_
      dsimp only [List.toList_toArray]
      repeat (first
       | (refine q_det rfl ?_
          apply Exists.intro; refine ⟨fun W' hW' => ?_, ?_⟩
          (· have hk := cellB hW'; go_simp; try rfl)
          simp only [Act.put, List.setIfInBounds_toArray, List.set_cons_zero, List.set_cons_succ])
       | (refine q_skip rfl ?_; simp only [Act.put, List.setIfInBounds_toArray, List.set_cons_zero, List.set_cons_succ])
       | (refine q_call rfl ?_
          apply Exists.intro; apply Exists.intro; refine ⟨fun W' hW' => ?_, ?_⟩
          (· have hk := cellB hW'; go_simp; exact ⟨rfl, rfl⟩)
          apply Exists.intro; refine ⟨fun W' hW' => ?_, ?_⟩
          (· first | (go_at_call 78; exact qcall (Dot_c _ _ _) hW' (Nat.le_refl _)))
          simp only [Act.put, List.setIfInBounds_toArray, List.set_cons_zero, List.set_cons_succ]))
      refine wpQuiet_nil ?_
      intro W' hW'
      have hB' := Up.to hB hW' hB.size
      have hR' := Up.trans hR hW'
      go_wp2
      · go_ret
        exact ⟨ret_bool (V4.out k hlt (by rw [hwq.out]; assumption)), hB'⟩
      · go_roundw
        case rel => exact ⟨k + 1, by omega, by go_num, hR', fun j hj h => by rcases Nat.lt_succ_iff_lt_or_eq.1 h with h | rfl; exact hall j hj h; rw [hwq.out]; assumption⟩
        case measure => simp [intOf]; omega
    · obtain rfl : k = l.length := by omega
      clear hs hwf
      go_wp2
      go_ret
      exact ⟨ret_bool (V5.out h1 (fun j hj => hall j hj hj)), Up.to hB hR hB.size⟩
end Go.Proofs.Ytbpdgoedglkefaa
