/- The walk of PolyLists. -/
import Derived.Test.YtfebkccdcbkdiaaPoly11
namespace Go.Proofs.Ytfebkccdcbkdiaa
open Go.RowKit

theorem pt_eqd (p q : Pt) : (p.x == q.x && (p.y == q.y && p.z == q.z)) = decide (p = q) := by
  have := congrArg (fun b => !b) (pt_test p q); simpa only [Bool.not_not] using this
theorem pt_eq_at (p q : Pt) (w : World) : (Op.equalIn 10000 26 (.agg #[.int .i64 p.x, .int .i64 p.y, .int .i64 p.z]) (.agg #[.int .i64 q.x, .int .i64 q.y, .int .i64 q.z])).run Try.prog w = .ok (decide (p = q)) w := by
  rw [← pt_eqd]; exact pt_eql w 9998 _ _ _ _ _ _

section
variable (n : Int) (s : Option Addr) (cap : Nat) (l : List Iq) (p : Pt) (w : World) (h : Dom w s l) (hv : validB n l = true) (L : List Pt) (hL : pts n l = L)
include h hv
theorem Has_v : Calls Try.prog 15 #[.agg #[.int .i64 n, .slice s l.length cap], .agg #[.int .i64 p.x, .int .i64 p.y, .int .i64 p.z]] w fun e w' => e = .returned (.tuple #[.bool (hasB n l p), .int .i64 0]) ∧ Below w.heap.size w w' := by
  have := Has_t n s cap l p w h
  simpa [vE, hv] using this
include hL
theorem Count_v : Calls Try.prog 21 #[.agg #[.int .i64 n, .slice s l.length cap]] w fun e w' => e = .returned (.tuple #[.int .i64 L.length, .int .i64 0]) ∧ Below w.heap.size w w' := by
  subst hL
  have := Count_t n s cap l w h
  simpa [vE, cntN, hv] using this
theorem Points_big (hb : 1000 < L.length) : Calls Try.prog 19 #[.agg #[.int .i64 n, .slice s l.length cap]] w fun e w' => (∃ s cap, e = .returned (.tuple #[.slice s 0 cap, .int .i64 4])) ∧ Below w.heap.size w w' := by
  subst hL
  refine (Points_c n s cap l w h.iq h.len).mono fun e w' hr => ?_
  obtain ⟨s', cap', rfl, _, hb'⟩ := hr.mono
  have h1 : ptsL n l = [] := by simp [ptsL, hv]; omega
  have h2 : ptsE n l = 4 := by simp [ptsE, hv]; omega
  exact ⟨⟨s', cap', by rw [h1, h2]; rfl⟩, hb'⟩
theorem Points_small (hb : L.length ≤ 1000) : Calls Try.prog 19 #[.agg #[.int .i64 n, .slice s l.length cap]] w fun e w' => (∃ s cap, e = .returned (.tuple #[.slice s L.length cap, .int .i64 0]) ∧ PtS w' s L) ∧ Below w.heap.size w w' := by
  subst hL
  refine (Points_c n s cap l w h.iq h.len).mono fun e w' hr => ?_
  obtain ⟨s', cap', rfl, hp, hb'⟩ := hr.mono
  have h1 : ptsL n l = pts n l := by simp [ptsL, hv]; omega
  have h2 : ptsE n l = 0 := by simp [ptsE, hv]; omega
  rw [h1] at hp
  exact ⟨⟨s', cap', by rw [h1, h2], hp⟩, hb'⟩
end

set_option maxRecDepth 100000 in
set_option maxHeartbeats 2000000 in
theorem PolyLists_w (n : Int) (s : Option Addr) (cap : Nat) (l : List Iq) (p : Pt) (w : World) (h : Dom w s l) :
    Calls Try.prog 4 #[.agg #[.int .i64 n, .slice s l.length cap], .agg #[.int .i64 p.x, .int .i64 p.y, .int .i64 p.z]] w fun e w' => e = .returned (.bool true) ∧ Below w.heap.size w w' := by
  have hlen := h.len
  have hpl := pts_len n l
  cases h1 : decide ((40 : Int) < (l.length : Int))
  case true =>
    go_enter Try.func4, Try.ntmps4
    go_upto_region 1 with (fail)
    refine wp_world fun W HW => ?_
    have hB : Below w.heap.size w W := by rw [HW.out]; (repeat (first | exact Below.refl _ _ | refine Below.alloc ?_ (by simp; try omega) _ | refine Below.setCell ?_ (by simp) _ | refine Below.drew ?_))
    have d0 : W.cell? ⟨w.heap.size, 0, none⟩ = some (.int .i64 n) := by rw [HW.out]; simp [go_sem]
    have d1 : W.cell? ⟨w.heap.size, 1, none⟩ = some (.slice s l.length cap) := by rw [HW.out]; simp [go_sem]
    have dl : w.heap.size < W.heap.size := World.block_lt_of_cell? W _ d0
    have p0 : W.cell? ⟨w.heap.size + 1, 0, none⟩ = some (.int .i64 p.x) := by rw [HW.out]; simp [go_sem]
    have p1 : W.cell? ⟨w.heap.size + 1, 1, none⟩ = some (.int .i64 p.y) := by rw [HW.out]; simp [go_sem]
    have p2 : W.cell? ⟨w.heap.size + 1, 2, none⟩ = some (.int .i64 p.z) := by rw [HW.out]; simp [go_sem]
    have pl : w.heap.size + 1 < W.heap.size := World.block_lt_of_cell? W _ p0
    try replace h := up_of hB h
    go_wp2_with (first | (go_at_call 13; refine (wide_c _ _ _ _ _ hlen).mono ?_; rintro e W1 ⟨rfl, hb⟩; (try replace h := up_of hb h); (try replace hB := up_of hb hB); (try replace d0 := up_of hb d0); (try replace d1 := up_of hb d1); (try replace dl := up_of hb dl); (try replace p0 := up_of hb p0); (try replace p1 := up_of hb p1); (try replace p2 := up_of hb p2); (try replace pl := up_of hb pl)) | (go_at_call 14; refine (awake_c _).mono ?_; rintro e W1 ⟨rfl, hb⟩; (try replace h := up_of hb h); (try replace hB := up_of hb hB); (try replace d0 := up_of hb d0); (try replace d1 := up_of hb d1); (try replace dl := up_of hb dl); (try replace p0 := up_of hb p0); (try replace p1 := up_of hb p1); (try replace p2 := up_of hb p2); (try replace pl := up_of hb pl)))
    go_ret
    exact ⟨rfl, hB⟩
  cases hv : validB n l
  case false =>
    go_enter Try.func4, Try.ntmps4
    go_upto_region 1 with (fail)
    refine wp_world fun W HW => ?_
    have hB : Below w.heap.size w W := by rw [HW.out]; (repeat (first | exact Below.refl _ _ | refine Below.alloc ?_ (by simp; try omega) _ | refine Below.setCell ?_ (by simp) _ | refine Below.drew ?_))
    have d0 : W.cell? ⟨w.heap.size, 0, none⟩ = some (.int .i64 n) := by rw [HW.out]; simp [go_sem]
    have d1 : W.cell? ⟨w.heap.size, 1, none⟩ = some (.slice s l.length cap) := by rw [HW.out]; simp [go_sem]
    have dl : w.heap.size < W.heap.size := World.block_lt_of_cell? W _ d0
    have p0 : W.cell? ⟨w.heap.size + 1, 0, none⟩ = some (.int .i64 p.x) := by rw [HW.out]; simp [go_sem]
    have p1 : W.cell? ⟨w.heap.size + 1, 1, none⟩ = some (.int .i64 p.y) := by rw [HW.out]; simp [go_sem]
    have p2 : W.cell? ⟨w.heap.size + 1, 2, none⟩ = some (.int .i64 p.z) := by rw [HW.out]; simp [go_sem]
    have pl : w.heap.size + 1 < W.heap.size := World.block_lt_of_cell? W _ p0
    try replace h := up_of hB h
    go_wp2_with (first | (go_at_call 13; refine (wide_c _ _ _ _ _ hlen).mono ?_; rintro e W1 ⟨rfl, hb⟩; (try replace h := up_of hb h); (try replace hB := up_of hb hB); (try replace d0 := up_of hb d0); (try replace d1 := up_of hb d1); (try replace dl := up_of hb dl); (try replace p0 := up_of hb p0); (try replace p1 := up_of hb p1); (try replace p2 := up_of hb p2); (try replace pl := up_of hb pl)) | (go_at_call 18; refine (rValid_t _ _ _ _ _ h).mono ?_; rintro e W1 ⟨rfl, hb⟩; (try replace h := up_of hb h); (try replace hB := up_of hb hB); (try replace d0 := up_of hb d0); (try replace d1 := up_of hb d1); (try replace dl := up_of hb dl); (try replace p0 := up_of hb p0); (try replace p1 := up_of hb p1); (try replace p2 := up_of hb p2); (try replace pl := up_of hb pl)) | (go_at_call 14; refine (awake_c _).mono ?_; rintro e W1 ⟨rfl, hb⟩; (try replace h := up_of hb h); (try replace hB := up_of hb hB); (try replace d0 := up_of hb d0); (try replace d1 := up_of hb d1); (try replace dl := up_of hb dl); (try replace p0 := up_of hb p0); (try replace p1 := up_of hb p1); (try replace p2 := up_of hb p2); (try replace pl := up_of hb pl)))
    go_ret
    exact ⟨rfl, hB⟩
  have hv' := Lib.hid hv
  obtain ⟨L, hL, hpl, hmem, hstep⟩ : ∃ L, pts n l = L ∧ L.length ≤ 68921 ∧ Hid (∀ q, q ∈ L ↔ hasB n l q = true) ∧ Hid (∀ k (hk : k + 1 < L.length), ltP L[k] L[k + 1] = true) :=
    ⟨pts n l, rfl, hpl, Lib.hid fun q => mem_pts, Lib.hid fun k hk => pts_step hk⟩
  replace hL := Lib.hid hL
  by_cases hb : (1000 : Int) < (L.length : Int)
  · have hb' : Hid (1000 < L.length) := Lib.hid (by omega)
    go_enter Try.func4, Try.ntmps4
    go_upto_region 1 with (fail)
    refine wp_world fun W HW => ?_
    have hB : Below w.heap.size w W := by rw [HW.out]; (repeat (first | exact Below.refl _ _ | refine Below.alloc ?_ (by simp; try omega) _ | refine Below.setCell ?_ (by simp) _ | refine Below.drew ?_))
    have d0 : W.cell? ⟨w.heap.size, 0, none⟩ = some (.int .i64 n) := by rw [HW.out]; simp [go_sem]
    have d1 : W.cell? ⟨w.heap.size, 1, none⟩ = some (.slice s l.length cap) := by rw [HW.out]; simp [go_sem]
    have dl : w.heap.size < W.heap.size := World.block_lt_of_cell? W _ d0
    have p0 : W.cell? ⟨w.heap.size + 1, 0, none⟩ = some (.int .i64 p.x) := by rw [HW.out]; simp [go_sem]
    have p1 : W.cell? ⟨w.heap.size + 1, 1, none⟩ = some (.int .i64 p.y) := by rw [HW.out]; simp [go_sem]
    have p2 : W.cell? ⟨w.heap.size + 1, 2, none⟩ = some (.int .i64 p.z) := by rw [HW.out]; simp [go_sem]
    have pl : w.heap.size + 1 < W.heap.size := World.block_lt_of_cell? W _ p0
    try replace h := up_of hB h
    go_wp2_with (first | (go_at_call 19; refine (Points_big _ _ _ _ _ h hv'.out L hL.out hb'.out).mono ?_; rintro e W1 ⟨⟨s1, c1, rfl⟩, hb⟩; (try replace h := up_of hb h); (try replace hB := up_of hb hB); (try replace d0 := up_of hb d0); (try replace d1 := up_of hb d1); (try replace dl := up_of hb dl); (try replace p0 := up_of hb p0); (try replace p1 := up_of hb p1); (try replace p2 := up_of hb p2); (try replace pl := up_of hb pl)) | (go_at_call 13; refine (wide_c _ _ _ _ _ hlen).mono ?_; rintro e W1 ⟨rfl, hb⟩; (try replace h := up_of hb h); (try replace hB := up_of hb hB); (try replace d0 := up_of hb d0); (try replace d1 := up_of hb d1); (try replace dl := up_of hb dl); (try replace p0 := up_of hb p0); (try replace p1 := up_of hb p1); (try replace p2 := up_of hb p2); (try replace pl := up_of hb pl)) | (go_at_call 18; refine (rValid_t _ _ _ _ _ h).mono ?_; rintro e W1 ⟨rfl, hb⟩; (try replace h := up_of hb h); (try replace hB := up_of hb hB); (try replace d0 := up_of hb d0); (try replace d1 := up_of hb d1); (try replace dl := up_of hb dl); (try replace p0 := up_of hb p0); (try replace p1 := up_of hb p1); (try replace p2 := up_of hb p2); (try replace pl := up_of hb pl)) | (go_at_call 21; refine (Count_v _ _ _ _ _ h hv'.out L hL.out).mono ?_; rintro e W1 ⟨rfl, hb⟩; (try replace h := up_of hb h); (try replace hB := up_of hb hB); (try replace d0 := up_of hb d0); (try replace d1 := up_of hb d1); (try replace dl := up_of hb dl); (try replace p0 := up_of hb p0); (try replace p1 := up_of hb p1); (try replace p2 := up_of hb p2); (try replace pl := up_of hb pl)) | (go_at_call 15; refine (Has_v _ _ _ _ _ _ h hv'.out).mono ?_; rintro e W1 ⟨rfl, hb⟩; (try replace h := up_of hb h); (try replace hB := up_of hb hB); (try replace d0 := up_of hb d0); (try replace d1 := up_of hb d1); (try replace dl := up_of hb dl); (try replace p0 := up_of hb p0); (try replace p1 := up_of hb p1); (try replace p2 := up_of hb p2); (try replace pl := up_of hb pl)) | (go_at_call 14; refine (awake_c _).mono ?_; rintro e W1 ⟨rfl, hb⟩; (try replace h := up_of hb h); (try replace hB := up_of hb hB); (try replace d0 := up_of hb d0); (try replace d1 := up_of hb d1); (try replace dl := up_of hb dl); (try replace p0 := up_of hb p0); (try replace p1 := up_of hb p1); (try replace p2 := up_of hb p2); (try replace pl := up_of hb pl)))
    go_ret
    exact ⟨rfl, hB⟩
  · have hb' : Hid (L.length ≤ 1000) := Lib.hid (by omega)
    go_enter Try.func4, Try.ntmps4
    go_upto_region 1 with (fail)
    refine wp_world fun W HW => ?_
    have hB : Below w.heap.size w W := by rw [HW.out]; (repeat (first | exact Below.refl _ _ | refine Below.alloc ?_ (by simp; try omega) _ | refine Below.setCell ?_ (by simp) _ | refine Below.drew ?_))
    have d0 : W.cell? ⟨w.heap.size, 0, none⟩ = some (.int .i64 n) := by rw [HW.out]; simp [go_sem]
    have d1 : W.cell? ⟨w.heap.size, 1, none⟩ = some (.slice s l.length cap) := by rw [HW.out]; simp [go_sem]
    have dl : w.heap.size < W.heap.size := World.block_lt_of_cell? W _ d0
    have p0 : W.cell? ⟨w.heap.size + 1, 0, none⟩ = some (.int .i64 p.x) := by rw [HW.out]; simp [go_sem]
    have p1 : W.cell? ⟨w.heap.size + 1, 1, none⟩ = some (.int .i64 p.y) := by rw [HW.out]; simp [go_sem]
    have p2 : W.cell? ⟨w.heap.size + 1, 2, none⟩ = some (.int .i64 p.z) := by rw [HW.out]; simp [go_sem]
    have pl : w.heap.size + 1 < W.heap.size := World.block_lt_of_cell? W _ p0
    try replace h := up_of hB h
    go_upto_region 5 with (first | (go_at_call 19; refine (Points_small _ _ _ _ _ h hv'.out L hL.out hb'.out).mono ?_; rintro e W1 ⟨⟨s1, c1, rfl, hpt⟩, hb⟩; (try replace h := up_of hb h); (try replace hB := up_of hb hB); (try replace d0 := up_of hb d0); (try replace d1 := up_of hb d1); (try replace dl := up_of hb dl); (try replace p0 := up_of hb p0); (try replace p1 := up_of hb p1); (try replace p2 := up_of hb p2); (try replace pl := up_of hb pl)) | (go_at_call 13; refine (wide_c _ _ _ _ _ hlen).mono ?_; rintro e W1 ⟨rfl, hb⟩; (try replace h := up_of hb h); (try replace hB := up_of hb hB); (try replace d0 := up_of hb d0); (try replace d1 := up_of hb d1); (try replace dl := up_of hb dl); (try replace p0 := up_of hb p0); (try replace p1 := up_of hb p1); (try replace p2 := up_of hb p2); (try replace pl := up_of hb pl)) | (go_at_call 18; refine (rValid_t _ _ _ _ _ h).mono ?_; rintro e W1 ⟨rfl, hb⟩; (try replace h := up_of hb h); (try replace hB := up_of hb hB); (try replace d0 := up_of hb d0); (try replace d1 := up_of hb d1); (try replace dl := up_of hb dl); (try replace p0 := up_of hb p0); (try replace p1 := up_of hb p1); (try replace p2 := up_of hb p2); (try replace pl := up_of hb pl)) | (go_at_call 21; refine (Count_v _ _ _ _ _ h hv'.out L hL.out).mono ?_; rintro e W1 ⟨rfl, hb⟩; (try replace h := up_of hb h); (try replace hB := up_of hb hB); (try replace d0 := up_of hb d0); (try replace d1 := up_of hb d1); (try replace dl := up_of hb dl); (try replace p0 := up_of hb p0); (try replace p1 := up_of hb p1); (try replace p2 := up_of hb p2); (try replace pl := up_of hb pl)))
    go_upto_region 12 with (first | (go_at_call 15; refine (Has_v _ _ _ _ _ _ h hv'.out).mono ?_; rintro e W1 ⟨rfl, hb⟩; (try replace h := up_of hb h); (try replace hB := up_of hb hB); (try replace d0 := up_of hb d0); (try replace d1 := up_of hb d1); (try replace dl := up_of hb dl); (try replace p0 := up_of hb p0); (try replace p1 := up_of hb p1); (try replace p2 := up_of hb p2); (try replace pl := up_of hb pl); (try replace hpt := up_of hb hpt)))
    clear hb
    go_loopw [64, 11] (fun i f wr => ∃ k : Nat, k ≤ L.length ∧ i = .int .i64 k ∧ f = .bool (decide (p ∈ L.take k)) ∧ Below W1.heap.size W1 wr) (fun i _ _ => L.length - (intOf i).toNat)
    case atStart => exact ⟨0, by omega, rfl, by simp, Below.refl _ _⟩
    case round =>
      obtain ⟨k, hk, rfl, rfl, hR⟩ := hrel
      try replace h := up_of hR h
      try replace hB := up_of hR hB
      try replace d0 := up_of hR d0
      try replace d1 := up_of hR d1
      try replace dl := up_of hR dl
      try replace p0 := up_of hR p0
      try replace p1 := up_of hR p1
      try replace p2 := up_of hR p2
      try replace pl := up_of hR pl
      try replace hpt := up_of hR hpt
      by_cases hlt : k < L.length
      · obtain ⟨b1, o1, rfl, hb1, e0, e1, e2⟩ := hpt.at hlt
        have g1 : (0 : Int) ≤ (k : Int) := by omega
        have g2 : (k : Int) < (L.length : Int) := by omega
        have hin : Hid (hasB n l L[k] = true) := Lib.hid ((hmem.out _).1 (List.getElem_mem hlt))
        go_upto_region 14 with (fail)
        refine wp_world fun X HX => ?_
        have hX : Below wr.heap.size wr X := by rw [HX.out]; (repeat (first | exact Below.refl _ _ | refine Below.alloc ?_ (by simp; try omega) _ | refine Below.setCell ?_ (by simp) _ | refine Below.drew ?_))
        have x0 : X.cell? ⟨wr.heap.size, 0, none⟩ = some (.int .i64 L[k].x) := by rw [HX.out]; simp [go_sem]
        have x1 : X.cell? ⟨wr.heap.size, 1, none⟩ = some (.int .i64 L[k].y) := by rw [HX.out]; simp [go_sem]
        have x2 : X.cell? ⟨wr.heap.size, 2, none⟩ = some (.int .i64 L[k].z) := by rw [HX.out]; simp [go_sem]
        have xl : wr.heap.size < X.heap.size := World.block_lt_of_cell? X _ x0
        try replace h := up_of hX h
        try replace hB := up_of hX hB
        try replace d0 := up_of hX d0
        try replace d1 := up_of hX d1
        try replace dl := up_of hX dl
        try replace p0 := up_of hX p0
        try replace p1 := up_of hX p1
        try replace p2 := up_of hX p2
        try replace pl := up_of hX pl
        try replace hpt := up_of hX hpt
        try replace hR := up_of hX hR
        clear e0 e1 e2
        go_upto_region 15 with (first | (go_at_call 15; refine (Has_v _ _ _ _ L[k] _ h hv'.out).mono ?_; rw [hin.out]; rintro e W2 ⟨rfl, hb⟩; (try replace h := up_of hb h); (try replace hB := up_of hb hB); (try replace d0 := up_of hb d0); (try replace d1 := up_of hb d1); (try replace dl := up_of hb dl); (try replace p0 := up_of hb p0); (try replace p1 := up_of hb p1); (try replace p2 := up_of hb p2); (try replace pl := up_of hb pl); (try replace hpt := up_of hb hpt); (try replace hR := up_of hb hR); (try replace hX := up_of hb hX); (try replace x0 := up_of hb x0); (try replace x1 := up_of hb x1); (try replace x2 := up_of hb x2); (try replace xl := up_of hb xl)))
        have hnew : ∃ W3, Below W2.heap.size W2 W3 := ⟨_, Below.refl _ _⟩
        obtain ⟨b2, o2, ho, hb2, f0, f1, f2⟩ := hpt.at hlt
        cases ho
        cases hd : decide (p ∈ L.take k)
        all_goals
          cases hq : decide (L[k] = p)
          all_goals
            have hf : Hid (decide (p ∈ L.take (k + 1)) = (decide (p ∈ L.take k) || decide (L[k] = p))) := Lib.hid (by
              rw [List.take_succ_eq_append_getElem hlt]; simp only [List.mem_append, List.mem_singleton, Bool.decide_or]; congr 1; exact decide_eq_decide.2 ⟨fun h => h.symm, fun h => h.symm⟩)
            have he : ∀ w, (Op.equalIn 10000 26 (.agg #[.int .i64 L[k].x, .int .i64 L[k].y, .int .i64 L[k].z]) (.agg #[.int .i64 p.x, .int .i64 p.y, .int .i64 p.z])).run Try.prog w = .ok (decide (L[k] = p)) w := fun w => pt_eq_at _ _ w
            rw [hq] at he
            rw [hd, hq] at hf
            have hd' := Lib.hid hd; have hq' := Lib.hid hq; clear hd hq
            by_cases hk0 : (0 : Int) < (k : Int)
            · have g0 : decide (0 < k) = true := by simpa using hk0
              have hjl : k - 1 < L.length := by omega
              have g4 : (0 : Int) ≤ (k : Int) - 1 := by omega
              have g5 : (k : Int) - 1 < (L.length : Int) := by omega
              have g6 : IntKind.i64.wrap ((k : Int) - 1) = (k : Int) - 1 := by rw [i64_wrap]; unfold wrap64; omega
              have g7 : ((k : Int) - 1).toNat = k - 1 := by omega
              obtain ⟨b3, o3, ho, hb3, j0, j1, j2⟩ := hpt.at hjl
              cases ho
              have hst2 : ∀ W : World, Calls Try.prog 24 #[.agg #[.int .i64 L[k - 1].x, .int .i64 L[k - 1].y, .int .i64 L[k - 1].z], .agg #[.int .i64 L[k].x, .int .i64 L[k].y, .int .i64 L[k].z]] W fun e w' => e = .returned (.bool true) ∧ Below W.heap.size W w' := fun W => by
                have := before_c L[k - 1] L[k] W
                have h2 := hstep.out (k - 1) (by omega)
                simp only [show k - 1 + 1 = k by omega] at h2
                rwa [h2] at this
              replace hst2 := Lib.hid hst2
              try have ld_d0 := World.block_lt_of_cell? _ _ d0
              try have ld_p0 := World.block_lt_of_cell? _ _ p0
              try have ld_x0 := World.block_lt_of_cell? _ _ x0
              refine region_q (by kernel_rfl) (by kernel_rfl) ?_
              dsimp only [List.toList_toArray]
              repeat (first
               | go_big_quiet_skip
               | (go_big_quiet_want
                  first
                  | (refine qq_det ?_
                     apply Exists.intro; refine ⟨fun W' hW' => ?_, ?_⟩
                     (· have hk := cellB hW'; go_simp; try (first | rfl | rw [if_pos (by omega)]))
                     simp only [Act.put, List.setIfInBounds_toArray, List.set_cons_zero, List.set_cons_succ]; go_big_quiet_on)
                  | (refine qq_call ?_
                     apply Exists.intro; apply Exists.intro; refine ⟨fun W' hW' => ?_, ?_⟩
                     (· have hk := cellB hW'; go_simp; exact ⟨rfl, rfl⟩)
                     apply Exists.intro; refine ⟨fun W' hW' => ?_, ?_⟩
                     (· first | (go_at_call 24; exact qc hW' (hst2.out _)))
                     simp only [Act.put, List.setIfInBounds_toArray, List.set_cons_zero, List.set_cons_succ]; go_big_quiet_on)))
              refine wpQuiet_nil ?_
              intro W1 hb
              try replace h := up_of hb h
              try replace hB := up_of hb hB
              try replace d0 := up_of hb d0
              try replace d1 := up_of hb d1
              try replace dl := up_of hb dl
              try replace p0 := up_of hb p0
              try replace p1 := up_of hb p1
              try replace p2 := up_of hb p2
              try replace pl := up_of hb pl
              try replace hpt := up_of hb hpt
              try replace hR := up_of hb hR
              try replace hX := up_of hb hX
              try replace x0 := up_of hb x0
              try replace x1 := up_of hb x1
              try replace x2 := up_of hb x2
              try replace xl := up_of hb xl
              clear g6 g7
              go_wp2
              go_roundw
              case rel => exact ⟨k + 1, by omega, rfl, by rw [hf.out]; rfl, hR⟩
              case measure => simp [intOf]; omega
            · have g0 : decide (0 < k) = false := by simpa using hk0
              try have ld_d0 := World.block_lt_of_cell? _ _ d0
              try have ld_p0 := World.block_lt_of_cell? _ _ p0
              try have ld_x0 := World.block_lt_of_cell? _ _ x0
              refine region_q (by kernel_rfl) (by kernel_rfl) ?_
              dsimp only [List.toList_toArray]
              repeat (first
               | go_big_quiet_skip
               | (go_big_quiet_want
                  first
                  | (refine qq_det ?_
                     apply Exists.intro; refine ⟨fun W' hW' => ?_, ?_⟩
                     (· have hk := cellB hW'; go_simp; try (first | rfl | rw [if_pos (by omega)]))
                     simp only [Act.put, List.setIfInBounds_toArray, List.set_cons_zero, List.set_cons_succ]; go_big_quiet_on)))
              refine wpQuiet_nil ?_
              intro W1 hb
              try replace h := up_of hb h
              try replace hB := up_of hb hB
              try replace d0 := up_of hb d0
              try replace d1 := up_of hb d1
              try replace dl := up_of hb dl
              try replace p0 := up_of hb p0
              try replace p1 := up_of hb p1
              try replace p2 := up_of hb p2
              try replace pl := up_of hb pl
              try replace hpt := up_of hb hpt
              try replace hR := up_of hb hR
              try replace hX := up_of hb hX
              try replace x0 := up_of hb x0
              try replace x1 := up_of hb x1
              try replace x2 := up_of hb x2
              try replace xl := up_of hb xl
              go_wp2
              go_roundw
              case rel => exact ⟨k + 1, by omega, rfl, by rw [hf.out]; rfl, hR⟩
              case measure => simp [intOf]; omega
      · obtain rfl : k = L.length := by omega
        have he : (decide (p ∈ L.take L.length)) = hasB n l p := by
          rw [List.take_of_length_le (Nat.le_refl _)]
          have := hmem.out p
          cases hh : hasB n l p <;> simp_all
        replace he := Lib.hid he
        rw [he.out]
        go_wp2_with (first | (go_at_call 14; refine (awake_c _).mono ?_; rintro e W1 ⟨rfl, hb⟩; (try replace h := up_of hb h); (try replace hB := up_of hb hB); (try replace d0 := up_of hb d0); (try replace d1 := up_of hb d1); (try replace dl := up_of hb dl); (try replace p0 := up_of hb p0); (try replace p1 := up_of hb p1); (try replace p2 := up_of hb p2); (try replace pl := up_of hb pl); (try replace hpt := up_of hb hpt); (try replace hR := up_of hb hR); (try replace hX := up_of hb hX); (try replace x0 := up_of hb x0); (try replace x1 := up_of hb x1); (try replace x2 := up_of hb x2); (try replace xl := up_of hb xl)))
        go_ret
        exact ⟨rfl, hB⟩
end Go.Proofs.Ytfebkccdcbkdiaa
