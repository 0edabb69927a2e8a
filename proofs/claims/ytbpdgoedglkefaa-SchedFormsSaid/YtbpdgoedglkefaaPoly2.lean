/- Validity and membership of layer 1: the program's functions and the reference's compute the same. -/
import Derived.Test.YtbpdgoedglkefaaPoly1
import Derived.Deep.Cut
namespace Go.Proofs.Ytbpdgoedglkefaa
open Go.RowKit

set_option maxRecDepth 100000 in
set_option maxHeartbeats 400000 in
theorem validQ_c (q : Iq) (n : Int) (b : Nat) (w : World) (hn : w.cell? ⟨b, 0, none⟩ = some (.int .i64 n)) :
    Calls Try.prog 136 #[.agg #[.int .i64 q.a.x, .int .i64 q.a.y, .int .i64 q.a.z, .int .i64 q.b], .pointer (some ⟨b, 0, none⟩)] w fun e w' => e = .returned (.bool (!okQ n q)) ∧ Below w.heap.size w w' := by
  cases h1 : flatB q.a n 20
  all_goals
    go_enter Try.func136, Try.ntmps136
    go_upto_region 1 with (fail)
    refine wp_world fun W HW => ?_
    have hB : Below w.heap.size w W := by rw [HW.out]; (repeat (first | exact Below.refl _ _ | refine Below.alloc ?_ (by simp; try omega) _ | refine Below.setCell ?_ (by simp) _ | refine Below.drew ?_))
    have q0 : W.cell? ⟨w.heap.size, 0, none⟩ = some (.int .i64 q.a.x) := by rw [HW.out]; simp [go_sem]
    have q1 : W.cell? ⟨w.heap.size, 1, none⟩ = some (.int .i64 q.a.y) := by rw [HW.out]; simp [go_sem]
    have q2 : W.cell? ⟨w.heap.size, 2, none⟩ = some (.int .i64 q.a.z) := by rw [HW.out]; simp [go_sem]
    have q3 : W.cell? ⟨w.heap.size, 3, none⟩ = some (.int .i64 q.b) := by rw [HW.out]; simp [go_sem]
    have ql : w.heap.size < W.heap.size := World.block_lt_of_cell? W _ q0
    replace hn := Up.cell hB hn
    go_wp2_with (first | (go_at_call 137; refine (ranged_c _ _ _ _ (by omega) (by omega)).mono ?_; rintro e W1 ⟨rfl, hb⟩; replace hB := Up.to hB hb hB.size; replace q0 := Up.cell hb q0; replace q1 := Up.cell hb q1; replace q2 := Up.cell hb q2; replace q3 := Up.cell hb q3; replace hn := Up.cell hb hn) | (go_at_call 134; refine (between_c _ _ _ _).mono ?_; rintro e w' ⟨rfl, rfl⟩))
    go_ret
    exact ⟨ret_bool (by simp [okQ, h1]), hB⟩

set_option maxRecDepth 100000 in
set_option maxHeartbeats 400000 in
theorem indexQ_c (f : Nat) (cs : Array Value) (hf : ∀ args w, (callFunc f args).run Try.prog w = .ok (.enter f args) w) (s : Option Addr) (cap : Nat) (l : List Iq) (pr : Iq → Bool) (w : World)
    (hs : IqS w s l) (hl : l.length ≤ 9223372036854775807)
    (hc : ∀ q ∈ l, ∀ W, Below w.heap.size w W → Calls Try.prog f (#[.agg #[.int .i64 q.a.x, .int .i64 q.a.y, .int .i64 q.a.z, .int .i64 q.b]] ++ cs) W fun e w' => e = .returned (.bool (pr q)) ∧ Below W.heap.size W w') :
    Calls Try.prog 155 #[.slice s l.length cap, .func (.func f) #[] cs] w fun e w' => e = .returned (.int .i64 (fidx pr l)) ∧ Below w.heap.size w w' := by
  go_enter Try.func155, Try.ntmps155
  go_wp2
  go_loopw [8] (fun i wr => ∃ k : Nat, k ≤ l.length ∧ i = .int .i64 k ∧ Below w.heap.size w wr ∧ Hid (∀ j (hj : j < l.length), j < k → pr l[j] = false)) (fun i _ => l.length - (intOf i).toNat)
  case atStart => exact ⟨0, by omega, rfl, Below.refl _ _, fun j _ h => absurd h (by omega)⟩
  case round =>
    obtain ⟨k, hk, rfl, hB, hno⟩ := hrel
    by_cases hlt : k < l.length
    · obtain ⟨b, off, rfl, hb, h0, h1, h2, h3⟩ := (Up.iq hB hs).at hlt
      have hcall := hc l[k] (List.getElem_mem hlt) wr hB
      have Hc := Lib.hid hcall
      clear hc hcall hs
      cases hp : pr l[k] with
      | true =>
        go_wp2_with (refine Hc.out.mono ?_; rintro e W1 ⟨rfl, hb1⟩; rw [hp])
        go_ret
        exact ⟨ret_int (fidx_at hlt (fun j hj => hno j _ hj) hp).symm, Up.to hB hb1 hB.size⟩
      | false =>
        go_wp2_with (refine Hc.out.mono ?_; rintro e W1 ⟨rfl, hb1⟩; rw [hp])
        go_roundw
        case rel => exact ⟨k + 1, by omega, by go_num, Up.to hB hb1 hB.size, fun j hj h => by rcases Nat.lt_succ_iff_lt_or_eq.1 h with h | rfl; exact hno j hj h; exact hp⟩
        case measure => simp [intOf]; omega
    · obtain rfl : k = l.length := by omega
      clear hc hs
      go_wp2
      go_ret
      exact ⟨ret_int (fidx_none fun j hj => hno j hj hj).symm, hB⟩

set_option maxRecDepth 100000 in
set_option maxHeartbeats 400000 in
theorem containsQ_c (f : Nat) (cs : Array Value) (hf : ∀ args w, (callFunc f args).run Try.prog w = .ok (.enter f args) w) (s : Option Addr) (cap : Nat) (l : List Iq) (pr : Iq → Bool) (w : World)
    (hs : IqS w s l) (hl : l.length ≤ 9223372036854775807)
    (hc : ∀ q ∈ l, ∀ W, Below w.heap.size w W → Calls Try.prog f (#[.agg #[.int .i64 q.a.x, .int .i64 q.a.y, .int .i64 q.a.z, .int .i64 q.b]] ++ cs) W fun e w' => e = .returned (.bool (pr q)) ∧ Below W.heap.size W w') :
    Calls Try.prog 135 #[.slice s l.length cap, .func (.func f) #[] cs] w fun e w' => e = .returned (.bool (l.any pr)) ∧ Below w.heap.size w w' := by
  have H := Lib.hid (indexQ_c f cs hf s cap l pr w hs hl hc)
  clear hc hs hf
  go_enter Try.func135, Try.ntmps135
  go_wp2_with (go_at_call 155; refine H.out.mono ?_; rintro e W1 ⟨rfl, hb⟩)
  go_ret
  exact ⟨ret_bool (fidx_any pr l), hb⟩

set_option maxRecDepth 100000 in
set_option maxHeartbeats 400000 in
theorem holdQ_c (q : Iq) (p : Pt) (m : Int) (b1 b2 : Nat) (w : World) (h0 : w.cell? ⟨b1, 0, none⟩ = some (.int .i64 p.x)) (h1 : w.cell? ⟨b1, 1, none⟩ = some (.int .i64 p.y))
    (h2 : w.cell? ⟨b1, 2, none⟩ = some (.int .i64 p.z)) (h3 : w.cell? ⟨b2, 0, none⟩ = some (.int .i64 m)) :
    Calls Try.prog 156 #[.agg #[.int .i64 q.a.x, .int .i64 q.a.y, .int .i64 q.a.z, .int .i64 q.b], .pointer (some ⟨b1, 0, none⟩), .pointer (some ⟨b2, 0, none⟩)] w
      fun e w' => e = .returned (.bool (!holdQ p m q)) ∧ Below w.heap.size w w' := by
  go_enter Try.func156, Try.ntmps156
  go_upto_region 1 with (fail)
  refine wp_world fun W HW => ?_
  have hB : Below w.heap.size w W := by rw [HW.out]; (repeat (first | exact Below.refl _ _ | refine Below.alloc ?_ (by simp; try omega) _ | refine Below.setCell ?_ (by simp) _ | refine Below.drew ?_))
  have q0 : W.cell? ⟨w.heap.size, 0, none⟩ = some (.int .i64 q.a.x) := by rw [HW.out]; simp [go_sem]
  have q1 : W.cell? ⟨w.heap.size, 1, none⟩ = some (.int .i64 q.a.y) := by rw [HW.out]; simp [go_sem]
  have q2 : W.cell? ⟨w.heap.size, 2, none⟩ = some (.int .i64 q.a.z) := by rw [HW.out]; simp [go_sem]
  have q3 : W.cell? ⟨w.heap.size, 3, none⟩ = some (.int .i64 q.b) := by rw [HW.out]; simp [go_sem]
  have ql : w.heap.size < W.heap.size := World.block_lt_of_cell? W _ q0
  replace h0 := Up.cell hB h0
  replace h1 := Up.cell hB h1
  replace h2 := Up.cell hB h2
  replace h3 := Up.cell hB h3
  have l1 := World.block_lt_of_cell? W _ h0
  have l2 := World.block_lt_of_cell? W _ h3
  refine wp_region_quiet (C := fun V0 => Below W.heap.size W V0) (by kernel_rfl) (by kernel_rfl) (Below.refl W.heap.size W).drew ?_
  dsimp only [List.toList_toArray]
  repeat (first
   | (refine q_det rfl ?_
      apply Exists.intro; refine ⟨fun W' hW' => ?_, ?_⟩
      (· have hk := cellB hW'; go_simp; try rfl)
      simp only [Act.put, List.setIfInBounds_toArray, List.set_cons_zero, List.set_cons_succ])
   | (refine q_skip rfl ?_; simp only [Act.put, List.setIfInBounds_toArray, List.set_cons_zero, List.set_cons_succ])
   | (refine q_call rfl ?_
      apply Exists.intro; apply Exists.intro; refine ⟨fun W' hW' => ?_, ?_⟩
      (· have hk := cellB hW'; go_simp; exact ⟨rfl, rfl⟩)
      apply Exists.intro; refine ⟨fun W' hW' => ?_, ?_⟩
      (· first | (go_at_call 157; exact qcall (times_c _ _ _) hW' (Nat.le_refl _)))
      simp only [Act.put, List.setIfInBounds_toArray, List.set_cons_zero, List.set_cons_succ]))
  refine wpQuiet_nil ?_
  intro W' hW'
  go_wp2
  go_ret
  exact ⟨ret_bool (by simp [holdQ, i64_wrap]), hB.trans (hW'.mono hB.size)⟩
end Go.Proofs.Ytbpdgoedglkefaa
