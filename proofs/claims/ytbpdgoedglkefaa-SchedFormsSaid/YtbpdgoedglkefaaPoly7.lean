/- Points and Count. -/
import Derived.Test.YtbpdgoedglkefaaPoly6
namespace Go.Proofs.Ytbpdgoedglkefaa
open Go.RowKit

attribute [local go_sem] Oper.semAt_some

set_option maxRecDepth 100000 in
set_option maxHeartbeats 1000000 in
theorem points_c (n : Int) (s : Option Addr) (cap : Nat) (l : List Iq) (w : World) (hn : 1 ≤ n ∧ n ≤ 3) (hs : IqS w s l) (hl : l.length ≤ 9223372036854775807) :
    Calls Try.prog 106 #[.agg #[.int .i64 n, .slice s l.length cap]] w fun e w' => (∃ lb S, e = .returned (.func (.func 139) #[] lb) ∧ Iter Try.prog 139 lb (fun x => #[encPt x]) S (pts n l) w' ∧ ∀ k, S k → w.heap.size ≤ k ∨ Blk s l k) ∧ Below w.heap.size w w' := by
  replace hs := Lib.hid hs
  have hn3 : n = 1 ∨ n = 2 ∨ n = 3 := by omega
  clear hn
  rcases hn3 with rfl | rfl | rfl
  · go_enter Try.func106, Try.ntmps106
    go_wp2
    refine wp_loop_rounds 2 ?_
    rw [rounds_succ]
    go_wp2
    rw [rounds_succ]
    go_wp2
    go_ret
    have hX : ∀ o1 o2, Below w.heap.size w ((w.alloc o1).alloc o2) := fun o1 o2 => ((Below.refl _ w).alloc (Nat.le_refl _) o1).alloc (by simp) o2
    exact ⟨⟨_, _, rfl, points1_iter 1 s cap l _ _ _ (Up.iq (hX _ _) hs.out) hl (by simp [go_sem, far]) (by simp [go_sem, far]) (by simp [go_sem, far]) (by simp [go_sem]), fun k hk => by rcases hk with rfl | rfl | hk; exact .inl (by omega); exact .inl (by omega); exact .inr hk⟩, hX _ _⟩
  · go_enter Try.func106, Try.ntmps106
    go_wp2
    refine wp_loop_rounds 3 ?_
    rw [rounds_succ]
    go_wp2
    rw [rounds_succ]
    go_wp2
    rw [rounds_succ]
    go_wp2
    go_ret
    have hX : ∀ o1 o2, Below w.heap.size w ((w.alloc o1).alloc o2) := fun o1 o2 => ((Below.refl _ w).alloc (Nat.le_refl _) o1).alloc (by simp) o2
    exact ⟨⟨_, _, rfl, points1_iter 2 s cap l _ _ _ (Up.iq (hX _ _) hs.out) hl (by simp [go_sem, far]) (by simp [go_sem, far]) (by simp [go_sem, far]) (by simp [go_sem]), fun k hk => by rcases hk with rfl | rfl | hk; exact .inl (by omega); exact .inl (by omega); exact .inr hk⟩, hX _ _⟩
  · go_enter Try.func106, Try.ntmps106
    go_wp2
    refine wp_loop_rounds 4 ?_
    rw [rounds_succ]
    go_wp2
    rw [rounds_succ]
    go_wp2
    rw [rounds_succ]
    go_wp2
    rw [rounds_succ]
    go_wp2
    go_ret
    have hX : ∀ o1 o2, Below w.heap.size w ((w.alloc o1).alloc o2) := fun o1 o2 => ((Below.refl _ w).alloc (Nat.le_refl _) o1).alloc (by simp) o2
    exact ⟨⟨_, _, rfl, points1_iter 3 s cap l _ _ _ (Up.iq (hX _ _) hs.out) hl (by simp [go_sem, far]) (by simp [go_sem, far]) (by simp [go_sem, far]) (by simp [go_sem]), fun k hk => by rcases hk with rfl | rfl | hk; exact .inl (by omega); exact .inl (by omega); exact .inr hk⟩, hX _ _⟩

/-- What Count hands back. -/
def cntR (n : Int) (l : List Iq) : Value := if validB n l then .tuple #[.int .i64 (pts n l).length, .int .i64 0] else .tuple #[.int .i64 0, .int .i64 10]
theorem validB_n {n : Int} {l : List Iq} (h : validB n l = true) : 1 ≤ n ∧ n ≤ 3 := by
  simp only [validB, Bool.and_eq_true] at h
  exact bw_iff.1 h.1

set_option maxRecDepth 100000 in
set_option maxHeartbeats 1000000 in
theorem Count_c (n : Int) (s : Option Addr) (cap : Nat) (l : List Iq) (w : World) (hs : IqS w s l) (hl : l.length ≤ 9223372036854775807) :
    Calls Try.prog 113 #[.agg #[.int .i64 n, .slice s l.length cap]] w fun e w' => e = .returned (cntR n l) ∧ Below w.heap.size w w' := by
  have hblk : ∀ k, Blk s l k → k < w.heap.size := fun k hk => hs.blk hk
  have hlen := pts_len n l
  replace hblk := Lib.hid hblk
  replace hs := Lib.hid hs
  cases h1 : validB n l
  · refine calls_of_wp_marks Try.func113 rfl ?_
    simp only [Try.ntmps113, List.size_toArray, List.length_cons, List.length_nil, Nat.reduceAdd, Nat.reduceSub, Array.replicate_succ, Array.replicate_zero, List.push_toArray, List.append_toArray, List.nil_append, List.cons_append]
    go_upto_region 1 with (fail)
    refine wp_world fun W HW => ?_
    have hB : Below w.heap.size w W := by rw [HW.out]; (repeat (first | exact Below.refl _ _ | refine Below.alloc ?_ (by simp; try omega) _ | refine Below.setCell ?_ (by simp) _ | refine Below.drew ?_))
    have d0 : W.cell? ⟨w.heap.size, 0, none⟩ = some (.int .i64 n) := by rw [HW.out]; simp [go_sem]
    have d1 : W.cell? ⟨w.heap.size, 1, none⟩ = some (.slice s l.length cap) := by rw [HW.out]; simp [go_sem]
    have dl : w.heap.size < W.heap.size := World.block_lt_of_cell? W _ d0
    go_wp2_with (first | (go_at_call 103; refine (valid_c _ _ _ _ _ (Up.iq hB hs.out) hl).mono ?_; rintro e W1 ⟨rfl, hb⟩; replace hB := Up.to hB hb hB.size; replace d0 := Up.cell hb d0; replace d1 := Up.cell hb d1))
    refine marks_ret0 (results_tmp2 rfl _ _ _) ⟨by simp [cntR, h1], hB⟩
  · have hn := validB_n h1
    refine calls_of_wp_marks Try.func113 rfl ?_
    simp only [Try.ntmps113, List.size_toArray, List.length_cons, List.length_nil, Nat.reduceAdd, Nat.reduceSub, Array.replicate_succ, Array.replicate_zero, List.push_toArray, List.append_toArray, List.nil_append, List.cons_append]
    go_upto_region 1 with (fail)
    refine wp_world fun W HW => ?_
    have hB : Below w.heap.size w W := by rw [HW.out]; (repeat (first | exact Below.refl _ _ | refine Below.alloc ?_ (by simp; try omega) _ | refine Below.setCell ?_ (by simp) _ | refine Below.drew ?_))
    have d0 : W.cell? ⟨w.heap.size, 0, none⟩ = some (.int .i64 n) := by rw [HW.out]; simp [go_sem]
    have d1 : W.cell? ⟨w.heap.size, 1, none⟩ = some (.slice s l.length cap) := by rw [HW.out]; simp [go_sem]
    have dl : w.heap.size < W.heap.size := World.block_lt_of_cell? W _ d0
    go_upto_region 4 with (first | (go_at_call 103; refine (valid_c _ _ _ _ _ (Up.iq hB hs.out) hl).mono ?_; rintro e W1 ⟨rfl, hb⟩; replace hB := Up.to hB hb hB.size; replace d0 := Up.cell hb d0; replace d1 := Up.cell hb d1))
    refine wp_world fun X HX => ?_
    have hX : Below W1.heap.size W1 X := by rw [HX.out]; exact (Below.refl _ _).alloc (Nat.le_refl _) _
    have bx : Boxed X W1.heap.size 3 (.int .i64 0) := by rw [HX.out]; exact Boxed.new _ _ _
    replace d0 := Up.cell hX d0
    replace d1 := Up.cell hX d1
    have hlo := hB.size
    replace hB := Up.to hB hX hB.size
    go_wp2_with (go_at_call 106; refine (points_c _ _ _ _ _ hn (Up.iq hB hs.out) hl).mono ?_; rintro e V ⟨⟨lb, S, rfl, hit, hS⟩, hb⟩)
    have hbx : ∀ k, S k → k ≠ W1.heap.size := fun k hk e => by
      have := bx.lt
      rcases hS k hk with h | h
      · omega
      · have := hblk.out k h; omega
    have bV : Boxed V W1.heap.size 3 (.int .i64 0) := Up.block hb bx
    replace hB := Up.to hB hb hB.size
    have hVs := hB.size
    replace hbx := Lib.hid hbx
    refine' wp_range1 rfl (fun _ _ => by simp [go_sem]) hit w.heap.size hB.size
      (fun pre W => Boxed W W1.heap.size 3 (.int .i64 pre.length) ∧ Below w.heap.size w W) (fun _ _ _ => False)
      (fun s A B h hu => ⟨hu.cells _ _ _ _ h.1, h.2.trans hu.below⟩) (fun _ _ _ _ h _ => h) (fun s A h => h.2.size) (fun _ _ _ h => h.elim) ⟨bV, hB⟩ _ ?assign ?body ?done ?stop
    case assign =>
      intro l x W K hK
      simp only [encPt, List.setIfInBounds_toArray, List.set_cons_zero, List.set_cons_succ]
      gi_wp2
      exact hK
    case body =>
      rintro l pre x W ⟨hv, hB⟩ hlt
      have hc := hv.cell
      have hf := hv.frozen
      gi_wp2
      refine ⟨KeepsOthers.setCell _ _ _, KeepUp.setCell _ _ hbx.out, ?_, hB.setCell (by exact hlo) _⟩
      have := hv.set (.int .i64 ((pre ++ [x]).length : Int))
      simpa using this
    case done =>
      rintro D W hD ⟨hv, hB⟩ hK
      have hc := hv.cell
      gi_wp2
      go_wp2
      refine marks_ret hK (results_tmp2 rfl _ _ _) ⟨by simp [cntR, h1], ?_⟩
      have := hB.size
      exact hB.trans (marks_up this (by omega) hK).below
    case stop =>
      rintro D c pre W _ _ h _
      exact h.elim
end Go.Proofs.Ytbpdgoedglkefaa
