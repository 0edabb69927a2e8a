/- Several texts in one: each says what it proves. -/
import Derived.Test.YtakbpjgnjfigcaaGreatB1
import Derived.Deep.Cut
import Derived.Deep.DeepMust
/- The leaves of layer 1: comparisons, products, ranges of coordinates. -/
namespace Go.Proofs.YtakbpjgnjfigcaaGreat
open Go.RowKit

theorem i64_wrap (n : Int) : IntKind.i64.wrap n = wrap64 n := by rw [IntKind.wrap_i64]; unfold wrap64; rfl
theorem wrap_dot (a b c : Int) : wrap64 (wrap64 (wrap64 a + wrap64 b) + wrap64 c) = wrap64 (a + b + c) := by unfold wrap64; omega

theorem fc_t {i x n m : Int} (hb : bw (-m) x m = true) (h : i < n ∨ x = 0) : flatC i x n m = true := by simp [flatC, hb, h]
theorem fc_t1 {i x n m : Int} (hb : bw (-m) x m = true) (h : i < n) : flatC i x n m = true := fc_t hb (.inl h)
theorem fc_t2 {i x n m : Int} (hb : bw (-m) x m = true) (h : (x != 0) = false) : flatC i x n m = true := fc_t hb (.inr (by simpa using h))
theorem fc_f1 {i x n m : Int} (hb : bw (-m) x m = false) : flatC i x n m = false := by simp [flatC, hb]
theorem fc_f2 {i x n m : Int} (h : n ≤ i) (hx : (x != 0) = true) : flatC i x n m = false := by
  have : x ≠ 0 := by simpa using hx
  simp [flatC, this]; omega
theorem fB_x {p : Pt} {n m : Int} (h : flatC 0 p.x n m = false) : false = flatB p n m := by simp [flatB, h]
theorem fB_y {p : Pt} {n m : Int} (h : flatC 1 p.y n m = false) : false = flatB p n m := by simp [flatB, h]
theorem fB_z {p : Pt} {n m : Int} (h : flatC 2 p.z n m = false) : false = flatB p n m := by simp [flatB, h]
theorem fB_t {p : Pt} {n m : Int} (h : flatC 0 p.x n m = true) (k : flatC 1 p.y n m = true) (l : flatC 2 p.z n m = true) : flatB p n m = true := by simp [flatB, h, k, l]
theorem ix0 (a b c : Value) (w : World) : (Instr.index 30 (.agg #[a, b, c]) (.int .i64 0)).run Tryz.prog w = .ok a w := by kernel_rfl
theorem ix1 (a b c : Value) (w : World) : (Instr.index 30 (.agg #[a, b, c]) (.int .i64 1)).run Tryz.prog w = .ok b w := by kernel_rfl
theorem ix2 (a b c : Value) (w : World) : (Instr.index 30 (.agg #[a, b, c]) (.int .i64 2)).run Tryz.prog w = .ok c w := by kernel_rfl

theorem between_c (a b c : Int) (w : World) :
    Calls Tryz.prog 94 #[.int .i64 a, .int .i64 b, .int .i64 c] w fun e w' => e = .returned (.bool (bw a b c)) ∧ w = w' := by
  by_cases h1 : a ≤ b
  all_goals
    go_enter Tryz.func94, Tryz.ntmps94
    go_wp2
    go_ret
    exact ⟨ret_bool (by simp [bw]; omega), rfl⟩

theorem inRange_c (a b : Int) (w : World) (h0 : 0 ≤ b) (h1 : b ≤ 1000000000) :
    Calls Tryz.prog 65 #[.int .i64 a, .int .i64 b] w fun e w' => e = .returned (.bool (bw (-b) a b)) ∧ w = w' := by
  by_cases h2 : -b ≤ a
  all_goals
    go_enter Tryz.func65, Tryz.ntmps65
    go_wp2
    go_ret
    exact ⟨ret_bool (by simp [bw]; omega), rfl⟩

theorem times_c (a p : Pt) (w : World) :
    Calls Tryz.prog 132 #[.agg #[.int .i64 a.x, .int .i64 a.y, .int .i64 a.z], .agg #[.int .i64 p.x, .int .i64 p.y, .int .i64 p.z]] w fun e w' => e = .returned (.int .i64 (wrap64 (dotZ a p))) ∧ Below w.heap.size w w' := by
  go_enter Tryz.func132, Tryz.ntmps132
  go_wp2
  go_ret
  exact ⟨ret_int (wrap_dot _ _ _), ((Below.refl _ w).alloc (Nat.le_refl _) _).alloc (by simp) _⟩
theorem Dot_c (a p : Pt) (w : World) :
    Calls Tryz.prog 114 #[.agg #[.int .i64 a.x, .int .i64 a.y, .int .i64 a.z], .agg #[.int .i64 p.x, .int .i64 p.y, .int .i64 p.z]] w fun e w' => e = .returned (.int .i64 (wrap64 (dotZ a p))) ∧ Below w.heap.size w w' := by
  go_enter Tryz.func114, Tryz.ntmps114
  go_wp2
  go_ret
  exact ⟨ret_int (wrap_dot _ _ _), ((Below.refl _ w).alloc (Nat.le_refl _) _).alloc (by simp) _⟩

set_option maxRecDepth 100000 in
theorem ranged_c (p : Pt) (n m : Int) (w : World) (h0 : 0 ≤ m) (h1 : m ≤ 1000000000) :
    Calls Tryz.prog 97 #[.agg #[.int .i64 p.x, .int .i64 p.y, .int .i64 p.z], .int .i64 n, .int .i64 m] w fun e w' => e = .returned (.bool (flatB p n m)) ∧ Below w.heap.size w w' := by
  have x0 := ix0
  have x1 := ix1
  have x2 := ix2
  go_enter Tryz.func97, Tryz.ntmps97
  go_wp2
  have hB : Below w.heap.size w (w.alloc (.cells #[.int .i64 p.x, .int .i64 p.y, .int .i64 p.z] 30)) := (Below.refl _ w).alloc (Nat.le_refl _) _
  generalize (w.alloc (.cells #[.int .i64 p.x, .int .i64 p.y, .int .i64 p.z] 30)) = W at *
  go_loop [10] (fun i => i = .int .i64 0 ∨ (i = .int .i64 1 ∧ flatC 0 p.x n m = true) ∨ (i = .int .i64 2 ∧ flatC 0 p.x n m = true ∧ flatC 1 p.y n m = true) ∨ (i = .int .i64 3 ∧ flatB p n m = true)) (fun i => 3 - (intOf i).toNat)
  case atStart => exact .inl rfl
  case round =>
    rcases hrel with rfl | ⟨rfl, c0⟩ | ⟨rfl, c0, c1⟩ | ⟨rfl, c⟩
    · by_cases hn : 0 < n
      all_goals
        cases hx : (p.x != 0)
        all_goals
          cases hb : bw (-m) p.x m
          all_goals
            go_wp2_with (go_at_call 94; refine (between_c _ _ _ _).mono ?_; rintro e w' ⟨rfl, rfl⟩)
            first
              | (go_ret; exact ⟨ret_bool (fB_x (fc_f1 hb)), hB⟩)
              | (go_ret; exact ⟨ret_bool (fB_x (fc_f2 hn hx)), hB⟩)
              | (go_round
                 case rel => exact .inr (.inl ⟨rfl, by (first | exact fc_t1 hb hn | exact fc_t2 hb hx)⟩)
                 case measure => simp [intOf])
    · by_cases hn : 1 < n
      all_goals
        cases hx : (p.y != 0)
        all_goals
          cases hb : bw (-m) p.y m
          all_goals
            go_wp2_with (go_at_call 94; refine (between_c _ _ _ _).mono ?_; rintro e w' ⟨rfl, rfl⟩)
            first
              | (go_ret; exact ⟨ret_bool (fB_y (fc_f1 hb)), hB⟩)
              | (go_ret; exact ⟨ret_bool (fB_y (fc_f2 hn hx)), hB⟩)
              | (go_round
                 case rel => exact .inr (.inr (.inl ⟨rfl, c0, by (first | exact fc_t1 hb hn | exact fc_t2 hb hx)⟩))
                 case measure => simp [intOf])
    · by_cases hn : 2 < n
      all_goals
        cases hx : (p.z != 0)
        all_goals
          cases hb : bw (-m) p.z m
          all_goals
            go_wp2_with (go_at_call 94; refine (between_c _ _ _ _).mono ?_; rintro e w' ⟨rfl, rfl⟩)
            first
              | (go_ret; exact ⟨ret_bool (fB_z (fc_f1 hb)), hB⟩)
              | (go_ret; exact ⟨ret_bool (fB_z (fc_f2 hn hx)), hB⟩)
              | (go_round
                 case rel => exact .inr (.inr (.inr ⟨rfl, fB_t c0 c1 (by (first | exact fc_t1 hb hn | exact fc_t2 hb hx))⟩))
                 case measure => simp [intOf])
    · go_wp2
      go_ret
      exact ⟨rfl, hB⟩

set_option maxRecDepth 100000 in
theorem flat_c (p : Pt) (n m : Int) (w : World) (h0 : 0 ≤ m) (h1 : m ≤ 1000000000) :
    Calls Tryz.prog 64 #[.agg #[.int .i64 p.x, .int .i64 p.y, .int .i64 p.z], .int .i64 n, .int .i64 m] w fun e w' => e = .returned (.bool (flatB p n m)) ∧ Below w.heap.size w w' := by
  go_enter Tryz.func64, Tryz.ntmps64
  go_wp2
  have hB : Below w.heap.size w (w.alloc (.cells #[.int .i64 p.x, .int .i64 p.y, .int .i64 p.z] 30)) := (Below.refl _ w).alloc (Nat.le_refl _) _
  go_loop [8] (fun i => i = .int .i64 0 ∨ (i = .int .i64 1 ∧ flatC 0 p.x n m = true) ∨ (i = .int .i64 2 ∧ flatC 0 p.x n m = true ∧ flatC 1 p.y n m = true) ∨ (i = .int .i64 3 ∧ flatB p n m = true)) (fun i => 3 - (intOf i).toNat)
  case atStart => exact .inl rfl
  case round =>
    rcases hrel with rfl | ⟨rfl, c0⟩ | ⟨rfl, c0, c1⟩ | ⟨rfl, c⟩
    · by_cases hn : 0 < n
      all_goals
        cases hx : (p.x != 0)
        all_goals
          cases hb : bw (-m) p.x m
          all_goals
            go_wp2_with (go_at_call 65; refine (inRange_c _ _ _ h0 h1).mono ?_; rintro e w' ⟨rfl, rfl⟩)
            first
              | (go_ret; exact ⟨ret_bool (fB_x (fc_f1 hb)), hB⟩)
              | (go_ret; exact ⟨ret_bool (fB_x (fc_f2 hn hx)), hB⟩)
              | (go_round
                 case rel => exact .inr (.inl ⟨rfl, by (first | exact fc_t1 hb hn | exact fc_t2 hb hx)⟩)
                 case measure => simp [intOf])
    · by_cases hn : 1 < n
      all_goals
        cases hx : (p.y != 0)
        all_goals
          cases hb : bw (-m) p.y m
          all_goals
            go_wp2_with (go_at_call 65; refine (inRange_c _ _ _ h0 h1).mono ?_; rintro e w' ⟨rfl, rfl⟩)
            first
              | (go_ret; exact ⟨ret_bool (fB_y (fc_f1 hb)), hB⟩)
              | (go_ret; exact ⟨ret_bool (fB_y (fc_f2 hn hx)), hB⟩)
              | (go_round
                 case rel => exact .inr (.inr (.inl ⟨rfl, c0, by (first | exact fc_t1 hb hn | exact fc_t2 hb hx)⟩))
                 case measure => simp [intOf])
    · by_cases hn : 2 < n
      all_goals
        cases hx : (p.z != 0)
        all_goals
          cases hb : bw (-m) p.z m
          all_goals
            go_wp2_with (go_at_call 65; refine (inRange_c _ _ _ h0 h1).mono ?_; rintro e w' ⟨rfl, rfl⟩)
            first
              | (go_ret; exact ⟨ret_bool (fB_z (fc_f1 hb)), hB⟩)
              | (go_ret; exact ⟨ret_bool (fB_z (fc_f2 hn hx)), hB⟩)
              | (go_round
                 case rel => exact .inr (.inr (.inr ⟨rfl, fB_t c0 c1 (by (first | exact fc_t1 hb hn | exact fc_t2 hb hx))⟩))
                 case measure => simp [intOf])
    · go_wp2
      go_ret
      exact ⟨rfl, hB⟩

end Go.Proofs.YtakbpjgnjfigcaaGreat

/- Validity and membership of layer 1: the program's functions and the reference's compute the same. -/
namespace Go.Proofs.YtakbpjgnjfigcaaGreat
open Go.RowKit

set_option maxRecDepth 100000 in
set_option maxHeartbeats 400000 in
theorem validQ_c (q : Iq) (n : Int) (b : Nat) (w : World) (hn : w.cell? ⟨b, 0, none⟩ = some (.int .i64 n)) :
    Calls Tryz.prog 96 #[.agg #[.int .i64 q.a.x, .int .i64 q.a.y, .int .i64 q.a.z, .int .i64 q.b], .pointer (some ⟨b, 0, none⟩)] w fun e w' => e = .returned (.bool (!okQ n q)) ∧ Below w.heap.size w w' := by
  cases h1 : flatB q.a n 20
  all_goals
    go_enter Tryz.func96, Tryz.ntmps96
    go_upto_region 1 with (fail)
    refine wp_world fun W HW => ?_
    have hB : Below w.heap.size w W := by rw [HW.out]; (repeat (first | exact Below.refl _ _ | refine Below.alloc ?_ (by simp; try omega) _ | refine Below.setCell ?_ (by simp) _ | refine Below.drew ?_))
    have q0 : W.cell? ⟨w.heap.size, 0, none⟩ = some (.int .i64 q.a.x) := by rw [HW.out]; simp [go_sem]
    have q1 : W.cell? ⟨w.heap.size, 1, none⟩ = some (.int .i64 q.a.y) := by rw [HW.out]; simp [go_sem]
    have q2 : W.cell? ⟨w.heap.size, 2, none⟩ = some (.int .i64 q.a.z) := by rw [HW.out]; simp [go_sem]
    have q3 : W.cell? ⟨w.heap.size, 3, none⟩ = some (.int .i64 q.b) := by rw [HW.out]; simp [go_sem]
    have ql : w.heap.size < W.heap.size := World.block_lt_of_cell? W _ q0
    replace hn := Up.cell hB hn
    go_wp2_with (first | (go_at_call 97; refine (ranged_c _ _ _ _ (by omega) (by omega)).mono ?_; rintro e W1 ⟨rfl, hb⟩; replace hB := Up.to hB hb hB.size; replace q0 := Up.cell hb q0; replace q1 := Up.cell hb q1; replace q2 := Up.cell hb q2; replace q3 := Up.cell hb q3; replace hn := Up.cell hb hn) | (go_at_call 94; refine (between_c _ _ _ _).mono ?_; rintro e w' ⟨rfl, rfl⟩))
    go_ret
    exact ⟨ret_bool (by simp [okQ, h1]), hB⟩

set_option maxRecDepth 100000 in
set_option maxHeartbeats 400000 in
theorem indexQ_c (f : Nat) (cs : Array Value) (hf : ∀ args w, (callFunc f args).run Tryz.prog w = .ok (.enter f args) w) (s : Option Addr) (cap : Nat) (l : List Iq) (pr : Iq → Bool) (w : World)
    (hs : IqS w s l) (hl : l.length ≤ 9223372036854775807)
    (hc : ∀ q ∈ l, ∀ W, Below w.heap.size w W → Calls Tryz.prog f (#[.agg #[.int .i64 q.a.x, .int .i64 q.a.y, .int .i64 q.a.z, .int .i64 q.b]] ++ cs) W fun e w' => e = .returned (.bool (pr q)) ∧ Below W.heap.size W w') :
    Calls Tryz.prog 130 #[.slice s l.length cap, .func (.func f) #[] cs] w fun e w' => e = .returned (.int .i64 (fidx pr l)) ∧ Below w.heap.size w w' := by
  go_enter Tryz.func130, Tryz.ntmps130
  go_wp2
  go_loopw [8] (fun i wr => ∃ k : Nat, k ≤ l.length ∧ i = .int .i64 k ∧ Below w.heap.size w wr ∧ Hid (∀ j (hj : j < l.length), j < k → pr l[j] = false)) (fun i _ => l.length - (intOf i).toNat)
  case atStart => exact ⟨0, by omega, rfl, Below.refl _ _, fun j _ h => absurd h (by omega)⟩
  case round =>
    obtain ⟨k, hk, rfl, hB, hno⟩ := hrel
    by_cases hlt : k < l.length
    · obtain ⟨b, off, rfl, hb, h0, h1, h2, h3⟩ := (Up.iq hB hs).at hlt
      have hcall := hc l[k] (List.getElem_mem hlt) wr hB
      have Hc := Lib.hid hcall
      clear hc hcall hs
      cases hp : pr l[k] with
      | true =>
        go_wp2_with (refine Hc.out.mono ?_; rintro e W1 ⟨rfl, hb1⟩; rw [hp])
        go_ret
        exact ⟨ret_int (fidx_at hlt (fun j hj => hno j _ hj) hp).symm, Up.to hB hb1 hB.size⟩
      | false =>
        go_wp2_with (refine Hc.out.mono ?_; rintro e W1 ⟨rfl, hb1⟩; rw [hp])
        go_roundw
        case rel => exact ⟨k + 1, by omega, by go_num, Up.to hB hb1 hB.size, fun j hj h => by rcases Nat.lt_succ_iff_lt_or_eq.1 h with h | rfl; exact hno j hj h; exact hp⟩
        case measure => simp [intOf]; omega
    · obtain rfl : k = l.length := by omega
      clear hc hs
      go_wp2
      go_ret
      exact ⟨ret_int (fidx_none fun j hj => hno j hj hj).symm, hB⟩

set_option maxRecDepth 100000 in
set_option maxHeartbeats 400000 in
theorem containsQ_c (f : Nat) (cs : Array Value) (hf : ∀ args w, (callFunc f args).run Tryz.prog w = .ok (.enter f args) w) (s : Option Addr) (cap : Nat) (l : List Iq) (pr : Iq → Bool) (w : World)
    (hs : IqS w s l) (hl : l.length ≤ 9223372036854775807)
    (hc : ∀ q ∈ l, ∀ W, Below w.heap.size w W → Calls Tryz.prog f (#[.agg #[.int .i64 q.a.x, .int .i64 q.a.y, .int .i64 q.a.z, .int .i64 q.b]] ++ cs) W fun e w' => e = .returned (.bool (pr q)) ∧ Below W.heap.size W w') :
    Calls Tryz.prog 95 #[.slice s l.length cap, .func (.func f) #[] cs] w fun e w' => e = .returned (.bool (l.any pr)) ∧ Below w.heap.size w w' := by
  have H := Lib.hid (indexQ_c f cs hf s cap l pr w hs hl hc)
  clear hc hs hf
  go_enter Tryz.func95, Tryz.ntmps95
  go_wp2_with (go_at_call 130; refine H.out.mono ?_; rintro e W1 ⟨rfl, hb⟩)
  go_ret
  exact ⟨ret_bool (fidx_any pr l), hb⟩

set_option maxRecDepth 100000 in
set_option maxHeartbeats 400000 in
theorem holdQ_c (q : Iq) (p : Pt) (m : Int) (b1 b2 : Nat) (w : World) (h0 : w.cell? ⟨b1, 0, none⟩ = some (.int .i64 p.x)) (h1 : w.cell? ⟨b1, 1, none⟩ = some (.int .i64 p.y))
    (h2 : w.cell? ⟨b1, 2, none⟩ = some (.int .i64 p.z)) (h3 : w.cell? ⟨b2, 0, none⟩ = some (.int .i64 m)) :
    Calls Tryz.prog 131 #[.agg #[.int .i64 q.a.x, .int .i64 q.a.y, .int .i64 q.a.z, .int .i64 q.b], .pointer (some ⟨b1, 0, none⟩), .pointer (some ⟨b2, 0, none⟩)] w
      fun e w' => e = .returned (.bool (!holdQ p m q)) ∧ Below w.heap.size w w' := by
  go_enter Tryz.func131, Tryz.ntmps131
  go_upto_region 1 with (fail)
  refine wp_world fun W HW => ?_
  have hB : Below w.heap.size w W := by rw [HW.out]; (repeat (first | exact Below.refl _ _ | refine Below.alloc ?_ (by simp; try omega) _ | refine Below.setCell ?_ (by simp) _ | refine Below.drew ?_))
  have q0 : W.cell? ⟨w.heap.size, 0, none⟩ = some (.int .i64 q.a.x) := by rw [HW.out]; simp [go_sem]
  have q1 : W.cell? ⟨w.heap.size, 1, none⟩ = some (.int .i64 q.a.y) := by rw [HW.out]; simp [go_sem]
  have q2 : W.cell? ⟨w.heap.size, 2, none⟩ = some (.int .i64 q.a.z) := by rw [HW.out]; simp [go_sem]
  have q3 : W.cell? ⟨w.heap.size, 3, none⟩ = some (.int .i64 q.b) := by rw [HW.out]; simp [go_sem]
  have ql : w.heap.size < W.heap.size := World.block_lt_of_cell? W _ q0
  replace h0 := Up.cell hB h0
  replace h1 := Up.cell hB h1
  replace h2 := Up.cell hB h2
  replace h3 := Up.cell hB h3
  have l1 := World.block_lt_of_cell? W _ h0
  have l2 := World.block_lt_of_cell? W _ h3
  refine wp_region_quiet (C := fun V0 => Below W.heap.size W V0) (by kernel_rfl) (by kernel_rfl) (Below.refl W.heap.size W).drew ?_
  dsimp only [List.toList_toArray]
  repeat (first
   | (refine q_det rfl ?_
      apply Exists.intro; refine ⟨fun W' hW' => ?_, ?_⟩
      (· have hk := cellB hW'; go_simp; try rfl)
      simp only [Act.put, List.setIfInBounds_toArray, List.set_cons_zero, List.set_cons_succ])
   | (refine q_skip rfl ?_; simp only [Act.put, List.setIfInBounds_toArray, List.set_cons_zero, List.set_cons_succ])
   | (refine q_call rfl ?_
      apply Exists.intro; apply Exists.intro; refine ⟨fun W' hW' => ?_, ?_⟩
      (· have hk := cellB hW'; go_simp; exact ⟨rfl, rfl⟩)
      apply Exists.intro; refine ⟨fun W' hW' => ?_, ?_⟩
      (· first | (go_at_call 132; exact qcall (times_c _ _ _) hW' (Nat.le_refl _)))
      simp only [Act.put, List.setIfInBounds_toArray, List.set_cons_zero, List.set_cons_succ]))
  refine wpQuiet_nil ?_
  intro W' hW'
  go_wp2
  go_ret
  exact ⟨ret_bool (by simp [holdQ, i64_wrap]), hB.trans (hW'.mono hB.size)⟩
end Go.Proofs.YtakbpjgnjfigcaaGreat

/- Validity and membership of layer 1. -/
namespace Go.Proofs.YtakbpjgnjfigcaaGreat
open Go.RowKit

set_option maxRecDepth 100000 in
set_option maxHeartbeats 400000 in
theorem holds_c (s : Option Addr) (cap : Nat) (l : List Iq) (p : Pt) (m : Int) (w : World) (hs : IqS w s l) (hl : l.length ≤ 9223372036854775807) :
    Calls Tryz.prog 99 #[.slice s l.length cap, .agg #[.int .i64 p.x, .int .i64 p.y, .int .i64 p.z], .int .i64 m] w fun e w' => e = .returned (.bool (holdsB l p m)) ∧ Below w.heap.size w w' := by
  have H : ∀ W, Below w.heap.size w W → ∀ b1 b2, W.cell? ⟨b1, 0, none⟩ = some (.int .i64 p.x) → W.cell? ⟨b1, 1, none⟩ = some (.int .i64 p.y) → W.cell? ⟨b1, 2, none⟩ = some (.int .i64 p.z) → W.cell? ⟨b2, 0, none⟩ = some (.int .i64 m) →
      Calls Tryz.prog 95 #[.slice s l.length cap, .func (.func 131) #[] #[.pointer (some ⟨b1, 0, none⟩), .pointer (some ⟨b2, 0, none⟩)]] W
        fun e w' => e = .returned (.bool (l.any fun q => !holdQ p m q)) ∧ Below W.heap.size W w' := fun W hW b1 b2 h0 h1 h2 h3 =>
    containsQ_c _ _ (fun _ _ => by simp [go_sem]) s cap l _ W (Up.iq hW hs) hl fun q _ W' hW' =>
      holdQ_c q p m b1 b2 W' (Up.cell hW' h0) (Up.cell hW' h1) (Up.cell hW' h2) (Up.cell hW' h3)
  replace H := Lib.hid H
  clear hs
  go_enter Tryz.func99, Tryz.ntmps99
  go_upto_region 1 with (fail)
  refine wp_world fun W HW => ?_
  have hB : Below w.heap.size w W := by rw [HW.out]; (repeat (first | exact Below.refl _ _ | refine Below.alloc ?_ (by simp; try omega) _ | refine Below.setCell ?_ (by simp) _ | refine Below.drew ?_))
  have p0 : W.cell? ⟨w.heap.size, 0, none⟩ = some (.int .i64 p.x) := by rw [HW.out]; simp [go_sem]
  have p1 : W.cell? ⟨w.heap.size, 1, none⟩ = some (.int .i64 p.y) := by rw [HW.out]; simp [go_sem]
  have p2 : W.cell? ⟨w.heap.size, 2, none⟩ = some (.int .i64 p.z) := by rw [HW.out]; simp [go_sem]
  have pl : w.heap.size < W.heap.size := World.block_lt_of_cell? W _ p0
  have m0 : W.cell? ⟨w.heap.size + 1, 0, none⟩ = some (.int .i64 m) := by rw [HW.out]; simp [go_sem]
  have ml : w.heap.size + 1 < W.heap.size := World.block_lt_of_cell? W _ m0
  go_wp2_with (first | (go_at_call 95; refine (H.out _ hB _ _ p0 p1 p2 m0).mono ?_; rintro e W1 ⟨rfl, hb⟩; replace hB := Up.to hB hb hB.size))
  go_ret
  exact ⟨ret_bool (any_not _ _), hB⟩

set_option maxRecDepth 100000 in
set_option maxHeartbeats 400000 in
theorem valid_c (n : Int) (s : Option Addr) (cap : Nat) (l : List Iq) (w : World) (hs : IqS w s l) (hl : l.length ≤ 9223372036854775807) :
    Calls Tryz.prog 53 #[.agg #[.int .i64 n, .slice s l.length cap]] w fun e w' => e = .returned (.bool (validB n l)) ∧ Below w.heap.size w w' := by
  have H : ∀ W, Below w.heap.size w W → ∀ b1, W.cell? ⟨b1, 0, none⟩ = some (.int .i64 n) →
      Calls Tryz.prog 95 #[.slice s l.length cap, .func (.func 96) #[] #[.pointer (some ⟨b1, 0, none⟩)]] W
        fun e w' => e = .returned (.bool (l.any fun q => !okQ n q)) ∧ Below W.heap.size W w' := fun W hW b1 h0 =>
    containsQ_c _ _ (fun _ _ => by simp [go_sem]) s cap l _ W (Up.iq hW hs) hl fun q _ W' hW' => validQ_c q n b1 W' (Up.cell hW' h0)
  replace H := Lib.hid H
  clear hs
  cases h1 : bw 1 n 3
  all_goals
    by_cases h2 : (l.length : Int) ≤ 6
    all_goals
      go_enter Tryz.func53, Tryz.ntmps53
      go_upto_region 1 with (fail)
      refine wp_world fun W HW => ?_
      have hB : Below w.heap.size w W := by rw [HW.out]; (repeat (first | exact Below.refl _ _ | refine Below.alloc ?_ (by simp; try omega) _ | refine Below.setCell ?_ (by simp) _ | refine Below.drew ?_))
      have d0 : W.cell? ⟨w.heap.size, 0, none⟩ = some (.int .i64 n) := by rw [HW.out]; simp [go_sem]
      have d1 : W.cell? ⟨w.heap.size, 1, none⟩ = some (.slice s l.length cap) := by rw [HW.out]; simp [go_sem]
      have dl : w.heap.size < W.heap.size := World.block_lt_of_cell? W _ d0
      go_wp2_with (first | (go_at_call 94; refine (between_c _ _ _ _).mono ?_; rintro e w' ⟨rfl, rfl⟩) | (go_at_call 95; refine (H.out _ hB _ d0).mono ?_; rintro e W1 ⟨rfl, hb⟩; replace hB := Up.to hB hb hB.size; replace d0 := Up.cell hb d0; replace d1 := Up.cell hb d1))
      go_ret
      exact ⟨ret_bool (by simp [validB, h1, any_not]; try omega), hB⟩

set_option maxRecDepth 100000 in
set_option maxHeartbeats 400000 in
theorem rvalid_c (n : Int) (s : Option Addr) (cap : Nat) (l : List Iq) (w : World) (hs : IqS w s l) (hl : l.length ≤ 9223372036854775807) :
    Calls Tryz.prog 27 #[.agg #[.int .i64 n, .slice s l.length cap]] w fun e w' => e = .returned (.bool (validB n l)) ∧ Below w.heap.size w w' := by
  have V1 : n < 1 → false = validB n l := fun h => by simp [validB, bw]; omega
  have V2 : 3 < n → false = validB n l := fun h => by simp [validB, bw]; omega
  have V3 : 6 < (l.length : Int) → false = validB n l := fun h => by simp [validB]; omega
  have V4 : ∀ k (hk : k < l.length), okQ n l[k] = false → false = validB n l := fun k hk h => by
    have : l.all (okQ n) = false := by rw [List.all_eq_false]; exact ⟨_, List.getElem_mem hk, by simp [h]⟩
    simp [validB, this]
  have V5 : 1 ≤ n → n ≤ 3 → (l.length : Int) ≤ 6 → (∀ j (hj : j < l.length), okQ n l[j] = true) → true = validB n l := fun h1 h2 h3 h => by
    have : l.all (okQ n) = true := by
      rw [List.all_eq_true]; intro x hx
      obtain ⟨j, hj, rfl⟩ := List.getElem_of_mem hx
      exact h j hj
    simp [validB, this, bw, h1, h2]; omega
  replace V1 := Lib.hid V1
  replace V2 := Lib.hid V2
  replace V3 := Lib.hid V3
  replace V4 := Lib.hid V4
  replace V5 := Lib.hid V5
  by_cases h1 : n < 1
  · go_enter Tryz.func27, Tryz.ntmps27
    go_upto_region 1 with (fail)
    refine wp_world fun W HW => ?_
    have hB : Below w.heap.size w W := by rw [HW.out]; (repeat (first | exact Below.refl _ _ | refine Below.alloc ?_ (by simp; try omega) _ | refine Below.setCell ?_ (by simp) _ | refine Below.drew ?_))
    have d0 : W.cell? ⟨w.heap.size, 0, none⟩ = some (.int .i64 n) := by rw [HW.out]; simp [go_sem]
    have d1 : W.cell? ⟨w.heap.size, 1, none⟩ = some (.slice s l.length cap) := by rw [HW.out]; simp [go_sem]
    have dl : w.heap.size < W.heap.size := World.block_lt_of_cell? W _ d0
    go_wp2
    go_ret
    exact ⟨ret_bool (V1.out h1), hB⟩
  by_cases h2 : 3 < n
  · go_enter Tryz.func27, Tryz.ntmps27
    go_upto_region 1 with (fail)
    refine wp_world fun W HW => ?_
    have hB : Below w.heap.size w W := by rw [HW.out]; (repeat (first | exact Below.refl _ _ | refine Below.alloc ?_ (by simp; try omega) _ | refine Below.setCell ?_ (by simp) _ | refine Below.drew ?_))
    have d0 : W.cell? ⟨w.heap.size, 0, none⟩ = some (.int .i64 n) := by rw [HW.out]; simp [go_sem]
    have d1 : W.cell? ⟨w.heap.size, 1, none⟩ = some (.slice s l.length cap) := by rw [HW.out]; simp [go_sem]
    have dl : w.heap.size < W.heap.size := World.block_lt_of_cell? W _ d0
    go_wp2
    go_ret
    exact ⟨ret_bool (V2.out h2), hB⟩
  by_cases h3 : 6 < (l.length : Int)
  · go_enter Tryz.func27, Tryz.ntmps27
    go_upto_region 1 with (fail)
    refine wp_world fun W HW => ?_
    have hB : Below w.heap.size w W := by rw [HW.out]; (repeat (first | exact Below.refl _ _ | refine Below.alloc ?_ (by simp; try omega) _ | refine Below.setCell ?_ (by simp) _ | refine Below.drew ?_))
    have d0 : W.cell? ⟨w.heap.size, 0, none⟩ = some (.int .i64 n) := by rw [HW.out]; simp [go_sem]
    have d1 : W.cell? ⟨w.heap.size, 1, none⟩ = some (.slice s l.length cap) := by rw [HW.out]; simp [go_sem]
    have dl : w.heap.size < W.heap.size := World.block_lt_of_cell? W _ d0
    go_wp2
    go_ret
    exact ⟨ret_bool (V3.out h3), hB⟩
  go_enter Tryz.func27, Tryz.ntmps27
  go_upto_region 1 with (fail)
  refine wp_world fun W HW => ?_
  have hB : Below w.heap.size w W := by rw [HW.out]; (repeat (first | exact Below.refl _ _ | refine Below.alloc ?_ (by simp; try omega) _ | refine Below.setCell ?_ (by simp) _ | refine Below.drew ?_))
  have d0 : W.cell? ⟨w.heap.size, 0, none⟩ = some (.int .i64 n) := by rw [HW.out]; simp [go_sem]
  have d1 : W.cell? ⟨w.heap.size, 1, none⟩ = some (.slice s l.length cap) := by rw [HW.out]; simp [go_sem]
  have dl : w.heap.size < W.heap.size := World.block_lt_of_cell? W _ d0
  go_wp2
  go_loopw [22] (fun i wr => ∃ k : Nat, k ≤ l.length ∧ i = .int .i64 k ∧ Below W.heap.size W wr ∧ Hid (∀ j (hj : j < l.length), j < k → okQ n l[j] = true)) (fun i _ => l.length - (intOf i).toNat)
  case atStart => exact ⟨0, by omega, rfl, Below.refl _ _, fun j _ h => absurd h (by omega)⟩
  case round =>
    obtain ⟨k, hk, rfl, hR, hall⟩ := hrel
    by_cases hlt : k < l.length
    · obtain ⟨b, off, rfl, hb, e0, e1, e2, e3⟩ := (Up.iq (Up.to hB hR hB.size) hs).at hlt
      clear hs
      replace d0 := Up.cell hR d0
      replace d1 := Up.cell hR d1
      cases c1 : flatB l[k].a n 20
      all_goals
        cases c2 : bw (-1000) l[k].b 1000
        all_goals
          go_upto_region 6 with (fail)
          refine wp_world fun X HX => ?_
          have hX : Below wr.heap.size wr X := by rw [HX.out]; (repeat (first | exact Below.refl _ _ | refine Below.alloc ?_ (by simp; try omega) _ | refine Below.setCell ?_ (by simp) _ | refine Below.drew ?_))
          have q0 : X.cell? ⟨wr.heap.size, 0, none⟩ = some (.int .i64 l[k].a.x) := by rw [HX.out]; simp [go_sem]
          have q1 : X.cell? ⟨wr.heap.size, 1, none⟩ = some (.int .i64 l[k].a.y) := by rw [HX.out]; simp [go_sem]
          have q2 : X.cell? ⟨wr.heap.size, 2, none⟩ = some (.int .i64 l[k].a.z) := by rw [HX.out]; simp [go_sem]
          have q3 : X.cell? ⟨wr.heap.size, 3, none⟩ = some (.int .i64 l[k].b) := by rw [HX.out]; simp [go_sem]
          have ql : wr.heap.size < X.heap.size := World.block_lt_of_cell? X _ q0
          replace d0 := Up.cell hX d0
          replace d1 := Up.cell hX d1
          replace hB := Up.to (Up.to hB hR hB.size) hX (Nat.le_trans hB.size hR.size)
          replace hR := Up.trans hR hX
          go_wp2_with (first | (go_at_call 64; refine (flat_c _ _ _ _ (by omega) (by omega)).mono ?_; rintro e W1 ⟨rfl, hb⟩; replace hB := Up.to hB hb hB.size; replace q0 := Up.cell hb q0; replace q1 := Up.cell hb q1; replace q2 := Up.cell hb q2; replace q3 := Up.cell hb q3; replace d0 := Up.cell hb d0; replace d1 := Up.cell hb d1; replace hR := Up.trans hR hb) | (go_at_call 65; refine (inRange_c _ _ _ (by omega) (by omega)).mono ?_; rintro e w' ⟨rfl, rfl⟩))
          first
            | (go_ret; exact ⟨ret_bool (V4.out k hlt (by simp [okQ, c1, c2])), hB⟩)
            | (go_roundw
               case rel => exact ⟨k + 1, by omega, by go_num, hR, fun j hj h => by rcases Nat.lt_succ_iff_lt_or_eq.1 h with h | rfl; exact hall j hj h; simp [okQ, c1, c2]⟩
               case measure => simp [intOf]; omega)
    · obtain rfl : k = l.length := by omega
      clear hs
      go_wp2
      go_ret
      exact ⟨ret_bool (V5.out (by omega) (by omega) (by omega) (fun j hj => hall j hj hj)), Up.to hB hR hB.size⟩

set_option maxRecDepth 100000 in
set_option maxHeartbeats 400000 in
theorem rhas_c (n : Int) (s : Option Addr) (cap : Nat) (l : List Iq) (p : Pt) (w : World) (hs : IqS w s l) (hl : l.length ≤ 9223372036854775807) (hwf : ∀ q ∈ l, -9223372036854775808 ≤ q.b ∧ q.b ≤ 9223372036854775807) :
    Calls Tryz.prog 67 #[.agg #[.int .i64 n, .slice s l.length cap], .agg #[.int .i64 p.x, .int .i64 p.y, .int .i64 p.z]] w fun e w' => e = .returned (.bool (hasB n l p)) ∧ Below w.heap.size w w' := by
  have V4 : ∀ k (hk : k < l.length), wrap64 l[k].b < wrap64 (dotZ l[k].a p) → false = hasB n l p := fun k hk h => by
    have : holdsB l p 1 = false := by
      unfold holdsB; rw [List.all_eq_false]; exact ⟨_, List.getElem_mem hk, by simp [holdQ, h]⟩
    simp [hasB, this]
  have V5 : flatB p n 20 = true → (∀ j (hj : j < l.length), wrap64 (dotZ l[j].a p) ≤ wrap64 l[j].b) → true = hasB n l p := fun h0 h => by
    have : holdsB l p 1 = true := by
      unfold holdsB; rw [List.all_eq_true]; intro x hx
      obtain ⟨j, hj, rfl⟩ := List.getElem_of_mem hx
      simp [holdQ, h j hj]
    simp [hasB, this, h0]
  replace V4 := Lib.hid V4
  replace V5 := Lib.hid V5
  cases h1 : flatB p n 20
  · go_enter Tryz.func67, Tryz.ntmps67
    go_upto_region 1 with (fail)
    refine wp_world fun W HW => ?_
    have hB : Below w.heap.size w W := by rw [HW.out]; (repeat (first | exact Below.refl _ _ | refine Below.alloc ?_ (by simp; try omega) _ | refine Below.setCell ?_ (by simp) _ | refine Below.drew ?_))
    have d0 : W.cell? ⟨w.heap.size, 0, none⟩ = some (.int .i64 n) := by rw [HW.out]; simp [go_sem]
    have d1 : W.cell? ⟨w.heap.size, 1, none⟩ = some (.slice s l.length cap) := by rw [HW.out]; simp [go_sem]
    have dl : w.heap.size < W.heap.size := World.block_lt_of_cell? W _ d0
    have p0 : W.cell? ⟨w.heap.size + 1, 0, none⟩ = some (.int .i64 p.x) := by rw [HW.out]; simp [go_sem]
    have p1 : W.cell? ⟨w.heap.size + 1, 1, none⟩ = some (.int .i64 p.y) := by rw [HW.out]; simp [go_sem]
    have p2 : W.cell? ⟨w.heap.size + 1, 2, none⟩ = some (.int .i64 p.z) := by rw [HW.out]; simp [go_sem]
    have pl : w.heap.size + 1 < W.heap.size := World.block_lt_of_cell? W _ p0
    go_wp2_with (first | (go_at_call 64; refine (flat_c _ _ _ _ (by omega) (by omega)).mono ?_; rintro e W1 ⟨rfl, hb⟩; replace hB := Up.to hB hb hB.size; replace d0 := Up.cell hb d0; replace d1 := Up.cell hb d1; replace p0 := Up.cell hb p0; replace p1 := Up.cell hb p1; replace p2 := Up.cell hb p2))
    go_ret
    exact ⟨ret_bool (by simp [hasB, h1]), hB⟩
  go_enter Tryz.func67, Tryz.ntmps67
  go_upto_region 1 with (fail)
  refine wp_world fun W HW => ?_
  have hB : Below w.heap.size w W := by rw [HW.out]; (repeat (first | exact Below.refl _ _ | refine Below.alloc ?_ (by simp; try omega) _ | refine Below.setCell ?_ (by simp) _ | refine Below.drew ?_))
  have d0 : W.cell? ⟨w.heap.size, 0, none⟩ = some (.int .i64 n) := by rw [HW.out]; simp [go_sem]
  have d1 : W.cell? ⟨w.heap.size, 1, none⟩ = some (.slice s l.length cap) := by rw [HW.out]; simp [go_sem]
  have dl : w.heap.size < W.heap.size := World.block_lt_of_cell? W _ d0
  have p0 : W.cell? ⟨w.heap.size + 1, 0, none⟩ = some (.int .i64 p.x) := by rw [HW.out]; simp [go_sem]
  have p1 : W.cell? ⟨w.heap.size + 1, 1, none⟩ = some (.int .i64 p.y) := by rw [HW.out]; simp [go_sem]
  have p2 : W.cell? ⟨w.heap.size + 1, 2, none⟩ = some (.int .i64 p.z) := by rw [HW.out]; simp [go_sem]
  have pl : w.heap.size + 1 < W.heap.size := World.block_lt_of_cell? W _ p0
  go_wp2_with (first | (go_at_call 64; refine (flat_c _ _ _ _ (by omega) (by omega)).mono ?_; rintro e W1 ⟨rfl, hb⟩; replace hB := Up.to hB hb hB.size; replace d0 := Up.cell hb d0; replace d1 := Up.cell hb d1; replace p0 := Up.cell hb p0; replace p1 := Up.cell hb p1; replace p2 := Up.cell hb p2))
  go_loopw [15] (fun i wr => ∃ k : Nat, k ≤ l.length ∧ i = .int .i64 k ∧ Below W1.heap.size W1 wr ∧ Hid (∀ j (hj : j < l.length), j < k → wrap64 (dotZ l[j].a p) ≤ wrap64 l[j].b)) (fun i _ => l.length - (intOf i).toNat)
  case atStart => exact ⟨0, by omega, rfl, Below.refl _ _, fun j _ h => absurd h (by omega)⟩
  case round =>
    obtain ⟨k, hk, rfl, hR, hall⟩ := hrel
    by_cases hlt : k < l.length
    · obtain ⟨b, off, rfl, hb, e0, e1, e2, e3⟩ := (Up.iq (Up.to hB hR hB.size) hs).at hlt
      have hwk := hwf l[k] (List.getElem_mem hlt)
      have hwq : wrap64 l[k].b = l[k].b := by unfold wrap64; omega
      clear hs hwf
      replace p0 := Up.cell hR p0
      replace p1 := Up.cell hR p1
      replace p2 := Up.cell hR p2
      go_upto_region 6 with (fail)
      refine wp_world fun X HX => ?_
      have hX : Below wr.heap.size wr X := by rw [HX.out]; (repeat (first | exact Below.refl _ _ | refine Below.alloc ?_ (by simp; try omega) _ | refine Below.setCell ?_ (by simp) _ | refine Below.drew ?_))
      have q0 : X.cell? ⟨wr.heap.size, 0, none⟩ = some (.int .i64 l[k].a.x) := by rw [HX.out]; simp [go_sem]
      have q1 : X.cell? ⟨wr.heap.size, 1, none⟩ = some (.int .i64 l[k].a.y) := by rw [HX.out]; simp [go_sem]
      have q2 : X.cell? ⟨wr.heap.size, 2, none⟩ = some (.int .i64 l[k].a.z) := by rw [HX.out]; simp [go_sem]
      have q3 : X.cell? ⟨wr.heap.size, 3, none⟩ = some (.int .i64 l[k].b) := by rw [HX.out]; simp [go_sem]
      have ql : wr.heap.size < X.heap.size := World.block_lt_of_cell? X _ q0
      replace p0 := Up.cell hX p0
      replace p1 := Up.cell hX p1
      replace p2 := Up.cell hX p2
      have pl := World.block_lt_of_cell? X _ p0
      replace hB := Up.to (Up.to hB hR hB.size) hX (Nat.le_trans hB.size hR.size)
      replace hR := Up.trans hR hX
      replace hwq := Lib.hid hwq
      refine wp_region_quiet (C := fun V0 => Below X.heap.size X V0) (by kernel_rfl) (by kernel_rfl) (Below.refl X.heap.size X).drew ?_
      dsimp only [List.toList_toArray]
      repeat (first
       | (refine q_det rfl ?_
          apply Exists.intro; refine ⟨fun W' hW' => ?_, ?_⟩
          (· have hk := cellB hW'; go_simp; try rfl)
          simp only [Act.put, List.setIfInBounds_toArray, List.set_cons_zero, List.set_cons_succ])
       | (refine q_skip rfl ?_; simp only [Act.put, List.setIfInBounds_toArray, List.set_cons_zero, List.set_cons_succ])
       | (refine q_call rfl ?_
          apply Exists.intro; apply Exists.intro; refine ⟨fun W' hW' => ?_, ?_⟩
          (· have hk := cellB hW'; go_simp; exact ⟨rfl, rfl⟩)
          apply Exists.intro; refine ⟨fun W' hW' => ?_, ?_⟩
          (· first | (go_at_call 114; exact qcall (Dot_c _ _ _) hW' (Nat.le_refl _)))
          simp only [Act.put, List.setIfInBounds_toArray, List.set_cons_zero, List.set_cons_succ]))
      refine wpQuiet_nil ?_
      intro W' hW'
      have hB' := Up.to hB hW' hB.size
      have hR' := Up.trans hR hW'
      go_wp2
      · go_ret
        exact ⟨ret_bool (V4.out k hlt (by rw [hwq.out]; assumption)), hB'⟩
      · go_roundw
        case rel => exact ⟨k + 1, by omega, by go_num, hR', fun j hj h => by rcases Nat.lt_succ_iff_lt_or_eq.1 h with h | rfl; exact hall j hj h; rw [hwq.out]; assumption⟩
        case measure => simp [intOf]; omega
    · obtain rfl : k = l.length := by omega
      clear hs hwf
      go_wp2
      go_ret
      exact ⟨ret_bool (V5.out h1 (fun j hj => hall j hj hj)), Up.to hB hR hB.size⟩
end Go.Proofs.YtakbpjgnjfigcaaGreat

/- Has, far, wide. -/
namespace Go.Proofs.YtakbpjgnjfigcaaGreat
open Go.RowKit

/-- What Has hands back. -/
def hasR (n : Int) (l : List Iq) (p : Pt) : Value := if validB n l then .tuple #[.bool (hasB n l p), .int .i64 0] else .tuple #[.bool false, .int .i64 10]

theorem Flat_c (p : Pt) (n m : Int) (w : World) (h0 : 0 ≤ m) (h1 : m ≤ 1000000000) :
    Calls Tryz.prog 135 #[.agg #[.int .i64 p.x, .int .i64 p.y, .int .i64 p.z], .int .i64 n, .int .i64 m] w fun e w' => e = .returned (.bool (flatB p n m)) ∧ Below w.heap.size w w' := by
  go_enter Tryz.func135, Tryz.ntmps135
  go_upto_region 1 with (fail)
  refine wp_world fun W HW => ?_
  have hB : Below w.heap.size w W := by rw [HW.out]; (repeat (first | exact Below.refl _ _ | refine Below.alloc ?_ (by simp; try omega) _ | refine Below.setCell ?_ (by simp) _ | refine Below.drew ?_))
  have p0 : W.cell? ⟨w.heap.size, 0, none⟩ = some (.int .i64 p.x) := by rw [HW.out]; simp [go_sem]
  have p1 : W.cell? ⟨w.heap.size, 1, none⟩ = some (.int .i64 p.y) := by rw [HW.out]; simp [go_sem]
  have p2 : W.cell? ⟨w.heap.size, 2, none⟩ = some (.int .i64 p.z) := by rw [HW.out]; simp [go_sem]
  have pl : w.heap.size < W.heap.size := World.block_lt_of_cell? W _ p0
  go_wp2_with (first | (go_at_call 64; refine (flat_c _ _ _ _ h0 h1).mono ?_; rintro e W1 ⟨rfl, hb⟩; replace hB := Up.to hB hb hB.size))
  go_ret
  exact ⟨rfl, hB⟩

theorem far_c (n : Int) (s : Option Addr) (len cap : Nat) (i : Int) (w : World) :
    Calls Tryz.prog 66 #[.agg #[.int .i64 n, .slice s len cap], .int .i64 i] w fun e w' => e = .returned (.int .i64 (far n i)) ∧ Below w.heap.size w w' := by
  by_cases h : i < n
  all_goals
    go_enter Tryz.func66, Tryz.ntmps66
    go_wp2
    go_ret
    exact ⟨ret_int (by unfold far; split <;> omega), (Below.refl _ w).alloc (Nat.le_refl _) _⟩
end Go.Proofs.YtakbpjgnjfigcaaGreat

/- All points, as the reference lists them. -/
namespace Go.Proofs.YtakbpjgnjfigcaaGreat
open Go.RowKit

theorem info_pt : (Tryz.prog.info? 30).map (fun i => (i.zero, i.size, i.bytes)) = some (some (.agg #[.int .i64 0, .int .i64 0, .int .i64 0]), 3, 24) := by kernel_rfl
theorem ptCells_snoc (l : List Pt) (p : Pt) : ptCells (l ++ [p]) = ptCells l ++ [.int .i64 p.x, .int .i64 p.y, .int .i64 p.z] := by simp [ptCells, Pt.cells]

/-- A call that hands back a new slice of these points. -/
def RetPts (L : List Pt) (w : World) (e : Ending) (w' : World) : Prop :=
  ∃ s cap, e = .returned (.slice s L.length cap) ∧ w'.ownsRow w.heap.size 30 3 (.slice s L.length cap) L.length (ptCells L) ∧ Below w.heap.size w w'

theorem far_flat {n x y z : Int} (hn : 1 ≤ n ∧ n ≤ 3) (hx : -far n 0 ≤ x ∧ x ≤ far n 0) (hy : -far n 1 ≤ y ∧ y ≤ far n 1) (hz : -far n 2 ≤ z ∧ z ≤ far n 2) : flatB ⟨x, y, z⟩ n 20 = true := by
  simp only [far] at hx hy hz
  simp only [flatB, flatC, bw, Bool.and_eq_true, Bool.or_eq_true, decide_eq_true_eq]
  (repeat' split at hx) <;> (repeat' split at hy) <;> (repeat' split at hz) <;> omega
theorem hasB_holds (n : Int) (l : List Iq) (p : Pt) (h : flatB p n 20 = true) : hasB n l p = holdsB l p 1 := by simp [hasB, h]

set_option maxRecDepth 100000 in
set_option maxHeartbeats 1000000 in
theorem All_c (n : Int) (s : Option Addr) (cap : Nat) (l : List Iq) (w : World) (hn : 1 ≤ n ∧ n ≤ 3) (hs : IqS w s l) (hl : l.length ≤ 9223372036854775807) (hwf : ∀ q ∈ l, -9223372036854775808 ≤ q.b ∧ q.b ≤ 9223372036854775807) :
    Calls Tryz.prog 28 #[.agg #[.int .i64 n, .slice s l.length cap]] w (RetPts (pts n l) w) := by
  replace hs := Lib.hid hs
  replace hwf := Lib.hid hwf
  have hlen := pts_len n l
  have f0 := far_le n 0
  have f1 := far_le n 1
  have f2 := far_le n 2
  have g0 := far_nn n 0
  have g1 := far_nn n 1
  have g2 := far_nn n 2
  go_enter Tryz.func28, Tryz.ntmps28
  go_upto_region 1 with (fail)
  refine wp_world fun W HW => ?_
  have hB : Below w.heap.size w W := by rw [HW.out]; (repeat (first | exact Below.refl _ _ | refine Below.alloc ?_ (by simp; try omega) _ | refine Below.setCell ?_ (by simp) _ | refine Below.drew ?_))
  have d0 : W.cell? ⟨w.heap.size, 0, none⟩ = some (.int .i64 n) := by rw [HW.out]; simp [go_sem]
  have d1 : W.cell? ⟨w.heap.size, 1, none⟩ = some (.slice s l.length cap) := by rw [HW.out]; simp [go_sem]
  have dl : w.heap.size < W.heap.size := World.block_lt_of_cell? W _ d0
  go_wp2_with (first | (go_at_call 66; refine (far_c _ _ _ _ _ _).mono ?_; rintro e V ⟨rfl, hb⟩; replace hB := Up.to hB hb hB.size; replace d0 := Up.cell hb d0; replace d1 := Up.cell hb d1))
  have dV : w.heap.size < V.heap.size := World.block_lt_of_cell? V _ d0
  go_loopw [3, 4] (fun out x wr => ∃ (xi : Int) (pre : List Pt), x = .int .i64 xi ∧ -far n 0 ≤ xi ∧ xi ≤ far n 0 + 1 ∧ Hid (pts n l = pre ++ ptsX n l (up xi (far n 0))) ∧ wr.ownsRow V.heap.size 30 3 out pre.length (ptCells pre) ∧ Below V.heap.size V wr)
    (fun _ x _ => (far n 0 + 1 - intOf x).toNat)
  case atStart => exact ⟨_, [], rfl, by omega, by omega, rfl, World.ownsRow_nil _ _ _ _, Below.refl _ _⟩
  case round =>
    obtain ⟨xi, pre, rfl, hx0, hx1, hpre, hown, hR⟩ := hrel
    have e0 := Up.cell hR d0
    have e1 := Up.cell hR d1
    by_cases hx : xi ≤ far n 0
    · go_wp2_with (first | (go_at_call 66; refine (far_c _ _ _ _ _ _).mono ?_; rintro e W1 ⟨rfl, hb⟩; replace hR := Up.to hR hb hR.size; replace e0 := Up.cell hb e0; replace e1 := Up.cell hb e1; replace hown := Up.owns hb hown))
      go_loopw [3, 5] (fun out y wr => ∃ (yi : Int) (pre : List Pt), y = .int .i64 yi ∧ -far n 1 ≤ yi ∧ yi ≤ far n 1 + 1 ∧ Hid (pts n l = pre ++ (ptsY n l xi (up yi (far n 1)) ++ ptsX n l (up (xi + 1) (far n 0)))) ∧ wr.ownsRow V.heap.size 30 3 out pre.length (ptCells pre) ∧ Below V.heap.size V wr)
        (fun _ y _ => (far n 1 + 1 - intOf y).toNat)
      case atStart => exact ⟨_, pre, rfl, by omega, by omega, by rw [hpre.out, up_cons hx]; rfl, hown, hR⟩
      case round =>
        clear e0 e1 hown hR hpre pre
        obtain ⟨yi, pre, rfl, hy0, hy1, hpre, hown, hR⟩ := hrel
        have e0 := Up.cell hR d0
        have e1 := Up.cell hR d1
        by_cases hy : yi ≤ far n 1
        · go_wp2_with (first | (go_at_call 66; refine (far_c _ _ _ _ _ _).mono ?_; rintro e W1 ⟨rfl, hb⟩; replace hR := Up.to hR hb hR.size; replace e0 := Up.cell hb e0; replace e1 := Up.cell hb e1; replace hown := Up.owns hb hown))
          go_loopw [3, 6] (fun out z wr => ∃ (zi : Int) (pre : List Pt), z = .int .i64 zi ∧ -far n 2 ≤ zi ∧ zi ≤ far n 2 + 1 ∧ Hid (pts n l = pre ++ (ptsZ l xi yi (up zi (far n 2)) ++ (ptsY n l xi (up (yi + 1) (far n 1)) ++ ptsX n l (up (xi + 1) (far n 0))))) ∧ wr.ownsRow V.heap.size 30 3 out pre.length (ptCells pre) ∧ Below V.heap.size V wr)
            (fun _ z _ => (far n 2 + 1 - intOf z).toNat)
          case atStart => exact ⟨_, pre, rfl, by omega, by omega, (show pts n l = _ by rw [hpre.out, up_cons hy]; simp only [ptsY, List.flatMap_cons, List.append_assoc]), hown, hR⟩
          case round =>
            clear e0 e1 hown hR hpre pre
            obtain ⟨zi, pre, rfl, hz0, hz1, hpre, hown, hR⟩ := hrel
            have e0 := Up.cell hR d0
            have e1 := Up.cell hR d1
            by_cases hz : zi ≤ far n 2
            · have hlp : pre.length ≤ 68921 := by
                have := congrArg List.length hpre.out
                simp only [List.length_append] at this
                omega
              have hfl : flatB ⟨xi, yi, zi⟩ n 20 = true := far_flat hn ⟨hx0, hx⟩ ⟨hy0, hy⟩ ⟨hz0, hz⟩
              have hh := hasB_holds n l ⟨xi, yi, zi⟩ hfl
              have hpz : pts n l = pre ++ ((if holdsB l ⟨xi, yi, zi⟩ 1 then [(⟨xi, yi, zi⟩ : Pt)] else []) ++ (ptsZ l xi yi (up (zi + 1) (far n 2)) ++ (ptsY n l xi (up (yi + 1) (far n 1)) ++ ptsX n l (up (xi + 1) (far n 0))))) := by
                rw [hpre.out, up_cons hz]; simp only [ptsZ, List.flatMap_cons, List.append_assoc]
              replace hpz := Lib.hid hpz
              replace hh := Lib.hid hh
              clear hpre hfl
              cases hc : hasB n l ⟨xi, yi, zi⟩
              all_goals
                have hc2 := Lib.hid (hh.out.symm.trans hc)
                go_upto_region 12 with (first | (go_at_call 66; refine (far_c _ _ _ _ _ _).mono ?_; rintro e W1 ⟨rfl, hb⟩; replace hR := Up.to hR hb hR.size; replace e0 := Up.cell hb e0; replace e1 := Up.cell hb e1; replace hown := Up.owns hb hown))
                refine wp_world fun X HX => ?_
                have hX : Below W1.heap.size W1 X := by rw [HX.out]; (repeat (first | exact Below.refl _ _ | refine Below.alloc ?_ (by simp; try omega) _ | refine Below.setCell ?_ (by simp) _ | refine Below.drew ?_))
                have q0 : X.cell? ⟨W1.heap.size, 0, none⟩ = some (.int .i64 xi) := by rw [HX.out]; simp [go_sem]
                have q1 : X.cell? ⟨W1.heap.size, 1, none⟩ = some (.int .i64 yi) := by rw [HX.out]; simp [go_sem]
                have q2 : X.cell? ⟨W1.heap.size, 2, none⟩ = some (.int .i64 zi) := by rw [HX.out]; simp [go_sem]
                have ql : W1.heap.size < X.heap.size := World.block_lt_of_cell? X _ q0
                replace e0 := Up.cell hX e0
                replace e1 := Up.cell hX e1
                replace hown := Up.owns hX hown
                replace hR := Up.to hR hX hR.size
                have hisq := Up.iq (Up.to hB hR hB.size) hs.out
                replace hisq := Lib.hid hisq
                have hVs := hR.size
                go_wp2_with (first | (at_builtin; obtain ⟨i0, hi, hz0, hz1, hz2⟩ := info_parts info_pt; refine wpList_append_own _ rfl _ _ 61 rfl V.heap.size 30 i0 (.agg #[.int .i64 0, .int .i64 0, .int .i64 0]) 3 24 Tryz.underlying61 hi hz0 hz1 hz2 rfl (by decide) _ _ _ rfl (hown.alloc _) ⟨Y.heap.size, 0, none⟩ 1 1 [.int .i64 xi, .int .i64 yi, .int .i64 zi] rfl rfl (news_new _ _ _) (by simp [Value.oneCell']) (by unfold maxLen; omega) (by omega) (by have := hR.size; simp; omega) ?_; intro v1 w1 hown1 hgrow hnil) | (go_at_call 67; refine (rhas_c n s cap l ⟨xi, yi, zi⟩ _ hisq.out hl hwf.out).mono ?_; rintro e Y ⟨rfl, hb⟩; replace hR := Up.to hR hb hR.size; replace e0 := Up.cell hb e0; replace e1 := Up.cell hb e1; replace q0 := Up.cell hb q0; replace q1 := Up.cell hb q1; replace q2 := Up.cell hb q2; replace hown := Up.owns hb hown))
                go_roundw
                case rel => first
                  | exact ⟨zi + 1, pre ++ [⟨xi, yi, zi⟩], rfl, by omega, by omega, (show pts n l = _ by rw [hpz.out, if_pos hc2.out]; simp), by rw [ptCells_snoc]; simpa using hown1, Up.grown hR hR.size hown hgrow⟩
                  | exact ⟨zi + 1, pre, rfl, by omega, by omega, (show pts n l = _ by rw [hpz.out, if_neg (by rw [hc2.out]; simp)]; rfl), hown, hR⟩
                case measure => simp [intOf]; omega
            · go_wp2_with (first | (go_at_call 66; refine (far_c _ _ _ _ _ _).mono ?_; rintro e W1 ⟨rfl, hb⟩; replace hR := Up.to hR hb hR.size; replace e0 := Up.cell hb e0; replace e1 := Up.cell hb e1; replace hown := Up.owns hb hown))
              go_roundw
              case rel => exact ⟨yi + 1, pre, rfl, by omega, by omega, by rw [hpre.out, up_nil (by omega)]; rfl, hown, hR⟩
              case measure => simp [intOf]; omega
        · go_wp2_with (first | (go_at_call 66; refine (far_c _ _ _ _ _ _).mono ?_; rintro e W1 ⟨rfl, hb⟩; replace hR := Up.to hR hb hR.size; replace e0 := Up.cell hb e0; replace e1 := Up.cell hb e1; replace hown := Up.owns hb hown))
          go_roundw
          case rel => exact ⟨xi + 1, pre, rfl, by omega, by omega, by rw [hpre.out, up_nil (by omega)]; rfl, hown, hR⟩
          case measure => simp [intOf]; omega
    · go_wp2_with (first | (go_at_call 66; refine (far_c _ _ _ _ _ _).mono ?_; rintro e W1 ⟨rfl, hb⟩; replace hR := Up.to hR hb hR.size; replace e0 := Up.cell hb e0; replace e1 := Up.cell hb e1; replace hown := Up.owns hb hown))
      obtain rfl : xi = far n 0 + 1 := by omega
      have hp : pts n l = pre := by rw [hpre.out, up_nil (by omega)]; simp [ptsX]
      replace hp := Lib.hid hp
      obtain ⟨s', c', rfl, _⟩ := owns_shape hown
      go_wp2
      go_ret
      rw [hp.out]
      exact ⟨s', c', rfl, owns_mono hown (Nat.le_of_lt (Nat.lt_of_le_of_lt (Nat.le_refl _) dV)), Up.to hB hR hB.size⟩
end Go.Proofs.YtakbpjgnjfigcaaGreat

/- The program's iterator over all points. -/
namespace Go.Proofs.YtakbpjgnjfigcaaGreat
open Go.RowKit

attribute [local go_sem] Oper.semAt_some

def encPt (p : Pt) : Value := .agg #[.int .i64 p.x, .int .i64 p.y, .int .i64 p.z]

set_option maxRecDepth 100000 in
set_option maxHeartbeats 1000000 in
theorem points1_iter (n : Int) (s : Option Addr) (cap : Nat) (l : List Iq) (b1 b2 : Nat) (w : World) (hs : IqS w s l) (hl : l.length ≤ 9223372036854775807)
    (m0 : w.cell? ⟨b1, 0, none⟩ = some (.int .i64 (far n 0))) (m1 : w.cell? ⟨b1, 1, none⟩ = some (.int .i64 (far n 1))) (m2 : w.cell? ⟨b1, 2, none⟩ = some (.int .i64 (far n 2)))
    (d1 : w.cell? ⟨b2, 1, none⟩ = some (.slice s l.length cap)) :
    Iter Tryz.prog 98 #[.pointer (some ⟨b1, 0, none⟩), .pointer (some ⟨b2, 0, none⟩)] (fun x => #[encPt x]) (fun k => k = b1 ∨ k = b2 ∨ Blk s l k) (pts n l) w := by
  have hlt : ∀ k, (k = b1 ∨ k = b2 ∨ Blk s l k) → k < w.heap.size := fun k hk => by
    rcases hk with rfl | rfl | hk
    · exact World.block_lt_of_cell? w _ m0
    · exact World.block_lt_of_cell? w _ d1
    · exact hs.blk hk
  refine ⟨hlt, ?_⟩
  intro ly J Jx W hW hJ hJx hY h0
  have hK0 : KeepUp (fun k => k = b1 ∨ k = b2 ∨ Blk s l k) w W := KeepUp.of_below hW hlt
  have hKU : ∀ (A B : World), KeepUp (fun k => k = b1 ∨ k = b2 ∨ Blk s l k) w A → Below A.heap.size A B → KeepUp (fun k => k = b1 ∨ k = b2 ∨ Blk s l k) w B := fun _ _ h k => h.trans (KeepUp.of_below k (fun i hi => Nat.lt_of_lt_of_le (hlt i hi) h.size))
  have hIq : ∀ (A : World), KeepUp (fun k => k = b1 ∨ k = b2 ∨ Blk s l k) w A → IqS A s l := fun _ h => hs.keep h.size (fun k hk => h.same k (.inr (.inr hk)))
  replace hKU := Lib.hid hKU
  replace hIq := Lib.hid hIq
  have hJb : ∀ s A B, J s A → Below A.heap.size A B → J s B := fun s A B h hb => hJ s A B none h (grownBy_of_below hb) (fun r e => by cases e)
  replace hJb := Lib.hid hJb
  replace hY := Lib.hid hY
  have f0 := far_le n 0
  have f1 := far_le n 1
  have f2 := far_le n 2
  have g0 := far_nn n 0
  have g1 := far_nn n 1
  have g2 := far_nn n 2
  have e0 := hK0.cell (.inl rfl) m0
  have e1 := hK0.cell (.inl rfl) m1
  have e2 := hK0.cell (.inl rfl) m2
  have e3 := hK0.cell (.inr (.inl rfl)) d1
  refine callsIn_of_wp Tryz.func98 rfl trivial ?_ rfl
  simp only [Tryz.ntmps98, List.size_toArray, List.length_cons, List.length_nil, Nat.reduceAdd, Nat.reduceSub, Array.replicate_succ, Array.replicate_zero, List.push_toArray, List.append_toArray, List.nil_append, List.cons_append]
  gi_wp2
  gi_loopw [4] (fun x wr => ∃ (xi : Int) (pre : List Pt), x = .int .i64 xi ∧ -far n 0 ≤ xi ∧ xi ≤ far n 0 + 1 ∧ Hid (pts n l = pre ++ ptsX n l (up xi (far n 0))) ∧ J pre wr ∧ KeepUp (fun k => k = b1 ∨ k = b2 ∨ Blk s l k) w wr)
    (fun x _ => (far n 0 + 1 - intOf x).toNat)
  case atStart => exact ⟨_, [], rfl, by omega, by omega, rfl, h0, hK0⟩
  case round =>
    clear e0 e1 e2 e3 h0
    obtain ⟨xi, pre, rfl, hx0, hx1, hpre, hj, hR⟩ := hrel
    have e0 := hR.cell (.inl rfl) m0
    have e1 := hR.cell (.inl rfl) m1
    have e2 := hR.cell (.inl rfl) m2
    have e3 := hR.cell (.inr (.inl rfl)) d1
    by_cases hx : xi ≤ far n 0
    · gi_wp2
      gi_loopw [5] (fun y wr => ∃ (yi : Int) (pre : List Pt), y = .int .i64 yi ∧ -far n 1 ≤ yi ∧ yi ≤ far n 1 + 1 ∧ Hid (pts n l = pre ++ (ptsY n l xi (up yi (far n 1)) ++ ptsX n l (up (xi + 1) (far n 0)))) ∧ J pre wr ∧ KeepUp (fun k => k = b1 ∨ k = b2 ∨ Blk s l k) w wr)
        (fun y _ => (far n 1 + 1 - intOf y).toNat)
      case atStart => exact ⟨_, pre, rfl, by omega, by omega, (show pts n l = _ by rw [hpre.out, up_cons hx]; rfl), hj, hR⟩
      case round =>
        clear e0 e1 e2 e3 hj hR hpre pre
        obtain ⟨yi, pre, rfl, hy0, hy1, hpre, hj, hR⟩ := hrel
        have e0 := hR.cell (.inl rfl) m0
        have e1 := hR.cell (.inl rfl) m1
        have e2 := hR.cell (.inl rfl) m2
        have e3 := hR.cell (.inr (.inl rfl)) d1
        by_cases hy : yi ≤ far n 1
        · gi_wp2
          gi_loopw [6] (fun z wr => ∃ (zi : Int) (pre : List Pt), z = .int .i64 zi ∧ -far n 2 ≤ zi ∧ zi ≤ far n 2 + 1 ∧ Hid (pts n l = pre ++ (ptsZ l xi yi (up zi (far n 2)) ++ (ptsY n l xi (up (yi + 1) (far n 1)) ++ ptsX n l (up (xi + 1) (far n 0))))) ∧ J pre wr ∧ KeepUp (fun k => k = b1 ∨ k = b2 ∨ Blk s l k) w wr)
            (fun z _ => (far n 2 + 1 - intOf z).toNat)
          case atStart => exact ⟨_, pre, rfl, by omega, by omega, (show pts n l = _ by rw [hpre.out, up_cons hy]; simp only [ptsY, List.flatMap_cons, List.append_assoc]), hj, hR⟩
          case round =>
            clear e0 e1 e2 e3 hj hR hpre pre
            obtain ⟨zi, pre, rfl, hz0, hz1, hpre, hj, hR⟩ := hrel
            have e0 := hR.cell (.inl rfl) m0
            have e1 := hR.cell (.inl rfl) m1
            have e2 := hR.cell (.inl rfl) m2
            have e3 := hR.cell (.inr (.inl rfl)) d1
            by_cases hz : zi ≤ far n 2
            · have hpz : pts n l = pre ++ ((if holdsB l ⟨xi, yi, zi⟩ 1 then [(⟨xi, yi, zi⟩ : Pt)] else []) ++ (ptsZ l xi yi (up (zi + 1) (far n 2)) ++ (ptsY n l xi (up (yi + 1) (far n 1)) ++ ptsX n l (up (xi + 1) (far n 0))))) := by
                rw [hpre.out, up_cons hz]; simp only [ptsZ, List.flatMap_cons, List.append_assoc]
              replace hpz := Lib.hid hpz
              clear hpre
              cases hc : holdsB l ⟨xi, yi, zi⟩ 1
              all_goals
                have hc2 := Lib.hid hc
                have l1 := World.block_lt_of_cell? wr _ e0
                have l2 := World.block_lt_of_cell? wr _ e3
                gi_wp2_with fail
                refine callsIn_world fun X HX => ?_
                have hX : Below wr.heap.size wr X := by rw [HX.out]; (repeat (first | exact Below.refl _ _ | refine Below.alloc ?_ (by simp; try omega) _ | refine Below.setCell ?_ (by simp) _ | refine Below.drew ?_))
                have q0 : X.cell? ⟨wr.heap.size, 0, none⟩ = some (.int .i64 xi) := by rw [HX.out]; simp [go_sem]
                have q1 : X.cell? ⟨wr.heap.size, 1, none⟩ = some (.int .i64 yi) := by rw [HX.out]; simp [go_sem]
                have q2 : X.cell? ⟨wr.heap.size, 2, none⟩ = some (.int .i64 zi) := by rw [HX.out]; simp [go_sem]
                refine (ci (holds_c s cap l ⟨xi, yi, zi⟩ 1 X (hIq.out _ (hKU.out _ _ hR hX)) hl)).mono ?_
                rintro e Y ⟨rfl, hb⟩
                rw [hc]
                replace q0 := Up.cell hb q0
                replace q1 := Up.cell hb q1
                replace q2 := Up.cell hb q2
                have hjY := hJb.out _ _ _ hj (Up.trans hX hb)
                have hRY := hKU.out _ _ (hKU.out _ _ hR hX) hb
                clear hj
              · gi_wp2
                go_roundw
                case rel => exact ⟨zi + 1, pre, rfl, by omega, by omega, (show pts n l = _ by rw [hpz.out, if_neg (by rw [hc2.out]; simp)]; rfl), hjY, hRY⟩
                case measure => simp [intOf]; omega
              · have hpz2 : pts n l = (pre ++ [⟨xi, yi, zi⟩]) ++ (ptsZ l xi yi (up (zi + 1) (far n 2)) ++ (ptsY n l xi (up (yi + 1) (far n 1)) ++ ptsX n l (up (xi + 1) (far n 0)))) := by rw [hpz.out, if_pos hc2.out]; simp
                have hlt : pre.length < (pts n l).length := by rw [hpz2]; simp only [List.length_append, List.length_cons, List.length_nil]; omega
                obtain ⟨fn, tmps, assign, body, hy, hRd⟩ := hY.out pre ⟨xi, yi, zi⟩ Y hjY hlt
                dsimp only [encPt] at hy
                replace hpz2 := Lib.hid hpz2
                clear hjY hlt
                gi_wp2
                refine hRd.mono ?_
                rintro e Z (⟨rfl, hjZ, hkZ⟩ | ⟨rfl, hjZ⟩)
                · gi_wp2
                  go_roundw
                  case rel => exact ⟨zi + 1, pre ++ [⟨xi, yi, zi⟩], rfl, by omega, by omega, hpz2, hjZ, hRY.trans hkZ⟩
                  case measure => simp [intOf]; omega
                · gi_wp2
                  refine bodyPost_ret (results_none rfl _ _ _) rfl ?_
                  exact ⟨⟨_, rfl⟩, .inr ⟨_, ⟨_, hpz2.out.symm⟩, hjZ⟩⟩
            · gi_wp2
              go_roundw
              case rel => exact ⟨yi + 1, pre, rfl, by omega, by omega, (show pts n l = _ by rw [hpre.out, up_nil (by omega)]; rfl), hj, hR⟩
              case measure => simp [intOf]; omega
        · gi_wp2
          go_roundw
          case rel => exact ⟨xi + 1, pre, rfl, by omega, by omega, (show pts n l = _ by rw [hpre.out, up_nil (by omega)]; rfl), hj, hR⟩
          case measure => simp [intOf]; omega
    · obtain rfl : xi = far n 0 + 1 := by omega
      have hp : pts n l = pre := by rw [hpre.out, up_nil (by omega)]; simp [ptsX]
      replace hp := Lib.hid hp
      gi_wp2
      go_end0
      exact ⟨⟨_, rfl⟩, .inl (by rw [hp.out]; exact hj)⟩
end Go.Proofs.YtakbpjgnjfigcaaGreat

/- Points and Count. -/
namespace Go.Proofs.YtakbpjgnjfigcaaGreat
open Go.RowKit

attribute [local go_sem] Oper.semAt_some

set_option maxRecDepth 100000 in
set_option maxHeartbeats 1000000 in
theorem points_c (n : Int) (s : Option Addr) (cap : Nat) (l : List Iq) (w : World) (hn : 1 ≤ n ∧ n ≤ 3) (hs : IqS w s l) (hl : l.length ≤ 9223372036854775807) :
    Calls Tryz.prog 54 #[.agg #[.int .i64 n, .slice s l.length cap]] w fun e w' => (∃ lb S, e = .returned (.func (.func 98) #[] lb) ∧ Iter Tryz.prog 98 lb (fun x => #[encPt x]) S (pts n l) w' ∧ ∀ k, S k → w.heap.size ≤ k ∨ Blk s l k) ∧ Below w.heap.size w w' := by
  replace hs := Lib.hid hs
  have hn3 : n = 1 ∨ n = 2 ∨ n = 3 := by omega
  clear hn
  rcases hn3 with rfl | rfl | rfl
  · go_enter Tryz.func54, Tryz.ntmps54
    go_wp2
    refine wp_loop_rounds 2 ?_
    rw [rounds_succ]
    go_wp2
    rw [rounds_succ]
    go_wp2
    go_ret
    have hX : ∀ o1 o2, Below w.heap.size w ((w.alloc o1).alloc o2) := fun o1 o2 => ((Below.refl _ w).alloc (Nat.le_refl _) o1).alloc (by simp) o2
    exact ⟨⟨_, _, rfl, points1_iter 1 s cap l _ _ _ (Up.iq (hX _ _) hs.out) hl (by simp [go_sem, far]) (by simp [go_sem, far]) (by simp [go_sem, far]) (by simp [go_sem]), fun k hk => by rcases hk with rfl | rfl | hk; exact .inl (by omega); exact .inl (by omega); exact .inr hk⟩, hX _ _⟩
  · go_enter Tryz.func54, Tryz.ntmps54
    go_wp2
    refine wp_loop_rounds 3 ?_
    rw [rounds_succ]
    go_wp2
    rw [rounds_succ]
    go_wp2
    rw [rounds_succ]
    go_wp2
    go_ret
    have hX : ∀ o1 o2, Below w.heap.size w ((w.alloc o1).alloc o2) := fun o1 o2 => ((Below.refl _ w).alloc (Nat.le_refl _) o1).alloc (by simp) o2
    exact ⟨⟨_, _, rfl, points1_iter 2 s cap l _ _ _ (Up.iq (hX _ _) hs.out) hl (by simp [go_sem, far]) (by simp [go_sem, far]) (by simp [go_sem, far]) (by simp [go_sem]), fun k hk => by rcases hk with rfl | rfl | hk; exact .inl (by omega); exact .inl (by omega); exact .inr hk⟩, hX _ _⟩
  · go_enter Tryz.func54, Tryz.ntmps54
    go_wp2
    refine wp_loop_rounds 4 ?_
    rw [rounds_succ]
    go_wp2
    rw [rounds_succ]
    go_wp2
    rw [rounds_succ]
    go_wp2
    rw [rounds_succ]
    go_wp2
    go_ret
    have hX : ∀ o1 o2, Below w.heap.size w ((w.alloc o1).alloc o2) := fun o1 o2 => ((Below.refl _ w).alloc (Nat.le_refl _) o1).alloc (by simp) o2
    exact ⟨⟨_, _, rfl, points1_iter 3 s cap l _ _ _ (Up.iq (hX _ _) hs.out) hl (by simp [go_sem, far]) (by simp [go_sem, far]) (by simp [go_sem, far]) (by simp [go_sem]), fun k hk => by rcases hk with rfl | rfl | hk; exact .inl (by omega); exact .inl (by omega); exact .inr hk⟩, hX _ _⟩

/-- What Count hands back. -/
def cntR (n : Int) (l : List Iq) : Value := if validB n l then .tuple #[.int .i64 (pts n l).length, .int .i64 0] else .tuple #[.int .i64 0, .int .i64 10]
theorem validB_n {n : Int} {l : List Iq} (h : validB n l = true) : 1 ≤ n ∧ n ≤ 3 := by
  simp only [validB, Bool.and_eq_true] at h
  exact bw_iff.1 h.1

set_option maxRecDepth 100000 in
set_option maxHeartbeats 1000000 in
theorem Count_c (n : Int) (s : Option Addr) (cap : Nat) (l : List Iq) (w : World) (hs : IqS w s l) (hl : l.length ≤ 9223372036854775807) :
    Calls Tryz.prog 17 #[.agg #[.int .i64 n, .slice s l.length cap]] w fun e w' => e = .returned (cntR n l) ∧ Below w.heap.size w w' := by
  have hblk : ∀ k, Blk s l k → k < w.heap.size := fun k hk => hs.blk hk
  have hlen := pts_len n l
  replace hblk := Lib.hid hblk
  replace hs := Lib.hid hs
  cases h1 : validB n l
  · refine calls_of_wp_marks Tryz.func17 rfl ?_
    simp only [Tryz.ntmps17, List.size_toArray, List.length_cons, List.length_nil, Nat.reduceAdd, Nat.reduceSub, Array.replicate_succ, Array.replicate_zero, List.push_toArray, List.append_toArray, List.nil_append, List.cons_append]
    go_upto_region 1 with (fail)
    refine wp_world fun W HW => ?_
    have hB : Below w.heap.size w W := by rw [HW.out]; (repeat (first | exact Below.refl _ _ | refine Below.alloc ?_ (by simp; try omega) _ | refine Below.setCell ?_ (by simp) _ | refine Below.drew ?_))
    have d0 : W.cell? ⟨w.heap.size, 0, none⟩ = some (.int .i64 n) := by rw [HW.out]; simp [go_sem]
    have d1 : W.cell? ⟨w.heap.size, 1, none⟩ = some (.slice s l.length cap) := by rw [HW.out]; simp [go_sem]
    have dl : w.heap.size < W.heap.size := World.block_lt_of_cell? W _ d0
    go_wp2_with (first | (go_at_call 53; refine (valid_c _ _ _ _ _ (Up.iq hB hs.out) hl).mono ?_; rintro e W1 ⟨rfl, hb⟩; replace hB := Up.to hB hb hB.size; replace d0 := Up.cell hb d0; replace d1 := Up.cell hb d1))
    refine marks_ret0 (results_tmp2 rfl _ _ _) ⟨by simp [cntR, h1], hB⟩
  · have hn := validB_n h1
    refine calls_of_wp_marks Tryz.func17 rfl ?_
    simp only [Tryz.ntmps17, List.size_toArray, List.length_cons, List.length_nil, Nat.reduceAdd, Nat.reduceSub, Array.replicate_succ, Array.replicate_zero, List.push_toArray, List.append_toArray, List.nil_append, List.cons_append]
    go_upto_region 1 with (fail)
    refine wp_world fun W HW => ?_
    have hB : Below w.heap.size w W := by rw [HW.out]; (repeat (first | exact Below.refl _ _ | refine Below.alloc ?_ (by simp; try omega) _ | refine Below.setCell ?_ (by simp) _ | refine Below.drew ?_))
    have d0 : W.cell? ⟨w.heap.size, 0, none⟩ = some (.int .i64 n) := by rw [HW.out]; simp [go_sem]
    have d1 : W.cell? ⟨w.heap.size, 1, none⟩ = some (.slice s l.length cap) := by rw [HW.out]; simp [go_sem]
    have dl : w.heap.size < W.heap.size := World.block_lt_of_cell? W _ d0
    go_upto_region 4 with (first | (go_at_call 53; refine (valid_c _ _ _ _ _ (Up.iq hB hs.out) hl).mono ?_; rintro e W1 ⟨rfl, hb⟩; replace hB := Up.to hB hb hB.size; replace d0 := Up.cell hb d0; replace d1 := Up.cell hb d1))
    refine wp_world fun X HX => ?_
    have hX : Below W1.heap.size W1 X := by rw [HX.out]; exact (Below.refl _ _).alloc (Nat.le_refl _) _
    have bx : Boxed X W1.heap.size 3 (.int .i64 0) := by rw [HX.out]; exact Boxed.new _ _ _
    replace d0 := Up.cell hX d0
    replace d1 := Up.cell hX d1
    have hlo := hB.size
    replace hB := Up.to hB hX hB.size
    go_wp2_with (go_at_call 54; refine (points_c _ _ _ _ _ hn (Up.iq hB hs.out) hl).mono ?_; rintro e V ⟨⟨lb, S, rfl, hit, hS⟩, hb⟩)
    have hbx : ∀ k, S k → k ≠ W1.heap.size := fun k hk e => by
      have := bx.lt
      rcases hS k hk with h | h
      · omega
      · have := hblk.out k h; omega
    have bV : Boxed V W1.heap.size 3 (.int .i64 0) := Up.block hb bx
    replace hB := Up.to hB hb hB.size
    have hVs := hB.size
    replace hbx := Lib.hid hbx
    refine' wp_range1 rfl (fun _ _ => by simp [go_sem]) hit w.heap.size hB.size
      (fun pre W => Boxed W W1.heap.size 3 (.int .i64 pre.length) ∧ Below w.heap.size w W) (fun _ _ _ => False)
      (fun s A B h hu => ⟨hu.cells _ _ _ _ h.1, h.2.trans hu.below⟩) (fun _ _ _ _ h _ => h) (fun s A h => h.2.size) (fun _ _ _ h => h.elim) ⟨bV, hB⟩ _ ?assign ?body ?done ?stop
    case assign =>
      intro l x W K hK
      simp only [encPt, List.setIfInBounds_toArray, List.set_cons_zero, List.set_cons_succ]
      gi_wp2
      exact hK
    case body =>
      rintro l pre x W ⟨hv, hB⟩ hlt
      have hc := hv.cell
      have hf := hv.frozen
      gi_wp2
      refine ⟨KeepsOthers.setCell _ _ _, KeepUp.setCell _ _ hbx.out, ?_, hB.setCell (by exact hlo) _⟩
      have := hv.set (.int .i64 ((pre ++ [x]).length : Int))
      simpa using this
    case done =>
      rintro D W hD ⟨hv, hB⟩ hK
      have hc := hv.cell
      gi_wp2
      go_wp2
      refine marks_ret hK (results_tmp2 rfl _ _ _) ⟨by simp [cntR, h1], ?_⟩
      have := hB.size
      exact hB.trans (marks_up this (by omega) hK).below
    case stop =>
      rintro D c pre W _ _ h _
      exact h.elim
end Go.Proofs.YtakbpjgnjfigcaaGreat

/- Points, as the program and the reference list them. -/
namespace Go.Proofs.YtakbpjgnjfigcaaGreat
open Go.RowKit

attribute [local go_sem] Oper.semAt_some

def ptsL (n : Int) (l : List Iq) : List Pt := if validB n l && decide ((pts n l).length ≤ 1000) then pts n l else []
def ptsE (n : Int) (l : List Iq) : Int := if validB n l then (if (pts n l).length ≤ 1000 then 0 else 4) else 10
/-- What Points hands back. -/
def PtsRet (n : Int) (l : List Iq) (w : World) (e : Ending) (w' : World) : Prop :=
  ∃ s cap, e = .returned (.tuple #[.slice s (ptsL n l).length cap, .int .i64 (ptsE n l)]) ∧ w'.ownsRow w.heap.size 30 3 (.slice s (ptsL n l).length cap) (ptsL n l).length (ptCells (ptsL n l)) ∧ Below w.heap.size w w'

theorem results_cell2 {fn : Func} {p u : Tmp} {tp tu : TypeId} {tmps : Array Value} {P : Program} {w : World} {a b : Addr} {va vb : Value} (h : fn.results = #[.cell p tp, .cell u tu])
    (hp : tmps.getD p undef = .pointer (some a)) (hu : tmps.getD u undef = .pointer (some b))
    (la : (loadVar tp a).run P w = .ok va w) (lb : (loadVar tu b).run P w = .ok vb w) : (results fn tmps).run P w = .ok (.tuple #[va, vb]) w := by
  simp only [results, h]
  simp only [Array.getD_eq_getD_getElem?] at hp hu
  simp [Sem.run_bind, Result.andThen, hp, hu, asAddr, la, lb]
theorem load_one {P : Program} {t : TypeId} {w : World} {b : Nat} {v : Value} (ht : ∀ w : World, (isAgg t).run P w = .ok false w) (h : Boxed w b t v) : (loadVar t ⟨b, 0, none⟩).run P w = .ok v w := by
  have hc := h.cell
  simp only [loadVar, Sem.run_bind, ht, Result.andThen]
  simp [load, Sem.run, hc]

set_option maxRecDepth 100000 in
set_option maxHeartbeats 1000000 in
theorem Points_c (n : Int) (s : Option Addr) (cap : Nat) (l : List Iq) (w : World) (hs : IqS w s l) (hl : l.length ≤ 9223372036854775807) :
    Calls Tryz.prog 75 #[.agg #[.int .i64 n, .slice s l.length cap]] w (PtsRet n l w) := by
  have hblk : ∀ k, Blk s l k → k < w.heap.size := fun k hk => hs.blk hk
  have hlen := pts_len n l
  replace hblk := Lib.hid hblk
  replace hs := Lib.hid hs
  have ga1 : ∀ w : World, (isAgg 61).run Tryz.prog w = .ok false w := fun w => by kernel_rfl
  have ga2 : ∀ w : World, (isAgg 37).run Tryz.prog w = .ok false w := fun w => by kernel_rfl
  replace ga1 := Lib.hid ga1
  replace ga2 := Lib.hid ga2
  cases h1 : validB n l
  · refine calls_of_wp_marks Tryz.func75 rfl ?_
    simp only [Tryz.ntmps75, List.size_toArray, List.length_cons, List.length_nil, Nat.reduceAdd, Nat.reduceSub, Array.replicate_succ, Array.replicate_zero, List.push_toArray, List.append_toArray, List.nil_append, List.cons_append]
    go_upto_region 1 with (fail)
    refine wp_world fun W HW => ?_
    have hB : Below w.heap.size w W := by rw [HW.out]; (repeat (first | exact Below.refl _ _ | refine Below.alloc ?_ (by simp; try omega) _ | refine Below.setCell ?_ (by simp) _ | refine Below.drew ?_))
    have d0 : W.cell? ⟨w.heap.size, 0, none⟩ = some (.int .i64 n) := by rw [HW.out]; simp [go_sem]
    have d1 : W.cell? ⟨w.heap.size, 1, none⟩ = some (.slice s l.length cap) := by rw [HW.out]; simp [go_sem]
    have dl : w.heap.size < W.heap.size := World.block_lt_of_cell? W _ d0
    have xB : W.heap[w.heap.size + 1]? = some (.cells #[.slice none 0 0] 61 (0, 0)) := by rw [HW.out]; (repeat (first | (refine blk_new ?_; simp; done) | refine blk_old ?_ _))
    have x0 : W.cell? ⟨w.heap.size + 1, 0, none⟩ = some (.slice none 0 0) := by rw [HW.out]; simp [go_sem]
    have xl : w.heap.size + 1 < W.heap.size := World.block_lt_of_cell? W _ x0
    have yB : W.heap[w.heap.size + 2]? = some (.cells #[.int .i64 0] 37 (0, 0)) := by rw [HW.out]; (repeat (first | (refine blk_new ?_; simp; done) | refine blk_old ?_ _))
    have y0 : W.cell? ⟨w.heap.size + 2, 0, none⟩ = some (.int .i64 0) := by rw [HW.out]; simp [go_sem]
    have yl : w.heap.size + 2 < W.heap.size := World.block_lt_of_cell? W _ y0
    go_upto_region 2 with (first | (go_at_call 53; refine (valid_c _ _ _ _ _ (Up.iq hB hs.out) hl).mono ?_; rintro e W1 ⟨rfl, hb⟩; replace hB := Up.to hB hb hB.size; replace d0 := Up.cell hb d0; replace d1 := Up.cell hb d1; replace xB := Up.block hb xB; replace yB := Up.block hb yB))
    replace x0 : Boxed W1 _ _ _ := xB
    replace y0 : Boxed W1 _ _ _ := yB
    have c2 := x0.cell
    have c3 := y0.cell
    have k2 := x0.frozen
    have k3 := y0.frozen
    clear xB yB
    go_wp2
    have x5 : Boxed _ _ _ _ := (x0.set (.slice none 0 0)).other (B' := w.heap.size + 2) (by omega) (.int .i64 10)
    have y5 : Boxed _ _ _ _ := (y0.other (B' := w.heap.size + 1) (by omega) (.slice none 0 0)).set (.int .i64 10)
    refine marks_ret0 (results_cell2 rfl rfl rfl (load_one ga1.out x5) (load_one ga2.out y5)) ⟨none, 0, by simp [ptsL, ptsE, h1], by simp only [ptsL, h1]; exact World.ownsRow_nil _ _ _ _, (hB.setCell (by simp) _).setCell (by simp; try omega) _⟩
  · have hn := validB_n h1
    refine calls_of_wp_marks Tryz.func75 rfl ?_
    simp only [Tryz.ntmps75, List.size_toArray, List.length_cons, List.length_nil, Nat.reduceAdd, Nat.reduceSub, Array.replicate_succ, Array.replicate_zero, List.push_toArray, List.append_toArray, List.nil_append, List.cons_append]
    go_upto_region 1 with (fail)
    refine wp_world fun W HW => ?_
    have hB : Below w.heap.size w W := by rw [HW.out]; (repeat (first | exact Below.refl _ _ | refine Below.alloc ?_ (by simp; try omega) _ | refine Below.setCell ?_ (by simp) _ | refine Below.drew ?_))
    have d0 : W.cell? ⟨w.heap.size, 0, none⟩ = some (.int .i64 n) := by rw [HW.out]; simp [go_sem]
    have d1 : W.cell? ⟨w.heap.size, 1, none⟩ = some (.slice s l.length cap) := by rw [HW.out]; simp [go_sem]
    have dl : w.heap.size < W.heap.size := World.block_lt_of_cell? W _ d0
    have xB : W.heap[w.heap.size + 1]? = some (.cells #[.slice none 0 0] 61 (0, 0)) := by rw [HW.out]; (repeat (first | (refine blk_new ?_; simp; done) | refine blk_old ?_ _))
    have x0 : W.cell? ⟨w.heap.size + 1, 0, none⟩ = some (.slice none 0 0) := by rw [HW.out]; simp [go_sem]
    have xl : w.heap.size + 1 < W.heap.size := World.block_lt_of_cell? W _ x0
    have yB : W.heap[w.heap.size + 2]? = some (.cells #[.int .i64 0] 37 (0, 0)) := by rw [HW.out]; (repeat (first | (refine blk_new ?_; simp; done) | refine blk_old ?_ _))
    have y0 : W.cell? ⟨w.heap.size + 2, 0, none⟩ = some (.int .i64 0) := by rw [HW.out]; simp [go_sem]
    have yl : w.heap.size + 2 < W.heap.size := World.block_lt_of_cell? W _ y0
    have hlo := hB.size
    go_upto_region 4 with (first | (go_at_call 53; refine (valid_c _ _ _ _ _ (Up.iq hB hs.out) hl).mono ?_; rintro e W1 ⟨rfl, hb⟩; replace hB := Up.to hB hb hB.size; replace d0 := Up.cell hb d0; replace d1 := Up.cell hb d1; replace xB := Up.block hb xB; replace yB := Up.block hb yB))
    refine wp_world fun X HX => ?_
    have hX : Below W1.heap.size W1 X := by rw [HX.out]; exact (Below.refl _ _).alloc (Nat.le_refl _) _
    have bx : Boxed X W1.heap.size 61 (.slice none 0 0) := by rw [HX.out]; exact Boxed.new _ _ _
    have hW1s := hB.size
    have hb3 : w.heap.size + 2 < W1.heap.size := (Array.getElem?_eq_some_iff.1 yB).1
    replace d0 := Up.cell hX d0
    replace d1 := Up.cell hX d1
    replace xB := Up.block hX xB
    replace yB := Up.block hX yB
    replace hB := Up.to hB hX hB.size
    go_wp2_with (go_at_call 54; refine (points_c _ _ _ _ _ hn (Up.iq hB hs.out) hl).mono ?_; rintro e V ⟨⟨lb, S, rfl, hit, hS⟩, hb⟩)
    have hXs := hX.size
    have hXV := hb.size
    have hbx : ∀ k, S k → k < w.heap.size ∨ X.heap.size ≤ k := fun k hk => by
      rcases hS k hk with h | h
      · exact .inr h
      · exact .inl (hblk.out k h)
    have hSlt := hit.lt
    have hbXl := bx.lt
    have bV : Boxed V W1.heap.size 61 (.slice none 0 0) := Up.block hb bx
    replace xB := Up.block hb xB
    replace yB := Up.block hb yB
    replace hB := Up.to hB hb hB.size
    have hVs := hB.size
    replace hbx := Lib.hid hbx
    replace hSlt := Lib.hid hSlt
    refine' wp_rangeB rfl (fun _ _ => by simp [go_sem]) hit w.heap.size hB.size
      (fun pre W => (∃ v, Boxed W W1.heap.size 61 v ∧ W.ownsRow V.heap.size 30 3 v pre.length (ptCells pre)) ∧ pre.length ≤ 1000 ∧ Boxed W (w.heap.size + 1) 61 (.slice none 0 0) ∧ Boxed W (w.heap.size + 2) 37 (.int .i64 0) ∧ Below w.heap.size w W ∧ V.heap.size ≤ W.heap.size)
      (fun c pre W => c = .ret ∧ 1000 < pre.length ∧ Boxed W (w.heap.size + 1) 61 (.slice none 0 0) ∧ Boxed W (w.heap.size + 2) 37 (.int .i64 4) ∧ Below w.heap.size w W)
      ?hI ?hIx (fun s A h => h.2.2.2.2.1.size) (fun _ _ _ h => h.2.2.2.2.size) ⟨⟨_, bV, World.ownsRow_nil _ _ _ _⟩, by simp, xB, yB, hB, Nat.le_refl _⟩ 30 (fun x => #[.int .i64 x.x, .int .i64 x.y, .int .i64 x.z]) _ ?assign ?body ?done ?stop
    case hI =>
      rintro s A B ⟨⟨v, h1, h2⟩, h3, h4, h5, h6, h7⟩ hu
      exact ⟨⟨v, hu.cells _ _ _ _ h1, hu.owns h2⟩, h3, hu.cells _ _ _ _ h4, hu.cells _ _ _ _ h5, h6.trans hu.below, Nat.le_trans h7 hu.below.size⟩
    case hIx =>
      rintro c s A B ⟨h1, h3, h4, h5, h6⟩ hu
      exact ⟨h1, h3, hu.cells _ _ _ _ h4, hu.cells _ _ _ _ h5, h6.trans hu.below⟩
    case assign =>
      intro l x W b K hb hK
      simp only [encPt, List.setIfInBounds_toArray, List.set_cons_zero, List.set_cons_succ]
      gi_wp2
      exact hK
    case body =>
      rintro l pre x B W ⟨⟨v, hv, hown⟩, hle, hx, hy, hB, hVW⟩ hlt hVB hp
      have hpl : pre.length < 68921 := by omega
      obtain ⟨s1, c1, rfl, _⟩ := owns_shape hown
      have hvl := hv.lt
      have hc := hv.cell
      have hf := hv.frozen
      have hxc := hx.cell
      have hxf := hx.frozen
      have hyc := hy.cell
      have hyf := hy.frozen
      by_cases h1000 : pre.length = 1000
      · have he : ((pre.length : Int) == 1000) = true := by simp; omega
        have hl2 := Lib.hid h1000
        clear h1000 hp
        gi_wp2
        refine ⟨(KeepsOthers.setCell _ _ _).trans (KeepsOthers.setCell _ _ _), rfl, by simp; have := hl2.out; omega, (hx.set _).other (by omega) _, (hy.other (by omega) _).set _, (hB.setCell (by simp) _).setCell (by simp; try omega) _⟩
      · have he : ((pre.length : Int) == 1000) = false := by simp; omega
        have p0 : W.cell? ⟨B, 0, none⟩ = some (.int .i64 x.x) := by simp [World.cell?, hp]
        have p1 : W.cell? ⟨B, 1, none⟩ = some (.int .i64 x.y) := by simp [World.cell?, hp]
        have p2 : W.cell? ⟨B, 2, none⟩ = some (.int .i64 x.z) := by simp [World.cell?, hp]
        have pl := World.block_lt_of_cell? W _ p0
        have hx2 := Lib.hid hx
        have hy2 := Lib.hid hy
        have hv2 := Lib.hid hv
        clear hx hy hv hp
        gi_wp2_with (first | (gi_at_builtin; obtain ⟨i0, hi, hz0, hz1, hz2⟩ := info_parts info_pt; refine wpListIn_append_own _ rfl _ _ 61 rfl V.heap.size 30 i0 (.agg #[.int .i64 0, .int .i64 0, .int .i64 0]) 3 24 Tryz.underlying61 hi hz0 hz1 hz2 rfl (by decide) _ _ _ rfl (hown.alloc _) ⟨W.heap.size, 0, none⟩ 1 1 [.int .i64 x.x, .int .i64 x.y, .int .i64 x.z] rfl rfl (news_new _ _ _) (by simp [Value.oneCell']) (by unfold maxLen; omega) (by omega) (by simp; try omega) ?_; intro v1 w1 hown1 hgrow hnil); obtain ⟨hb1, hk1⟩ := app_up hVW hown hgrow; obtain ⟨g2, c2, rfl⟩ := ownsRow_succ hown1; have hc1 := (hb1.cell (p := ⟨W1.heap.size, 0, none⟩) (by simp; try omega)).trans hc; have hf1 := (hb1.frozen (p := ⟨W1.heap.size, 0, none⟩) (by simp; try omega)).trans hf)
        have hv3 : Boxed w1 _ _ _ := (hb1.block W1.heap.size (by omega)).trans hv2.out
        have hx3 : Boxed w1 _ _ _ := (hb1.block (w.heap.size + 1) (by omega)).trans hx2.out
        have hy3 : Boxed w1 _ _ _ := (hb1.block (w.heap.size + 2) (by omega)).trans hy2.out
        refine ⟨hk1.trans (KeepsOthers.setCell _ _ _), (KeepUp.of_below hb1 hSlt.out).trans (KeepUp.setCell _ _ (fun k hk e => by have := hbx.out k hk; simp at e; omega)), ⟨_, hv3.set _, ?_⟩, by simp; omega, hx3.other (by omega) _, hy3.other (by omega) _, (hB.trans (hb1.mono (by omega))).setCell (by simp; try omega) _, ?_⟩
        · rw [ptCells_snoc]; simpa using ownsRow_setCell_below hown1 (by simp; try omega) _
        · have := hb1.size; simp [World.setCell]; omega
    case done =>
      rintro D W hD ⟨⟨v, hv, hown⟩, hle, hx, hy, hB, hVW⟩ hK
      have hc := hv.cell
      have hxc := hx.cell
      have hxf := hx.frozen
      have hyc := hy.cell
      have hyf := hy.frozen
      obtain ⟨s1, c1, rfl, _⟩ := owns_shape hown
      have hx2 := Lib.hid hx
      have hy2 := Lib.hid hy
      clear hx hy
      go_wp2
      have hK5 := (Below.heap_setCell (W.setCell ⟨w.heap.size + 1, 0, none⟩ (.slice s1 (pts n l).length c1)) ⟨w.heap.size + 2, 0, none⟩ (.int .i64 0) D (by simp; try omega)).trans ((Below.heap_setCell W ⟨w.heap.size + 1, 0, none⟩ (.slice s1 (pts n l).length c1) D (by simp; try omega)).trans hK)
      have x5 : Boxed _ _ _ _ := (hx2.out.set (.slice s1 (pts n l).length c1)).other (B' := w.heap.size + 2) (by omega) (.int .i64 0)
      have y5 : Boxed _ _ _ _ := (hy2.out.other (B' := w.heap.size + 1) (by omega) (.slice s1 (pts n l).length c1)).set (.int .i64 0)
      have o5 := ownsRow_setCell_below (a := ⟨w.heap.size + 2, 0, none⟩) (ownsRow_setCell_below (a := ⟨w.heap.size + 1, 0, none⟩) hown (by simp; try omega) (.slice s1 (pts n l).length c1)) (by simp; try omega) (.int .i64 0)
      have hB5 := (hB.setCell (p := ⟨w.heap.size + 1, 0, none⟩) (by simp) (.slice s1 (pts n l).length c1)).setCell (p := ⟨w.heap.size + 2, 0, none⟩) (by simp; try omega) (.int .i64 0)
      have hu := marks_up (n := w.heap.size) hB5.size (by omega) hK5
      have e1 : ptsL n l = pts n l := by simp [ptsL, h1]; omega
      have e2 : ptsE n l = 0 := by simp [ptsE, h1]; omega
      refine marks_ret hK5 (results_cell2 rfl rfl rfl (load_one ga1.out (hu.cells _ _ _ _ x5)) (load_one ga2.out (hu.cells _ _ _ _ y5))) ⟨s1, c1, by rw [e1, e2], by rw [e1]; exact owns_mono (hu.owns o5) (by omega), hB5.trans hu.below⟩
    case stop =>
      rintro D c pre W hD hpre ⟨rfl, hlen2, hx, hy, hB⟩ hK
      go_wp2
      have hu := marks_up (n := w.heap.size) hB.size (by omega) hK
      have hlp : ¬ (pts n l).length ≤ 1000 := by have := hpre.length_le; omega
      have e1 : ptsL n l = [] := by simp [ptsL, h1]; omega
      have e2 : ptsE n l = 4 := by simp [ptsE, h1]; omega
      refine marks_ret hK (results_cell2 rfl rfl rfl (load_one ga1.out (hu.cells _ _ _ _ hx)) (load_one ga2.out (hu.cells _ _ _ _ hy))) ⟨none, 0, by rw [e1, e2]; rfl, by rw [e1]; exact World.ownsRow_nil _ _ _ _, hB.trans hu.below⟩
end Go.Proofs.YtakbpjgnjfigcaaGreat

/- Domains that came in: the contracts of layer 1, in terms of them (for other layers' seats). -/
namespace Go.Proofs.YtakbpjgnjfigcaaGreat
open Go.RowKit

def vE (n : Int) (l : List Iq) : Int := if validB n l then 0 else 10
def cntN (n : Int) (l : List Iq) : Int := if validB n l then (pts n l).length else 0
theorem hasR_t (n : Int) (l : List Iq) (p : Pt) : hasR n l p = .tuple #[.bool (validB n l && hasB n l p), .int .i64 (vE n l)] := by
  unfold hasR vE; cases validB n l <;> rfl
theorem cntR_t (n : Int) (l : List Iq) : cntR n l = .tuple #[.int .i64 (cntN n l), .int .i64 (vE n l)] := by
  unfold cntR cntN vE; cases validB n l <;> rfl
/-- A domain that came in. -/
structure Dom (w : World) (s : Option Addr) (l : List Iq) : Prop where
  iq : IqS w s l
  len : l.length ≤ 9223372036854775807
  wf : ∀ q ∈ l, -9223372036854775808 ≤ q.b ∧ q.b ≤ 9223372036854775807
theorem Up.dom {W W' : World} (h : Below W.heap.size W W') {s : Option Addr} {l : List Iq} (c : Dom W s l) : Dom W' s l := ⟨Up.iq h c.iq, c.len, c.wf⟩
theorem Up.domB {N : Nat} {W W' : World} (h : Below N W W') {s : Option Addr} {l : List Iq} (hN : W.heap.size ≤ N) (c : Dom W s l) : Dom W' s l := Up.dom (h.mono hN) c

section
variable (n : Int) (s : Option Addr) (cap : Nat) (l : List Iq) (p : Pt) (w : World) (h : Dom w s l)
include h
theorem Valid_t : Calls Tryz.prog 53 #[.agg #[.int .i64 n, .slice s l.length cap]] w fun e w' => e = .returned (.bool (validB n l)) ∧ Below w.heap.size w w' := valid_c n s cap l w h.iq h.len
theorem rValid_t : Calls Tryz.prog 27 #[.agg #[.int .i64 n, .slice s l.length cap]] w fun e w' => e = .returned (.bool (validB n l)) ∧ Below w.heap.size w w' := rvalid_c n s cap l w h.iq h.len
theorem Count_t : Calls Tryz.prog 17 #[.agg #[.int .i64 n, .slice s l.length cap]] w fun e w' => e = .returned (.tuple #[.int .i64 (cntN n l), .int .i64 (vE n l)]) ∧ Below w.heap.size w w' := by
  rw [← cntR_t]; exact Count_c n s cap l w h.iq h.len
end
theorem PtsRet.mono {n : Int} {l : List Iq} {w : World} {e : Ending} {w' : World} (h : PtsRet n l w e w') : ∃ s cap, e = .returned (.tuple #[.slice s (ptsL n l).length cap, .int .i64 (ptsE n l)]) ∧ PtS w' s (ptsL n l) ∧ Below w.heap.size w w' := by
  obtain ⟨s, cap, rfl, ho, hb⟩ := h
  exact ⟨s, cap, rfl, owns_pt ho, hb⟩
theorem ptsL_len (n : Int) (l : List Iq) : (ptsL n l).length ≤ 9223372036854775807 := by
  have := pts_len n l
  unfold ptsL; split
  · omega
  · simp
end Go.Proofs.YtakbpjgnjfigcaaGreat
