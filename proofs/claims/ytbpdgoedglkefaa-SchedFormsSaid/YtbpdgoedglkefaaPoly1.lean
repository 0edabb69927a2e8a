/- The leaves of layer 1: comparisons, products, ranges of coordinates. -/
import Derived.Test.YtbpdgoedglkefaaPolySpec
namespace Go.Proofs.Ytbpdgoedglkefaa
open Go.RowKit

theorem i64_wrap (n : Int) : IntKind.i64.wrap n = wrap64 n := by rw [IntKind.wrap_i64]; unfold wrap64; rfl
theorem wrap_dot (a b c : Int) : wrap64 (wrap64 (wrap64 a + wrap64 b) + wrap64 c) = wrap64 (a + b + c) := by unfold wrap64; omega

theorem fc_t {i x n m : Int} (hb : bw (-m) x m = true) (h : i < n ∨ x = 0) : flatC i x n m = true := by simp [flatC, hb, h]
theorem fc_t1 {i x n m : Int} (hb : bw (-m) x m = true) (h : i < n) : flatC i x n m = true := fc_t hb (.inl h)
theorem fc_t2 {i x n m : Int} (hb : bw (-m) x m = true) (h : (x != 0) = false) : flatC i x n m = true := fc_t hb (.inr (by simpa using h))
theorem fc_f1 {i x n m : Int} (hb : bw (-m) x m = false) : flatC i x n m = false := by simp [flatC, hb]
theorem fc_f2 {i x n m : Int} (h : n ≤ i) (hx : (x != 0) = true) : flatC i x n m = false := by
  have : x ≠ 0 := by simpa using hx
  simp [flatC, this]; omega
theorem fB_x {p : Pt} {n m : Int} (h : flatC 0 p.x n m = false) : false = flatB p n m := by simp [flatB, h]
theorem fB_y {p : Pt} {n m : Int} (h : flatC 1 p.y n m = false) : false = flatB p n m := by simp [flatB, h]
theorem fB_z {p : Pt} {n m : Int} (h : flatC 2 p.z n m = false) : false = flatB p n m := by simp [flatB, h]
theorem fB_t {p : Pt} {n m : Int} (h : flatC 0 p.x n m = true) (k : flatC 1 p.y n m = true) (l : flatC 2 p.z n m = true) : flatB p n m = true := by simp [flatB, h, k, l]
theorem ix0 (a b c : Value) (w : World) : (Instr.index 29 (.agg #[a, b, c]) (.int .i64 0)).run Try.prog w = .ok a w := by kernel_rfl
theorem ix1 (a b c : Value) (w : World) : (Instr.index 29 (.agg #[a, b, c]) (.int .i64 1)).run Try.prog w = .ok b w := by kernel_rfl
theorem ix2 (a b c : Value) (w : World) : (Instr.index 29 (.agg #[a, b, c]) (.int .i64 2)).run Try.prog w = .ok c w := by kernel_rfl

theorem between_c (a b c : Int) (w : World) :
    Calls Try.prog 134 #[.int .i64 a, .int .i64 b, .int .i64 c] w fun e w' => e = .returned (.bool (bw a b c)) ∧ w = w' := by
  by_cases h1 : a ≤ b
  all_goals
    go_enter Try.func134, Try.ntmps134
    go_wp2
    go_ret
    exact ⟨ret_bool (by simp [bw]; omega), rfl⟩

theorem inRange_c (a b : Int) (w : World) (h0 : 0 ≤ b) (h1 : b ≤ 1000000000) :
    Calls Try.prog 125 #[.int .i64 a, .int .i64 b] w fun e w' => e = .returned (.bool (bw (-b) a b)) ∧ w = w' := by
  by_cases h2 : -b ≤ a
  all_goals
    go_enter Try.func125, Try.ntmps125
    go_wp2
    go_ret
    exact ⟨ret_bool (by simp [bw]; omega), rfl⟩

theorem times_c (a p : Pt) (w : World) :
    Calls Try.prog 157 #[.agg #[.int .i64 a.x, .int .i64 a.y, .int .i64 a.z], .agg #[.int .i64 p.x, .int .i64 p.y, .int .i64 p.z]] w fun e w' => e = .returned (.int .i64 (wrap64 (dotZ a p))) ∧ Below w.heap.size w w' := by
  go_enter Try.func157, Try.ntmps157
  go_wp2
  go_ret
  exact ⟨ret_int (wrap_dot _ _ _), ((Below.refl _ w).alloc (Nat.le_refl _) _).alloc (by simp) _⟩
theorem Dot_c (a p : Pt) (w : World) :
    Calls Try.prog 78 #[.agg #[.int .i64 a.x, .int .i64 a.y, .int .i64 a.z], .agg #[.int .i64 p.x, .int .i64 p.y, .int .i64 p.z]] w fun e w' => e = .returned (.int .i64 (wrap64 (dotZ a p))) ∧ Below w.heap.size w w' := by
  go_enter Try.func78, Try.ntmps78
  go_wp2
  go_ret
  exact ⟨ret_int (wrap_dot _ _ _), ((Below.refl _ w).alloc (Nat.le_refl _) _).alloc (by simp) _⟩

set_option maxRecDepth 100000 in
theorem ranged_c (p : Pt) (n m : Int) (w : World) (h0 : 0 ≤ m) (h1 : m ≤ 1000000000) :
    Calls Try.prog 137 #[.agg #[.int .i64 p.x, .int .i64 p.y, .int .i64 p.z], .int .i64 n, .int .i64 m] w fun e w' => e = .returned (.bool (flatB p n m)) ∧ Below w.heap.size w w' := by
  have x0 := ix0
  have x1 := ix1
  have x2 := ix2
  go_enter Try.func137, Try.ntmps137
  go_wp2
  have hB : Below w.heap.size w (w.alloc (.cells #[.int .i64 p.x, .int .i64 p.y, .int .i64 p.z] 29)) := (Below.refl _ w).alloc (Nat.le_refl _) _
  generalize (w.alloc (.cells #[.int .i64 p.x, .int .i64 p.y, .int .i64 p.z] 29)) = W at *
  go_loop [10] (fun i => i = .int .i64 0 ∨ (i = .int .i64 1 ∧ flatC 0 p.x n m = true) ∨ (i = .int .i64 2 ∧ flatC 0 p.x n m = true ∧ flatC 1 p.y n m = true) ∨ (i = .int .i64 3 ∧ flatB p n m = true)) (fun i => 3 - (intOf i).toNat)
  case atStart => exact .inl rfl
  case round =>
    rcases hrel with rfl | ⟨rfl, c0⟩ | ⟨rfl, c0, c1⟩ | ⟨rfl, c⟩
    · by_cases hn : 0 < n
      all_goals
        cases hx : (p.x != 0)
        all_goals
          cases hb : bw (-m) p.x m
          all_goals
            go_wp2_with (go_at_call 134; refine (between_c _ _ _ _).mono ?_; rintro e w' ⟨rfl, rfl⟩)
            first
              | (go_ret; exact ⟨ret_bool (fB_x (fc_f1 hb)), hB⟩)
              | (go_ret; exact ⟨ret_bool (fB_x (fc_f2 hn hx)), hB⟩)
              | (go_round
                 case rel => exact .inr (.inl ⟨rfl, by (first | exact fc_t1 hb hn | exact fc_t2 hb hx)⟩)
                 case measure => simp [intOf])
    · by_cases hn : 1 < n
      all_goals
        cases hx : (p.y != 0)
        all_goals
          cases hb : bw (-m) p.y m
          all_goals
            go_wp2_with (go_at_call 134; refine (between_c _ _ _ _).mono ?_; rintro e w' ⟨rfl, rfl⟩)
            first
              | (go_ret; exact ⟨ret_bool (fB_y (fc_f1 hb)), hB⟩)
              | (go_ret; exact ⟨ret_bool (fB_y (fc_f2 hn hx)), hB⟩)
              | (go_round
                 case rel => exact .inr (.inr (.inl ⟨rfl, c0, by (first | exact fc_t1 hb hn | exact fc_t2 hb hx)⟩))
                 case measure => simp [intOf])
    · by_cases hn : 2 < n
      all_goals
        cases hx : (p.z != 0)
        all_goals
          cases hb : bw (-m) p.z m
          all_goals
            go_wp2_with (go_at_call 134; refine (between_c _ _ _ _).mono ?_; rintro e w' ⟨rfl, rfl⟩)
            first
              | (go_ret; exact ⟨ret_bool (fB_z (fc_f1 hb)), hB⟩)
              | (go_ret; exact ⟨ret_bool (fB_z (fc_f2 hn hx)), hB⟩)
              | (go_round
                 case rel => exact .inr (.inr (.inr ⟨rfl, fB_t c0 c1 (by (first | exact fc_t1 hb hn | exact fc_t2 hb hx))⟩))
                 case measure => simp [intOf])
    · go_wp2
      go_ret
      exact ⟨rfl, hB⟩

set_option maxRecDepth 100000 in
theorem flat_c (p : Pt) (n m : Int) (w : World) (h0 : 0 ≤ m) (h1 : m ≤ 1000000000) :
    Calls Try.prog 89 #[.agg #[.int .i64 p.x, .int .i64 p.y, .int .i64 p.z], .int .i64 n, .int .i64 m] w fun e w' => e = .returned (.bool (flatB p n m)) ∧ Below w.heap.size w w' := by
  go_enter Try.func89, Try.ntmps89
  go_wp2
  have hB : Below w.heap.size w (w.alloc (.cells #[.int .i64 p.x, .int .i64 p.y, .int .i64 p.z] 29)) := (Below.refl _ w).alloc (Nat.le_refl _) _
  go_loop [8] (fun i => i = .int .i64 0 ∨ (i = .int .i64 1 ∧ flatC 0 p.x n m = true) ∨ (i = .int .i64 2 ∧ flatC 0 p.x n m = true ∧ flatC 1 p.y n m = true) ∨ (i = .int .i64 3 ∧ flatB p n m = true)) (fun i => 3 - (intOf i).toNat)
  case atStart => exact .inl rfl
  case round =>
    rcases hrel with rfl | ⟨rfl, c0⟩ | ⟨rfl, c0, c1⟩ | ⟨rfl, c⟩
    · by_cases hn : 0 < n
      all_goals
        cases hx : (p.x != 0)
        all_goals
          cases hb : bw (-m) p.x m
          all_goals
            go_wp2_with (go_at_call 125; refine (inRange_c _ _ _ h0 h1).mono ?_; rintro e w' ⟨rfl, rfl⟩)
            first
              | (go_ret; exact ⟨ret_bool (fB_x (fc_f1 hb)), hB⟩)
              | (go_ret; exact ⟨ret_bool (fB_x (fc_f2 hn hx)), hB⟩)
              | (go_round
                 case rel => exact .inr (.inl ⟨rfl, by (first | exact fc_t1 hb hn | exact fc_t2 hb hx)⟩)
                 case measure => simp [intOf])
    · by_cases hn : 1 < n
      all_goals
        cases hx : (p.y != 0)
        all_goals
          cases hb : bw (-m) p.y m
          all_goals
            go_wp2_with (go_at_call 125; refine (inRange_c _ _ _ h0 h1).mono ?_; rintro e w' ⟨rfl, rfl⟩)
            first
              | (go_ret; exact ⟨ret_bool (fB_y (fc_f1 hb)), hB⟩)
              | (go_ret; exact ⟨ret_bool (fB_y (fc_f2 hn hx)), hB⟩)
              | (go_round
                 case rel => exact .inr (.inr (.inl ⟨rfl, c0, by (first | exact fc_t1 hb hn | exact fc_t2 hb hx)⟩))
                 case measure => simp [intOf])
    · by_cases hn : 2 < n
      all_goals
        cases hx : (p.z != 0)
        all_goals
          cases hb : bw (-m) p.z m
          all_goals
            go_wp2_with (go_at_call 125; refine (inRange_c _ _ _ h0 h1).mono ?_; rintro e w' ⟨rfl, rfl⟩)
            first
              | (go_ret; exact ⟨ret_bool (fB_z (fc_f1 hb)), hB⟩)
              | (go_ret; exact ⟨ret_bool (fB_z (fc_f2 hn hx)), hB⟩)
              | (go_round
                 case rel => exact .inr (.inr (.inr ⟨rfl, fB_t c0 c1 (by (first | exact fc_t1 hb hn | exact fc_t2 hb hx))⟩))
                 case measure => simp [intOf])
    · go_wp2
      go_ret
      exact ⟨rfl, hB⟩

end Go.Proofs.Ytbpdgoedglkefaa
