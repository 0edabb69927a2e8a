/- Valid grids and cells: the program's small functions. -/
import Derived.Test.YtbabdoafpljdbaaMdSpec
namespace Go.Proofs.Ytbabdoafpljdbaa
open Go.RowKit

theorem between_c (a b c : Int) (w : World) :
    Calls Try.prog 53 #[.int .i64 a, .int .i64 b, .int .i64 c] w fun e w' => e = .returned (.bool (bw a b c)) ∧ w = w' := by
  by_cases h1 : a ≤ b
  all_goals
    go_enter Try.func53, Try.ntmps53
    go_wp2
    go_ret
    exact ⟨ret_bool (by simp [bw]; omega), rfl⟩
set_option maxRecDepth 100000 in
theorem on_c (wd ht : Int) (s : Option Addr) (n cap : Nat) (c : Cel) (w : World) (hW : 1 ≤ wd ∧ wd ≤ 12) (hH : 1 ≤ ht ∧ ht ≤ 8) :
    Calls Try.prog 46 #[.agg #[.int .i64 wd, .int .i64 ht, .slice s n cap], .agg #[.int .i64 c.x, .int .i64 c.y]] w fun e w' => e = .returned (.bool (onB wd ht c)) ∧ Below w.heap.size w w' := by
  have w1 := i64_small (n := wd - 1) (by omega)
  have w2 := i64_small (n := ht - 1) (by omega)
  have hz : onB wd ht c = (bw 0 c.x (wd - 1) && bw 0 c.y (ht - 1)) := rfl
  rw [hz]
  clear hz
  obtain ⟨x, y⟩ := c
  cases h1 : bw 0 x (wd - 1)
  all_goals
    go_enter Try.func46, Try.ntmps46
    go_upto_region 1 with (fail)
    refine wp_world fun W HW => ?_
    have hB : Below w.heap.size w W := by rw [HW.out]; (repeat (first | exact Below.refl _ _ | refine Below.alloc ?_ (by simp; try omega) _ | refine Below.setCell ?_ (by simp) _ | refine Below.drew ?_))
    have g0 : W.cell? ⟨w.heap.size, 0, none⟩ = some (.int .i64 wd) := by rw [HW.out]; simp [go_sem]
    have g1 : W.cell? ⟨w.heap.size, 1, none⟩ = some (.int .i64 ht) := by rw [HW.out]; simp [go_sem]
    have g2 : W.cell? ⟨w.heap.size, 2, none⟩ = some (.slice s n cap) := by rw [HW.out]; simp [go_sem]
    have gl : w.heap.size < W.heap.size := World.block_lt_of_cell? W _ g0
    have c0 : W.cell? ⟨w.heap.size + 1, 0, none⟩ = some (.int .i64 x) := by rw [HW.out]; simp [go_sem]
    have c1 : W.cell? ⟨w.heap.size + 1, 1, none⟩ = some (.int .i64 y) := by rw [HW.out]; simp [go_sem]
    have cl : w.heap.size + 1 < W.heap.size := World.block_lt_of_cell? W _ c0
    go_wp2_with (first | (go_at_call 53; refine (between_c _ _ _ _).mono ?_; rintro e w' ⟨rfl, rfl⟩))
    go_ret
    exact ⟨rfl, hB⟩
set_option maxRecDepth 100000 in
theorem near_c (a b r : Int) (w : World) (ha : -100 ≤ a ∧ a ≤ 100) (hb : -100 ≤ b ∧ b ≤ 100) (hr : 0 ≤ r ∧ r ≤ 3) :
    Calls Try.prog 63 #[.int .i64 a, .int .i64 b, .int .i64 r] w fun e w' => e = .returned (.bool (nearB a b r)) ∧ w = w' := by
  have w1 := i64_small (n := a - b) (by omega)
  have w2 := i64_small (n := -r) (by omega)
  go_enter Try.func63, Try.ntmps63
  go_wp2_with (first | (go_at_call 53; refine (between_c _ _ _ _).mono ?_; rintro e w' ⟨rfl, rfl⟩))
  go_ret
  exact ⟨rfl, rfl⟩
set_option maxRecDepth 100000 in
set_option maxHeartbeats 400000 in
theorem int_indexf (f : Nat) (cs : Array Value) (hf : ∀ args w, (callFunc f args).run Try.prog w = .ok (.enter f args) w) (s : Option Addr) (cap : Nat) (l : List Int) (pr : Int → Bool) (w : World)
    (hs : SlS intE w s l) (hl : l.length ≤ 9223372036854775807)
    (hc : ∀ q ∈ l, ∀ W, Below w.heap.size w W → Calls Try.prog f (#[.int .i64 q] ++ cs) W fun e w' => e = .returned (.bool (pr q)) ∧ Below W.heap.size W w') :
    Calls Try.prog 70 #[.slice s l.length cap, .func (.func f) #[] cs] w fun e w' => e = .returned (.int .i64 (fidx pr l)) ∧ Below w.heap.size w w' := by
  go_enter Try.func70, Try.ntmps70
  go_wp2
  go_loopw [8] (fun i wr => ∃ k : Nat, k ≤ l.length ∧ i = .int .i64 k ∧ Below w.heap.size w wr ∧ Hid (∀ j (hj : j < l.length), j < k → pr l[j] = false)) (fun i _ => l.length - (intOf i).toNat)
  case atStart => exact ⟨0, by omega, rfl, Below.refl _ _, fun j _ h => absurd h (by omega)⟩
  case round =>
    obtain ⟨k, hk, rfl, hB, hno⟩ := hrel
    by_cases hlt : k < l.length
    · obtain ⟨b, off, rfl, hb, hcl⟩ := (up_of hB hs).at hlt
      have h0 := hcl 0 _ rfl
      simp only [intE, Nat.mul_one, Nat.add_zero] at h0
      have hcall := hc l[k] (List.getElem_mem hlt) wr hB
      have Hc := Lib.hid hcall
      clear hc hcall hs hcl
      cases hp : pr l[k] with
      | true =>
        go_wp2_with (refine Hc.out.mono ?_; rintro e W1 ⟨rfl, hb1⟩; rw [hp])
        go_ret
        exact ⟨ret_int (fidx_at hlt (fun j hj => hno j _ hj) hp).symm, Up.to hB hb1 hB.size⟩
      | false =>
        go_wp2_with (refine Hc.out.mono ?_; rintro e W1 ⟨rfl, hb1⟩; rw [hp])
        go_roundw
        case rel => exact ⟨k + 1, by omega, by go_num, Up.to hB hb1 hB.size, fun j hj h => by rcases Nat.lt_succ_iff_lt_or_eq.1 h with h | rfl; exact hno j hj h; exact hp⟩
        case measure => simp [intOf]; omega
    · obtain rfl : k = l.length := by omega
      clear hc hs
      go_wp2
      go_ret
      exact ⟨ret_int (fidx_none fun j hj => hno j hj hj).symm, hB⟩

set_option maxRecDepth 100000 in
set_option maxHeartbeats 400000 in
theorem int_containsf (f : Nat) (cs : Array Value) (hf : ∀ args w, (callFunc f args).run Try.prog w = .ok (.enter f args) w) (s : Option Addr) (cap : Nat) (l : List Int) (pr : Int → Bool) (w : World)
    (hs : SlS intE w s l) (hl : l.length ≤ 9223372036854775807)
    (hc : ∀ q ∈ l, ∀ W, Below w.heap.size w W → Calls Try.prog f (#[.int .i64 q] ++ cs) W fun e w' => e = .returned (.bool (pr q)) ∧ Below W.heap.size W w') :
    Calls Try.prog 54 #[.slice s l.length cap, .func (.func f) #[] cs] w fun e w' => e = .returned (.bool (l.any pr)) ∧ Below w.heap.size w w' := by
  have H := Lib.hid (int_indexf f cs hf s cap l pr w hs hl hc)
  clear hc hs hf
  go_enter Try.func54, Try.ntmps54
  go_wp2_with (go_at_call 70; refine H.out.mono ?_; rintro e W1 ⟨rfl, hb⟩)
  go_ret
  exact ⟨ret_bool (fidx_any pr l), hb⟩

set_option maxRecDepth 100000 in
set_option maxHeartbeats 400000 in
theorem cel_indexf (f : Nat) (cs : Array Value) (hf : ∀ args w, (callFunc f args).run Try.prog w = .ok (.enter f args) w) (s : Option Addr) (cap : Nat) (l : List Cel) (pr : Cel → Bool) (w : World)
    (hs : SlS celE w s l) (hl : l.length ≤ 9223372036854775807)
    (hc : ∀ q ∈ l, ∀ W, Below w.heap.size w W → Calls Try.prog f (#[.agg #[.int .i64 q.x, .int .i64 q.y]] ++ cs) W fun e w' => e = .returned (.bool (pr q)) ∧ Below W.heap.size W w') :
    Calls Try.prog 74 #[.slice s l.length cap, .func (.func f) #[] cs] w fun e w' => e = .returned (.int .i64 (fidx pr l)) ∧ Below w.heap.size w w' := by
  go_enter Try.func74, Try.ntmps74
  go_wp2
  go_loopw [8] (fun i wr => ∃ k : Nat, k ≤ l.length ∧ i = .int .i64 k ∧ Below w.heap.size w wr ∧ Hid (∀ j (hj : j < l.length), j < k → pr l[j] = false)) (fun i _ => l.length - (intOf i).toNat)
  case atStart => exact ⟨0, by omega, rfl, Below.refl _ _, fun j _ h => absurd h (by omega)⟩
  case round =>
    obtain ⟨k, hk, rfl, hB, hno⟩ := hrel
    by_cases hlt : k < l.length
    · obtain ⟨b, off, rfl, hb, h0, h1⟩ := (up_of hB hs).cel_at hlt
      have hcall := hc l[k] (List.getElem_mem hlt) wr hB
      have Hc := Lib.hid hcall
      clear hc hcall hs
      cases hp : pr l[k] with
      | true =>
        go_wp2_with (refine Hc.out.mono ?_; rintro e W1 ⟨rfl, hb1⟩; rw [hp])
        go_ret
        exact ⟨ret_int (fidx_at hlt (fun j hj => hno j _ hj) hp).symm, Up.to hB hb1 hB.size⟩
      | false =>
        go_wp2_with (refine Hc.out.mono ?_; rintro e W1 ⟨rfl, hb1⟩; rw [hp])
        go_roundw
        case rel => exact ⟨k + 1, by omega, by go_num, Up.to hB hb1 hB.size, fun j hj h => by rcases Nat.lt_succ_iff_lt_or_eq.1 h with h | rfl; exact hno j hj h; exact hp⟩
        case measure => simp [intOf]; omega
    · obtain rfl : k = l.length := by omega
      clear hc hs
      go_wp2
      go_ret
      exact ⟨ret_int (fidx_none fun j hj => hno j hj hj).symm, hB⟩

set_option maxRecDepth 100000 in
set_option maxHeartbeats 400000 in
theorem cel_containsf (f : Nat) (cs : Array Value) (hf : ∀ args w, (callFunc f args).run Try.prog w = .ok (.enter f args) w) (s : Option Addr) (cap : Nat) (l : List Cel) (pr : Cel → Bool) (w : World)
    (hs : SlS celE w s l) (hl : l.length ≤ 9223372036854775807)
    (hc : ∀ q ∈ l, ∀ W, Below w.heap.size w W → Calls Try.prog f (#[.agg #[.int .i64 q.x, .int .i64 q.y]] ++ cs) W fun e w' => e = .returned (.bool (pr q)) ∧ Below W.heap.size W w') :
    Calls Try.prog 58 #[.slice s l.length cap, .func (.func f) #[] cs] w fun e w' => e = .returned (.bool (l.any pr)) ∧ Below w.heap.size w w' := by
  have H := Lib.hid (cel_indexf f cs hf s cap l pr w hs hl hc)
  clear hc hs hf
  go_enter Try.func58, Try.ntmps58
  go_wp2_with (go_at_call 74; refine H.out.mono ?_; rintro e W1 ⟨rfl, hb⟩)
  go_ret
  exact ⟨ret_bool (fidx_any pr l), hb⟩

/-- Faults in memory. -/
structure Cels (w : World) (s : Option Addr) (cap : Nat) (F : List Cel) : Prop where
  sl : SlS celE w s F
  len : F.length ≤ 9223372036854775807
  none : s = Option.none → cap = 0
  cap : F.length ≤ cap
instance {W W' : World} {s : Option Addr} {cap : Nat} {F : List Cel} : UpF W W' (Cels W s cap F) (Cels W' s cap F) := ⟨fun h c => ⟨c.sl.up h, c.len, c.none, c.cap⟩⟩
set_option maxRecDepth 100000 in
theorem valid1_c (b : Nat) (wd ht : Int) (s : Option Addr) (n cap : Nat) (c : Cel) (w : World) (hW : 1 ≤ wd ∧ wd ≤ 12) (hH : 1 ≤ ht ∧ ht ≤ 8) (g0 : w.cell? ⟨b, 0, none⟩ = some (.int .i64 wd)) (g1 : w.cell? ⟨b, 1, none⟩ = some (.int .i64 ht)) (g2 : w.cell? ⟨b, 2, none⟩ = some (.slice s n cap)) :
    Calls Try.prog 59 #[.agg #[.int .i64 c.x, .int .i64 c.y], .pointer (some ⟨b, 0, none⟩)] w fun e w' => e = .returned (.bool (!onB wd ht c)) ∧ Below w.heap.size w w' := by
  have hb1 := World.block_lt_of_cell? w _ g0
  have hon := fun V => on_c wd ht s n cap c V hW hH
  replace hon := Lib.hid hon
  go_enter Try.func59, Try.ntmps59
  go_upto_region 1 with (fail)
  refine wp_world fun W HW => ?_
  have hB : Below w.heap.size w W := by rw [HW.out]; (repeat (first | exact Below.refl _ _ | refine Below.alloc ?_ (by simp; try omega) _ | refine Below.setCell ?_ (by simp) _ | refine Below.drew ?_))
  have c0 : W.cell? ⟨w.heap.size, 0, none⟩ = some (.int .i64 c.x) := by rw [HW.out]; simp [go_sem]
  have c1 : W.cell? ⟨w.heap.size, 1, none⟩ = some (.int .i64 c.y) := by rw [HW.out]; simp [go_sem]
  have cl : w.heap.size < W.heap.size := World.block_lt_of_cell? W _ c0
  try replace g0 := up_of hB g0
  try replace g1 := up_of hB g1
  try replace g2 := up_of hB g2
  go_wp2_with (first | (go_at_call 46; refine (hon.out _).mono ?_; rintro e W1 ⟨rfl, hb⟩; (try replace g0 := up_of hb g0); (try replace g1 := up_of hb g1); (try replace g2 := up_of hb g2); (try replace hB := up_of hb hB); (try replace c0 := up_of hb c0); (try replace c1 := up_of hb c1); (try replace cl := up_of hb cl)))
  go_ret
  exact ⟨rfl, hB⟩
set_option maxRecDepth 100000 in
set_option maxHeartbeats 400000 in
theorem valid_c (wd ht : Int) (s : Option Addr) (cap : Nat) (F : List Cel) (w : World) (h : Cels w s cap F) :
    Calls Try.prog 29 #[.agg #[.int .i64 wd, .int .i64 ht, .slice s F.length cap]] w fun e w' => e = .returned (.bool (gvB wd ht F)) ∧ Below w.heap.size w w' := by
  have hz : gvB wd ht F = (bw 1 wd 12 && bw 1 ht 8 && decide (F.length ≤ 96) && !(F.any fun c => !onB wd ht c)) := by rw [any_not]; rfl
  have hl := h.len
  rw [hz]
  clear hz
  cases h1 : bw 1 wd 12
  · go_enter Try.func29, Try.ntmps29
    go_upto_region 1 with (fail)
    refine wp_world fun W HW => ?_
    have hB : Below w.heap.size w W := by rw [HW.out]; (repeat (first | exact Below.refl _ _ | refine Below.alloc ?_ (by simp; try omega) _ | refine Below.setCell ?_ (by simp) _ | refine Below.drew ?_))
    have g0 : W.cell? ⟨w.heap.size, 0, none⟩ = some (.int .i64 wd) := by rw [HW.out]; simp [go_sem]
    have g1 : W.cell? ⟨w.heap.size, 1, none⟩ = some (.int .i64 ht) := by rw [HW.out]; simp [go_sem]
    have g2 : W.cell? ⟨w.heap.size, 2, none⟩ = some (.slice s F.length cap) := by rw [HW.out]; simp [go_sem]
    have gl : w.heap.size < W.heap.size := World.block_lt_of_cell? W _ g0
    go_wp2_with (first | (go_at_call 53; refine (between_c _ _ _ _).mono ?_; rintro e w' ⟨rfl, rfl⟩))
    go_ret
    exact ⟨rfl, hB⟩
  cases h2 : bw 1 ht 8
  · go_enter Try.func29, Try.ntmps29
    go_upto_region 1 with (fail)
    refine wp_world fun W HW => ?_
    have hB : Below w.heap.size w W := by rw [HW.out]; (repeat (first | exact Below.refl _ _ | refine Below.alloc ?_ (by simp; try omega) _ | refine Below.setCell ?_ (by simp) _ | refine Below.drew ?_))
    have g0 : W.cell? ⟨w.heap.size, 0, none⟩ = some (.int .i64 wd) := by rw [HW.out]; simp [go_sem]
    have g1 : W.cell? ⟨w.heap.size, 1, none⟩ = some (.int .i64 ht) := by rw [HW.out]; simp [go_sem]
    have g2 : W.cell? ⟨w.heap.size, 2, none⟩ = some (.slice s F.length cap) := by rw [HW.out]; simp [go_sem]
    have gl : w.heap.size < W.heap.size := World.block_lt_of_cell? W _ g0
    go_wp2_with (first | (go_at_call 53; refine (between_c _ _ _ _).mono ?_; rintro e w' ⟨rfl, rfl⟩))
    go_ret
    exact ⟨rfl, hB⟩
  by_cases h3 : F.length ≤ 96
  case neg =>
    have h4 : ¬ (F.length : Int) ≤ 96 := by omega
    rw [decide_eq_false h3]
    go_enter Try.func29, Try.ntmps29
    go_upto_region 1 with (fail)
    refine wp_world fun W HW => ?_
    have hB : Below w.heap.size w W := by rw [HW.out]; (repeat (first | exact Below.refl _ _ | refine Below.alloc ?_ (by simp; try omega) _ | refine Below.setCell ?_ (by simp) _ | refine Below.drew ?_))
    have g0 : W.cell? ⟨w.heap.size, 0, none⟩ = some (.int .i64 wd) := by rw [HW.out]; simp [go_sem]
    have g1 : W.cell? ⟨w.heap.size, 1, none⟩ = some (.int .i64 ht) := by rw [HW.out]; simp [go_sem]
    have g2 : W.cell? ⟨w.heap.size, 2, none⟩ = some (.slice s F.length cap) := by rw [HW.out]; simp [go_sem]
    have gl : w.heap.size < W.heap.size := World.block_lt_of_cell? W _ g0
    go_wp2_with (first | (go_at_call 53; refine (between_c _ _ _ _).mono ?_; rintro e w' ⟨rfl, rfl⟩))
    go_ret
    exact ⟨rfl, hB⟩
  have h4 : (F.length : Int) ≤ 96 := by omega
  rw [decide_eq_true h3]
  have hW := bw_iff.1 h1
  have hH := bw_iff.1 h2
  have c1 := fun b V (hs : SlS celE V s F) (g0 : V.cell? ⟨b, 0, none⟩ = some (.int .i64 wd)) (g1 : V.cell? ⟨b, 1, none⟩ = some (.int .i64 ht)) (g2 : V.cell? ⟨b, 2, none⟩ = some (.slice s F.length cap)) =>
    cel_containsf 59 #[.pointer (some ⟨b, 0, none⟩)] (fun _ _ => by simp [go_sem]) s cap F (fun c => !onB wd ht c) V hs hl (fun q _ X hX => valid1_c b wd ht s F.length cap q X hW hH (Up.cell hX g0) (Up.cell hX g1) (Up.cell hX g2))
  replace c1 := Lib.hid c1
  clear hW hH
  have hs := h.sl
  clear h
  go_enter Try.func29, Try.ntmps29
  go_upto_region 1 with (fail)
  refine wp_world fun W HW => ?_
  have hB : Below w.heap.size w W := by rw [HW.out]; (repeat (first | exact Below.refl _ _ | refine Below.alloc ?_ (by simp; try omega) _ | refine Below.setCell ?_ (by simp) _ | refine Below.drew ?_))
  have g0 : W.cell? ⟨w.heap.size, 0, none⟩ = some (.int .i64 wd) := by rw [HW.out]; simp [go_sem]
  have g1 : W.cell? ⟨w.heap.size, 1, none⟩ = some (.int .i64 ht) := by rw [HW.out]; simp [go_sem]
  have g2 : W.cell? ⟨w.heap.size, 2, none⟩ = some (.slice s F.length cap) := by rw [HW.out]; simp [go_sem]
  have gl : w.heap.size < W.heap.size := World.block_lt_of_cell? W _ g0
  try replace hs := up_of hB hs
  go_wp2_with (first | (go_at_call 53; refine (between_c _ _ _ _).mono ?_; rintro e w' ⟨rfl, rfl⟩) | (go_at_call 58; refine (c1.out _ _ hs g0 g1 g2).mono ?_; rintro e W1 ⟨rfl, hb⟩; (try replace hs := up_of hb hs); (try replace hB := up_of hb hB); (try replace g0 := up_of hb g0); (try replace g1 := up_of hb g1); (try replace g2 := up_of hb g2); (try replace gl := up_of hb gl)))
  go_ret
  exact ⟨rfl, hB⟩
end Go.Proofs.Ytbabdoafpljdbaa
