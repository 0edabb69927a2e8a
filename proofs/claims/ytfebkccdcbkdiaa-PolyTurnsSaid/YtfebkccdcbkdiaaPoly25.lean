/- All inequalities; numbers that are multipliers. -/
import Derived.Test.YtfebkccdcbkdiaaPoly24
namespace Go.Proofs.Ytfebkccdcbkdiaa
open Go.RowKit

set_option maxRecDepth 100000 in
set_option maxHeartbeats 400000 in
theorem int_indexf (f : Nat) (cs : Array Value) (hf : ∀ args w, (callFunc f args).run Try.prog w = .ok (.enter f args) w) (s : Option Addr) (cap : Nat) (l : List Int) (pr : Int → Bool) (w : World)
    (hs : SlS intE w s l) (hl : l.length ≤ 9223372036854775807)
    (hc : ∀ q ∈ l, ∀ W, Below w.heap.size w W → Calls Try.prog f (#[.int .i64 q] ++ cs) W fun e w' => e = .returned (.bool (pr q)) ∧ Below W.heap.size W w') :
    Calls Try.prog 90 #[.slice s l.length cap, .func (.func f) #[] cs] w fun e w' => e = .returned (.int .i64 (fidx pr l)) ∧ Below w.heap.size w w' := by
  go_enter Try.func90, Try.ntmps90
  go_wp2
  go_loopw [8] (fun i wr => ∃ k : Nat, k ≤ l.length ∧ i = .int .i64 k ∧ Below w.heap.size w wr ∧ Hid (∀ j (hj : j < l.length), j < k → pr l[j] = false)) (fun i _ => l.length - (intOf i).toNat)
  case atStart => exact ⟨0, by omega, rfl, Below.refl _ _, fun j _ h => absurd h (by omega)⟩
  case round =>
    obtain ⟨k, hk, rfl, hB, hno⟩ := hrel
    by_cases hlt : k < l.length
    · obtain ⟨b, off, rfl, hb, hcl⟩ := (up_of hB hs).at hlt
      have h0 := hcl 0 _ rfl
      simp only [intE, Nat.mul_one, Nat.add_zero] at h0
      have hcall := hc l[k] (List.getElem_mem hlt) wr hB
      have Hc := Lib.hid hcall
      clear hc hcall hs hcl
      cases hp : pr l[k] with
      | true =>
        go_wp2_with (refine Hc.out.mono ?_; rintro e W1 ⟨rfl, hb1⟩; rw [hp])
        go_ret
        exact ⟨ret_int (fidx_at hlt (fun j hj => hno j _ hj) hp).symm, Up.to hB hb1 hB.size⟩
      | false =>
        go_wp2_with (refine Hc.out.mono ?_; rintro e W1 ⟨rfl, hb1⟩; rw [hp])
        go_roundw
        case rel => exact ⟨k + 1, by omega, by go_num, Up.to hB hb1 hB.size, fun j hj h => by rcases Nat.lt_succ_iff_lt_or_eq.1 h with h | rfl; exact hno j hj h; exact hp⟩
        case measure => simp [intOf]; omega
    · obtain rfl : k = l.length := by omega
      clear hc hs
      go_wp2
      go_ret
      exact ⟨ret_int (fidx_none fun j hj => hno j hj hj).symm, hB⟩

set_option maxRecDepth 100000 in
set_option maxHeartbeats 400000 in
theorem int_containsf (f : Nat) (cs : Array Value) (hf : ∀ args w, (callFunc f args).run Try.prog w = .ok (.enter f args) w) (s : Option Addr) (cap : Nat) (l : List Int) (pr : Int → Bool) (w : World)
    (hs : SlS intE w s l) (hl : l.length ≤ 9223372036854775807)
    (hc : ∀ q ∈ l, ∀ W, Below w.heap.size w W → Calls Try.prog f (#[.int .i64 q] ++ cs) W fun e w' => e = .returned (.bool (pr q)) ∧ Below W.heap.size W w') :
    Calls Try.prog 79 #[.slice s l.length cap, .func (.func f) #[] cs] w fun e w' => e = .returned (.bool (l.any pr)) ∧ Below w.heap.size w w' := by
  have H := Lib.hid (int_indexf f cs hf s cap l pr w hs hl hc)
  clear hc hs hf
  go_enter Try.func79, Try.ntmps79
  go_wp2_with (go_at_call 90; refine H.out.mono ?_; rintro e W1 ⟨rfl, hb⟩)
  go_ret
  exact ⟨ret_bool (fidx_any pr l), hb⟩


theorem right1_c (n : Int) (w : World) : Calls Try.prog 80 #[.int .i64 n] w fun e w' => e = .returned (.bool (!bw 0 n 1000000000000)) ∧ Below w.heap.size w w' := by
  go_enter Try.func80, Try.ntmps80
  go_wp2_with (first | (go_at_call 48; refine (between_c _ _ _ _).mono ?_; rintro e w' ⟨rfl, rfl⟩))
  go_ret
  exact ⟨rfl, Below.refl _ _⟩
def rightB (m : List Int) : Bool := m.all fun n => bw 0 n 1000000000000
theorem right_c (s : Option Addr) (cap : Nat) (m : List Int) (w : World) (hs : SlS intE w s m) (hl : m.length ≤ 9223372036854775807) :
    Calls Try.prog 62 #[.slice s m.length cap] w fun e w' => e = .returned (.bool (rightB m)) ∧ Below w.heap.size w w' := by
  have H := Lib.hid (int_containsf 80 #[] (fun _ _ => by simp [go_sem]) s cap m (fun n => !bw 0 n 1000000000000) w hs hl (fun q _ W _ => right1_c q W))
  clear hs
  go_enter Try.func62, Try.ntmps62
  go_wp2_with (go_at_call 79; refine H.out.mono ?_; rintro e W1 ⟨rfl, hb⟩)
  go_ret
  exact ⟨ret_bool (any_not _ _), hb⟩

/-- The two inequalities of the box in a dimension. -/
def unitP (i : Nat) (x : Int) : Pt := ⟨if i = 0 then x else 0, if i = 1 then x else 0, if i = 2 then x else 0⟩
def boxI (i : Nat) : List Iq := [⟨unitP i 1, 20⟩, ⟨unitP i (-1), 20⟩]
def boxTo (n : Nat) : List Iq := (List.range n).flatMap boxI
def wholeL (n : Int) (l : List Iq) : List Iq := l ++ boxTo n.toNat
theorem boxTo_succ (n : Nat) : boxTo (n + 1) = boxTo n ++ boxI n := by simp [boxTo, List.range_succ]
theorem boxTo_len (n : Nat) : (boxTo n).length = 2 * n := by
  induction n with
  | zero => rfl
  | succ n ih => rw [boxTo_succ, List.length_append, ih]; simp [boxI]; omega

set_option maxRecDepth 100000 in
set_option maxHeartbeats 1000000 in
theorem all_c (n : Int) (s : Option Addr) (cap : Nat) (l : List Iq) (w : World) (h : Dom w s l) (hc : s = none → cap = 0) (hn : 1 ≤ n ∧ n ≤ 3) (hl : l.length ≤ 6) :
    Calls Try.prog 61 #[.agg #[.int .i64 n, .slice s l.length cap]] w fun e w' => (∃ s cap, e = .returned (.slice s (wholeL n l).length cap) ∧ w'.ownsRow w.heap.size 64 4 (.slice s (wholeL n l).length cap) (wholeL n l).length (iqCells (wholeL n l))) ∧ Below w.heap.size w w' := by
  replace hc := Lib.hid hc
  obtain ⟨N, rfl⟩ : ∃ N : Nat, n = N := ⟨n.toNat, by omega⟩
  have hN : N ≤ 3 := by omega
  obtain ⟨K, hK⟩ : ∃ K, wholeL (N : Int) l = K := ⟨_, rfl⟩
  rw [hK]
  have hlen : ∀ k, k ≤ 3 → (l ++ boxTo k).length ≤ 12 := fun k hk => by rw [List.length_append, boxTo_len]; omega
  replace hlen := Lib.hid hlen
  replace hK := Lib.hid hK
  obtain ⟨i0, hi, hz0, hz1, hz2⟩ := info_parts info_iq
  go_enter Try.func61, Try.ntmps61
  go_upto_region 1 with (fail)
  refine wp_world fun W HW => ?_
  have hB : Below w.heap.size w W := by rw [HW.out]; (repeat (first | exact Below.refl _ _ | refine Below.alloc ?_ (by simp; try omega) _ | refine Below.setCell ?_ (by simp) _ | refine Below.drew ?_))
  have d0 : W.cell? ⟨w.heap.size, 0, none⟩ = some (.int .i64 N) := by rw [HW.out]; simp [go_sem]
  have d1 : W.cell? ⟨w.heap.size, 1, none⟩ = some (.slice s l.length cap) := by rw [HW.out]; simp [go_sem]
  have dl : w.heap.size < W.heap.size := World.block_lt_of_cell? W _ d0
  try replace h := up_of hB h
  go_upto_region 2 with (first | (go_at_call 59; refine (iq_clone _ _ _ _ h.iq.sl hc.out (by omega)).mono ?_; rintro e W1 ⟨s1, c1, rfl, hown, hb⟩; have hW := hB.size; (try replace h := up_of hb h); (try replace hB := up_of hb hB); (try replace d0 := up_of hb d0); (try replace d1 := up_of hb d1); (try replace dl := up_of hb dl)))
  replace hown := owns_mono hown hW
  clear hb
  go_wp2
  go_loopw [3, 12] (fun v i wr => ∃ k : Nat, k ≤ N ∧ i = .int .i64 k ∧ wr.ownsRow w.heap.size 64 4 v (l ++ boxTo k).length (iqCells (l ++ boxTo k)) ∧ Below w.heap.size w wr ∧ w.heap.size < wr.heap.size) (fun _ i _ => N - (intOf i).toNat)
  case atStart => exact ⟨0, by omega, rfl, by rw [show l ++ boxTo 0 = l by simp [boxTo]]; exact hown, hB, dl⟩
  case round =>
    clear hown hB dl
    obtain ⟨k, hk, rfl, hown, hB, dl⟩ := hrel
    have hws := hB.size
    by_cases hlt : k < N
    · have hlk := hlen.out k (by omega)
      have e1 := Lib.hid (boxTo_succ k)
      obtain ⟨M, hM⟩ : ∃ M, l ++ boxTo k = M := ⟨_, rfl⟩
      rw [hM] at hown hlk
      replace hM := Lib.hid hM
      have hk3 : k = 0 ∨ k = 1 ∨ k = 2 := by omega
      rcases hk3 with rfl | rfl | rfl
      · go_upto_region 7 with (fail)
        refine wp_world fun Y HY => ?_
        have hY : Below wr.heap.size wr Y := by
          rw [HY.out]
          repeat (first | (with_reducible exact Below.refl _ _) | (with_reducible refine Below.drew ?_) | ((with_reducible refine Below.setC ?_ ?_); (focus (first | omega | (simp; done) | (simp; omega)))) | ((with_reducible refine Below.allo ?_ ?_); (focus (first | omega | (simp; done) | (simp; omega)))))
        have upB : Row Y wr.heap.size 26 #[.int .i64 1, .int .i64 0, .int .i64 0] := by
          rw [HY.out]
          refine Row.of ?_
          repeat (first | (with_reducible refine RowG.new ?_) | (with_reducible refine RowG.drew ?_) | (with_reducible refine RowG.set ?_) | ((with_reducible refine RowG.other ?_ ?_); (focus (first | omega | (simp; done) | (simp; omega)))) | ((with_reducible refine RowG.new' ?_ ?_); (focus (first | omega | (simp; done) | (simp; omega)))) | (with_reducible refine RowG.alloc ?_))
          rfl
        have dnB : Row Y (wr.heap.size + 1) 26 #[.int .i64 (-1), .int .i64 0, .int .i64 0] := by
          rw [HY.out]
          refine Row.of ?_
          repeat (first | (with_reducible refine RowG.new ?_) | (with_reducible refine RowG.drew ?_) | (with_reducible refine RowG.set ?_) | ((with_reducible refine RowG.other ?_ ?_); (focus (first | omega | (simp; done) | (simp; omega)))) | ((with_reducible refine RowG.new' ?_ ?_); (focus (first | omega | (simp; done) | (simp; omega)))) | (with_reducible refine RowG.alloc ?_))
          rfl
        obtain ⟨a0, a1, a2⟩ := upB.three
        obtain ⟨b0, b1, b2⟩ := dnB.three
        replace hown := up_of hY hown
        replace hB := up_of hY hB
        replace dl := up_of hY dl
        have hws := hB.size
        go_wp2_with (at_builtin; refine wpList_append_own _ rfl _ _ 22 rfl w.heap.size 64 i0 (.agg #[.int .i64 0, .int .i64 0, .int .i64 0, .int .i64 0]) 4 32 Try.underlying22 hi hz0 hz1 hz2 rfl (by decide) _ _ _ rfl (hown.alloc _) ⟨Y.heap.size, 0, none⟩ 2 2 [.int .i64 1, .int .i64 0, .int .i64 0, .int .i64 20, .int .i64 (-1), .int .i64 0, .int .i64 0, .int .i64 20] rfl rfl (news_new _ _ _) (by simp [Value.oneCell']) (by unfold maxLen; omega) (by omega) (by simp; omega) ?_; intro v1 w1 hown1 hgrow hnil)
        go_roundw
        case rel =>
          have e2 : l ++ boxTo (0 + 1) = M ++ boxI 0 := by rw [e1.out, ← List.append_assoc, hM.out]
          refine ⟨0 + 1, by omega, rfl, ?_, Up.grown hB hws hown hgrow, ?_⟩
          · rw [e2, show iqCells (M ++ boxI 0) = iqCells M ++ [.int .i64 1, .int .i64 0, .int .i64 0, .int .i64 20, .int .i64 (-1), .int .i64 0, .int .i64 0, .int .i64 20] by simp [iqCells, boxI, unitP, Iq.cells], List.length_append]; exact hown1
          · have := hgrow.size; simp at this; omega
        case measure => simp [intOf]; omega
      · go_upto_region 7 with (fail)
        refine wp_world fun Y HY => ?_
        have hY : Below wr.heap.size wr Y := by
          rw [HY.out]
          repeat (first | (with_reducible exact Below.refl _ _) | (with_reducible refine Below.drew ?_) | ((with_reducible refine Below.setC ?_ ?_); (focus (first | omega | (simp; done) | (simp; omega)))) | ((with_reducible refine Below.allo ?_ ?_); (focus (first | omega | (simp; done) | (simp; omega)))))
        have upB : Row Y wr.heap.size 26 #[.int .i64 0, .int .i64 1, .int .i64 0] := by
          rw [HY.out]
          refine Row.of ?_
          repeat (first | (with_reducible refine RowG.new ?_) | (with_reducible refine RowG.drew ?_) | (with_reducible refine RowG.set ?_) | ((with_reducible refine RowG.other ?_ ?_); (focus (first | omega | (simp; done) | (simp; omega)))) | ((with_reducible refine RowG.new' ?_ ?_); (focus (first | omega | (simp; done) | (simp; omega)))) | (with_reducible refine RowG.alloc ?_))
          rfl
        have dnB : Row Y (wr.heap.size + 1) 26 #[.int .i64 0, .int .i64 (-1), .int .i64 0] := by
          rw [HY.out]
          refine Row.of ?_
          repeat (first | (with_reducible refine RowG.new ?_) | (with_reducible refine RowG.drew ?_) | (with_reducible refine RowG.set ?_) | ((with_reducible refine RowG.other ?_ ?_); (focus (first | omega | (simp; done) | (simp; omega)))) | ((with_reducible refine RowG.new' ?_ ?_); (focus (first | omega | (simp; done) | (simp; omega)))) | (with_reducible refine RowG.alloc ?_))
          rfl
        obtain ⟨a0, a1, a2⟩ := upB.three
        obtain ⟨b0, b1, b2⟩ := dnB.three
        replace hown := up_of hY hown
        replace hB := up_of hY hB
        replace dl := up_of hY dl
        have hws := hB.size
        go_wp2_with (at_builtin; refine wpList_append_own _ rfl _ _ 22 rfl w.heap.size 64 i0 (.agg #[.int .i64 0, .int .i64 0, .int .i64 0, .int .i64 0]) 4 32 Try.underlying22 hi hz0 hz1 hz2 rfl (by decide) _ _ _ rfl (hown.alloc _) ⟨Y.heap.size, 0, none⟩ 2 2 [.int .i64 0, .int .i64 1, .int .i64 0, .int .i64 20, .int .i64 0, .int .i64 (-1), .int .i64 0, .int .i64 20] rfl rfl (news_new _ _ _) (by simp [Value.oneCell']) (by unfold maxLen; omega) (by omega) (by simp; omega) ?_; intro v1 w1 hown1 hgrow hnil)
        go_roundw
        case rel =>
          have e2 : l ++ boxTo (1 + 1) = M ++ boxI 1 := by rw [e1.out, ← List.append_assoc, hM.out]
          refine ⟨1 + 1, by omega, rfl, ?_, Up.grown hB hws hown hgrow, ?_⟩
          · rw [e2, show iqCells (M ++ boxI 1) = iqCells M ++ [.int .i64 0, .int .i64 1, .int .i64 0, .int .i64 20, .int .i64 0, .int .i64 (-1), .int .i64 0, .int .i64 20] by simp [iqCells, boxI, unitP, Iq.cells], List.length_append]; exact hown1
          · have := hgrow.size; simp at this; omega
        case measure => simp [intOf]; omega
      · go_upto_region 7 with (fail)
        refine wp_world fun Y HY => ?_
        have hY : Below wr.heap.size wr Y := by
          rw [HY.out]
          repeat (first | (with_reducible exact Below.refl _ _) | (with_reducible refine Below.drew ?_) | ((with_reducible refine Below.setC ?_ ?_); (focus (first | omega | (simp; done) | (simp; omega)))) | ((with_reducible refine Below.allo ?_ ?_); (focus (first | omega | (simp; done) | (simp; omega)))))
        have upB : Row Y wr.heap.size 26 #[.int .i64 0, .int .i64 0, .int .i64 1] := by
          rw [HY.out]
          refine Row.of ?_
          repeat (first | (with_reducible refine RowG.new ?_) | (with_reducible refine RowG.drew ?_) | (with_reducible refine RowG.set ?_) | ((with_reducible refine RowG.other ?_ ?_); (focus (first | omega | (simp; done) | (simp; omega)))) | ((with_reducible refine RowG.new' ?_ ?_); (focus (first | omega | (simp; done) | (simp; omega)))) | (with_reducible refine RowG.alloc ?_))
          rfl
        have dnB : Row Y (wr.heap.size + 1) 26 #[.int .i64 0, .int .i64 0, .int .i64 (-1)] := by
          rw [HY.out]
          refine Row.of ?_
          repeat (first | (with_reducible refine RowG.new ?_) | (with_reducible refine RowG.drew ?_) | (with_reducible refine RowG.set ?_) | ((with_reducible refine RowG.other ?_ ?_); (focus (first | omega | (simp; done) | (simp; omega)))) | ((with_reducible refine RowG.new' ?_ ?_); (focus (first | omega | (simp; done) | (simp; omega)))) | (with_reducible refine RowG.alloc ?_))
          rfl
        obtain ⟨a0, a1, a2⟩ := upB.three
        obtain ⟨b0, b1, b2⟩ := dnB.three
        replace hown := up_of hY hown
        replace hB := up_of hY hB
        replace dl := up_of hY dl
        have hws := hB.size
        go_wp2_with (at_builtin; refine wpList_append_own _ rfl _ _ 22 rfl w.heap.size 64 i0 (.agg #[.int .i64 0, .int .i64 0, .int .i64 0, .int .i64 0]) 4 32 Try.underlying22 hi hz0 hz1 hz2 rfl (by decide) _ _ _ rfl (hown.alloc _) ⟨Y.heap.size, 0, none⟩ 2 2 [.int .i64 0, .int .i64 0, .int .i64 1, .int .i64 20, .int .i64 0, .int .i64 0, .int .i64 (-1), .int .i64 20] rfl rfl (news_new _ _ _) (by simp [Value.oneCell']) (by unfold maxLen; omega) (by omega) (by simp; omega) ?_; intro v1 w1 hown1 hgrow hnil)
        go_roundw
        case rel =>
          have e2 : l ++ boxTo (2 + 1) = M ++ boxI 2 := by rw [e1.out, ← List.append_assoc, hM.out]
          refine ⟨2 + 1, by omega, rfl, ?_, Up.grown hB hws hown hgrow, ?_⟩
          · rw [e2, show iqCells (M ++ boxI 2) = iqCells M ++ [.int .i64 0, .int .i64 0, .int .i64 1, .int .i64 20, .int .i64 0, .int .i64 0, .int .i64 (-1), .int .i64 20] by simp [iqCells, boxI, unitP, Iq.cells], List.length_append]; exact hown1
          · have := hgrow.size; simp at this; omega
        case measure => simp [intOf]; omega
    · obtain rfl : k = N := by omega
      obtain ⟨s2, c2, rfl, _⟩ := owns_shape hown
      have hK2 : l ++ boxTo k = K := by rw [← hK.out]; simp [wholeL]
      rw [hK2] at hown ⊢
      replace hK2 := Lib.hid hK2
      go_wp2
      go_ret
      exact ⟨⟨s2, c2, rfl, hown⟩, hB⟩
end Go.Proofs.Ytfebkccdcbkdiaa
