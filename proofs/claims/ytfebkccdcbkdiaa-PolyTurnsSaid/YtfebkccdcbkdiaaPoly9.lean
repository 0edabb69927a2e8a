/- SamePoints, awake, before. -/
import Derived.Test.YtfebkccdcbkdiaaPoly8
import Derived.Test.YtfebkccdcbkdiaaEq
namespace Go.Proofs.Ytfebkccdcbkdiaa
open Go.RowKit

theorem pt_test (p q : Pt) : (!(p.x == q.x && (p.y == q.y && p.z == q.z))) = !decide (p = q) := by
  obtain ⟨a, b, c⟩ := p; obtain ⟨d, e, f⟩ := q
  by_cases h0 : a = d <;> by_cases h1 : b = e <;> by_cases h2 : c = f <;> simp [h0, h1, h2]
theorem pt_test' (p q : Pt) : (!p.x == q.x || (!p.y == q.y || !p.z == q.z)) = !decide (p = q) := by
  rw [← pt_test]; simp

set_option maxRecDepth 100000 in
set_option maxHeartbeats 1000000 in
theorem SamePoints_c (s1 s2 : Option Addr) (c1 c2 : Nat) (l1 l2 : List Pt) (w : World) (h1 : PtS w s1 l1) (h2 : PtS w s2 l2) (hl1 : l1.length ≤ 9223372036854775807) (_hl2 : l2.length ≤ 9223372036854775807) :
    Calls Try.prog 23 #[.slice s1 l1.length c1, .slice s2 l2.length c2] w fun e w' => e = .returned (.bool (decide (l1 = l2))) ∧ Below w.heap.size w w' := by
  by_cases hl : l1.length = l2.length
  case neg =>
    have hb : ((l1.length : Int) != l2.length) = true := by simp; omega
    have hr : decide (l1 = l2) = false := by simp; intro h; exact hl (by rw [h])
    replace hr := Lib.hid hr
    go_enter Try.func23, Try.ntmps23
    go_wp2
    go_ret
    exact ⟨ret_bool hr.out.symm, Below.refl _ _⟩
  case pos =>
    have hb : ((l1.length : Int) != l2.length) = false := by simp; omega
    replace hl := Lib.hid hl
    go_enter Try.func23, Try.ntmps23
    go_wp2
    go_loopw [13] (fun i wr => ∃ k : Nat, k ≤ l1.length ∧ i = .int .i64 k ∧ Below w.heap.size w wr ∧ Hid (l1.take k = l2.take k)) (fun i _ => l1.length - (intOf i).toNat)
    case atStart => exact ⟨0, by omega, rfl, Below.refl _ _, rfl⟩
    case round =>
      obtain ⟨k, hk, rfl, hB, heq⟩ := hrel
      by_cases hlt : k < l1.length
      · have hlt2 : k < l2.length := by have := hl.out; omega
        obtain ⟨b1, o1, rfl, hb1, e0, e1, e2⟩ := (Up.pt hB h1).at hlt
        obtain ⟨b2, o2, rfl, hb2, f0, f1, f2⟩ := (Up.pt hB h2).at hlt2
        have g1 : (0 : Int) ≤ (k : Int) := by omega
        have g2 : (k : Int) < (l1.length : Int) := by omega
        have g3 : (k : Int) < (l2.length : Int) := by omega
        clear h1 h2
        go_upto_region 6 with (fail)
        have he := fun w => pt_eql w 9998
        refine wp_region_quiet (C := fun V0 => Below wr.heap.size wr V0) (by kernel_rfl) (by kernel_rfl) (Below.refl wr.heap.size wr).drew ?_
        dsimp only [List.toList_toArray]
        repeat (first
         | (refine q_det rfl ?_
            apply Exists.intro; refine ⟨fun W' hW' => ?_, ?_⟩
            (· have hk := cellB hW'; go_simp; try rfl)
            simp only [Act.put, List.setIfInBounds_toArray, List.set_cons_zero, List.set_cons_succ])
         | (refine q_skip rfl ?_; simp only [Act.put, List.setIfInBounds_toArray, List.set_cons_zero, List.set_cons_succ]))
        refine wpQuiet_nil ?_
        intro W' hW'
        rw [pt_test']
        have hst : (!decide (l1[k] = l2[k])) = true ∨ (!decide (l1[k] = l2[k])) = false := by cases (!decide (l1[k] = l2[k])) <;> simp
        rcases hst with hst | hst <;> rw [hst]
        · have hr : decide (l1 = l2) = false := by
            have h : l1[k] ≠ l2[k] := by simpa using hst
            have h' : l1 ≠ l2 := fun e => h (by simp [e])
            simp [h']
          replace hr := Lib.hid hr; replace hst := Lib.hid hst
          go_wp2
          go_ret
          exact ⟨ret_bool hr.out.symm, Up.to hB hW' hB.size⟩
        · have h : l1[k] = l2[k] := by simpa using hst
          replace h := Lib.hid h
          go_wp2
          go_roundw
          case rel => exact ⟨k + 1, by omega, rfl, Up.to hB hW' hB.size, Lib.hid (by rw [List.take_succ_eq_append_getElem hlt, List.take_succ_eq_append_getElem hlt2, heq.out, h.out])⟩
          case measure => exact meas hlt
      · obtain rfl : k = l1.length := by omega
        have hr : decide (l1 = l2) = true := by
          have h := heq.out
          rw [List.take_of_length_le (Nat.le_refl _), hl.out, List.take_of_length_le (Nat.le_refl _)] at h
          simpa using h
        replace hr := Lib.hid hr
        clear h1 h2
        go_wp2
        go_ret
        exact ⟨ret_bool hr.out.symm, hB⟩
end Go.Proofs.Ytfebkccdcbkdiaa
