/- Whether multipliers refute inequalities. -/
import Derived.Test.YtfebkccdcbkdiaaPoly26
namespace Go.Proofs.Ytfebkccdcbkdiaa
open Go.RowKit

def accP (a q : Pt) (m : Int) : Pt := ⟨wrap64 (a.x + wrap64 (q.x * m)), wrap64 (a.y + wrap64 (q.y * m)), wrap64 (a.z + wrap64 (q.z * m))⟩
/-- The sums of the first k inequalities, each so many times. -/
def accA (l : List Iq) (m : List Int) : Nat → Pt
  | 0 => ⟨0, 0, 0⟩
  | k + 1 => accP (accA l m k) (l.getD k default).a (m.getD k 0)
def accB (l : List Iq) (m : List Int) : Nat → Int
  | 0 => 0
  | k + 1 => wrap64 (accB l m k + wrap64 ((l.getD k default).b * m.getD k 0))
def refutesB (l : List Iq) (m : List Int) : Bool := decide (accA l m l.length = ⟨0, 0, 0⟩) && decide (accB l m l.length < 0)
theorem accA_succ {l : List Iq} {m : List Int} {k : Nat} (h1 : k < l.length) (h2 : k < m.length) : accA l m (k + 1) = accP (accA l m k) l[k].a m[k] := by
  simp [accA, List.getD, List.getElem?_eq_getElem h1, List.getElem?_eq_getElem h2]
theorem accB_succ {l : List Iq} {m : List Int} {k : Nat} (h1 : k < l.length) (h2 : k < m.length) : accB l m (k + 1) = wrap64 (accB l m k + wrap64 (l[k].b * m[k])) := by
  simp [accB, List.getD, List.getElem?_eq_getElem h1, List.getElem?_eq_getElem h2]
theorem pt_eq_zero (p : Pt) (w : World) : (Op.equalIn 10000 26 (.agg #[.int .i64 p.x, .int .i64 p.y, .int .i64 p.z]) (.agg #[.int .i64 0, .int .i64 0, .int .i64 0])).run Try.prog w = .ok (decide (p = ⟨0, 0, 0⟩)) w := pt_eq_at p ⟨0, 0, 0⟩ w

set_option maxRecDepth 100000 in
set_option maxHeartbeats 2000000 in
theorem refutes_c (s t : Option Addr) (cs ct : Nat) (l : List Iq) (m : List Int) (w : World) (hs : IqS w s l) (ht : SlS intE w t m) (hlm : m.length = l.length) (hl : l.length ≤ 12) :
    Calls Try.prog 63 #[.slice s l.length cs, .slice t m.length ct] w fun e w' => e = .returned (.bool (refutesB l m)) ∧ Below w.heap.size w w' := by
  have x0 := ix0
  have x1 := ix1
  have x2 := ix2
  have hml : m.length ≤ 12 := by omega
  replace hs := Lib.hid hs; replace ht := Lib.hid ht; replace hlm := Lib.hid hlm
  go_enter Try.func63, Try.ntmps63
  go_upto_region 3 with (fail)
  refine wp_world fun W HW => ?_
  have hB : Below w.heap.size w W := by
    rw [HW.out]
    repeat (first | (with_reducible exact Below.refl _ _) | (with_reducible refine Below.drew ?_) | ((with_reducible refine Below.setC ?_ ?_); (focus (first | omega | (simp; done) | (simp; omega)))) | ((with_reducible refine Below.allo ?_ ?_); (focus (first | omega | (simp; done) | (simp; omega)))))
  have rA : Row W w.heap.size 26 (ptA (accA l m 0)) := by
    rw [HW.out]
    refine Row.of ?_
    repeat (first | (with_reducible refine RowG.new ?_) | (with_reducible refine RowG.drew ?_) | (with_reducible refine RowG.set ?_) | ((with_reducible refine RowG.other ?_ ?_); (focus (first | omega | (simp; done) | (simp; omega)))) | ((with_reducible refine RowG.new' ?_ ?_); (focus (first | omega | (simp; done) | (simp; omega)))) | (with_reducible refine RowG.alloc ?_))
    rfl
  go_wp2
  go_loopw [6, 13] (fun b i wr => ∃ k : Nat, k ≤ l.length ∧ i = .int .i64 k ∧ b = .int .i64 (accB l m k) ∧ Row wr w.heap.size 26 (ptA (accA l m k)) ∧ Below w.heap.size w wr) (fun _ i _ => l.length - (intOf i).toNat)
  case atStart => exact ⟨0, by omega, rfl, rfl, rA, hB⟩
  case round =>
    clear rA hB
    obtain ⟨k, hk, rfl, rfl, rA, hB⟩ := hrel
    have hAl := rA.lt
    by_cases hlt : k < l.length
    · have hkm : k < m.length := by have := hlm.out; omega
      have eA := Lib.hid (accA_succ hlt hkm)
      have eB := Lib.hid (accB_succ hlt hkm)
      obtain ⟨a, ha⟩ : ∃ a, accA l m k = a := ⟨_, rfl⟩
      obtain ⟨bb, hbb⟩ : ∃ b, accB l m k = b := ⟨_, rfl⟩
      rw [ha] at rA eA
      rw [hbb] at eB ⊢
      clear ha hbb
      obtain ⟨b1, o1, rfl, hb1, q0, q1, q2, q3⟩ := (Up.iq hB hs.out).at hlt
      have g1 : (0 : Int) ≤ (k : Int) := by omega
      have g2 : (k : Int) < (l.length : Int) := by omega
      have g3 : (k : Int) < (m.length : Int) := by omega
      have hwr : w.heap.size < wr.heap.size := hAl
      go_upto_region 6 with (fail)
      refine wp_world fun Y HY => ?_
      have hY : Below wr.heap.size wr Y := by rw [HY.out]; (repeat (first | exact Below.refl _ _ | refine Below.alloc ?_ (by simp; try omega) _ | refine Below.setCell ?_ (by simp) _ | refine Below.drew ?_))
      have qB : Row Y (wr.heap.size) 64 #[.int .i64 l[k].a.x, .int .i64 l[k].a.y, .int .i64 l[k].a.z, .int .i64 l[k].b] := (by rw [HY.out]; (repeat (first | (refine blk_new ?_; simp; done) | refine blk_old ?_ _)) : Y.heap[wr.heap.size]? = some (.cells #[.int .i64 l[k].a.x, .int .i64 l[k].a.y, .int .i64 l[k].a.z, .int .i64 l[k].b] 64 (0, 0)))
      have q0 : Y.cell? ⟨wr.heap.size, 0, none⟩ = some (.int .i64 l[k].a.x) := by rw [HY.out]; simp [go_sem]
      have q1 : Y.cell? ⟨wr.heap.size, 1, none⟩ = some (.int .i64 l[k].a.y) := by rw [HY.out]; simp [go_sem]
      have q2 : Y.cell? ⟨wr.heap.size, 2, none⟩ = some (.int .i64 l[k].a.z) := by rw [HY.out]; simp [go_sem]
      have q3 : Y.cell? ⟨wr.heap.size, 3, none⟩ = some (.int .i64 l[k].b) := by rw [HY.out]; simp [go_sem]
      have ql : wr.heap.size < Y.heap.size := World.block_lt_of_cell? Y _ q0
      try replace rA := up_of hY rA
      try replace hB := up_of hY hB
      try replace hAl := up_of hY hAl
      have hYs := hY.size
      go_wp2
      go_loopw [20] (fun i wr => ((i = .int .i64 0 ∧ Row wr w.heap.size 26 #[.int .i64 a.x, .int .i64 a.y, .int .i64 a.z]) ∨
          (i = .int .i64 1 ∧ Row wr w.heap.size 26 #[.int .i64 (accP a l[k].a m[k]).x, .int .i64 a.y, .int .i64 a.z]) ∨
          (i = .int .i64 2 ∧ Row wr w.heap.size 26 #[.int .i64 (accP a l[k].a m[k]).x, .int .i64 (accP a l[k].a m[k]).y, .int .i64 a.z]) ∨
          (i = .int .i64 3 ∧ Row wr w.heap.size 26 #[.int .i64 (accP a l[k].a m[k]).x, .int .i64 (accP a l[k].a m[k]).y, .int .i64 (accP a l[k].a m[k]).z])) ∧ Chg (fun j => j = w.heap.size) Y wr) (fun i _ => 3 - (intOf i).toNat)
      case atStart => exact ⟨.inl ⟨rfl, rA⟩, Chg.refl _ _⟩
      case round =>
        obtain ⟨hrel, hC⟩ := hrel
        clear rA
        have hCs := hC.size
        have hBr : Below w.heap.size w _ := hC.below (n := w.heap.size) (fun j hj => by omega) hB.size hB
        obtain ⟨b2, o2, rfl, hb2, hm0⟩ := (SlS.up hBr ht.out).at hkm
        have m0 := hm0 0 _ rfl
        simp only [intE, Nat.mul_one, Nat.add_zero] at m0
        clear hm0
        replace qB := hC.row (by omega) qB
        have q0 := qB.cell (i := 0) rfl
        have q1 := qB.cell (i := 1) rfl
        have q2 := qB.cell (i := 2) rfl
        have q3 := qB.cell (i := 3) rfl
        rcases hrel with ⟨rfl, rA⟩ | ⟨rfl, rA⟩ | ⟨rfl, rA⟩ | ⟨rfl, rA⟩
        · obtain ⟨a0, a1, a2⟩ := rA.three
          have af := rA.frozen 0
          go_upto_region 9 with (fail)
          go_region
          all_goals
            go_wp2
            go_roundw
            case rel =>
              refine ⟨.inr (.inl ⟨rfl, ?_⟩), ?_⟩
              · refine Row.of ?_
                repeat (first | (with_reducible refine RowG.base rA ?_) | (with_reducible refine RowG.drew ?_) | (with_reducible refine RowG.set ?_) | ((with_reducible refine RowG.other ?_ ?_); (focus (first | omega | (simp; done) | (simp; omega)))) | (with_reducible refine RowG.alloc ?_))
                (first | rfl | (simp [accP, i64_wrap]))
              · repeat (first | (with_reducible exact hC) | (with_reducible refine Chg.setCell ?_ (by simp) _) | (with_reducible refine Chg.drew ?_) | (with_reducible refine Chg.alloc ?_ _))
            case measure => simp [intOf]
        · obtain ⟨a0, a1, a2⟩ := rA.three
          have af := rA.frozen 1
          go_upto_region 9 with (fail)
          go_region
          all_goals
            go_wp2
            go_roundw
            case rel =>
              refine ⟨.inr (.inr (.inl ⟨rfl, ?_⟩)), ?_⟩
              · refine Row.of ?_
                repeat (first | (with_reducible refine RowG.base rA ?_) | (with_reducible refine RowG.drew ?_) | (with_reducible refine RowG.set ?_) | ((with_reducible refine RowG.other ?_ ?_); (focus (first | omega | (simp; done) | (simp; omega)))) | (with_reducible refine RowG.alloc ?_))
                (first | rfl | (simp [accP, i64_wrap]))
              · repeat (first | (with_reducible exact hC) | (with_reducible refine Chg.setCell ?_ (by simp) _) | (with_reducible refine Chg.drew ?_) | (with_reducible refine Chg.alloc ?_ _))
            case measure => simp [intOf]
        · obtain ⟨a0, a1, a2⟩ := rA.three
          have af := rA.frozen 2
          go_upto_region 9 with (fail)
          go_region
          all_goals
            go_wp2
            go_roundw
            case rel =>
              refine ⟨.inr (.inr (.inr ⟨rfl, ?_⟩)), ?_⟩
              · refine Row.of ?_
                repeat (first | (with_reducible refine RowG.base rA ?_) | (with_reducible refine RowG.drew ?_) | (with_reducible refine RowG.set ?_) | ((with_reducible refine RowG.other ?_ ?_); (focus (first | omega | (simp; done) | (simp; omega)))) | (with_reducible refine RowG.alloc ?_))
                (first | rfl | (simp [accP, i64_wrap]))
              · repeat (first | (with_reducible exact hC) | (with_reducible refine Chg.setCell ?_ (by simp) _) | (with_reducible refine Chg.drew ?_) | (with_reducible refine Chg.alloc ?_ _))
            case measure => simp [intOf]
        · obtain ⟨a0, a1, a2⟩ := rA.three
          have hqz := qB.lt
          go_upto_region 11 with (fail)
          refine region_q (by kernel_rfl) (by kernel_rfl) ?_
          dsimp only [List.toList_toArray]
          repeat (first
           | go_big_quiet_skip
           | (go_big_quiet_want
              first
              | (refine qq_det ?_
                 apply Exists.intro; refine ⟨fun W' hW' => ?_, ?_⟩
                 (· have hk := cellB hW'; go_simp; try (first | rfl | rw [if_pos (by omega)]))
                 simp only [Act.put, List.setIfInBounds_toArray, List.set_cons_zero, List.set_cons_succ]; go_big_quiet_on)))
          refine wpQuiet_nil ?_
          intro W1 hb
          try replace rA := up_of hb rA
          replace hBr := Up.to hBr hb hBr.size
          go_wp2
          go_roundw
          case rel => exact ⟨k + 1, by omega, rfl, by rw [eB.out]; first | rfl | simp [i64_wrap], by rw [eA.out]; exact rA, hBr⟩
          case measure => exact meas hlt
    · obtain rfl : k = l.length := by omega
      have hz := pt_eq_zero (accA l m l.length)
      obtain ⟨a0, a1, a2⟩ := rA.three
      have hf : refutesB l m = (decide (accA l m l.length = ⟨0, 0, 0⟩) && decide (accB l m l.length < 0)) := rfl
      obtain ⟨a, ha⟩ : ∃ a, accA l m l.length = a := ⟨_, rfl⟩
      obtain ⟨b, hb⟩ : ∃ b, accB l m l.length = b := ⟨_, rfl⟩
      rw [ha] at hz a0 a1 a2
      rw [ha, hb] at hf
      rw [hb]
      replace hf := Lib.hid hf
      cases hd : decide (a = ⟨0, 0, 0⟩)
      all_goals
        rw [hd] at hz hf
        clear rA ha hb hd
        go_wp2
        go_ret
        exact ⟨ret_bool hf.out.symm, hB⟩
end Go.Proofs.Ytfebkccdcbkdiaa
