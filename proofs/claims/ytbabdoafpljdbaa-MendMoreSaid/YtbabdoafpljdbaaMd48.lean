/- How many columns have no fault: the walk. -/
import Derived.Test.YtbabdoafpljdbaaMdLaw4
import Derived.BigRegion
namespace Go.Proofs.Ytbabdoafpljdbaa
open Go.RowKit

/-- A fault among the first k lies in a column of cells. -/
def inF (F : List Cel) (x : Nat) (k : Nat) : Bool := (F.take k).any fun c => c.x == (x : Int)
theorem inF_succ {F : List Cel} {x k : Nat} (h : k < F.length) : inF F x (k + 1) = (inF F x k || F[k].x == (x : Int)) := by
  unfold inF; rw [List.take_succ_eq_append_getElem h, List.any_append]; simp
theorem inF_all (F : List Cel) (x : Nat) : inF F x F.length = !noF F x := by
  unfold inF noF
  rw [List.take_length, List.not_all_eq_any_not]
  congr 1
  funext c
  simp
theorem wholeN_succ (x : Nat) (F : List Cel) : wholeN (x + 1) F = if noF F x then wholeN x F + 1 else wholeN x F := by
  unfold wholeN
  rw [List.range_succ, List.filter_append, List.length_append]
  cases h : noF F x
  · rw [List.filter_cons_of_neg (by simp [h])]; simp
  · rw [List.filter_cons_of_pos (by simp [h])]; simp
theorem wholeN_le (x : Nat) (F : List Cel) : wholeN x F ≤ x := by
  have := List.length_filter_le (noF F) (List.range x)
  rwa [List.length_range] at this
set_option maxRecDepth 100000 in
set_option maxHeartbeats 2000000 in
theorem whole_c (wd : Nat) (ht : Int) (s : Option Addr) (cap : Nat) (F : List Cel) (w : World) (h : Cels w s cap F) (hwd : wd ≤ 12) (hF : F.length ≤ 96) :
    Calls Try.prog 17 #[.agg #[.int .i64 wd, .int .i64 ht, .slice s F.length cap]] w fun e w' => e = .returned (.int .i64 (wholeN wd F : Nat)) ∧ Below w.heap.size w w' := by
  have h0 := Lib.hid h.sl
  have hs := Lib.hid fun x => wholeN_succ x F
  have hl := Lib.hid fun x => wholeN_le x F
  have ha := Lib.hid fun x => inF_all F x
  have hi := Lib.hid fun (x k : Nat) (h : k < F.length) => inF_succ (x := x) h
  clear h
  go_enter Try.func17, Try.ntmps17
  go_upto_region 1 with (fail)
  refine wp_world fun W HW => ?_
  have hB : Below w.heap.size w W := by rw [HW.out]; (repeat (first | exact Below.refl _ _ | refine Below.alloc ?_ (by simp; try omega) _ | refine Below.setCell ?_ (by simp) _ | refine Below.drew ?_))
  have b0 : W.cell? ⟨w.heap.size, 0, none⟩ = some (.int .i64 wd) := by rw [HW.out]; simp [go_sem]
  have b1 : W.cell? ⟨w.heap.size, 1, none⟩ = some (.int .i64 ht) := by rw [HW.out]; simp [go_sem]
  have b2 : W.cell? ⟨w.heap.size, 2, none⟩ = some (.slice s F.length cap) := by rw [HW.out]; simp [go_sem]
  have bl : w.heap.size < W.heap.size := World.block_lt_of_cell? W _ b0
  try replace h0 := up_of hB h0
  have hBs := hB.size
  go_wp2
  go_loopw [3, 10] (fun nn xx V => ∃ x : Nat, x ≤ wd ∧ xx = .int .i64 x ∧ nn = .int .i64 (wholeN x F : Nat) ∧ Below W.heap.size W V) (fun _ xx _ => wd - (intOf xx).toNat)
  case atStart => exact ⟨0, by omega, rfl, rfl, Below.refl _ _⟩
  case round =>
    obtain ⟨x, hx, rfl, rfl, hbl⟩ := hrel
    have hbls := hbl.size
    have hBw := hB.trans (hbl.mono hBs)
    by_cases hlx : x < wd
    · replace b0 := Up.cell hbl b0
      replace b1 := Up.cell hbl b1
      replace b2 := Up.cell hbl b2
      have bl := World.block_lt_of_cell? _ _ b0
      have i1 : (0 : Int) ≤ (x : Int) := by omega
      have i2 : (x : Int) < (wd : Int) := by omega
      have hsx := hs.out x
      have hlx2 := hl.out x
      have hax := ha.out x
      obtain ⟨M, hM⟩ : ∃ m, wholeN x F = m := ⟨_, rfl⟩
      rw [hM] at hsx hlx2 ⊢
      replace hsx := Lib.hid hsx; replace hax := Lib.hid hax; replace hM := Lib.hid hM
      obtain ⟨N0, rfl⟩ : ∃ N0, N0 = wr := ⟨wr, rfl⟩
      go_wp2
      go_loopw [5, 16] (fun ff kk V => ∃ k : Nat, k ≤ F.length ∧ kk = .int .i64 k ∧ ff = .bool (inF F x k) ∧ Below W.heap.size W V) (fun _ kk _ => F.length - (intOf kk).toNat)
      case atStart => exact ⟨0, by omega, rfl, rfl, hbl⟩
      case round =>
        clear b0 b1 b2 hbl hBw
        obtain ⟨k, hk, rfl, rfl, hbl⟩ := hrel
        have hbls := hbl.size
        have hBw := hB.trans (hbl.mono hBs)
        by_cases hlk : k < F.length
        · obtain ⟨bk, ok, e1, hbk, x0, x1⟩ := (up_of hbl h0).out.cel_at hlk
          have hin := hi.out x k hlk
          obtain ⟨c, hc⟩ : ∃ c, F[k] = c := ⟨_, rfl⟩
          rw [hc] at x0 x1 hin
          obtain ⟨J, hJ⟩ : ∃ b, inF F x k = b := ⟨_, rfl⟩
          rw [hJ] at hin ⊢
          have i4 : (0 : Int) ≤ (k : Int) := by omega
          have i5 : (k : Int) < (F.length : Int) := by omega
          replace hc := Lib.hid hc; replace hin := Lib.hid hin; replace hJ := Lib.hid hJ
          cases e1
          go_upto_region 9 with (fail)
          refine wp_world fun Y HY => ?_
          have hY : Below wr.heap.size wr Y := by rw [HY.out]; (repeat (first | exact Below.refl _ _ | refine Below.alloc ?_ (by simp; try omega) _ | refine Below.setCell ?_ (by simp) _ | refine Below.drew ?_))
          have cb0 : Y.cell? ⟨wr.heap.size, 0, none⟩ = some (.int .i64 c.x) := by rw [HY.out]; simp [go_sem]
          have cb1 : Y.cell? ⟨wr.heap.size, 1, none⟩ = some (.int .i64 c.y) := by rw [HY.out]; simp [go_sem]
          have cbl : wr.heap.size < Y.heap.size := World.block_lt_of_cell? Y _ cb0
          have hYB := hbl.trans (hY.mono hbls)
          cases J
          · cases hq : (c.x == (x : Int))
            all_goals
              have hn : inF F x (k + 1) = (c.x == (x : Int)) := by rw [hin.out]; simp
              rw [hq] at hn
              replace hn := Lib.hid hn
              go_wp2
              go_roundw
              case rel => exact ⟨k + 1, by omega, by go_num, by rw [hn.out], hYB⟩
              case measure => exact meas hlk
          · have hn : inF F x (k + 1) = true := by rw [hin.out]; rfl
            replace hn := Lib.hid hn
            go_wp2
            go_roundw
            case rel => exact ⟨k + 1, by omega, by go_num, by rw [hn.out], hYB⟩
            case measure => exact meas hlk
        · obtain rfl : k = F.length := by omega
          rw [hax.out]
          have hs2 := hsx.out
          have w1 : IntKind.i64.wrap ((M : Int) + 1) = (M : Int) + 1 := i64_small (by omega)
          cases hq : noF F x
          all_goals
            rw [hq] at hs2
            simp only [Bool.false_eq_true, if_true, if_false] at hs2
            have hs3 := Lib.hid hs2
            clear hs2 hq
            go_wp2
            go_roundw
            case rel => exact ⟨x + 1, by omega, by go_num, by rw [hs3.out] <;> rfl, hbl⟩
            case measure => exact meas hlx
    · obtain rfl : x = wd := by omega
      go_wp2
      go_ret
      exact ⟨rfl, hBw⟩
end Go.Proofs.Ytbabdoafpljdbaa
