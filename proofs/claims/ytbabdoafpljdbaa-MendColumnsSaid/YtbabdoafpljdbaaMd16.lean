/- MendColumns: the walk. -/
import Derived.Test.YtbabdoafpljdbaaMd15
import Derived.Test.YtbabdoafpljdbaaMdOpen
namespace Go.Proofs.Ytbabdoafpljdbaa
open Go.RowKit

set_option maxRecDepth 100000 in
set_option maxHeartbeats 1000000 in
theorem MendColumns_w (wd ht : Int) (s : Option Addr) (cap : Nat) (F : List Cel) (r : Int) (t : Option Addr) (ct : Nat) (c : List Int) (w : World) (h : Cels w s cap F) (_ : I64 wd) (_ : I64 ht) (_ : ∀ c ∈ F, I64 c.x ∧ I64 c.y) (_ : I64 r) (gi : Ints w t c) (_ : t = none → ct = 0) (_ : c.length ≤ ct) (hcw : ∀ n ∈ c, I64 n) :
    Calls Try.prog 4 #[.agg #[.int .i64 wd, .int .i64 ht, .slice s F.length cap], .int .i64 r, .slice t c.length ct] w fun e w' => e = .returned (.bool true) ∧ Below w.heap.size w w' := by
  have g := gi.sl
  have gl := gi.len
  have hFl := h.len
  clear gi
  have hwi := fun W => wide_c wd ht s cap F.length W
  by_cases h200 : 200 < F.length
  · simp only [h200, decide_true] at hwi
    replace hwi := Lib.hid hwi
    go_enter Try.func4, Try.ntmps4
    go_upto_region 1 with (fail)
    refine wp_world fun W HW => ?_
    have hB : Below w.heap.size w W := by rw [HW.out]; (repeat (first | exact Below.refl _ _ | refine Below.alloc ?_ (by simp; try omega) _ | refine Below.setCell ?_ (by simp) _ | refine Below.drew ?_))
    have b0 : W.cell? ⟨w.heap.size, 0, none⟩ = some (.int .i64 wd) := by rw [HW.out]; simp [go_sem]
    have b1 : W.cell? ⟨w.heap.size, 1, none⟩ = some (.int .i64 ht) := by rw [HW.out]; simp [go_sem]
    have b2 : W.cell? ⟨w.heap.size, 2, none⟩ = some (.slice s F.length cap) := by rw [HW.out]; simp [go_sem]
    have bl : w.heap.size < W.heap.size := World.block_lt_of_cell? W _ b0
    try replace h := up_of hB h
    try replace g := up_of hB g
    have hBs := hB.size
    go_wp2_with (first | (go_at_call 13; refine (hwi.out _).mono ?_; rintro e W1 ⟨rfl, hb⟩; (try replace h := up_of hb h); (try replace g := up_of hb g); (try replace hB := up_of hb hB); (try replace b0 := up_of hb b0); (try replace b1 := up_of hb b1); (try replace b2 := up_of hb b2); (try replace bl := up_of hb bl)) | (go_at_call 15; refine (Awake_c _).mono ?_; rintro e W1 ⟨rfl, hb⟩; (try replace h := up_of hb h); (try replace g := up_of hb g); (try replace hB := up_of hb hB); (try replace b0 := up_of hb b0); (try replace b1 := up_of hb b1); (try replace b2 := up_of hb b2); (try replace bl := up_of hb bl)))
    go_ret
    exact ⟨rfl, hB⟩
  simp only [h200, decide_false] at hwi
  by_cases h100 : 100 < c.length
  · replace hwi := Lib.hid hwi
    have h41 : (100 : Int) < (c.length : Int) := by omega
    go_enter Try.func4, Try.ntmps4
    go_upto_region 1 with (fail)
    refine wp_world fun W HW => ?_
    have hB : Below w.heap.size w W := by rw [HW.out]; (repeat (first | exact Below.refl _ _ | refine Below.alloc ?_ (by simp; try omega) _ | refine Below.setCell ?_ (by simp) _ | refine Below.drew ?_))
    have b0 : W.cell? ⟨w.heap.size, 0, none⟩ = some (.int .i64 wd) := by rw [HW.out]; simp [go_sem]
    have b1 : W.cell? ⟨w.heap.size, 1, none⟩ = some (.int .i64 ht) := by rw [HW.out]; simp [go_sem]
    have b2 : W.cell? ⟨w.heap.size, 2, none⟩ = some (.slice s F.length cap) := by rw [HW.out]; simp [go_sem]
    have bl : w.heap.size < W.heap.size := World.block_lt_of_cell? W _ b0
    try replace h := up_of hB h
    try replace g := up_of hB g
    go_wp2_with (first | (go_at_call 13; refine (hwi.out _).mono ?_; rintro e W1 ⟨rfl, hb⟩; (try replace h := up_of hb h); (try replace g := up_of hb g); (try replace hB := up_of hb hB); (try replace b0 := up_of hb b0); (try replace b1 := up_of hb b1); (try replace b2 := up_of hb b2); (try replace bl := up_of hb bl)) | (go_at_call 15; refine (Awake_c _).mono ?_; rintro e W1 ⟨rfl, hb⟩; (try replace h := up_of hb h); (try replace g := up_of hb g); (try replace hB := up_of hb hB); (try replace b0 := up_of hb b0); (try replace b1 := up_of hb b1); (try replace b2 := up_of hb b2); (try replace bl := up_of hb bl)))
    go_ret
    exact ⟨rfl, hB⟩
  have h41 : ¬ (100 : Int) < (c.length : Int) := by omega
  have c1 := fun V (h : Cels V s cap F) (g : SlS intE V t c) => IsColumn_c wd ht r s cap F t ct c V h g (by omega) hcw
  have c2 := fun V (h : Cels V s cap F) (g : SlS intE V t c) => rIsColumn_c wd ht r s cap F t ct c V h g (by omega) hcw
  obtain ⟨B, hB⟩ : ∃ x, icB wd ht F r c = x := ⟨_, rfl⟩
  obtain ⟨E, hE⟩ : ∃ x, opE wd ht F r = x := ⟨_, rfl⟩
  rw [hB, hE] at c1 c2
  replace c1 := Lib.hid c1; replace c2 := Lib.hid c2; replace hwi := Lib.hid hwi; replace hcw := Lib.hid hcw
  clear hB hE h100 h200
  go_enter Try.func4, Try.ntmps4
  go_upto_region 1 with (fail)
  refine wp_world fun W HW => ?_
  have hB : Below w.heap.size w W := by rw [HW.out]; (repeat (first | exact Below.refl _ _ | refine Below.alloc ?_ (by simp; try omega) _ | refine Below.setCell ?_ (by simp) _ | refine Below.drew ?_))
  have b0 : W.cell? ⟨w.heap.size, 0, none⟩ = some (.int .i64 wd) := by rw [HW.out]; simp [go_sem]
  have b1 : W.cell? ⟨w.heap.size, 1, none⟩ = some (.int .i64 ht) := by rw [HW.out]; simp [go_sem]
  have b2 : W.cell? ⟨w.heap.size, 2, none⟩ = some (.slice s F.length cap) := by rw [HW.out]; simp [go_sem]
  have bl : w.heap.size < W.heap.size := World.block_lt_of_cell? W _ b0
  try replace h := up_of hB h
  try replace g := up_of hB g
  go_wp2_with (first | (go_at_call 13; refine (hwi.out _).mono ?_; rintro e W1 ⟨rfl, hb⟩; (try replace h := up_of hb h); (try replace g := up_of hb g); (try replace hB := up_of hb hB); (try replace b0 := up_of hb b0); (try replace b1 := up_of hb b1); (try replace b2 := up_of hb b2); (try replace bl := up_of hb bl)) | (go_at_call 19; refine (c1.out _ h g).mono ?_; rintro e W1 ⟨rfl, hb⟩; (try replace h := up_of hb h); (try replace g := up_of hb g); (try replace hB := up_of hb hB); (try replace b0 := up_of hb b0); (try replace b1 := up_of hb b1); (try replace b2 := up_of hb b2); (try replace bl := up_of hb bl)) | (go_at_call 20; refine (c2.out _ h g).mono ?_; rintro e W1 ⟨rfl, hb⟩; (try replace h := up_of hb h); (try replace g := up_of hb g); (try replace hB := up_of hb hB); (try replace b0 := up_of hb b0); (try replace b1 := up_of hb b1); (try replace b2 := up_of hb b2); (try replace bl := up_of hb bl)) | (go_at_call 15; refine (Awake_c _).mono ?_; rintro e W1 ⟨rfl, hb⟩; (try replace h := up_of hb h); (try replace g := up_of hb g); (try replace hB := up_of hb hB); (try replace b0 := up_of hb b0); (try replace b1 := up_of hb b1); (try replace b2 := up_of hb b2); (try replace bl := up_of hb bl)))
  go_ret
  exact ⟨rfl, hB⟩
end Go.Proofs.Ytbabdoafpljdbaa
