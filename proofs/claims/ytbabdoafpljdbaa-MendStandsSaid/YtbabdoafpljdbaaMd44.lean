/- MendStands: the walk. -/
import Derived.Test.YtbabdoafpljdbaaMd40
import Derived.Test.YtbabdoafpljdbaaMd43
import Derived.Test.YtbabdoafpljdbaaMd18
import Derived.Test.YtbabdoafpljdbaaMdOpen
namespace Go.Proofs.Ytbabdoafpljdbaa
open Go.RowKit

set_option maxRecDepth 100000 in
set_option maxHeartbeats 2000000 in
theorem MendStands_w (wd ht : Int) (s : Option Addr) (cap : Nat) (F : List Cel) (r : Int) (t : Option Addr) (ct : Nat) (k : List (List Int)) (u : Option Addr) (cu : Nat) (K : List Cel) (w : World) (h : Cels w s cap F) (_ : I64 wd) (_ : I64 ht) (_ : ∀ c ∈ F, I64 c.x ∧ I64 c.y) (_ : I64 r) (g : SlSS intE w t k) (hkl : k.length ≤ 9223372036854775807) (hkw : ∀ l ∈ k, l.length ≤ 9223372036854775807 ∧ ∀ n ∈ l, I64 n) (hu : Cels w u cu K) (_ : ∀ c ∈ K, I64 c.x ∧ I64 c.y) :
    Calls Try.prog 10 #[.agg #[.int .i64 wd, .int .i64 ht, .slice s F.length cap], .int .i64 r, .slice t k.length ct, .slice u K.length cu] w fun e w' => e = .returned (.bool true) ∧ Below w.heap.size w w' := by
  have hFl := h.len
  have hKl := hu.len
  have hll : ∀ l ∈ k, l.length ≤ 9223372036854775807 := fun l hl => (hkw l hl).1
  have hln : ∀ l ∈ k, ∀ n ∈ l, I64 n := fun l hl => (hkw l hl).2
  have hwi := fun W => wide_c wd ht s cap F.length W
  have hta := fun W (g : SlSS intE W t k) => tall_c t ct k W g hkl hll
  by_cases h200 : 200 < F.length
  · simp only [h200, decide_true] at hwi
    replace hwi := Lib.hid hwi
    clear hkw hta hll hln
    go_enter Try.func10, Try.ntmps10
    go_upto_region 1 with (fail)
    refine wp_world fun W HW => ?_
    have hB : Below w.heap.size w W := by rw [HW.out]; (repeat (first | exact Below.refl _ _ | refine Below.alloc ?_ (by simp; try omega) _ | refine Below.setCell ?_ (by simp) _ | refine Below.drew ?_))
    have bx0 : W.cell? ⟨w.heap.size, 0, none⟩ = some (.int .i64 wd) := by rw [HW.out]; simp [go_sem]
    have bx1 : W.cell? ⟨w.heap.size, 1, none⟩ = some (.int .i64 ht) := by rw [HW.out]; simp [go_sem]
    have bx2 : W.cell? ⟨w.heap.size, 2, none⟩ = some (.slice s F.length cap) := by rw [HW.out]; simp [go_sem]
    have bxl : w.heap.size < W.heap.size := World.block_lt_of_cell? W _ bx0
    try replace h := up_of hB h
    try replace g := up_of hB g
    go_wp2_with (first | (go_at_call 13; refine (hwi.out _).mono ?_; rintro e W1 ⟨rfl, hb⟩; (try replace h := up_of hb h); (try replace g := up_of hb g); (try replace hB := up_of hb hB); (try replace bx0 := up_of hb bx0); (try replace bx1 := up_of hb bx1); (try replace bx2 := up_of hb bx2); (try replace bxl := up_of hb bxl)) | (go_at_call 15; refine (Awake_c _).mono ?_; rintro e W1 ⟨rfl, hb⟩; (try replace h := up_of hb h); (try replace g := up_of hb g); (try replace hB := up_of hb hB); (try replace bx0 := up_of hb bx0); (try replace bx1 := up_of hb bx1); (try replace bx2 := up_of hb bx2); (try replace bxl := up_of hb bxl)))
    go_ret
    exact ⟨rfl, hB⟩
  simp only [h200, decide_false] at hwi
  cases hT : talB k
  case true =>
    rw [hT] at hta
    replace hwi := Lib.hid hwi; replace hta := Lib.hid hta
    clear hkw hll hln
    go_enter Try.func10, Try.ntmps10
    go_upto_region 1 with (fail)
    refine wp_world fun W HW => ?_
    have hB : Below w.heap.size w W := by rw [HW.out]; (repeat (first | exact Below.refl _ _ | refine Below.alloc ?_ (by simp; try omega) _ | refine Below.setCell ?_ (by simp) _ | refine Below.drew ?_))
    have bx0 : W.cell? ⟨w.heap.size, 0, none⟩ = some (.int .i64 wd) := by rw [HW.out]; simp [go_sem]
    have bx1 : W.cell? ⟨w.heap.size, 1, none⟩ = some (.int .i64 ht) := by rw [HW.out]; simp [go_sem]
    have bx2 : W.cell? ⟨w.heap.size, 2, none⟩ = some (.slice s F.length cap) := by rw [HW.out]; simp [go_sem]
    have bxl : w.heap.size < W.heap.size := World.block_lt_of_cell? W _ bx0
    try replace h := up_of hB h
    try replace g := up_of hB g
    go_wp2_with (first | (go_at_call 13; refine (hwi.out _).mono ?_; rintro e W1 ⟨rfl, hb⟩; (try replace h := up_of hb h); (try replace g := up_of hb g); (try replace hB := up_of hb hB); (try replace bx0 := up_of hb bx0); (try replace bx1 := up_of hb bx1); (try replace bx2 := up_of hb bx2); (try replace bxl := up_of hb bxl)) | (go_at_call 21; refine (hta.out _ g).mono ?_; rintro e w' ⟨rfl, rfl⟩) | (go_at_call 15; refine (Awake_c _).mono ?_; rintro e W1 ⟨rfl, hb⟩; (try replace h := up_of hb h); (try replace g := up_of hb g); (try replace hB := up_of hb hB); (try replace bx0 := up_of hb bx0); (try replace bx1 := up_of hb bx1); (try replace bx2 := up_of hb bx2); (try replace bxl := up_of hb bxl)))
    go_ret
    exact ⟨rfl, hB⟩
  obtain ⟨q1, q2⟩ := talB_no hT
  rw [hT] at hta
  by_cases hK200 : 200 < K.length
  · have k9 : (200 : Int) < (K.length : Int) := by omega
    replace hwi := Lib.hid hwi; replace hta := Lib.hid hta
    clear hkw hll hln hT
    go_enter Try.func10, Try.ntmps10
    go_upto_region 1 with (fail)
    refine wp_world fun W HW => ?_
    have hB : Below w.heap.size w W := by rw [HW.out]; (repeat (first | exact Below.refl _ _ | refine Below.alloc ?_ (by simp; try omega) _ | refine Below.setCell ?_ (by simp) _ | refine Below.drew ?_))
    have bx0 : W.cell? ⟨w.heap.size, 0, none⟩ = some (.int .i64 wd) := by rw [HW.out]; simp [go_sem]
    have bx1 : W.cell? ⟨w.heap.size, 1, none⟩ = some (.int .i64 ht) := by rw [HW.out]; simp [go_sem]
    have bx2 : W.cell? ⟨w.heap.size, 2, none⟩ = some (.slice s F.length cap) := by rw [HW.out]; simp [go_sem]
    have bxl : w.heap.size < W.heap.size := World.block_lt_of_cell? W _ bx0
    try replace h := up_of hB h
    try replace g := up_of hB g
    go_wp2_with (first | (go_at_call 13; refine (hwi.out _).mono ?_; rintro e W1 ⟨rfl, hb⟩; (try replace h := up_of hb h); (try replace g := up_of hb g); (try replace hB := up_of hb hB); (try replace bx0 := up_of hb bx0); (try replace bx1 := up_of hb bx1); (try replace bx2 := up_of hb bx2); (try replace bxl := up_of hb bxl)) | (go_at_call 21; refine (hta.out _ g).mono ?_; rintro e w' ⟨rfl, rfl⟩) | (go_at_call 15; refine (Awake_c _).mono ?_; rintro e W1 ⟨rfl, hb⟩; (try replace h := up_of hb h); (try replace g := up_of hb g); (try replace hB := up_of hb hB); (try replace bx0 := up_of hb bx0); (try replace bx1 := up_of hb bx1); (try replace bx2 := up_of hb bx2); (try replace bxl := up_of hb bxl)))
    go_ret
    exact ⟨rfl, hB⟩
  have k9 : ¬ (200 : Int) < (K.length : Int) := by omega
  have v := hu.sl
  have c1 := fun V (h : Cels V s cap F) (g : SlSS intE V t k) => Stand_c wd ht r s cap F t ct k V h g q1 hln
  have c2 := fun V (h : Cels V s cap F) (g : SlSS intE V t k) => rStand_c wd ht r s cap F t ct k V h g q1 hln
  have c3 := fun V (h : Cels V s cap F) (v : SlS celE V u K) => IsCut_c wd ht r s cap F u cu K V h v (by omega)
  have c4 := fun V (h : Cels V s cap F) (v : SlS celE V u K) => rIsCut_c wd ht r s cap F u cu K V h v (by omega)
  obtain ⟨B, hB0⟩ : ∃ x, stB wd ht F r k = x := ⟨_, rfl⟩
  obtain ⟨E, hE⟩ : ∃ x, opE wd ht F r = x := ⟨_, rfl⟩
  obtain ⟨C, hC⟩ : ∃ x, icutB wd ht F r K = x := ⟨_, rfl⟩
  simp only [hB0, hE] at c1 c2
  simp only [hC, hE] at c3 c4
  have n1 : (B == B) = true := by simp
  have n2 : (E == E) = true := by simp
  have n3 : (C == C) = true := by simp
  replace c1 := Lib.hid c1; replace c2 := Lib.hid c2; replace c3 := Lib.hid c3; replace c4 := Lib.hid c4; replace hwi := Lib.hid hwi; replace hta := Lib.hid hta
  clear hB0 hE hC hkw hll hln q2 hT hu h200 hK200
  go_enter Try.func10, Try.ntmps10
  go_upto_region 1 with (fail)
  refine wp_world fun W HW => ?_
  have hB : Below w.heap.size w W := by rw [HW.out]; (repeat (first | exact Below.refl _ _ | refine Below.alloc ?_ (by simp; try omega) _ | refine Below.setCell ?_ (by simp) _ | refine Below.drew ?_))
  have bx0 : W.cell? ⟨w.heap.size, 0, none⟩ = some (.int .i64 wd) := by rw [HW.out]; simp [go_sem]
  have bx1 : W.cell? ⟨w.heap.size, 1, none⟩ = some (.int .i64 ht) := by rw [HW.out]; simp [go_sem]
  have bx2 : W.cell? ⟨w.heap.size, 2, none⟩ = some (.slice s F.length cap) := by rw [HW.out]; simp [go_sem]
  have bxl : w.heap.size < W.heap.size := World.block_lt_of_cell? W _ bx0
  try replace h := up_of hB h
  try replace g := up_of hB g
  try replace v := up_of hB v
  go_wp2_with (first | (go_at_call 13; refine (hwi.out _).mono ?_; rintro e W1 ⟨rfl, hb⟩; (try replace h := up_of hb h); (try replace g := up_of hb g); (try replace v := up_of hb v); (try replace hB := up_of hb hB); (try replace bx0 := up_of hb bx0); (try replace bx1 := up_of hb bx1); (try replace bx2 := up_of hb bx2); (try replace bxl := up_of hb bxl)) | (go_at_call 21; refine (hta.out _ g).mono ?_; rintro e w' ⟨rfl, rfl⟩) | (go_at_call 40; refine (c1.out _ h g).mono ?_; rintro e W1 ⟨rfl, hb⟩; (try replace h := up_of hb h); (try replace g := up_of hb g); (try replace v := up_of hb v); (try replace hB := up_of hb hB); (try replace bx0 := up_of hb bx0); (try replace bx1 := up_of hb bx1); (try replace bx2 := up_of hb bx2); (try replace bxl := up_of hb bxl)) | (go_at_call 41; refine (c2.out _ h g).mono ?_; rintro e W1 ⟨rfl, hb⟩; (try replace h := up_of hb h); (try replace g := up_of hb g); (try replace v := up_of hb v); (try replace hB := up_of hb hB); (try replace bx0 := up_of hb bx0); (try replace bx1 := up_of hb bx1); (try replace bx2 := up_of hb bx2); (try replace bxl := up_of hb bxl)) | (go_at_call 42; refine (c3.out _ h v).mono ?_; rintro e W1 ⟨rfl, hb⟩; (try replace h := up_of hb h); (try replace g := up_of hb g); (try replace v := up_of hb v); (try replace hB := up_of hb hB); (try replace bx0 := up_of hb bx0); (try replace bx1 := up_of hb bx1); (try replace bx2 := up_of hb bx2); (try replace bxl := up_of hb bxl)) | (go_at_call 43; refine (c4.out _ h v).mono ?_; rintro e W1 ⟨rfl, hb⟩; (try replace h := up_of hb h); (try replace g := up_of hb g); (try replace v := up_of hb v); (try replace hB := up_of hb hB); (try replace bx0 := up_of hb bx0); (try replace bx1 := up_of hb bx1); (try replace bx2 := up_of hb bx2); (try replace bxl := up_of hb bxl)) | (go_at_call 15; refine (Awake_c _).mono ?_; rintro e W1 ⟨rfl, hb⟩; (try replace h := up_of hb h); (try replace g := up_of hb g); (try replace v := up_of hb v); (try replace hB := up_of hb hB); (try replace bx0 := up_of hb bx0); (try replace bx1 := up_of hb bx1); (try replace bx2 := up_of hb bx2); (try replace bxl := up_of hb bxl)))
  go_ret
  exact ⟨rfl, hB⟩
end Go.Proofs.Ytbabdoafpljdbaa
