/- MendBounds: the walk. -/
import Derived.Test.YtbabdoafpljdbaaMdLaw2
import Derived.Test.YtbabdoafpljdbaaMd39
import Derived.Test.YtbabdoafpljdbaaMd42
import Derived.Test.YtbabdoafpljdbaaMd18
import Derived.Test.YtbabdoafpljdbaaMdOpen
namespace Go.Proofs.Ytbabdoafpljdbaa
open Go.RowKit

set_option maxRecDepth 100000 in
set_option maxHeartbeats 4000000 in
theorem MendBounds_w (wd ht : Int) (s : Option Addr) (cap : Nat) (F : List Cel) (r : Int) (t : Option Addr) (ct : Nat) (k : List (List Int)) (u : Option Addr) (cu : Nat) (K : List Cel) (w : World) (h : Cels w s cap F) (_ : I64 wd) (_ : I64 ht) (_ : ∀ c ∈ F, I64 c.x ∧ I64 c.y) (_ : I64 r) (g : SlSS intE w t k) (hkl : k.length ≤ 9223372036854775807) (hkw : ∀ l ∈ k, l.length ≤ 9223372036854775807 ∧ ∀ n ∈ l, I64 n) (hu : Cels w u cu K) (_ : ∀ c ∈ K, I64 c.x ∧ I64 c.y) :
    Calls Try.prog 12 #[.agg #[.int .i64 wd, .int .i64 ht, .slice s F.length cap], .int .i64 r, .slice t k.length ct, .slice u K.length cu] w fun e w' => e = .returned (.bool true) ∧ Below w.heap.size w w' := by
  have hFl := h.len
  have hKl := hu.len
  have hll : ∀ l ∈ k, l.length ≤ 9223372036854775807 := fun l hl => (hkw l hl).1
  have hln : ∀ l ∈ k, ∀ n ∈ l, I64 n := fun l hl => (hkw l hl).2
  have hwi := fun W => wide_c wd ht s cap F.length W
  have hta := fun W (g : SlSS intE W t k) => tall_c t ct k W g hkl hll
  by_cases h200 : 200 < F.length
  · simp only [h200, decide_true] at hwi
    replace hwi := Lib.hid hwi
    clear hkw hta hll hln
    go_enter Try.func12, Try.ntmps12
    go_upto_region 1 with (fail)
    refine wp_world fun W HW => ?_
    have hB : Below w.heap.size w W := by rw [HW.out]; (repeat (first | exact Below.refl _ _ | refine Below.alloc ?_ (by simp; try omega) _ | refine Below.setCell ?_ (by simp) _ | refine Below.drew ?_))
    have bx0 : W.cell? ⟨w.heap.size, 0, none⟩ = some (.int .i64 wd) := by rw [HW.out]; simp [go_sem]
    have bx1 : W.cell? ⟨w.heap.size, 1, none⟩ = some (.int .i64 ht) := by rw [HW.out]; simp [go_sem]
    have bx2 : W.cell? ⟨w.heap.size, 2, none⟩ = some (.slice s F.length cap) := by rw [HW.out]; simp [go_sem]
    have bxl : w.heap.size < W.heap.size := World.block_lt_of_cell? W _ bx0
    try replace h := up_of hB h
    try replace g := up_of hB g
    go_wp2_with (first | (go_at_call 13; refine (hwi.out _).mono ?_; rintro e W1 ⟨rfl, hb⟩; (try replace h := up_of hb h); (try replace g := up_of hb g); (try replace hB := up_of hb hB); (try replace bx0 := up_of hb bx0); (try replace bx1 := up_of hb bx1); (try replace bx2 := up_of hb bx2); (try replace bxl := up_of hb bxl)) | (go_at_call 15; refine (Awake_c _).mono ?_; rintro e W1 ⟨rfl, hb⟩; (try replace h := up_of hb h); (try replace g := up_of hb g); (try replace hB := up_of hb hB); (try replace bx0 := up_of hb bx0); (try replace bx1 := up_of hb bx1); (try replace bx2 := up_of hb bx2); (try replace bxl := up_of hb bxl)))
    go_ret
    exact ⟨rfl, hB⟩
  simp only [h200, decide_false] at hwi
  cases hT : talB k
  case true =>
    rw [hT] at hta
    replace hwi := Lib.hid hwi; replace hta := Lib.hid hta
    clear hkw hll hln
    go_enter Try.func12, Try.ntmps12
    go_upto_region 1 with (fail)
    refine wp_world fun W HW => ?_
    have hB : Below w.heap.size w W := by rw [HW.out]; (repeat (first | exact Below.refl _ _ | refine Below.alloc ?_ (by simp; try omega) _ | refine Below.setCell ?_ (by simp) _ | refine Below.drew ?_))
    have bx0 : W.cell? ⟨w.heap.size, 0, none⟩ = some (.int .i64 wd) := by rw [HW.out]; simp [go_sem]
    have bx1 : W.cell? ⟨w.heap.size, 1, none⟩ = some (.int .i64 ht) := by rw [HW.out]; simp [go_sem]
    have bx2 : W.cell? ⟨w.heap.size, 2, none⟩ = some (.slice s F.length cap) := by rw [HW.out]; simp [go_sem]
    have bxl : w.heap.size < W.heap.size := World.block_lt_of_cell? W _ bx0
    try replace h := up_of hB h
    try replace g := up_of hB g
    go_wp2_with (first | (go_at_call 13; refine (hwi.out _).mono ?_; rintro e W1 ⟨rfl, hb⟩; (try replace h := up_of hb h); (try replace g := up_of hb g); (try replace hB := up_of hb hB); (try replace bx0 := up_of hb bx0); (try replace bx1 := up_of hb bx1); (try replace bx2 := up_of hb bx2); (try replace bxl := up_of hb bxl)) | (go_at_call 21; refine (hta.out _ g).mono ?_; rintro e w' ⟨rfl, rfl⟩) | (go_at_call 15; refine (Awake_c _).mono ?_; rintro e W1 ⟨rfl, hb⟩; (try replace h := up_of hb h); (try replace g := up_of hb g); (try replace hB := up_of hb hB); (try replace bx0 := up_of hb bx0); (try replace bx1 := up_of hb bx1); (try replace bx2 := up_of hb bx2); (try replace bxl := up_of hb bxl)))
    go_ret
    exact ⟨rfl, hB⟩
  obtain ⟨q1, q2⟩ := talB_no hT
  rw [hT] at hta
  by_cases hK200 : 200 < K.length
  · have k9 : (200 : Int) < (K.length : Int) := by omega
    replace hwi := Lib.hid hwi; replace hta := Lib.hid hta
    clear hkw hll hln hT
    go_enter Try.func12, Try.ntmps12
    go_upto_region 1 with (fail)
    refine wp_world fun W HW => ?_
    have hB : Below w.heap.size w W := by rw [HW.out]; (repeat (first | exact Below.refl _ _ | refine Below.alloc ?_ (by simp; try omega) _ | refine Below.setCell ?_ (by simp) _ | refine Below.drew ?_))
    have bx0 : W.cell? ⟨w.heap.size, 0, none⟩ = some (.int .i64 wd) := by rw [HW.out]; simp [go_sem]
    have bx1 : W.cell? ⟨w.heap.size, 1, none⟩ = some (.int .i64 ht) := by rw [HW.out]; simp [go_sem]
    have bx2 : W.cell? ⟨w.heap.size, 2, none⟩ = some (.slice s F.length cap) := by rw [HW.out]; simp [go_sem]
    have bxl : w.heap.size < W.heap.size := World.block_lt_of_cell? W _ bx0
    try replace h := up_of hB h
    try replace g := up_of hB g
    go_wp2_with (first | (go_at_call 13; refine (hwi.out _).mono ?_; rintro e W1 ⟨rfl, hb⟩; (try replace h := up_of hb h); (try replace g := up_of hb g); (try replace hB := up_of hb hB); (try replace bx0 := up_of hb bx0); (try replace bx1 := up_of hb bx1); (try replace bx2 := up_of hb bx2); (try replace bxl := up_of hb bxl)) | (go_at_call 21; refine (hta.out _ g).mono ?_; rintro e w' ⟨rfl, rfl⟩) | (go_at_call 15; refine (Awake_c _).mono ?_; rintro e W1 ⟨rfl, hb⟩; (try replace h := up_of hb h); (try replace g := up_of hb g); (try replace hB := up_of hb hB); (try replace bx0 := up_of hb bx0); (try replace bx1 := up_of hb bx1); (try replace bx2 := up_of hb bx2); (try replace bxl := up_of hb bxl)))
    go_ret
    exact ⟨rfl, hB⟩
  have k9 : ¬ (200 : Int) < (K.length : Int) := by omega
  have v := hu.sl
  have c1 := fun V (h : Cels V s cap F) => Most_c wd ht r s cap F V h
  have c2 := fun V (h : Cels V s cap F) (g : SlSS intE V t k) => Stand_c wd ht r s cap F t ct k V h g q1 hln
  have c3 := fun V (h : Cels V s cap F) (v : SlS celE V u K) => IsCut_c wd ht r s cap F u cu K V h v (by omega)
  have c4 := fun V (h : Cels V s cap F) => Living_c wd ht s cap F V h
  have b1 := bnd_stand (wd := wd) (ht := ht) (r := r) (F := F) (k := k)
  have b2 := bnd_cut (wd := wd) (ht := ht) (r := r) (F := F) (K := K)
  have b3 := bnd_live (wd := wd) (ht := ht) (r := r) (F := F)
  have b4 : opE wd ht F r = 0 → livE wd ht F = 0 := fun h => by unfold livE; rw [if_pos (opE_ok h).1]
  have hL8 : (livR wd ht F).length ≤ 8 := by
    unfold livR
    cases h1 : gvB wd ht F
    · simp
    · obtain ⟨-, h2, -⟩ := gv_facts h1
      rw [if_pos rfl, livL, List.length_map, fld_len]; omega
  obtain ⟨B, hB0⟩ : ∃ x, stB wd ht F r k = x := ⟨_, rfl⟩
  obtain ⟨E, hE⟩ : ∃ x, opE wd ht F r = x := ⟨_, rfl⟩
  obtain ⟨C, hC⟩ : ∃ x, icutB wd ht F r K = x := ⟨_, rfl⟩
  obtain ⟨M, hM⟩ : ∃ x, (clR wd ht F r).length = x := ⟨_, rfl⟩
  obtain ⟨L, hL⟩ : ∃ x, livR wd ht F = x := ⟨_, rfl⟩
  obtain ⟨E2, hE2⟩ : ∃ x, livE wd ht F = x := ⟨_, rfl⟩
  unfold LivRet at c4
  simp only [hM, hE] at c1
  simp only [hB0, hE] at c2
  simp only [hC, hE] at c3
  simp only [hL, hE2] at c4 hL8
  rw [hB0, hM] at b1
  rw [hC, hM] at b2
  rw [hE, hM, hL] at b3
  rw [hE, hE2] at b4
  have n2 : (E != E) = false := by simp
  clear hB0 hE hC hM hL hE2 hkw hll hln q2 hT hu h200 hK200
  have hMk : B = true → ¬ (M : Int) < (k.length : Int) ∧ ¬ M < k.length := fun h => by have := b1 h; omega
  have hMK : C = true → ¬ (K.length : Int) < (M : Int) ∧ ¬ K.length < M := fun h => by have := b2 h; omega
  have hkK : B = true → C = true → ¬ (K.length : Int) < (k.length : Int) ∧ ¬ K.length < k.length := fun h h' => by have := b1 h; have := b2 h'; omega
  have hLb : E = 0 → ∀ (j : Nat) (hj : j < L.length), ¬ L[j] < (M : Int) := fun e j hj => by have := b3 e _ (List.getElem_mem hj); omega
  have hE3 : (E == 0) = true ∨ (E == 0) = false := by cases (E == 0) <;> simp
  have hE4 : (E == 0) = true → E = 0 := fun h => by simpa using h
  replace c1 := Lib.hid c1; replace c2 := Lib.hid c2; replace c3 := Lib.hid c3; replace c4 := Lib.hid c4; replace hwi := Lib.hid hwi; replace hta := Lib.hid hta; replace b4 := Lib.hid b4; replace hLb := Lib.hid hLb; replace hE4 := Lib.hid hE4; replace hMk := Lib.hid hMk; replace hMK := Lib.hid hMK; replace hkK := Lib.hid hkK
  clear b1 b2 b3
  go_enter Try.func12, Try.ntmps12
  go_upto_region 1 with (fail)
  refine wp_world fun W HW => ?_
  have hB : Below w.heap.size w W := by rw [HW.out]; (repeat (first | exact Below.refl _ _ | refine Below.alloc ?_ (by simp; try omega) _ | refine Below.setCell ?_ (by simp) _ | refine Below.drew ?_))
  have bx0 : W.cell? ⟨w.heap.size, 0, none⟩ = some (.int .i64 wd) := by rw [HW.out]; simp [go_sem]
  have bx1 : W.cell? ⟨w.heap.size, 1, none⟩ = some (.int .i64 ht) := by rw [HW.out]; simp [go_sem]
  have bx2 : W.cell? ⟨w.heap.size, 2, none⟩ = some (.slice s F.length cap) := by rw [HW.out]; simp [go_sem]
  have bxl : w.heap.size < W.heap.size := World.block_lt_of_cell? W _ bx0
  try replace h := up_of hB h
  try replace g := up_of hB g
  try replace v := up_of hB v
  go_upto_region 7 with (first | (go_at_call 13; refine (hwi.out _).mono ?_; rintro e W1 ⟨rfl, hb⟩; (try replace h := up_of hb h); (try replace g := up_of hb g); (try replace v := up_of hb v); (try replace hB := up_of hb hB); (try replace bx0 := up_of hb bx0); (try replace bx1 := up_of hb bx1); (try replace bx2 := up_of hb bx2); (try replace bxl := up_of hb bxl)) | (go_at_call 21; refine (hta.out _ g).mono ?_; rintro e w' ⟨rfl, rfl⟩) | (go_at_call 16; refine (c1.out _ h).mono ?_; rintro e W1 ⟨rfl, hb⟩; (try replace h := up_of hb h); (try replace g := up_of hb g); (try replace v := up_of hb v); (try replace hB := up_of hb hB); (try replace bx0 := up_of hb bx0); (try replace bx1 := up_of hb bx1); (try replace bx2 := up_of hb bx2); (try replace bxl := up_of hb bxl)) | (go_at_call 40; refine (c2.out _ h g).mono ?_; rintro e W1 ⟨rfl, hb⟩; (try replace h := up_of hb h); (try replace g := up_of hb g); (try replace v := up_of hb v); (try replace hB := up_of hb hB); (try replace bx0 := up_of hb bx0); (try replace bx1 := up_of hb bx1); (try replace bx2 := up_of hb bx2); (try replace bxl := up_of hb bxl)) | (go_at_call 42; refine (c3.out _ h v).mono ?_; rintro e W1 ⟨rfl, hb⟩; (try replace h := up_of hb h); (try replace g := up_of hb g); (try replace v := up_of hb v); (try replace hB := up_of hb hB); (try replace bx0 := up_of hb bx0); (try replace bx1 := up_of hb bx1); (try replace bx2 := up_of hb bx2); (try replace bxl := up_of hb bxl)) | (go_at_call 30; refine (c4.out _ h).mono ?_; rintro e A1 ⟨⟨s1, k1, rfl, ho1⟩, hb⟩; (try replace h := up_of hb h); (try replace g := up_of hb g); (try replace v := up_of hb v); (try replace hB := up_of hb hB); (try replace bx0 := up_of hb bx0); (try replace bx1 := up_of hb bx1); (try replace bx2 := up_of hb bx2); (try replace bxl := up_of hb bxl)))
  have v1 := SlS.of_own (E := intE) ho1
  replace v1 := Lib.hid v1
  clear ho1 hb
  have hfin : (∃ x : Unit, True) → (B = true ∨ B = false) ∧ (C = true ∨ C = false) := fun _ => ⟨by cases B <;> simp, by cases C <;> simp⟩
  obtain ⟨hB1, hC1⟩ := hfin ⟨(), trivial⟩
  clear hfin
  rcases hE3 with k5 | k5
  · have e0 := hE4.out k5
    have e2 := b4.out e0
    subst e2
    have hL2 := Lib.hid (hLb.out e0)
    replace e0 := Lib.hid e0
    rcases hB1 with rfl | rfl <;> rcases hC1 with rfl | rfl
    all_goals
      first
      | (obtain ⟨z1, z2⟩ := hMk.out rfl; obtain ⟨z3, z4⟩ := hMK.out rfl; obtain ⟨z5, z6⟩ := hkK.out rfl rfl)
      | (obtain ⟨z1, z2⟩ := hMk.out rfl)
      | (obtain ⟨z3, z4⟩ := hMK.out rfl)
      | skip
      go_wp2
      go_loop [103] (fun jj => ∃ j : Nat, j ≤ L.length ∧ jj = .int .i64 j) (fun jj => L.length - (intOf jj).toNat)
      case atStart => exact ⟨0, by omega, rfl⟩
      case round =>
        obtain ⟨j, hj, rfl⟩ := hrel
        by_cases hlj : j < L.length
        · obtain ⟨ba, oa, ea, hba, p0⟩ := v1.out.int_at hlj
          have h1 := hL2.out j hlj
          obtain ⟨z, hz⟩ : ∃ z, L[j] = z := ⟨_, rfl⟩
          rw [hz] at p0 h1
          have j1 : (0 : Int) ≤ (j : Int) := by omega
          have j2 : (j : Int) < (L.length : Int) := by omega
          replace hz := Lib.hid hz
          subst ea
          go_wp2
          go_round
          case rel => exact ⟨j + 1, by omega, by go_num⟩
          case measure => exact meas hlj
        · obtain rfl : j = L.length := by omega
          go_wp2_with (first | (go_at_call 15; refine (Awake_c _).mono ?_; rintro e W1 ⟨rfl, hb⟩; (try replace h := up_of hb h); (try replace g := up_of hb g); (try replace v := up_of hb v); (try replace hB := up_of hb hB); (try replace bx0 := up_of hb bx0); (try replace bx1 := up_of hb bx1); (try replace bx2 := up_of hb bx2); (try replace bxl := up_of hb bxl)))
          go_ret
          exact ⟨rfl, hB⟩
  · rcases hB1 with rfl | rfl <;> rcases hC1 with rfl | rfl
    all_goals
      first
      | (obtain ⟨z1, z2⟩ := hMk.out rfl; obtain ⟨z3, z4⟩ := hMK.out rfl; obtain ⟨z5, z6⟩ := hkK.out rfl rfl)
      | (obtain ⟨z1, z2⟩ := hMk.out rfl)
      | (obtain ⟨z3, z4⟩ := hMK.out rfl)
      | skip
      go_wp2
      go_loop [103] (fun jj => ∃ j : Nat, j ≤ L.length ∧ jj = .int .i64 j) (fun jj => L.length - (intOf jj).toNat)
      case atStart => exact ⟨0, by omega, rfl⟩
      case round =>
        obtain ⟨j, hj, rfl⟩ := hrel
        by_cases hlj : j < L.length
        · obtain ⟨ba, oa, ea, hba, p0⟩ := v1.out.int_at hlj
          obtain ⟨z, hz⟩ : ∃ z, L[j] = z := ⟨_, rfl⟩
          rw [hz] at p0
          have j1 : (0 : Int) ≤ (j : Int) := by omega
          have j2 : (j : Int) < (L.length : Int) := by omega
          replace hz := Lib.hid hz
          subst ea
          go_wp2
          go_round
          case rel => exact ⟨j + 1, by omega, by go_num⟩
          case measure => exact meas hlj
        · obtain rfl : j = L.length := by omega
          go_wp2_with (first | (go_at_call 15; refine (Awake_c _).mono ?_; rintro e W1 ⟨rfl, hb⟩; (try replace h := up_of hb h); (try replace g := up_of hb g); (try replace v := up_of hb v); (try replace hB := up_of hb hB); (try replace bx0 := up_of hb bx0); (try replace bx1 := up_of hb bx1); (try replace bx2 := up_of hb bx2); (try replace bxl := up_of hb bxl)))
          go_ret
          exact ⟨rfl, hB⟩
end Go.Proofs.Ytbabdoafpljdbaa
