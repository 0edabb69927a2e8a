/- MendMeant: law and walk. -/
import Derived.Test.YtbabdoafpljdbaaMdLaw2
import Derived.Test.YtbabdoafpljdbaaMd17
import Derived.Test.YtbabdoafpljdbaaMd23
import Derived.Test.YtbabdoafpljdbaaMdOpen
namespace Go.Proofs.Ytbabdoafpljdbaa
open Go.RowKit

theorem meant_law {wd ht r : Int} {F : List Cel} (h : opE wd ht F r = 0) : ∃ fs : Nat → Nat → Nat, (∀ x, x < (clR wd ht F r).length → ∀ y : Nat, (y : Int) < ht → plE wd ht F (clR wd ht F r) ⟨x, y⟩ = 0 ∧ plX wd ht F (clR wd ht F r) ⟨x, y⟩ = fs x y ∧ plY wd ht F (clR wd ht F r) ⟨x, y⟩ = y ∧ lvE wd ht F ⟨fs x y, y⟩ = 0 ∧ lvB wd ht F ⟨fs x y, y⟩ = true ∧ (x ≠ 0 → fs (x - 1) y < fs x y)) ∧ ∀ l ∈ clR wd ht F r, l.length ≤ 200 := by
  obtain ⟨hv, hr⟩ := opE_ok h
  obtain ⟨f1, f2, f3⟩ := fld_facts hv
  obtain ⟨g1, g2, g3, g4, g5, g6⟩ := gv_nat hv
  obtain ⟨r, rfl⟩ : ∃ n : Nat, r = n := ⟨r.toNat, by omega⟩
  unfold clR
  rw [if_pos h]
  obtain ⟨fs, h1, h2⟩ := greedy_std (r := r) 13 f2 f1.1
  rw [fld_len] at h2
  obtain ⟨C, hC⟩ : ∃ x, colsM (r : Int) 13 (fld wd.toNat ht.toNat F) = x := ⟨_, rfl⟩
  rw [hC] at h1 h2 ⊢
  refine ⟨fs, fun x hx y hy => ?_, fun l hl => ?_⟩
  · have hyn : y < ht.toNat := by omega
    obtain ⟨h3, h4⟩ := h2 x hx
    obtain ⟨-, h5, h6⟩ := fld_opn.1 (h1.col x hx y (by rw [fld_len]; exact hyn)).1
    have e1 : plG C ⟨x, y⟩ = fs x y := by unfold plG; simp only [Int.toNat_natCast]; exact h4 y hyn
    have hon : onB wd ht ⟨fs x y, y⟩ = true := by unfold onB; rw [Bool.and_eq_true, bw_iff, bw_iff]; simp only; omega
    have e2 : plE wd ht F C ⟨x, y⟩ = 0 := by
      unfold plE
      rw [if_pos hv, e1, hon, if_pos]
      rw [Bool.and_eq_true, Bool.and_eq_true, bw_iff, bw_iff]
      simp only [Int.toNat_natCast]
      rw [h3]
      exact ⟨⟨by omega, by omega⟩, trivial⟩
    have e3 : lvE wd ht F ⟨fs x y, y⟩ = 0 := by unfold lvE; rw [if_pos hv, if_pos hon]
    refine ⟨e2, by unfold plX; rw [if_pos e2, e1], by unfold plY; rw [if_pos e2], e3, by unfold lvB; rw [if_pos e3]; simpa using h6, fun h0 => ?_⟩
    have := h1.lt (x - 1) (by omega) y (by rw [fld_len]; exact hyn)
    rwa [show x - 1 + 1 = x by omega] at this
  · obtain ⟨i, hi, rfl⟩ := List.getElem_of_mem hl
    have := (h2 i hi).1
    rw [List.getD_eq_getElem?_getD, List.getElem?_eq_getElem hi, Option.getD_some] at this
    omega
set_option maxRecDepth 100000 in
set_option maxHeartbeats 4000000 in
theorem MendMeant_w (wd ht : Int) (s : Option Addr) (cap : Nat) (F : List Cel) (r : Int) (w : World) (h : Cels w s cap F) (_ : I64 wd) (_ : I64 ht) (_ : ∀ c ∈ F, I64 c.x ∧ I64 c.y) (_ : I64 r) :
    Calls Try.prog 6 #[.agg #[.int .i64 wd, .int .i64 ht, .slice s F.length cap], .int .i64 r] w fun e w' => e = .returned (.bool true) ∧ Below w.heap.size w w' := by
  have hFl := h.len
  have hwi := fun W => wide_c wd ht s cap F.length W
  by_cases h200 : 200 < F.length
  · simp only [h200, decide_true] at hwi
    replace hwi := Lib.hid hwi
    go_enter Try.func6, Try.ntmps6
    go_upto_region 1 with (fail)
    refine wp_world fun W HW => ?_
    have hB : Below w.heap.size w W := by rw [HW.out]; (repeat (first | exact Below.refl _ _ | refine Below.alloc ?_ (by simp; try omega) _ | refine Below.setCell ?_ (by simp) _ | refine Below.drew ?_))
    have b0 : W.cell? ⟨w.heap.size, 0, none⟩ = some (.int .i64 wd) := by rw [HW.out]; simp [go_sem]
    have b1 : W.cell? ⟨w.heap.size, 1, none⟩ = some (.int .i64 ht) := by rw [HW.out]; simp [go_sem]
    have b2 : W.cell? ⟨w.heap.size, 2, none⟩ = some (.slice s F.length cap) := by rw [HW.out]; simp [go_sem]
    have bl : w.heap.size < W.heap.size := World.block_lt_of_cell? W _ b0
    try replace h := up_of hB h
    go_wp2_with (first | (go_at_call 13; refine (hwi.out _).mono ?_; rintro e W1 ⟨rfl, hb⟩; (try replace h := up_of hb h); (try replace hB := up_of hb hB); (try replace b0 := up_of hb b0); (try replace b1 := up_of hb b1); (try replace b2 := up_of hb b2); (try replace bl := up_of hb bl)) | (go_at_call 15; refine (Awake_c _).mono ?_; rintro e W1 ⟨rfl, hb⟩; (try replace h := up_of hb h); (try replace hB := up_of hb hB); (try replace b0 := up_of hb b0); (try replace b1 := up_of hb b1); (try replace b2 := up_of hb b2); (try replace bl := up_of hb bl)))
    go_ret
    exact ⟨rfl, hB⟩
  simp only [h200, decide_false] at hwi
  have c1 := fun V (h : Cels V s cap F) => Columns_c wd ht r s cap F V h
  unfold ColRet at c1
  replace hwi := Lib.hid hwi
  by_cases h1 : opE wd ht F r = 0
  case neg =>
    have e1 : clR wd ht F r = [] := by simp [clR, h1]
    obtain ⟨E, hE⟩ : ∃ x, opE wd ht F r = x := ⟨_, rfl⟩
    simp only [e1, hE] at c1
    rw [hE] at h1
    have n2 : (E != 0) = true := by simpa using h1
    replace c1 := Lib.hid c1
    clear e1 hE h1 h200
    go_enter Try.func6, Try.ntmps6
    go_upto_region 1 with (fail)
    refine wp_world fun W HW => ?_
    have hB : Below w.heap.size w W := by rw [HW.out]; (repeat (first | exact Below.refl _ _ | refine Below.alloc ?_ (by simp; try omega) _ | refine Below.setCell ?_ (by simp) _ | refine Below.drew ?_))
    have b0 : W.cell? ⟨w.heap.size, 0, none⟩ = some (.int .i64 wd) := by rw [HW.out]; simp [go_sem]
    have b1 : W.cell? ⟨w.heap.size, 1, none⟩ = some (.int .i64 ht) := by rw [HW.out]; simp [go_sem]
    have b2 : W.cell? ⟨w.heap.size, 2, none⟩ = some (.slice s F.length cap) := by rw [HW.out]; simp [go_sem]
    have bl : w.heap.size < W.heap.size := World.block_lt_of_cell? W _ b0
    try replace h := up_of hB h
    go_upto_region 4 with (first | (go_at_call 13; refine (hwi.out _).mono ?_; rintro e W1 ⟨rfl, hb⟩; (try replace h := up_of hb h); (try replace hB := up_of hb hB); (try replace b0 := up_of hb b0); (try replace b1 := up_of hb b1); (try replace b2 := up_of hb b2); (try replace bl := up_of hb bl)) | (go_at_call 26; refine (c1.out _ h).mono ?_; rintro e A1 ⟨⟨s1, k1, rfl, hv1, hl1⟩, hb⟩; (try replace h := up_of hb h); (try replace hB := up_of hb hB); (try replace b0 := up_of hb b0); (try replace b1 := up_of hb b1); (try replace b2 := up_of hb b2); (try replace bl := up_of hb bl)))
    clear hv1 hl1 hb
    go_wp2_with (first | (go_at_call 15; refine (Awake_c _).mono ?_; rintro e W1 ⟨rfl, hb⟩; (try replace h := up_of hb h); (try replace hB := up_of hb hB); (try replace b0 := up_of hb b0); (try replace b1 := up_of hb b1); (try replace b2 := up_of hb b2); (try replace bl := up_of hb bl)))
    go_ret
    exact ⟨rfl, hB⟩
  obtain ⟨fs, hlaw, hll⟩ := meant_law h1
  have hht : 0 ≤ ht ∧ ht ≤ 8 := by have := gv_facts (opE_ok h1).1; omega
  rw [h1] at c1
  have c2 := fun V sl cl (m : Cel) (h : Cels V s cap F) (g : SlSS intE V sl (clR wd ht F r)) (hl : (clR wd ht F r).length ≤ 13) => Place_c wd ht s cap F sl cl (clR wd ht F r) m V h g (by omega) hll
  unfold CelRet at c2
  have c3 := fun V (m : Cel) (h : Cels V s cap F) => Lives_c wd ht s cap F m V h
  unfold LvRet at c3
  obtain ⟨C, hC⟩ : ∃ x, clR wd ht F r = x := ⟨_, rfl⟩
  simp only [hC] at c1 c2 hlaw
  obtain ⟨nh, rfl⟩ : ∃ n : Nat, ht = n := ⟨ht.toNat, by omega⟩
  have hnh : nh ≤ 8 := by omega
  replace c1 := Lib.hid c1; replace c2 := Lib.hid c2; replace c3 := Lib.hid c3; replace hlaw := Lib.hid hlaw; replace hC := Lib.hid hC
  clear h1 h200 hll hht
  go_enter Try.func6, Try.ntmps6
  go_upto_region 1 with (fail)
  refine wp_world fun W HW => ?_
  have hB : Below w.heap.size w W := by rw [HW.out]; (repeat (first | exact Below.refl _ _ | refine Below.alloc ?_ (by simp; try omega) _ | refine Below.setCell ?_ (by simp) _ | refine Below.drew ?_))
  have b0 : W.cell? ⟨w.heap.size, 0, none⟩ = some (.int .i64 wd) := by rw [HW.out]; simp [go_sem]
  have b1 : W.cell? ⟨w.heap.size, 1, none⟩ = some (.int .i64 nh) := by rw [HW.out]; simp [go_sem]
  have b2 : W.cell? ⟨w.heap.size, 2, none⟩ = some (.slice s F.length cap) := by rw [HW.out]; simp [go_sem]
  have bl : w.heap.size < W.heap.size := World.block_lt_of_cell? W _ b0
  try replace h := up_of hB h
  go_upto_region 4 with (first | (go_at_call 13; refine (hwi.out _).mono ?_; rintro e W1 ⟨rfl, hb⟩; (try replace h := up_of hb h); (try replace hB := up_of hb hB); (try replace b0 := up_of hb b0); (try replace b1 := up_of hb b1); (try replace b2 := up_of hb b2); (try replace bl := up_of hb bl)) | (go_at_call 26; refine (c1.out _ h).mono ?_; rintro e A1 ⟨⟨s1, k1, rfl, hv1, hl1⟩, hb⟩; (try replace h := up_of hb h); (try replace hB := up_of hb hB); (try replace b0 := up_of hb b0); (try replace b1 := up_of hb b1); (try replace b2 := up_of hb b2); (try replace bl := up_of hb bl)))
  have hBs := hB.size
  have hA := Lib.hid h; have hvA := Lib.hid hv1; have bA0 := Lib.hid b0; have bA1 := Lib.hid b1; have bA2 := Lib.hid b2
  clear hb c1 h hv1
  go_wp2
  go_loopw [33] (fun yy V => ∃ y : Nat, y ≤ nh ∧ yy = .int .i64 y ∧ Below A1.heap.size A1 V) (fun yy _ => nh - (intOf yy).toNat)
  case atStart => exact ⟨0, by omega, rfl, Below.refl _ _⟩
  case round =>
    clear b0 b1 b2
    obtain ⟨y, hy, rfl, hbl⟩ := hrel
    by_cases hly : y < nh
    · have i1 : (0 : Int) ≤ (y : Int) := by omega
      have i2 : (y : Int) < (nh : Int) := by omega
      go_wp2
      go_loopw [8, 38] (fun ll xx V => ∃ (x : Nat) (l : Int), x ≤ C.length ∧ xx = .int .i64 x ∧ ll = .int .i64 l ∧ Below A1.heap.size A1 V ∧ Hid ((x = 0 ∧ l = -1) ∨ (x ≠ 0 ∧ l = fs (x - 1) y))) (fun _ xx _ => C.length - (intOf xx).toNat)
      case atStart => exact ⟨0, -1, by omega, rfl, rfl, hbl, .inl ⟨rfl, rfl⟩⟩
      case round =>
        clear hbl
        obtain ⟨x, l, hx, rfl, rfl, hbl, hlast⟩ := hrel
        have hbls := hbl.size
        by_cases hlx : x < C.length
        · obtain ⟨e1, e2, e3, e4, e5, e6⟩ := hlaw.out x hlx y (by omega)
          have d1 := c2.out wr s1 k1 ⟨x, y⟩ (up_of hbl hA.out) (up_of hbl hvA.out) hl1
          have d3 := fun V (h : Cels V s cap F) => c3.out V ⟨fs x y, y⟩ h
          rw [e1, e2, e3] at d1
          rw [e4, e5] at d3
          have hll : l < (fs x y : Int) := by
            rcases hlast.out with ⟨-, e⟩ | ⟨h0, e⟩
            · omega
            · have := e6 h0; omega
          obtain ⟨z, hz⟩ : ∃ z, fs x y = z := ⟨_, rfl⟩
          rw [hz] at d1 d3 hll
          have hnext : Hid ((x + 1 = 0 ∧ (z : Int) = -1) ∨ (x + 1 ≠ 0 ∧ (z : Int) = fs (x + 1 - 1) y)) := .inr ⟨by omega, by rw [Nat.add_sub_cancel, hz]⟩
          have j1 : (0 : Int) ≤ (x : Int) := by omega
          have j2 : (x : Int) < (C.length : Int) := by omega
          have k5 : ¬ (z : Int) ≤ l := by omega
          have n3 : ((y : Int) != y) = false := by simp
          have h := up_of hbl hA.out
          have b0 := Up.cell hbl bA0.out
          have b1 := Up.cell hbl bA1.out
          have b2 := Up.cell hbl bA2.out
          have bl := World.block_lt_of_cell? _ _ b0
          replace d1 := Lib.hid d1; replace d3 := Lib.hid d3; replace hz := Lib.hid hz
          clear e1 e2 e3 e4 e5 e6
          go_upto_region 14 with (first | (go_at_call 22; refine (d1.out).mono ?_; rintro e B1 ⟨rfl, hb⟩; (try replace h := up_of hb h); (try replace hbl := up_of hb hbl); (try replace b0 := up_of hb b0); (try replace b1 := up_of hb b1); (try replace b2 := up_of hb b2); (try replace bl := up_of hb bl)))
          refine wp_world fun B2 HB2 => ?_
          have h2 : Below B1.heap.size B1 B2 := by rw [HB2.out]; (repeat (first | exact Below.refl _ _ | refine Below.alloc ?_ (by simp; try omega) _ | refine Below.setCell ?_ (by simp) _ | refine Below.drew ?_))
          have cb0 : B2.cell? ⟨B1.heap.size, 0, none⟩ = some (.int .i64 z) := by rw [HB2.out]; simp [go_sem]
          have cb1 : B2.cell? ⟨B1.heap.size, 1, none⟩ = some (.int .i64 y) := by rw [HB2.out]; simp [go_sem]
          have cbl : B1.heap.size < B2.heap.size := World.block_lt_of_cell? B2 _ cb0
          try replace h := up_of h2 h
          try replace hbl := up_of h2 hbl
          try replace b0 := up_of h2 b0
          try replace b1 := up_of h2 b1
          try replace b2 := up_of h2 b2
          try replace bl := up_of h2 bl
          go_wp2_with (first | (go_at_call 27; refine (d3.out _ h).mono ?_; rintro e W1 ⟨rfl, hb⟩; (try replace h := up_of hb h); (try replace hbl := up_of hb hbl); (try replace b0 := up_of hb b0); (try replace b1 := up_of hb b1); (try replace b2 := up_of hb b2); (try replace bl := up_of hb bl); (try replace h2 := up_of hb h2); (try replace cb0 := up_of hb cb0); (try replace cb1 := up_of hb cb1); (try replace cbl := up_of hb cbl)))
          go_roundw
          case rel => exact ⟨x + 1, z, by omega, by go_num, rfl, hbl, hnext⟩
          case measure => exact meas hlx
        · obtain rfl : x = C.length := by omega
          go_wp2
          go_roundw
          case rel => exact ⟨y + 1, by omega, by go_num, hbl⟩
          case measure => exact meas hly
    · obtain rfl : y = nh := by omega
      have hBl := hB.trans (hbl.mono hBs)
      go_wp2_with (first | (go_at_call 15; refine (Awake_c _).mono ?_; rintro e W1 ⟨rfl, hb⟩; (try replace hBl := up_of hb hBl)))
      go_ret
      exact ⟨rfl, hBl⟩
end Go.Proofs.Ytbabdoafpljdbaa
