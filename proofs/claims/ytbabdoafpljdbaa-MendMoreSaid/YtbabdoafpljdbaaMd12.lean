/- The sanity check; the reference's valid grids. -/
import Derived.Test.YtbabdoafpljdbaaMd11
namespace Go.Proofs.Ytbabdoafpljdbaa
open Go.RowKit

def awF : List Cel := [⟨0, 0⟩, ⟨2, 1⟩]
theorem aw_n : ((clR 3 2 awF 1).length : Nat) = 2 := by decide +kernel
theorem aw_e : opE 3 2 awF 1 = 0 := by decide +kernel
theorem aw_cels (w : World) : Cels (w.alloc (.cells #[.int .i64 0, .int .i64 0, .int .i64 2, .int .i64 1] 26)) (some ⟨w.heap.size, 0, none⟩) 2 awF := by
  refine ⟨.inr ⟨w.heap.size, 0, rfl, by simp, fun j u hj => ?_⟩, by decide, (fun e => by cases e), by decide⟩
  rw [Nat.zero_add]
  have hr : (w.alloc (.cells #[.int .i64 0, .int .i64 0, .int .i64 2, .int .i64 1] 26)).heap[w.heap.size]? = some (.cells #[.int .i64 0, .int .i64 0, .int .i64 2, .int .i64 1] 26 (0, 0)) := heap_alloc_new w _
  rw [cell_of_row _ w.heap.size j _ _ (0, 0) hr]
  simpa [awF, Elt.all, celE, Cel.cells] using hj
set_option maxRecDepth 100000 in
theorem Awake_c (w : World) : Calls Try.prog 15 #[] w fun e w' => e = .returned (.bool true) ∧ Below w.heap.size w w' := by
  have H : Calls Try.prog 16 #[.agg #[.int .i64 3, .int .i64 2, .slice (some ⟨w.heap.size, 0, none⟩) 2 2], .int .i64 1] (w.alloc (.cells #[.int .i64 0, .int .i64 0, .int .i64 2, .int .i64 1] 26))
      fun e w' => e = .returned (.tuple #[.int .i64 2, .int .i64 0]) ∧ Below w.heap.size w w' := by
    have h := Most_c 3 2 1 _ 2 awF _ (aw_cels w)
    rw [aw_n, aw_e] at h
    refine h.mono ?_
    rintro e w' ⟨he, hb⟩
    exact ⟨he, ((Below.refl _ w).alloc (Nat.le_refl _) _).trans (hb.mono (by simp))⟩
  replace H := Lib.hid H
  go_enter Try.func15, Try.ntmps15
  go_wp2_with (go_at_call 16; refine H.out.mono ?_; rintro e w' ⟨rfl, hb⟩)
  go_ret
  exact ⟨rfl, hb⟩
set_option maxRecDepth 100000 in
theorem wide_c (wd ht : Int) (s : Option Addr) (cap n : Nat) (w : World) :
    Calls Try.prog 13 #[.agg #[.int .i64 wd, .int .i64 ht, .slice s n cap]] w fun e w' => e = .returned (.bool (decide (200 < n))) ∧ Below w.heap.size w w' := by
  by_cases h : 200 < n
  all_goals
    go_enter Try.func13, Try.ntmps13
    go_upto_region 1 with (fail)
    refine wp_world fun W HW => ?_
    have hB : Below w.heap.size w W := by rw [HW.out]; (repeat (first | exact Below.refl _ _ | refine Below.alloc ?_ (by simp; try omega) _ | refine Below.setCell ?_ (by simp) _ | refine Below.drew ?_))
    have g0 : W.cell? ⟨w.heap.size, 0, none⟩ = some (.int .i64 wd) := by rw [HW.out]; simp [go_sem]
    have g1 : W.cell? ⟨w.heap.size, 1, none⟩ = some (.int .i64 ht) := by rw [HW.out]; simp [go_sem]
    have g2 : W.cell? ⟨w.heap.size, 2, none⟩ = some (.slice s n cap) := by rw [HW.out]; simp [go_sem]
    have gl : w.heap.size < W.heap.size := World.block_lt_of_cell? W _ g0
    go_wp2
    go_ret
    exact ⟨ret_bool (by simp [h]; omega), hB⟩
set_option maxRecDepth 100000 in
theorem ron_c (wd ht : Int) (s : Option Addr) (n cap : Nat) (c : Cel) (w : World) :
    Calls Try.prog 45 #[.agg #[.int .i64 wd, .int .i64 ht, .slice s n cap], .agg #[.int .i64 c.x, .int .i64 c.y]] w fun e w' => e = .returned (.bool (onB wd ht c)) ∧ Below w.heap.size w w' := by
  obtain ⟨x, y⟩ := c
  obtain ⟨B, hB0⟩ : ∃ B, onB wd ht ⟨x, y⟩ = B := ⟨_, rfl⟩
  have hc : (¬ 0 ≤ x ∧ B = false) ∨ (0 ≤ x ∧ ¬ x < wd ∧ B = false) ∨ (0 ≤ x ∧ x < wd ∧ ¬ 0 ≤ y ∧ B = false) ∨ (0 ≤ x ∧ x < wd ∧ 0 ≤ y ∧ ¬ y < ht ∧ B = false) ∨ (0 ≤ x ∧ x < wd ∧ 0 ≤ y ∧ y < ht ∧ B = true) := by
    have e : onB wd ht ⟨x, y⟩ = (bw 0 x (wd - 1) && bw 0 y (ht - 1)) := rfl
    rw [e] at hB0
    by_cases a : 0 ≤ x ∧ x < wd
    · have a1 : bw 0 x (wd - 1) = true := bw_iff.2 (by omega)
      by_cases b : 0 ≤ y ∧ y < ht
      · have b1 : bw 0 y (ht - 1) = true := bw_iff.2 (by omega)
        rw [a1, b1] at hB0
        exact .inr (.inr (.inr (.inr ⟨a.1, a.2, b.1, b.2, hB0.symm⟩)))
      · have b1 : bw 0 y (ht - 1) = false := by rw [Bool.eq_false_iff]; intro h; have := bw_iff.1 h; omega
        rw [a1, b1] at hB0
        have : B = false := hB0.symm
        subst this
        by_cases b2 : 0 ≤ y
        · exact .inr (.inr (.inr (.inl ⟨a.1, a.2, b2, by omega, rfl⟩)))
        · exact .inr (.inr (.inl ⟨a.1, a.2, b2, rfl⟩))
    · have a1 : bw 0 x (wd - 1) = false := by rw [Bool.eq_false_iff]; intro h; have := bw_iff.1 h; omega
      rw [a1] at hB0
      have : B = false := by rw [← hB0]; rfl
      subst this
      by_cases a2 : 0 ≤ x
      · exact .inr (.inl ⟨a2, by omega, rfl⟩)
      · exact .inl ⟨a2, rfl⟩
  rw [hB0]
  clear hB0
  rcases hc with ⟨a1, rfl⟩ | ⟨a1, a2, rfl⟩ | ⟨a1, a2, a3, rfl⟩ | ⟨a1, a2, a3, a4, rfl⟩ | ⟨a1, a2, a3, a4, rfl⟩
  all_goals
    go_enter Try.func45, Try.ntmps45
    go_upto_region 1 with (fail)
    refine wp_world fun W HW => ?_
    have hB : Below w.heap.size w W := by rw [HW.out]; (repeat (first | exact Below.refl _ _ | refine Below.alloc ?_ (by simp; try omega) _ | refine Below.setCell ?_ (by simp) _ | refine Below.drew ?_))
    have g0 : W.cell? ⟨w.heap.size, 0, none⟩ = some (.int .i64 wd) := by rw [HW.out]; simp [go_sem]
    have g1 : W.cell? ⟨w.heap.size, 1, none⟩ = some (.int .i64 ht) := by rw [HW.out]; simp [go_sem]
    have g2 : W.cell? ⟨w.heap.size, 2, none⟩ = some (.slice s n cap) := by rw [HW.out]; simp [go_sem]
    have gl : w.heap.size < W.heap.size := World.block_lt_of_cell? W _ g0
    have c0 : W.cell? ⟨w.heap.size + 1, 0, none⟩ = some (.int .i64 x) := by rw [HW.out]; simp [go_sem]
    have c1 : W.cell? ⟨w.heap.size + 1, 1, none⟩ = some (.int .i64 y) := by rw [HW.out]; simp [go_sem]
    have cl : w.heap.size + 1 < W.heap.size := World.block_lt_of_cell? W _ c0
    go_wp2
    go_ret
    exact ⟨rfl, hB⟩
set_option maxRecDepth 100000 in
set_option maxHeartbeats 1000000 in
theorem rValid_c (wd ht : Int) (s : Option Addr) (cap : Nat) (F : List Cel) (w : World) (h : Cels w s cap F) :
    Calls Try.prog 14 #[.agg #[.int .i64 wd, .int .i64 ht, .slice s F.length cap]] w fun e w' => e = .returned (.bool (gvB wd ht F)) ∧ Below w.heap.size w w' := by
  have hl := h.len
  obtain ⟨B, hB0⟩ : ∃ B, gvB wd ht F = B := ⟨_, rfl⟩
  have hno : ∀ c ∈ F, onB wd ht c = false → B = false := fun c hc h => by
    rw [← hB0, Bool.eq_false_iff]
    intro hg
    simp only [gvB, Bool.and_eq_true, List.all_eq_true] at hg
    have := hg.2 c hc
    rw [h] at this; cases this
  have hyes : (∀ j (hj : j < F.length), onB wd ht F[j] = true) → (¬ 1 ≤ wd ∧ B = false) ∨ (1 ≤ wd ∧ ¬ wd ≤ 12 ∧ B = false) ∨ (1 ≤ wd ∧ wd ≤ 12 ∧ ¬ 1 ≤ ht ∧ B = false) ∨ (1 ≤ wd ∧ wd ≤ 12 ∧ 1 ≤ ht ∧ ¬ ht ≤ 8 ∧ B = false) ∨ (1 ≤ wd ∧ wd ≤ 12 ∧ 1 ≤ ht ∧ ht ≤ 8 ∧ ¬ (F.length : Int) ≤ 96 ∧ B = false) ∨ (1 ≤ wd ∧ wd ≤ 12 ∧ 1 ≤ ht ∧ ht ≤ 8 ∧ (F.length : Int) ≤ 96 ∧ B = true) := fun hall => by
    have ha : F.all (onB wd ht) = true := by
      rw [List.all_eq_true]; intro c hc
      obtain ⟨j, hj, rfl⟩ := List.getElem_of_mem hc
      exact hall j hj
    have e : B = (decide (1 ≤ wd) && decide (wd ≤ 12) && (decide (1 ≤ ht) && decide (ht ≤ 8)) && decide (F.length ≤ 96)) := by rw [← hB0, gvB, ha]; simp [bw]
    by_cases a1 : 1 ≤ wd
    · by_cases a2 : wd ≤ 12
      · by_cases a3 : 1 ≤ ht
        · by_cases a4 : ht ≤ 8
          · by_cases a5 : F.length ≤ 96
            · exact .inr (.inr (.inr (.inr (.inr ⟨a1, a2, a3, a4, by omega, by rw [e]; simp [a1, a2, a3, a4, a5]⟩))))
            · exact .inr (.inr (.inr (.inr (.inl ⟨a1, a2, a3, a4, by omega, by rw [e]; simp [a5]⟩))))
          · exact .inr (.inr (.inr (.inl ⟨a1, a2, a3, a4, by rw [e]; simp [a4]⟩)))
        · exact .inr (.inr (.inl ⟨a1, a2, a3, by rw [e]; simp [a3]⟩))
      · exact .inr (.inl ⟨a1, a2, by rw [e]; simp [a2]⟩)
    · exact .inl ⟨a1, by rw [e]; simp [a1]⟩
  rw [hB0]
  have hon := fun V c => ron_c wd ht s F.length cap c V
  have h0 := Lib.hid h.sl
  replace hno := Lib.hid hno; replace hyes := Lib.hid hyes; replace hon := Lib.hid hon
  clear hB0 h
  go_enter Try.func14, Try.ntmps14
  go_upto_region 1 with (fail)
  refine wp_world fun W HW => ?_
  have hB : Below w.heap.size w W := by rw [HW.out]; (repeat (first | exact Below.refl _ _ | refine Below.alloc ?_ (by simp; try omega) _ | refine Below.setCell ?_ (by simp) _ | refine Below.drew ?_))
  have g0 : W.cell? ⟨w.heap.size, 0, none⟩ = some (.int .i64 wd) := by rw [HW.out]; simp [go_sem]
  have g1 : W.cell? ⟨w.heap.size, 1, none⟩ = some (.int .i64 ht) := by rw [HW.out]; simp [go_sem]
  have g2 : W.cell? ⟨w.heap.size, 2, none⟩ = some (.slice s F.length cap) := by rw [HW.out]; simp [go_sem]
  have gl : w.heap.size < W.heap.size := World.block_lt_of_cell? W _ g0
  go_wp2
  go_loopw [8] (fun ii V => ∃ i : Nat, i ≤ F.length ∧ ii = .int .i64 i ∧ Below W.heap.size W V ∧ Hid (∀ j (hj : j < F.length), j < i → onB wd ht F[j] = true)) (fun ii _ => F.length - (intOf ii).toNat)
  case atStart => exact ⟨0, by omega, rfl, Below.refl _ _, fun j _ h => absurd h (by omega)⟩
  case round =>
    obtain ⟨i, hi, rfl, hbl, hall⟩ := hrel
    have hWs := hB.size
    have hbw := hB.trans (hbl.mono hWs)
    replace g0 := Up.cell hbl g0
    replace g1 := Up.cell hbl g1
    replace g2 := Up.cell hbl g2
    have gl2 := World.block_lt_of_cell? _ _ g0
    by_cases hlt : i < F.length
    · obtain ⟨bk, ok, rfl, hbk, x0, x1⟩ := (up_of hbw h0).out.cel_at hlt
      have hcall := hon.out
      have hmem := List.getElem_mem hlt
      obtain ⟨c, hc⟩ : ∃ c, F[i] = c := ⟨_, rfl⟩
      rw [hc] at x0 x1 hmem
      have hbn := hno.out c hmem
      have i1 : (0 : Int) ≤ (i : Int) := by omega
      have i2 : (i : Int) < (F.length : Int) := by omega
      replace hc := Lib.hid hc; replace hbn := Lib.hid hbn; replace hcall := Lib.hid hcall
      have hbl0 := Lib.hid hbl
      clear hmem hbl
      go_upto_region 4 with (fail)
      refine wp_world fun Y HY => ?_
      have hY : Below wr.heap.size wr Y := by rw [HY.out]; (repeat (first | exact Below.refl _ _ | refine Below.alloc ?_ (by simp; try omega) _ | refine Below.setCell ?_ (by simp) _ | refine Below.drew ?_))
      have c0 : Y.cell? ⟨wr.heap.size, 0, none⟩ = some (.int .i64 c.x) := by rw [HY.out]; simp [go_sem]
      have c1 : Y.cell? ⟨wr.heap.size, 1, none⟩ = some (.int .i64 c.y) := by rw [HY.out]; simp [go_sem]
      have cl : wr.heap.size < Y.heap.size := World.block_lt_of_cell? Y _ c0
      try replace hB := up_of hY hB
      try replace g0 := up_of hY g0
      try replace g1 := up_of hY g1
      try replace g2 := up_of hY g2
      try replace gl := up_of hY gl
      have hblY := hbl0.out.trans (hY.mono hbl0.out.size)
      have hYs := hblY.size
      cases ho : onB wd ht c
      · obtain rfl := hbn.out ho
        have hcl := Lib.hid (hcall.out Y c)
        rw [ho] at hcl
        clear ho
        go_wp2_with (go_at_call 45; refine hcl.out.mono ?_; rintro e V2 ⟨rfl, hb2⟩)
        go_ret
        exact ⟨rfl, hB.trans ((hblY.trans (hb2.mono hYs)).mono hWs)⟩
      · have hcl := Lib.hid (hcall.out Y c)
        rw [ho] at hcl
        have ho2 := Lib.hid ho
        clear ho
        go_wp2_with (go_at_call 45; refine hcl.out.mono ?_; rintro e V2 ⟨rfl, hb2⟩)
        go_roundw
        case rel => exact ⟨i + 1, by omega, by go_num, hblY.trans (hb2.mono hYs), fun j hj hj2 => by
          rcases Nat.lt_succ_iff_lt_or_eq.1 hj2 with h | h
          · exact hall.out j hj h
          · subst h; rw [hc.out]; exact ho2.out⟩
        case measure => exact meas hlt
    · obtain rfl : i = F.length := by omega
      have hz := hyes.out fun j hj => hall.out j hj hj
      rcases hz with ⟨a1, rfl⟩ | ⟨a1, a2, rfl⟩ | ⟨a1, a2, a3, rfl⟩ | ⟨a1, a2, a3, a4, rfl⟩ | ⟨a1, a2, a3, a4, a5, rfl⟩ | ⟨a1, a2, a3, a4, a5, rfl⟩
      all_goals
        go_wp2
        go_ret
        first | exact ⟨rfl, hbw⟩ | exact ⟨ret_bool (by rw [decide_eq_false_iff_not]; omega), hbw⟩ | exact ⟨ret_bool (by rw [decide_eq_true_iff]; omega), hbw⟩
set_option maxRecDepth 100000 in
theorem rnear_c (a b r : Int) (w : World) (ha : -100 ≤ a ∧ a ≤ 100) (hb : -100 ≤ b ∧ b ≤ 100) :
    Calls Try.prog 62 #[.int .i64 a, .int .i64 b, .int .i64 r] w fun e w' => e = .returned (.bool (nearB a b r)) ∧ w = w' := by
  have w1 := i64_small (n := a - b) (by omega)
  have w2 := i64_small (n := b - a) (by omega)
  by_cases h1 : a - b ≤ r
  · by_cases h2 : b - a ≤ r
    all_goals
      go_enter Try.func62, Try.ntmps62
      go_wp2
      go_ret
      exact ⟨ret_bool (by simp [nearB, bw]; omega), rfl⟩
  · go_enter Try.func62, Try.ntmps62
    go_wp2
    go_ret
    exact ⟨ret_bool (by simp [nearB, bw]; omega), rfl⟩
set_option maxRecDepth 100000 in
theorem asked_c (wd ht r : Int) (s : Option Addr) (cap : Nat) (F : List Cel) (w : World) (h : Cels w s cap F) :
    Calls Try.prog 50 #[.agg #[.int .i64 wd, .int .i64 ht, .slice s F.length cap], .int .i64 r] w fun e w' => e = .returned (.int .i64 (opE wd ht F r)) ∧ Below w.heap.size w w' := by
  have hva := fun V (h : Cels V s cap F) => rValid_c wd ht s cap F V h
  have hl := h.len
  cases h1 : gvB wd ht F
  · have e0 : opE wd ht F r = 70 := by simp [opE, h1]
    rw [e0]
    rw [h1] at hva
    replace hva := Lib.hid hva
    clear h1 e0
    go_enter Try.func50, Try.ntmps50
    go_upto_region 1 with (fail)
    refine wp_world fun W HW => ?_
    have hB : Below w.heap.size w W := by rw [HW.out]; (repeat (first | exact Below.refl _ _ | refine Below.alloc ?_ (by simp; try omega) _ | refine Below.setCell ?_ (by simp) _ | refine Below.drew ?_))
    have g0 : W.cell? ⟨w.heap.size, 0, none⟩ = some (.int .i64 wd) := by rw [HW.out]; simp [go_sem]
    have g1 : W.cell? ⟨w.heap.size, 1, none⟩ = some (.int .i64 ht) := by rw [HW.out]; simp [go_sem]
    have g2 : W.cell? ⟨w.heap.size, 2, none⟩ = some (.slice s F.length cap) := by rw [HW.out]; simp [go_sem]
    have gl : w.heap.size < W.heap.size := World.block_lt_of_cell? W _ g0
    try replace h := up_of hB h
    go_wp2_with (first | (go_at_call 14; refine (hva.out _ h).mono ?_; rintro e W1 ⟨rfl, hb⟩; (try replace h := up_of hb h); (try replace hB := up_of hb hB); (try replace g0 := up_of hb g0); (try replace g1 := up_of hb g1); (try replace g2 := up_of hb g2); (try replace gl := up_of hb gl)))
    go_ret
    exact ⟨rfl, hB⟩
  rw [h1] at hva
  replace hva := Lib.hid hva
  have hc : (r < 0 ∧ opE wd ht F r = 2) ∨ (¬ r < 0 ∧ 3 < r ∧ opE wd ht F r = 2) ∨ (¬ r < 0 ∧ ¬ 3 < r ∧ opE wd ht F r = 0) := by
    cases h2 : bw 0 r 3
    · have e0 : opE wd ht F r = 2 := by simp [opE, h1, h2]
      have : ¬ (0 ≤ r ∧ r ≤ 3) := fun h => by rw [bw_iff.2 h] at h2; cases h2
      by_cases a : r < 0
      · exact .inl ⟨a, e0⟩
      · exact .inr (.inl ⟨a, by omega, e0⟩)
    · have e0 : opE wd ht F r = 0 := by simp [opE, h1, h2]
      have := bw_iff.1 h2
      exact .inr (.inr ⟨by omega, by omega, e0⟩)
  clear h1
  rcases hc with ⟨a1, e0⟩ | ⟨a1, a2, e0⟩ | ⟨a1, a2, e0⟩
  all_goals
    rw [e0]
    clear e0
    go_enter Try.func50, Try.ntmps50
    go_upto_region 1 with (fail)
    refine wp_world fun W HW => ?_
    have hB : Below w.heap.size w W := by rw [HW.out]; (repeat (first | exact Below.refl _ _ | refine Below.alloc ?_ (by simp; try omega) _ | refine Below.setCell ?_ (by simp) _ | refine Below.drew ?_))
    have g0 : W.cell? ⟨w.heap.size, 0, none⟩ = some (.int .i64 wd) := by rw [HW.out]; simp [go_sem]
    have g1 : W.cell? ⟨w.heap.size, 1, none⟩ = some (.int .i64 ht) := by rw [HW.out]; simp [go_sem]
    have g2 : W.cell? ⟨w.heap.size, 2, none⟩ = some (.slice s F.length cap) := by rw [HW.out]; simp [go_sem]
    have gl : w.heap.size < W.heap.size := World.block_lt_of_cell? W _ g0
    try replace h := up_of hB h
    go_wp2_with (first | (go_at_call 14; refine (hva.out _ h).mono ?_; rintro e W1 ⟨rfl, hb⟩; (try replace h := up_of hb h); (try replace hB := up_of hb hB); (try replace g0 := up_of hb g0); (try replace g1 := up_of hb g1); (try replace g2 := up_of hb g2); (try replace gl := up_of hb gl)))
    go_ret
    exact ⟨rfl, hB⟩
end Go.Proofs.Ytbabdoafpljdbaa
