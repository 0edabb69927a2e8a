/- Which cell stands for one that was meant: the reference. -/
import Derived.Test.YtbabdoafpljdbaaMd17
namespace Go.Proofs.Ytbabdoafpljdbaa
open Go.RowKit

def plOk (wd ht : Int) (k : List (List Int)) (m : Cel) : Prop := (0 ≤ m.x ∧ m.x < (k.length : Int)) ∧ (0 ≤ m.y ∧ m.y < ht) ∧ m.y < ((k.getD m.x.toNat []).length : Int) ∧ 0 ≤ plG k m ∧ plG k m < wd
theorem pl_bad {wd ht : Int} {F : List Cel} {k : List (List Int)} {m : Cel} (h1 : gvB wd ht F = true) (h : ¬ plOk wd ht k m) : plE wd ht F k m = 2 := by
  unfold plE
  rw [if_pos h1, if_neg]
  intro hh
  rw [Bool.and_eq_true, Bool.and_eq_true, onB, Bool.and_eq_true] at hh
  obtain ⟨⟨h2, h3⟩, h4, h5⟩ := hh
  have h2 := bw_iff.1 h2
  have h3 := bw_iff.1 h3
  have h4 := bw_iff.1 h4
  have h5 := bw_iff.1 h5
  simp only at h4 h5
  exact h ⟨by omega, by omega, by omega, by omega, by omega⟩
theorem pl_good {wd ht : Int} {F : List Cel} {k : List (List Int)} {m : Cel} (h1 : gvB wd ht F = true) (h : plOk wd ht k m) : plE wd ht F k m = 0 ∧ plX wd ht F k m = plG k m ∧ plY wd ht F k m = m.y := by
  have e : plE wd ht F k m = 0 := by
    obtain ⟨h2, h3, h4, h5, h6⟩ := h
    unfold plE
    rw [if_pos h1, if_pos]
    rw [Bool.and_eq_true, Bool.and_eq_true, onB, Bool.and_eq_true]
    exact ⟨⟨bw_iff.2 (by omega), bw_iff.2 (by omega)⟩, bw_iff.2 (by simp only; omega), bw_iff.2 (by simp only; omega)⟩
  exact ⟨e, by simp [plX, e], by simp [plY, e]⟩
set_option maxRecDepth 100000 in
set_option maxHeartbeats 1000000 in
theorem rPlace_c (wd ht : Int) (s : Option Addr) (cap : Nat) (F : List Cel) (t : Option Addr) (ct : Nat) (k : List (List Int)) (m : Cel) (w : World) (h : Cels w s cap F) (g : SlSS intE w t k) (_ : k.length ≤ 200) (hl : ∀ l ∈ k, l.length ≤ 200) :
    Calls Try.prog 23 #[.agg #[.int .i64 wd, .int .i64 ht, .slice s F.length cap], .slice t k.length ct, .agg #[.int .i64 m.x, .int .i64 m.y]] w (CelRet (plX wd ht F k m) (plY wd ht F k m) (plE wd ht F k m) w) := by
  have hva := fun V (h : Cels V s cap F) => rValid_c wd ht s cap F V h
  have hFl := h.len
  cases h1 : gvB wd ht F
  case false =>
    have e0 : plE wd ht F k m = 70 := by simp [plE, h1]
    obtain ⟨e1, e2⟩ := pl_err e0 (by decide)
    rw [e0, e1, e2]
    rw [h1] at hva
    replace hva := Lib.hid hva
    clear h1 e0 e1 e2
    go_enter Try.func23, Try.ntmps23
    go_upto_region 1 with (fail)
    refine wp_world fun W HW => ?_
    have hB : Below w.heap.size w W := by rw [HW.out]; (repeat (first | exact Below.refl _ _ | refine Below.alloc ?_ (by simp; try omega) _ | refine Below.setCell ?_ (by simp) _ | refine Below.drew ?_))
    have g0 : W.cell? ⟨w.heap.size, 0, none⟩ = some (.int .i64 wd) := by rw [HW.out]; simp [go_sem]
    have g1 : W.cell? ⟨w.heap.size, 1, none⟩ = some (.int .i64 ht) := by rw [HW.out]; simp [go_sem]
    have g2 : W.cell? ⟨w.heap.size, 2, none⟩ = some (.slice s F.length cap) := by rw [HW.out]; simp [go_sem]
    have gl : w.heap.size < W.heap.size := World.block_lt_of_cell? W _ g0
    have c0 : W.cell? ⟨w.heap.size + 1, 0, none⟩ = some (.int .i64 m.x) := by rw [HW.out]; simp [go_sem]
    have c1 : W.cell? ⟨w.heap.size + 1, 1, none⟩ = some (.int .i64 m.y) := by rw [HW.out]; simp [go_sem]
    have cl : w.heap.size + 1 < W.heap.size := World.block_lt_of_cell? W _ c0
    have rB : Row W (w.heap.size + 2) 26 #[.int .i64 0, .int .i64 0] := (by rw [HW.out]; (repeat (first | (refine blk_new ?_; simp; done) | refine blk_old ?_ _)) : W.heap[w.heap.size + 2]? = some (.cells #[.int .i64 0, .int .i64 0] 26 (0, 0)))
    have r0 : W.cell? ⟨w.heap.size + 2, 0, none⟩ = some (.int .i64 0) := by rw [HW.out]; simp [go_sem]
    have r1 : W.cell? ⟨w.heap.size + 2, 1, none⟩ = some (.int .i64 0) := by rw [HW.out]; simp [go_sem]
    have rl : w.heap.size + 2 < W.heap.size := World.block_lt_of_cell? W _ r0
    try replace h := up_of hB h
    go_upto_region 2 with (first | (go_at_call 14; refine (hva.out _ h).mono ?_; rintro e W1 ⟨rfl, hb⟩; (try replace h := up_of hb h); (try replace hB := up_of hb hB); (try replace g0 := up_of hb g0); (try replace g1 := up_of hb g1); (try replace g2 := up_of hb g2); (try replace gl := up_of hb gl); (try replace c0 := up_of hb c0); (try replace c1 := up_of hb c1); (try replace cl := up_of hb cl); (try replace rB := up_of hb rB); (try replace r0 := up_of hb r0); (try replace r1 := up_of hb r1); (try replace rl := up_of hb rl)))
    have rf := fun i => Row.frozen rB i
    go_wp2
    refine cel_end rfl (b1 := w.heap.size + 2) rfl rfl ?_ ?_
    · refine Row.of ?_
      repeat (first | (with_reducible refine RowG.base rB ?_) | (with_reducible refine RowG.drew ?_) | (with_reducible refine RowG.set ?_) | ((with_reducible refine RowG.other ?_ ?_); (focus (first | omega | (simp; done) | (simp; omega)))) | (with_reducible refine RowG.alloc ?_))
      rfl
    · repeat (first | (with_reducible exact hB) | (with_reducible refine Below.drew ?_) | ((with_reducible refine Below.setC ?_ ?_); (focus (first | omega | (simp; done) | (simp; omega)))) | ((with_reducible refine Below.allo ?_ ?_); (focus (first | omega | (simp; done) | (simp; omega)))))
  rw [h1] at hva
  replace hva := Lib.hid hva
  have hbd := fun hh => pl_bad (k := k) (m := m) h1 hh
  have hgd := fun hh => pl_good (k := k) (m := m) h1 hh
  replace hbd := Lib.hid hbd; replace hgd := Lib.hid hgd
  clear h1
  by_cases hx1 : m.x < 0 ∨ (k.length : Int) ≤ m.x
  · have e0 := hbd.out (fun hh => by have := hh.1; omega)
    obtain ⟨e1, e2⟩ := pl_err e0 (by decide)
    rw [e0, e1, e2]
    clear e0 e1 e2
    by_cases hx2 : m.x < 0
    all_goals
      have hx3 : m.x < 0 ∨ (k.length : Int) ≤ m.x := hx1
      have hx4 : ¬ m.x < 0 → (k.length : Int) ≤ m.x := fun _ => by omega
      try replace hx4 := hx4 hx2
      clear hx1 hx3
      go_enter Try.func23, Try.ntmps23
      go_upto_region 1 with (fail)
      refine wp_world fun W HW => ?_
      have hB : Below w.heap.size w W := by rw [HW.out]; (repeat (first | exact Below.refl _ _ | refine Below.alloc ?_ (by simp; try omega) _ | refine Below.setCell ?_ (by simp) _ | refine Below.drew ?_))
      have g0 : W.cell? ⟨w.heap.size, 0, none⟩ = some (.int .i64 wd) := by rw [HW.out]; simp [go_sem]
      have g1 : W.cell? ⟨w.heap.size, 1, none⟩ = some (.int .i64 ht) := by rw [HW.out]; simp [go_sem]
      have g2 : W.cell? ⟨w.heap.size, 2, none⟩ = some (.slice s F.length cap) := by rw [HW.out]; simp [go_sem]
      have gl : w.heap.size < W.heap.size := World.block_lt_of_cell? W _ g0
      have c0 : W.cell? ⟨w.heap.size + 1, 0, none⟩ = some (.int .i64 m.x) := by rw [HW.out]; simp [go_sem]
      have c1 : W.cell? ⟨w.heap.size + 1, 1, none⟩ = some (.int .i64 m.y) := by rw [HW.out]; simp [go_sem]
      have cl : w.heap.size + 1 < W.heap.size := World.block_lt_of_cell? W _ c0
      have rB : Row W (w.heap.size + 2) 26 #[.int .i64 0, .int .i64 0] := (by rw [HW.out]; (repeat (first | (refine blk_new ?_; simp; done) | refine blk_old ?_ _)) : W.heap[w.heap.size + 2]? = some (.cells #[.int .i64 0, .int .i64 0] 26 (0, 0)))
      have r0 : W.cell? ⟨w.heap.size + 2, 0, none⟩ = some (.int .i64 0) := by rw [HW.out]; simp [go_sem]
      have r1 : W.cell? ⟨w.heap.size + 2, 1, none⟩ = some (.int .i64 0) := by rw [HW.out]; simp [go_sem]
      have rl : w.heap.size + 2 < W.heap.size := World.block_lt_of_cell? W _ r0
      try replace h := up_of hB h
      go_upto_region 3 with (first | (go_at_call 14; refine (hva.out _ h).mono ?_; rintro e W1 ⟨rfl, hb⟩; (try replace h := up_of hb h); (try replace hB := up_of hb hB); (try replace g0 := up_of hb g0); (try replace g1 := up_of hb g1); (try replace g2 := up_of hb g2); (try replace gl := up_of hb gl); (try replace c0 := up_of hb c0); (try replace c1 := up_of hb c1); (try replace cl := up_of hb cl); (try replace rB := up_of hb rB); (try replace r0 := up_of hb r0); (try replace r1 := up_of hb r1); (try replace rl := up_of hb rl)))
      have rf := fun i => Row.frozen rB i
      go_wp2
      refine cel_end rfl (b1 := w.heap.size + 2) rfl rfl ?_ ?_
      · refine Row.of ?_
        repeat (first | (with_reducible refine RowG.base rB ?_) | (with_reducible refine RowG.drew ?_) | (with_reducible refine RowG.set ?_) | ((with_reducible refine RowG.other ?_ ?_); (focus (first | omega | (simp; done) | (simp; omega)))) | (with_reducible refine RowG.alloc ?_))
        rfl
      · repeat (first | (with_reducible exact hB) | (with_reducible refine Below.drew ?_) | ((with_reducible refine Below.setC ?_ ?_); (focus (first | omega | (simp; done) | (simp; omega)))) | ((with_reducible refine Below.allo ?_ ?_); (focus (first | omega | (simp; done) | (simp; omega)))))
  obtain ⟨mx, my⟩ := m
  simp only at hx1 hbd hgd ⊢
  obtain ⟨a, rfl⟩ : ∃ n : Nat, mx = n := ⟨mx.toNat, by omega⟩
  have ha : a < k.length := by omega
  obtain ⟨L, hL⟩ : ∃ x, k[a] = x := ⟨_, rfl⟩
  have hLl : L.length ≤ 200 := by rw [← hL]; exact hl _ (List.getElem_mem ha)
  have hkd : k.getD ((a : Nat) : Int).toNat [] = L := by rw [Int.toNat_natCast, List.getD_eq_getElem?_getD, List.getElem?_eq_getElem ha, hL]; rfl
  have i3 : ¬ (a : Int) < 0 := by omega
  have i4 : (0 : Int) ≤ (a : Int) := by omega
  have i5 : (a : Int) < (k.length : Int) := by omega
  have i6 : ¬ (k.length : Int) ≤ (a : Int) := by omega
  clear hx1
  have hok : plOk wd ht k ⟨a, my⟩ ↔ ((0 ≤ my ∧ my < ht) ∧ my < (L.length : Int) ∧ 0 ≤ plG k ⟨a, my⟩ ∧ plG k ⟨a, my⟩ < wd) := by
    unfold plOk
    simp only [hkd]
    exact ⟨fun h => h.2, fun h => ⟨⟨i4, i5⟩, h⟩⟩
  have hpg : ∀ (b : Nat) (hb : b < L.length), my = b → plG k ⟨a, my⟩ = L[b] := fun b hb e => by
    subst e
    show (k.getD ((a : Nat) : Int).toNat []).getD ((b : Nat) : Int).toNat 0 = _
    rw [hkd, Int.toNat_natCast, List.getD_eq_getElem?_getD, List.getElem?_eq_getElem hb]; rfl
  rw [hok] at hbd hgd
  replace hL := Lib.hid hL
  clear hok hkd
  by_cases hy : my < 0 ∨ ht ≤ my ∨ (L.length : Int) ≤ my
  · have e0 := hbd.out (fun hh => by omega)
    obtain ⟨e1, e2⟩ := pl_err e0 (by decide)
    rw [e0, e1, e2]
    have hc : (my < 0) ∨ (decide (my < 0) = false ∧ decide (ht ≤ my) = true) ∨ (decide (my < 0) = false ∧ decide (ht ≤ my) = false ∧ decide ((L.length : Int) ≤ my) = true) := by
      by_cases q1 : my < 0
      · exact .inl q1
      · by_cases q2 : ht ≤ my
        · exact .inr (.inl ⟨by simpa using q1, by simpa using q2⟩)
        · exact .inr (.inr ⟨by simpa using q1, by simpa using q2, by simp; omega⟩)
    clear e0 e1 e2 hy hpg hbd hgd
    rcases hc with d1 | ⟨d1, d2⟩ | ⟨d1, d2, d3⟩
    all_goals
      go_enter Try.func23, Try.ntmps23
      go_upto_region 1 with (fail)
      refine wp_world fun W HW => ?_
      have hB : Below w.heap.size w W := by rw [HW.out]; (repeat (first | exact Below.refl _ _ | refine Below.alloc ?_ (by simp; try omega) _ | refine Below.setCell ?_ (by simp) _ | refine Below.drew ?_))
      have g0 : W.cell? ⟨w.heap.size, 0, none⟩ = some (.int .i64 wd) := by rw [HW.out]; simp [go_sem]
      have g1 : W.cell? ⟨w.heap.size, 1, none⟩ = some (.int .i64 ht) := by rw [HW.out]; simp [go_sem]
      have g2 : W.cell? ⟨w.heap.size, 2, none⟩ = some (.slice s F.length cap) := by rw [HW.out]; simp [go_sem]
      have gl : w.heap.size < W.heap.size := World.block_lt_of_cell? W _ g0
      have c0 : W.cell? ⟨w.heap.size + 1, 0, none⟩ = some (.int .i64 a) := by rw [HW.out]; simp [go_sem]
      have c1 : W.cell? ⟨w.heap.size + 1, 1, none⟩ = some (.int .i64 my) := by rw [HW.out]; simp [go_sem]
      have cl : w.heap.size + 1 < W.heap.size := World.block_lt_of_cell? W _ c0
      have rB : Row W (w.heap.size + 2) 26 #[.int .i64 0, .int .i64 0] := (by rw [HW.out]; (repeat (first | (refine blk_new ?_; simp; done) | refine blk_old ?_ _)) : W.heap[w.heap.size + 2]? = some (.cells #[.int .i64 0, .int .i64 0] 26 (0, 0)))
      have r0 : W.cell? ⟨w.heap.size + 2, 0, none⟩ = some (.int .i64 0) := by rw [HW.out]; simp [go_sem]
      have r1 : W.cell? ⟨w.heap.size + 2, 1, none⟩ = some (.int .i64 0) := by rw [HW.out]; simp [go_sem]
      have rl : w.heap.size + 2 < W.heap.size := World.block_lt_of_cell? W _ r0
      try replace h := up_of hB h
      try replace g := up_of hB g
      go_upto_region 2 with (fail)
      go_upto_region 3 with (first | (go_at_call 14; refine (hva.out _ h).mono ?_; rintro e W1 ⟨rfl, hb⟩; (try replace h := up_of hb h); (try replace g := up_of hb g); (try replace hB := up_of hb hB); (try replace g0 := up_of hb g0); (try replace g1 := up_of hb g1); (try replace g2 := up_of hb g2); (try replace gl := up_of hb gl); (try replace c0 := up_of hb c0); (try replace c1 := up_of hb c1); (try replace cl := up_of hb cl); (try replace rB := up_of hb rB); (try replace r0 := up_of hb r0); (try replace r1 := up_of hb r1); (try replace rl := up_of hb rl)))
      obtain ⟨gb, gof, ga, gc, rfl, hgl, x0, gs, -⟩ := g.at ha
      rw [hL.out] at x0 gs
      clear hb
      go_upto_region 6 with (fail)
      try have ld_g0 := World.block_lt_of_cell? _ _ g0
      try have ld_c0 := World.block_lt_of_cell? _ _ c0
      try have ld_r0 := World.block_lt_of_cell? _ _ r0
      try have ld_x0 := World.block_lt_of_cell? _ _ x0
      refine region_q (by kernel_rfl) (by kernel_rfl) ?_
      dsimp only [List.toList_toArray]
      repeat (first
       | go_big_quiet_skip
       | (go_big_quiet_want
          first
          | (refine qq_det ?_
             apply Exists.intro; refine ⟨fun W' hW' => ?_, ?_⟩
             (· have hk := cellB hW'; go_simp; try (first | rfl | rw [if_pos (by omega)]))
             simp only [Act.put, List.setIfInBounds_toArray, List.set_cons_zero, List.set_cons_succ]; go_big_quiet_on)))
      refine wpQuiet_nil ?_
      intro W1 hb
      try replace h := up_of hb h
      try replace g := up_of hb g
      try replace hB := up_of hb hB
      try replace g0 := up_of hb g0
      try replace g1 := up_of hb g1
      try replace g2 := up_of hb g2
      try replace gl := up_of hb gl
      try replace c0 := up_of hb c0
      try replace c1 := up_of hb c1
      try replace cl := up_of hb cl
      try replace rB := up_of hb rB
      try replace r0 := up_of hb r0
      try replace r1 := up_of hb r1
      try replace rl := up_of hb rl
      try replace x0 := up_of hb x0
      have rf := fun i => Row.frozen rB i
      go_wp2
      refine cel_end rfl (b1 := w.heap.size + 2) rfl rfl ?_ ?_
      · refine Row.of ?_
        repeat (first | (with_reducible refine RowG.base rB ?_) | (with_reducible refine RowG.drew ?_) | (with_reducible refine RowG.set ?_) | ((with_reducible refine RowG.other ?_ ?_); (focus (first | omega | (simp; done) | (simp; omega)))) | (with_reducible refine RowG.alloc ?_))
        rfl
      · repeat (first | (with_reducible exact hB) | (with_reducible refine Below.drew ?_) | ((with_reducible refine Below.setC ?_ ?_); (focus (first | omega | (simp; done) | (simp; omega)))) | ((with_reducible refine Below.allo ?_ ?_); (focus (first | omega | (simp; done) | (simp; omega)))))
  obtain ⟨b, rfl⟩ : ∃ n : Nat, my = n := ⟨my.toNat, by omega⟩
  have hbb : b < L.length := by omega
  have d1 : decide ((b : Int) < 0) = false := decide_eq_false (by omega)
  have d2 : decide (ht ≤ (b : Int)) = false := decide_eq_false (by omega)
  have d3 : decide (L.length ≤ b) = false := decide_eq_false (by omega)
  have j4 : (0 : Int) ≤ (b : Int) := by omega
  have j5 : (b : Int) < (L.length : Int) := by omega
  have hpg := hpg b hbb rfl
  obtain ⟨x, hx⟩ : ∃ x, L[b]'hbb = x := ⟨_, rfl⟩
  rw [hx] at hpg
  rw [hpg] at hbd hgd
  clear hpg
  have hc : (decide (x < 0) = true ∧ ∃ q : Unit, True) ∨ (decide (x < 0) = false ∧ decide (wd ≤ x) = true) ∨ (decide (x < 0) = false ∧ decide (wd ≤ x) = false) := by
    by_cases q1 : x < 0
    · exact .inl ⟨by simpa using q1, (), trivial⟩
    · by_cases q2 : wd ≤ x
      · exact .inr (.inl ⟨by simpa using q1, by simpa using q2⟩)
      · exact .inr (.inr ⟨by simpa using q1, by simpa using q2⟩)
  have hbt : (b : Int) < ht := by omega
  clear hy
  rcases hc with ⟨d4, -⟩ | ⟨d4, d5⟩ | ⟨d4, d5⟩
  case inr.inr =>
    have hgd := hgd.out ⟨by omega, by omega, by simpa using d4, by simpa using d5⟩
    obtain ⟨e0, e1, e2⟩ := hgd
    rw [e0, e1, e2]
    replace hx := Lib.hid hx
    clear e0 e1 e2 hbd hbt
    go_enter Try.func23, Try.ntmps23
    go_upto_region 1 with (fail)
    refine wp_world fun W HW => ?_
    have hB : Below w.heap.size w W := by rw [HW.out]; (repeat (first | exact Below.refl _ _ | refine Below.alloc ?_ (by simp; try omega) _ | refine Below.setCell ?_ (by simp) _ | refine Below.drew ?_))
    have g0 : W.cell? ⟨w.heap.size, 0, none⟩ = some (.int .i64 wd) := by rw [HW.out]; simp [go_sem]
    have g1 : W.cell? ⟨w.heap.size, 1, none⟩ = some (.int .i64 ht) := by rw [HW.out]; simp [go_sem]
    have g2 : W.cell? ⟨w.heap.size, 2, none⟩ = some (.slice s F.length cap) := by rw [HW.out]; simp [go_sem]
    have gl : w.heap.size < W.heap.size := World.block_lt_of_cell? W _ g0
    have c0 : W.cell? ⟨w.heap.size + 1, 0, none⟩ = some (.int .i64 a) := by rw [HW.out]; simp [go_sem]
    have c1 : W.cell? ⟨w.heap.size + 1, 1, none⟩ = some (.int .i64 b) := by rw [HW.out]; simp [go_sem]
    have cl : w.heap.size + 1 < W.heap.size := World.block_lt_of_cell? W _ c0
    have rB : Row W (w.heap.size + 2) 26 #[.int .i64 0, .int .i64 0] := (by rw [HW.out]; (repeat (first | (refine blk_new ?_; simp; done) | refine blk_old ?_ _)) : W.heap[w.heap.size + 2]? = some (.cells #[.int .i64 0, .int .i64 0] 26 (0, 0)))
    have r0 : W.cell? ⟨w.heap.size + 2, 0, none⟩ = some (.int .i64 0) := by rw [HW.out]; simp [go_sem]
    have r1 : W.cell? ⟨w.heap.size + 2, 1, none⟩ = some (.int .i64 0) := by rw [HW.out]; simp [go_sem]
    have rl : w.heap.size + 2 < W.heap.size := World.block_lt_of_cell? W _ r0
    try replace h := up_of hB h
    try replace g := up_of hB g
    go_upto_region 3 with (first | (go_at_call 14; refine (hva.out _ h).mono ?_; rintro e W1 ⟨rfl, hb⟩; (try replace h := up_of hb h); (try replace g := up_of hb g); (try replace hB := up_of hb hB); (try replace g0 := up_of hb g0); (try replace g1 := up_of hb g1); (try replace g2 := up_of hb g2); (try replace gl := up_of hb gl); (try replace c0 := up_of hb c0); (try replace c1 := up_of hb c1); (try replace cl := up_of hb cl); (try replace rB := up_of hb rB); (try replace r0 := up_of hb r0); (try replace r1 := up_of hb r1); (try replace rl := up_of hb rl)))
    obtain ⟨gb, gof, ga, gc, rfl, hgl, x0, gs, -⟩ := g.at ha
    rw [hL.out] at x0 gs
    obtain ⟨bm, om, em, hbm, y0⟩ := gs.int_at hbb
    cases em
    rw [hx.out] at y0
    clear hb
    go_upto_region 6 with (fail)
    try have ld_g0 := World.block_lt_of_cell? _ _ g0
    try have ld_c0 := World.block_lt_of_cell? _ _ c0
    try have ld_r0 := World.block_lt_of_cell? _ _ r0
    try have ld_x0 := World.block_lt_of_cell? _ _ x0
    try have ld_y0 := World.block_lt_of_cell? _ _ y0
    refine region_q (by kernel_rfl) (by kernel_rfl) ?_
    dsimp only [List.toList_toArray]
    repeat (first
     | go_big_quiet_skip
     | (go_big_quiet_want
        first
        | (refine qq_det ?_
           apply Exists.intro; refine ⟨fun W' hW' => ?_, ?_⟩
           (· have hk := cellB hW'; go_simp; try (first | rfl | rw [if_pos (by omega)]))
           simp only [Act.put, List.setIfInBounds_toArray, List.set_cons_zero, List.set_cons_succ]; go_big_quiet_on)))
    refine wpQuiet_nil ?_
    intro W1 hb
    try replace h := up_of hb h
    try replace g := up_of hb g
    try replace hB := up_of hb hB
    try replace g0 := up_of hb g0
    try replace g1 := up_of hb g1
    try replace g2 := up_of hb g2
    try replace gl := up_of hb gl
    try replace c0 := up_of hb c0
    try replace c1 := up_of hb c1
    try replace cl := up_of hb cl
    try replace rB := up_of hb rB
    try replace r0 := up_of hb r0
    try replace r1 := up_of hb r1
    try replace rl := up_of hb rl
    try replace x0 := up_of hb x0
    try replace y0 := up_of hb y0
    have rf := fun i => Row.frozen rB i
    go_upto_region 8 with (fail)
    go_region
    all_goals
      go_wp2
      refine cel_end rfl (b1 := w.heap.size + 2) rfl rfl ?_ ?_
      · refine Row.of ?_
        repeat (first | (with_reducible refine RowG.base rB ?_) | (with_reducible refine RowG.drew ?_) | (with_reducible refine RowG.set ?_) | ((with_reducible refine RowG.other ?_ ?_); (focus (first | omega | (simp; done) | (simp; omega)))) | (with_reducible refine RowG.alloc ?_))
        rfl
      · repeat (first | (with_reducible exact hB) | (with_reducible refine Below.drew ?_) | ((with_reducible refine Below.setC ?_ ?_); (focus (first | omega | (simp; done) | (simp; omega)))) | ((with_reducible refine Below.allo ?_ ?_); (focus (first | omega | (simp; done) | (simp; omega)))))
  all_goals
    have e0 := hbd.out (fun hh => by
      first
        | (have q := of_decide_eq_true d4; omega)
        | (have q := of_decide_eq_true d5; omega))
    obtain ⟨e1, e2⟩ := pl_err e0 (by decide)
    rw [e0, e1, e2]
    replace hx := Lib.hid hx
    clear e0 e1 e2 hbd hgd hbt
    go_enter Try.func23, Try.ntmps23
    go_upto_region 1 with (fail)
    refine wp_world fun W HW => ?_
    have hB : Below w.heap.size w W := by rw [HW.out]; (repeat (first | exact Below.refl _ _ | refine Below.alloc ?_ (by simp; try omega) _ | refine Below.setCell ?_ (by simp) _ | refine Below.drew ?_))
    have g0 : W.cell? ⟨w.heap.size, 0, none⟩ = some (.int .i64 wd) := by rw [HW.out]; simp [go_sem]
    have g1 : W.cell? ⟨w.heap.size, 1, none⟩ = some (.int .i64 ht) := by rw [HW.out]; simp [go_sem]
    have g2 : W.cell? ⟨w.heap.size, 2, none⟩ = some (.slice s F.length cap) := by rw [HW.out]; simp [go_sem]
    have gl : w.heap.size < W.heap.size := World.block_lt_of_cell? W _ g0
    have c0 : W.cell? ⟨w.heap.size + 1, 0, none⟩ = some (.int .i64 a) := by rw [HW.out]; simp [go_sem]
    have c1 : W.cell? ⟨w.heap.size + 1, 1, none⟩ = some (.int .i64 b) := by rw [HW.out]; simp [go_sem]
    have cl : w.heap.size + 1 < W.heap.size := World.block_lt_of_cell? W _ c0
    have rB : Row W (w.heap.size + 2) 26 #[.int .i64 0, .int .i64 0] := (by rw [HW.out]; (repeat (first | (refine blk_new ?_; simp; done) | refine blk_old ?_ _)) : W.heap[w.heap.size + 2]? = some (.cells #[.int .i64 0, .int .i64 0] 26 (0, 0)))
    have r0 : W.cell? ⟨w.heap.size + 2, 0, none⟩ = some (.int .i64 0) := by rw [HW.out]; simp [go_sem]
    have r1 : W.cell? ⟨w.heap.size + 2, 1, none⟩ = some (.int .i64 0) := by rw [HW.out]; simp [go_sem]
    have rl : w.heap.size + 2 < W.heap.size := World.block_lt_of_cell? W _ r0
    try replace h := up_of hB h
    try replace g := up_of hB g
    go_upto_region 3 with (first | (go_at_call 14; refine (hva.out _ h).mono ?_; rintro e W1 ⟨rfl, hb⟩; (try replace h := up_of hb h); (try replace g := up_of hb g); (try replace hB := up_of hb hB); (try replace g0 := up_of hb g0); (try replace g1 := up_of hb g1); (try replace g2 := up_of hb g2); (try replace gl := up_of hb gl); (try replace c0 := up_of hb c0); (try replace c1 := up_of hb c1); (try replace cl := up_of hb cl); (try replace rB := up_of hb rB); (try replace r0 := up_of hb r0); (try replace r1 := up_of hb r1); (try replace rl := up_of hb rl)))
    obtain ⟨gb, gof, ga, gc, rfl, hgl, x0, gs, -⟩ := g.at ha
    rw [hL.out] at x0 gs
    obtain ⟨bm, om, em, hbm, y0⟩ := gs.int_at hbb
    cases em
    rw [hx.out] at y0
    clear hb
    go_upto_region 6 with (fail)
    try have ld_g0 := World.block_lt_of_cell? _ _ g0
    try have ld_c0 := World.block_lt_of_cell? _ _ c0
    try have ld_r0 := World.block_lt_of_cell? _ _ r0
    try have ld_x0 := World.block_lt_of_cell? _ _ x0
    try have ld_y0 := World.block_lt_of_cell? _ _ y0
    refine region_q (by kernel_rfl) (by kernel_rfl) ?_
    dsimp only [List.toList_toArray]
    repeat (first
     | go_big_quiet_skip
     | (go_big_quiet_want
        first
        | (refine qq_det ?_
           apply Exists.intro; refine ⟨fun W' hW' => ?_, ?_⟩
           (· have hk := cellB hW'; go_simp; try (first | rfl | rw [if_pos (by omega)]))
           simp only [Act.put, List.setIfInBounds_toArray, List.set_cons_zero, List.set_cons_succ]; go_big_quiet_on)))
    refine wpQuiet_nil ?_
    intro W1 hb
    try replace h := up_of hb h
    try replace g := up_of hb g
    try replace hB := up_of hb hB
    try replace g0 := up_of hb g0
    try replace g1 := up_of hb g1
    try replace g2 := up_of hb g2
    try replace gl := up_of hb gl
    try replace c0 := up_of hb c0
    try replace c1 := up_of hb c1
    try replace cl := up_of hb cl
    try replace rB := up_of hb rB
    try replace r0 := up_of hb r0
    try replace r1 := up_of hb r1
    try replace rl := up_of hb rl
    try replace x0 := up_of hb x0
    try replace y0 := up_of hb y0
    have rf := fun i => Row.frozen rB i
    go_wp2
    refine cel_end rfl (b1 := w.heap.size + 2) rfl rfl ?_ ?_
    · refine Row.of ?_
      repeat (first | (with_reducible refine RowG.base rB ?_) | (with_reducible refine RowG.drew ?_) | (with_reducible refine RowG.set ?_) | ((with_reducible refine RowG.other ?_ ?_); (focus (first | omega | (simp; done) | (simp; omega)))) | (with_reducible refine RowG.alloc ?_))
      rfl
    · repeat (first | (with_reducible exact hB) | (with_reducible refine Below.drew ?_) | ((with_reducible refine Below.setC ?_ ?_); (focus (first | omega | (simp; done) | (simp; omega)))) | ((with_reducible refine Below.allo ?_ ?_); (focus (first | omega | (simp; done) | (simp; omega)))))
end Go.Proofs.Ytbabdoafpljdbaa
