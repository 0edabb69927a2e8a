/- Inner points, of the program and of the reference. -/
import Derived.Test.YtfebkccdcbkdiaaPoly29
namespace Go.Proofs.Ytfebkccdcbkdiaa
open Go.RowKit

def innerB (n : Int) (l : List Iq) (p : Iq) : Bool := bw 1 p.b 1000000 && (flatB p.a n 1000000000 && holdsB (wholeL n l) p.a p.b)
theorem between_e (a b c : Int) (w : World) {v : Bool} (hv : bw a b c = v) :
    Calls Try.prog 48 #[.int .i64 a, .int .i64 b, .int .i64 c] w fun e w' => e = .returned (.bool v) ∧ Below w.heap.size w w' := hv ▸ (between_c a b c w).mono fun _ _ ⟨he, hw⟩ => ⟨he, hw ▸ Below.refl _ _⟩
theorem ranged_e (p : Pt) (n m : Int) (w : World) (h0 : 0 ≤ m) (h1 : m ≤ 1000000000) {v : Bool} (hv : flatB p n m = v) :
    Calls Try.prog 51 #[.agg #[.int .i64 p.x, .int .i64 p.y, .int .i64 p.z], .int .i64 n, .int .i64 m] w fun e w' => e = .returned (.bool v) ∧ Below w.heap.size w w' := hv ▸ ranged_c p n m w h0 h1

set_option maxRecDepth 100000 in
set_option maxHeartbeats 2000000 in
theorem inner_c (n : Int) (s : Option Addr) (cs : Nat) (l : List Iq) (p : Iq) (w : World) (h : Dom w s l) (hc : s = none → cs = 0) (hn : 1 ≤ n ∧ n ≤ 3) (hl : l.length ≤ 6) (hK12 : (wholeL n l).length ≤ 12) :
    Calls Try.prog 65 #[.agg #[.int .i64 n, .slice s l.length cs], .agg #[.int .i64 p.a.x, .int .i64 p.a.y, .int .i64 p.a.z, .int .i64 p.b]] w fun e w' => e = .returned (.bool (innerB n l p)) ∧ Below w.heap.size w w' := by
  have hAll := fun W (hD : Dom W s l) => all_c n s cs l W hD hc hn hl
  have hf : innerB n l p = (bw 1 p.b 1000000 && (flatB p.a n 1000000000 && holdsB (wholeL n l) p.a p.b)) := rfl
  obtain ⟨K, hK⟩ : ∃ K, wholeL n l = K := ⟨_, rfl⟩
  rw [hK] at hK12 hAll hf
  have hKm : K.length ≤ 9223372036854775807 := by omega
  clear hK
  replace hAll := Lib.hid hAll; replace hf := Lib.hid hf
  cases h1 : bw 1 p.b 1000000
  · rw [h1] at hf
    have h1' := Lib.hid h1
    clear h1
    go_enter Try.func65, Try.ntmps65
    go_upto_region 1 with (fail)
    refine wp_world fun W HW => ?_
    have hB : Below w.heap.size w W := by rw [HW.out]; (repeat (first | exact Below.refl _ _ | refine Below.alloc ?_ (by simp; try omega) _ | refine Below.setCell ?_ (by simp) _ | refine Below.drew ?_))
    have d0 : W.cell? ⟨w.heap.size, 0, none⟩ = some (.int .i64 n) := by rw [HW.out]; simp [go_sem]
    have d1 : W.cell? ⟨w.heap.size, 1, none⟩ = some (.slice s l.length cs) := by rw [HW.out]; simp [go_sem]
    have dl : w.heap.size < W.heap.size := World.block_lt_of_cell? W _ d0
    have q0 : W.cell? ⟨w.heap.size + 1, 0, none⟩ = some (.int .i64 p.a.x) := by rw [HW.out]; simp [go_sem]
    have q1 : W.cell? ⟨w.heap.size + 1, 1, none⟩ = some (.int .i64 p.a.y) := by rw [HW.out]; simp [go_sem]
    have q2 : W.cell? ⟨w.heap.size + 1, 2, none⟩ = some (.int .i64 p.a.z) := by rw [HW.out]; simp [go_sem]
    have q3 : W.cell? ⟨w.heap.size + 1, 3, none⟩ = some (.int .i64 p.b) := by rw [HW.out]; simp [go_sem]
    have ql : w.heap.size + 1 < W.heap.size := World.block_lt_of_cell? W _ q0
    try replace h := up_of hB h
    try have ld_d0 := World.block_lt_of_cell? _ _ d0
    try have ld_q0 := World.block_lt_of_cell? _ _ q0
    refine region_q (by kernel_rfl) (by kernel_rfl) ?_
    dsimp only [List.toList_toArray]
    repeat (first
     | go_big_quiet_skip
     | (go_big_quiet_want
        first
        | (refine qq_det ?_
           apply Exists.intro; refine ⟨fun W' hW' => ?_, ?_⟩
           (· have hk := cellB hW'; go_simp; try (first | rfl | rw [if_pos (by omega)]))
           simp only [Act.put, List.setIfInBounds_toArray, List.set_cons_zero, List.set_cons_succ]; go_big_quiet_on)
        | (refine qq_call ?_
           apply Exists.intro; apply Exists.intro; refine ⟨fun W' hW' => ?_, ?_⟩
           (· have hk := cellB hW'; go_simp; exact ⟨rfl, rfl⟩)
           apply Exists.intro; refine ⟨fun W' hW' => ?_, ?_⟩
           (· first | (go_at_call 48; exact qc hW' (between_e 1 p.b 1000000 _ h1'.out)))
           simp only [Act.put, List.setIfInBounds_toArray, List.set_cons_zero, List.set_cons_succ]; go_big_quiet_on)))
    refine wpQuiet_nil ?_
    intro W1 hb
    try replace h := up_of hb h
    try replace hB := up_of hb hB
    try replace d0 := up_of hb d0
    try replace d1 := up_of hb d1
    try replace dl := up_of hb dl
    try replace q0 := up_of hb q0
    try replace q1 := up_of hb q1
    try replace q2 := up_of hb q2
    try replace q3 := up_of hb q3
    try replace ql := up_of hb ql
    go_wp2
    go_ret
    exact ⟨ret_bool (by rw [hf.out]; simp), hB⟩
  cases h2 : flatB p.a n 1000000000
  · rw [h1, h2] at hf
    have h1' := Lib.hid h1; have h2' := Lib.hid h2
    clear h1 h2
    go_enter Try.func65, Try.ntmps65
    go_upto_region 1 with (fail)
    refine wp_world fun W HW => ?_
    have hB : Below w.heap.size w W := by rw [HW.out]; (repeat (first | exact Below.refl _ _ | refine Below.alloc ?_ (by simp; try omega) _ | refine Below.setCell ?_ (by simp) _ | refine Below.drew ?_))
    have d0 : W.cell? ⟨w.heap.size, 0, none⟩ = some (.int .i64 n) := by rw [HW.out]; simp [go_sem]
    have d1 : W.cell? ⟨w.heap.size, 1, none⟩ = some (.slice s l.length cs) := by rw [HW.out]; simp [go_sem]
    have dl : w.heap.size < W.heap.size := World.block_lt_of_cell? W _ d0
    have q0 : W.cell? ⟨w.heap.size + 1, 0, none⟩ = some (.int .i64 p.a.x) := by rw [HW.out]; simp [go_sem]
    have q1 : W.cell? ⟨w.heap.size + 1, 1, none⟩ = some (.int .i64 p.a.y) := by rw [HW.out]; simp [go_sem]
    have q2 : W.cell? ⟨w.heap.size + 1, 2, none⟩ = some (.int .i64 p.a.z) := by rw [HW.out]; simp [go_sem]
    have q3 : W.cell? ⟨w.heap.size + 1, 3, none⟩ = some (.int .i64 p.b) := by rw [HW.out]; simp [go_sem]
    have ql : w.heap.size + 1 < W.heap.size := World.block_lt_of_cell? W _ q0
    try replace h := up_of hB h
    try have ld_d0 := World.block_lt_of_cell? _ _ d0
    try have ld_q0 := World.block_lt_of_cell? _ _ q0
    refine region_q (by kernel_rfl) (by kernel_rfl) ?_
    dsimp only [List.toList_toArray]
    repeat (first
     | go_big_quiet_skip
     | (go_big_quiet_want
        first
        | (refine qq_det ?_
           apply Exists.intro; refine ⟨fun W' hW' => ?_, ?_⟩
           (· have hk := cellB hW'; go_simp; try (first | rfl | rw [if_pos (by omega)]))
           simp only [Act.put, List.setIfInBounds_toArray, List.set_cons_zero, List.set_cons_succ]; go_big_quiet_on)
        | (refine qq_call ?_
           apply Exists.intro; apply Exists.intro; refine ⟨fun W' hW' => ?_, ?_⟩
           (· have hk := cellB hW'; go_simp; exact ⟨rfl, rfl⟩)
           apply Exists.intro; refine ⟨fun W' hW' => ?_, ?_⟩
           (· first | (go_at_call 48; exact qc hW' (between_e 1 p.b 1000000 _ h1'.out)) | (go_at_call 51; exact qc hW' (ranged_e p.a n 1000000000 _ (by omega) (by omega) h2'.out)))
           simp only [Act.put, List.setIfInBounds_toArray, List.set_cons_zero, List.set_cons_succ]; go_big_quiet_on)))
    refine wpQuiet_nil ?_
    intro W1 hb
    try replace h := up_of hb h
    try replace hB := up_of hb hB
    try replace d0 := up_of hb d0
    try replace d1 := up_of hb d1
    try replace dl := up_of hb dl
    try replace q0 := up_of hb q0
    try replace q1 := up_of hb q1
    try replace q2 := up_of hb q2
    try replace q3 := up_of hb q3
    try replace ql := up_of hb ql
    go_wp2
    go_ret
    exact ⟨ret_bool (by rw [hf.out]; simp), hB⟩
  · rw [h1, h2] at hf
    have h1' := Lib.hid h1; have h2' := Lib.hid h2
    clear h1 h2
    go_enter Try.func65, Try.ntmps65
    go_upto_region 1 with (fail)
    refine wp_world fun W HW => ?_
    have hB : Below w.heap.size w W := by rw [HW.out]; (repeat (first | exact Below.refl _ _ | refine Below.alloc ?_ (by simp; try omega) _ | refine Below.setCell ?_ (by simp) _ | refine Below.drew ?_))
    have d0 : W.cell? ⟨w.heap.size, 0, none⟩ = some (.int .i64 n) := by rw [HW.out]; simp [go_sem]
    have d1 : W.cell? ⟨w.heap.size, 1, none⟩ = some (.slice s l.length cs) := by rw [HW.out]; simp [go_sem]
    have dl : w.heap.size < W.heap.size := World.block_lt_of_cell? W _ d0
    have q0 : W.cell? ⟨w.heap.size + 1, 0, none⟩ = some (.int .i64 p.a.x) := by rw [HW.out]; simp [go_sem]
    have q1 : W.cell? ⟨w.heap.size + 1, 1, none⟩ = some (.int .i64 p.a.y) := by rw [HW.out]; simp [go_sem]
    have q2 : W.cell? ⟨w.heap.size + 1, 2, none⟩ = some (.int .i64 p.a.z) := by rw [HW.out]; simp [go_sem]
    have q3 : W.cell? ⟨w.heap.size + 1, 3, none⟩ = some (.int .i64 p.b) := by rw [HW.out]; simp [go_sem]
    have ql : w.heap.size + 1 < W.heap.size := World.block_lt_of_cell? W _ q0
    try replace h := up_of hB h
    go_region_held3 (fun V => V.cell? ⟨w.heap.size, 0, none⟩ = some (.int .i64 n) ∧ V.cell? ⟨w.heap.size, 1, none⟩ = some (.slice s l.length cs) ∧ V.cell? ⟨w.heap.size + 1, 0, none⟩ = some (.int .i64 p.a.x) ∧ V.cell? ⟨w.heap.size + 1, 1, none⟩ = some (.int .i64 p.a.y) ∧ V.cell? ⟨w.heap.size + 1, 2, none⟩ = some (.int .i64 p.a.z) ∧ V.cell? ⟨w.heap.size + 1, 3, none⟩ = some (.int .i64 p.b)) ((first | (with_reducible exact ⟨d0, d1, q0, q1, q2, q3⟩) | ((try dsimp only); (repeat' apply And.intro) <;> (repeat (first | (with_reducible assumption) | (with_reducible refine cell_set (by simp; try omega) ?_) | (with_reducible refine cell_drew ?_) | (with_reducible refine cell_alloc ?_ _)))))) ((first | (go_at_call 48; refine calls_below (W0 := W) ?_ fun hpre => ?_; (repeat (first | exact Below.refl _ _ | refine Below.alloc ?_ (by simp; try omega) _ | refine Below.drew ?_)); refine (between_e 1 p.b 1000000 _ h1'.out).mono ?_; rintro e N1 ⟨rfl, hb1⟩; have hb := Up.trans hpre hb1; clear hpre; (first | have hs_N1 := below_alloc_lt hb1 | have hs_N1 := below_alloc_lt (drewB hb1) | skip); have dl_N1 := dl; have ql_N1 := ql; (try replace h := up_of hb h); (try replace hB := up_of hb hB); (try replace d0 := up_of hb d0); (try replace d1 := up_of hb d1); (try replace dl := up_of hb dl); (try replace q0 := up_of hb q0); (try replace q1 := up_of hb q1); (try replace q2 := up_of hb q2); (try replace q3 := up_of hb q3); (try replace ql := up_of hb ql); (try replace hq := up_of hb hq); (first | have nB := new_up hb1 | have nB := new_up (drewB hb1) | (try replace nB := up_of hb nB)); (try have hq := owns_iq hown)) | (go_at_call 51; refine calls_below (W0 := N1) ?_ fun hpre => ?_; (repeat (first | exact Below.refl _ _ | refine Below.alloc ?_ (by simp; try omega) _ | refine Below.drew ?_)); refine (ranged_e p.a n 1000000000 _ (by omega) (by omega) h2'.out).mono ?_; rintro e N2 ⟨rfl, hb1⟩; have hb := Up.trans hpre hb1; clear hpre; (first | have hs_N2 := below_alloc_lt hb1 | have hs_N2 := below_alloc_lt (drewB hb1) | skip); have dl_N2 := dl; have ql_N2 := ql; (try replace h := up_of hb h); (try replace hB := up_of hb hB); (try replace d0 := up_of hb d0); (try replace d1 := up_of hb d1); (try replace dl := up_of hb dl); (try replace q0 := up_of hb q0); (try replace q1 := up_of hb q1); (try replace q2 := up_of hb q2); (try replace q3 := up_of hb q3); (try replace ql := up_of hb ql); (try replace hq := up_of hb hq); (first | have nB := new_up hb1 | have nB := new_up (drewB hb1) | (try replace nB := up_of hb nB)); (try have hq := owns_iq hown)) | (go_at_call 61; refine calls_below (W0 := N2) ?_ fun hpre => ?_; (repeat (first | exact Below.refl _ _ | refine Below.alloc ?_ (by simp; try omega) _ | refine Below.drew ?_)); refine (hAll.out _ (up_of hpre h)).mono ?_; rintro e N3 ⟨⟨s1, c1, rfl, hown⟩, hb1⟩; have hb := Up.trans hpre hb1; clear hpre; (first | have hs_N3 := below_alloc_lt hb1 | have hs_N3 := below_alloc_lt (drewB hb1) | skip); have dl_N3 := dl; have ql_N3 := ql; (try replace h := up_of hb h); (try replace hB := up_of hb hB); (try replace d0 := up_of hb d0); (try replace d1 := up_of hb d1); (try replace dl := up_of hb dl); (try replace q0 := up_of hb q0); (try replace q1 := up_of hb q1); (try replace q2 := up_of hb q2); (try replace q3 := up_of hb q3); (try replace ql := up_of hb ql); (try replace hq := up_of hb hq); (first | have nB := new_up hb1 | have nB := new_up (drewB hb1) | (try replace nB := up_of hb nB)); (try have hq := owns_iq hown)) | (go_at_call 73; refine calls_below (W0 := N3) ?_ fun hpre => ?_; (repeat (first | exact Below.refl _ _ | refine Below.alloc ?_ (by simp; try omega) _ | refine Below.drew ?_)); refine (holds_c _ _ _ _ _ _ (up_of hpre hq) hKm).mono ?_; rintro e N4 ⟨rfl, hb1⟩; have hb := Up.trans hpre hb1; clear hpre; (first | have hs_N4 := below_alloc_lt hb1 | have hs_N4 := below_alloc_lt (drewB hb1) | skip); have dl_N4 := dl; have ql_N4 := ql; (try replace h := up_of hb h); (try replace hB := up_of hb hB); (try replace d0 := up_of hb d0); (try replace d1 := up_of hb d1); (try replace dl := up_of hb dl); (try replace q0 := up_of hb q0); (try replace q1 := up_of hb q1); (try replace q2 := up_of hb q2); (try replace q3 := up_of hb q3); (try replace ql := up_of hb ql); (try replace hq := up_of hb hq); (first | have nB := new_up hb1 | have nB := new_up (drewB hb1) | (try replace nB := up_of hb nB)); (try have hq := owns_iq hown))))
    go_wp2
    go_ret
    exact ⟨ret_bool (by rw [hf.out]; simp), hB⟩
end Go.Proofs.Ytfebkccdcbkdiaa
