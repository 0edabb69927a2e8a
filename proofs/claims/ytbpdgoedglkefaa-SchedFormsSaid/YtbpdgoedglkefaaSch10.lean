/- The least and the greatest time: the reference. -/
import Derived.Test.YtbpdgoedglkefaaSchLaw2
import Derived.Test.YtbpdgoedglkefaaSch7
namespace Go.Proofs.Ytbpdgoedglkefaa
open Go.RowKit

theorem SlS.el_at {w : World} {s : Option Addr} {l : List El} (c : SlS elE w s l) {i : Nat} (h : i < l.length) :
    ∃ b off, s = some ⟨b, off, none⟩ ∧ b < w.heap.size ∧ w.cell? ⟨b, off + i * 4, none⟩ = some (.int .i64 l[i].v) ∧ w.cell? ⟨b, off + i * 4 + 1, none⟩ = some (.int .i64 l[i].p.x) ∧ w.cell? ⟨b, off + i * 4 + 2, none⟩ = some (.int .i64 l[i].p.y) ∧ w.cell? ⟨b, off + i * 4 + 3, none⟩ = some (.int .i64 l[i].p.z) := by
  obtain ⟨b, off, e, hb, hc⟩ := c.at h
  have h0 := hc 0 _ rfl
  have h1 := hc 1 _ rfl
  have h2 := hc 2 _ rfl
  have h3 := hc 3 _ rfl
  simp only [elE, Nat.add_zero] at h0 h1 h2 h3
  exact ⟨b, off, e, hb, h0, h1, h2, h3⟩
set_option maxRecDepth 100000 in
set_option maxHeartbeats 4000000 in
theorem rSpan_c (n : Int) (s : Option Addr) (cap : Nat) (l : List Iq) (s2 : Option Addr) (cq : Nat) (K : List Vv) (q : Sd) (w : World) (hr : RecM w s l s2 cq K) (hq : SdM w q) :
    Calls Try.prog 22 #[.agg #[.int .i64 n, .slice s l.length cap, .slice s2 K.length cq], .agg #[.int .i64 q.f.x, .int .i64 q.f.y, .int .i64 q.f.z, .slice q.s q.off.length q.cap]] w fun e w' => e = .returned (spanR n l K q) ∧ Below w.heap.size w w' := by
  have hck := fun V (h : RecM V s l s2 cq K) (h2 : SdM V q) => Asked_c n s cap l s2 cq K q V h h2
  have hel := fun V (h : RecM V s l s2 cq K) h1 h2 h3 => elements_c n s cap l s2 cq K.length V h.dom h1 h2 h3
  have hok := chk_ok (n := n) (l := l) (K := K) (q := q)
  have hw := span_ways n l K q
  have hlaw := span_law (n := n) (l := l) (K := K) (q := q)
  obtain ⟨E, T, hE, hT, hEl, hEv, hTl, hTa⟩ : ∃ (E : List El) (T : List Int), els (pts n l) K.length = E ∧ elT q E = T ∧ E.length = K.length * (pts n l).length ∧ (∀ j (hj : j < E.length), E[j].v < K.length) ∧ T.length = E.length ∧ ∀ j (hj : j < E.length) (hj' : j < T.length), T[j] = timeW q E[j].v E[j].p :=
    ⟨_, _, rfl, rfl, els_len _ _, fun j hj => (mem_els.1 (List.getElem_mem hj)).1, List.length_map .., fun j hj hj' => List.getElem_map ..⟩
  simp only [hE, hT] at hlaw hel
  clear hE hT
  obtain ⟨R, hR⟩ : ∃ x, spanR n l K q = x := ⟨_, rfl⟩
  obtain ⟨ck, hck0⟩ : ∃ x, chkE n l K [q] = x := ⟨_, rfl⟩
  obtain ⟨P, hP⟩ : ∃ x, pts n l = x := ⟨_, rfl⟩
  simp only [hR, hck0] at hck hok hw hlaw ⊢
  clear hR hck0
  simp only [hP] at hok hw hel hEl hlaw
  replace hck := Lib.hid hck
  rcases hw with ⟨h0, rfl⟩ | ⟨rfl, h2, rfl⟩ | ⟨rfl, h2, rfl⟩
  · have k1 : (ck != 0) = true := bne_iff_ne.2 h0
    clear hok hel hlaw hEl hEv hTl hTa hP
    go_enter Try.func22, Try.ntmps22
    go_upto_region 1 with (fail)
    refine wp_world fun W HW => ?_
    have hB : Below w.heap.size w W := by rw [HW.out]; (repeat (first | exact Below.refl _ _ | refine Below.alloc ?_ (by simp; try omega) _ | refine Below.setCell ?_ (by simp) _ | refine Below.drew ?_))
    have d0 : W.cell? ⟨w.heap.size, 0, none⟩ = some (.int .i64 n) := by rw [HW.out]; simp [go_sem]
    have d1 : W.cell? ⟨w.heap.size, 1, none⟩ = some (.slice s l.length cap) := by rw [HW.out]; simp [go_sem]
    have d2 : W.cell? ⟨w.heap.size, 2, none⟩ = some (.slice s2 K.length cq) := by rw [HW.out]; simp [go_sem]
    have dl : w.heap.size < W.heap.size := World.block_lt_of_cell? W _ d0
    have g0 : W.cell? ⟨w.heap.size + 1, 0, none⟩ = some (.int .i64 q.f.x) := by rw [HW.out]; simp [go_sem]
    have g1 : W.cell? ⟨w.heap.size + 1, 1, none⟩ = some (.int .i64 q.f.y) := by rw [HW.out]; simp [go_sem]
    have g2 : W.cell? ⟨w.heap.size + 1, 2, none⟩ = some (.int .i64 q.f.z) := by rw [HW.out]; simp [go_sem]
    have g3 : W.cell? ⟨w.heap.size + 1, 3, none⟩ = some (.slice q.s q.off.length q.cap) := by rw [HW.out]; simp [go_sem]
    have gl : w.heap.size + 1 < W.heap.size := World.block_lt_of_cell? W _ g0
    try replace hr := up_of hB hr
    try replace hq := up_of hB hq
    go_wp2_with (first | (go_at_call 61; refine (hck.out _ hr hq).mono ?_; rintro e W1 ⟨rfl, hb⟩; (try replace hr := up_of hb hr); (try replace hq := up_of hb hq); (try replace hB := up_of hb hB); (try replace d0 := up_of hb d0); (try replace d1 := up_of hb d1); (try replace d2 := up_of hb d2); (try replace dl := up_of hb dl); (try replace g0 := up_of hb g0); (try replace g1 := up_of hb g1); (try replace g2 := up_of hb g2); (try replace g3 := up_of hb g3); (try replace gl := up_of hb gl)))
    go_ret3
    exact ⟨rfl, hB⟩
  · obtain ⟨-, -, -, hk4, hn3, hp9, -, -, -⟩ := hok rfl
    have hel2 := fun V (h : RecM V s l s2 cq K) => hel V h hn3 hk4 hp9
    have hE0 : E.length = 0 := by rw [hEl, h2]; rfl
    have k2 : ((E.length : Int) == 0) = true := by rw [hE0]; rfl
    replace hel2 := Lib.hid hel2; replace h2 := Lib.hid h2; replace hE0 := Lib.hid hE0
    clear hok hel hlaw hEl hEv hTl hTa hP hp9 hk4 hn3
    go_enter Try.func22, Try.ntmps22
    go_upto_region 1 with (fail)
    refine wp_world fun W HW => ?_
    have hB : Below w.heap.size w W := by rw [HW.out]; (repeat (first | exact Below.refl _ _ | refine Below.alloc ?_ (by simp; try omega) _ | refine Below.setCell ?_ (by simp) _ | refine Below.drew ?_))
    have d0 : W.cell? ⟨w.heap.size, 0, none⟩ = some (.int .i64 n) := by rw [HW.out]; simp [go_sem]
    have d1 : W.cell? ⟨w.heap.size, 1, none⟩ = some (.slice s l.length cap) := by rw [HW.out]; simp [go_sem]
    have d2 : W.cell? ⟨w.heap.size, 2, none⟩ = some (.slice s2 K.length cq) := by rw [HW.out]; simp [go_sem]
    have dl : w.heap.size < W.heap.size := World.block_lt_of_cell? W _ d0
    have g0 : W.cell? ⟨w.heap.size + 1, 0, none⟩ = some (.int .i64 q.f.x) := by rw [HW.out]; simp [go_sem]
    have g1 : W.cell? ⟨w.heap.size + 1, 1, none⟩ = some (.int .i64 q.f.y) := by rw [HW.out]; simp [go_sem]
    have g2 : W.cell? ⟨w.heap.size + 1, 2, none⟩ = some (.int .i64 q.f.z) := by rw [HW.out]; simp [go_sem]
    have g3 : W.cell? ⟨w.heap.size + 1, 3, none⟩ = some (.slice q.s q.off.length q.cap) := by rw [HW.out]; simp [go_sem]
    have gl : w.heap.size + 1 < W.heap.size := World.block_lt_of_cell? W _ g0
    try replace hr := up_of hB hr
    try replace hq := up_of hB hq
    go_upto_region 4 with (first | (go_at_call 61; refine (hck.out _ hr hq).mono ?_; rintro e W1 ⟨rfl, hb⟩; (try replace hr := up_of hb hr); (try replace hq := up_of hb hq); (try replace hB := up_of hb hB); (try replace d0 := up_of hb d0); (try replace d1 := up_of hb d1); (try replace d2 := up_of hb d2); (try replace dl := up_of hb dl); (try replace g0 := up_of hb g0); (try replace g1 := up_of hb g1); (try replace g2 := up_of hb g2); (try replace g3 := up_of hb g3); (try replace gl := up_of hb gl)))
    go_wp2_with (first | (go_at_call 66; refine (hel2.out _ hr).mono ?_; rintro e W5 ⟨sp, cp, rfl, hps, hb⟩; (try replace hr := up_of hb hr); (try replace hq := up_of hb hq); (try replace hB := up_of hb hB); (try replace d0 := up_of hb d0); (try replace d1 := up_of hb d1); (try replace d2 := up_of hb d2); (try replace dl := up_of hb dl); (try replace g0 := up_of hb g0); (try replace g1 := up_of hb g1); (try replace g2 := up_of hb g2); (try replace g3 := up_of hb g3); (try replace gl := up_of hb gl)))
    go_ret3
    exact ⟨rfl, hB⟩
  · obtain ⟨-, -, hk1, hk4, hn3, hp9, -, hol, -⟩ := hok rfl
    have hel2 := fun V (h : RecM V s l s2 cq K) => hel V h hn3 hk4 hp9
    obtain ⟨L1, L2⟩ := hlaw rfl (by rintro rfl; simp at h2)
    rw [← L1, ← L2]
    have hE1 : 1 ≤ E.length := by rw [hEl]; exact Nat.mul_pos hk1 h2
    have hE4 : E.length ≤ 4000 := by rw [hEl]; exact Nat.mul_le_mul hk4 hp9
    have k2 : ((E.length : Int) == 0) = false := by simp; intro h; rw [h] at hE1; simp at hE1
    have hT1 : 1 ≤ T.length := by omega
    have v8 : 0 < E.length := by omega
    have v7 : 0 < T.length := by omega
    obtain ⟨fl, l0, lx, lf⟩ := lo_seq (T := T) hT1
    obtain ⟨fh, m0, mx, mf⟩ := hi_seq (T := T) hT1
    have htm : ∀ (j : Nat) (hj : j < E.length) (hj' : j < T.length) V, SdM V q → Calls Try.prog 63 #[.agg #[.int .i64 q.f.x, .int .i64 q.f.y, .int .i64 q.f.z, .slice q.s q.off.length q.cap], .agg #[.int .i64 E[j].v, .int .i64 E[j].p.x, .int .i64 E[j].p.y, .int .i64 E[j].p.z]] V fun e w' => e = .returned (.int .i64 T[j]) ∧ Below V.heap.size V w' := fun j hj hj' V h => by
      rw [hTa j hj hj']; exact timeOf_c q E[j].v E[j].p V h (by have := hEv j hj; omega)
    rw [← lf, ← mf, hTl]
    have ht0 := fun V h => htm 0 v8 v7 V h
    obtain ⟨e0, he0⟩ : ∃ x, E[0]'v8 = x := ⟨_, rfl⟩
    obtain ⟨t0, ht00⟩ : ∃ x, T[0]'v7 = x := ⟨_, rfl⟩
    simp only [he0, ht00] at ht0
    rw [ht00] at l0 m0
    replace l0 := Lib.hid l0; replace m0 := Lib.hid m0; replace lx := Lib.hid lx; replace mx := Lib.hid mx; replace htm := Lib.hid htm; replace ht0 := Lib.hid ht0; replace he0 := Lib.hid he0; replace hTl := Lib.hid hTl; replace hel2 := Lib.hid hel2
    have v0 : (0 : Int) < (E.length : Int) := by omega
    have v9 : E ≠ [] := by rintro rfl; simp at hE1
    clear hok hel hEl hEv hTa hP hp9 hk4 hk1 hn3 hol L1 L2 lf mf ht00 h2
    go_enter Try.func22, Try.ntmps22
    go_upto_region 1 with (fail)
    refine wp_world fun W HW => ?_
    have hB : Below w.heap.size w W := by rw [HW.out]; (repeat (first | exact Below.refl _ _ | refine Below.alloc ?_ (by simp; try omega) _ | refine Below.setCell ?_ (by simp) _ | refine Below.drew ?_))
    have d0 : W.cell? ⟨w.heap.size, 0, none⟩ = some (.int .i64 n) := by rw [HW.out]; simp [go_sem]
    have d1 : W.cell? ⟨w.heap.size, 1, none⟩ = some (.slice s l.length cap) := by rw [HW.out]; simp [go_sem]
    have d2 : W.cell? ⟨w.heap.size, 2, none⟩ = some (.slice s2 K.length cq) := by rw [HW.out]; simp [go_sem]
    have dl : w.heap.size < W.heap.size := World.block_lt_of_cell? W _ d0
    have g0 : W.cell? ⟨w.heap.size + 1, 0, none⟩ = some (.int .i64 q.f.x) := by rw [HW.out]; simp [go_sem]
    have g1 : W.cell? ⟨w.heap.size + 1, 1, none⟩ = some (.int .i64 q.f.y) := by rw [HW.out]; simp [go_sem]
    have g2 : W.cell? ⟨w.heap.size + 1, 2, none⟩ = some (.int .i64 q.f.z) := by rw [HW.out]; simp [go_sem]
    have g3 : W.cell? ⟨w.heap.size + 1, 3, none⟩ = some (.slice q.s q.off.length q.cap) := by rw [HW.out]; simp [go_sem]
    have gl : w.heap.size + 1 < W.heap.size := World.block_lt_of_cell? W _ g0
    try replace hr := up_of hB hr
    try replace hq := up_of hB hq
    go_upto_region 4 with (first | (go_at_call 61; refine (hck.out _ hr hq).mono ?_; rintro e W1 ⟨rfl, hb⟩; (try replace hr := up_of hb hr); (try replace hq := up_of hb hq); (try replace hB := up_of hb hB); (try replace d0 := up_of hb d0); (try replace d1 := up_of hb d1); (try replace d2 := up_of hb d2); (try replace dl := up_of hb dl); (try replace g0 := up_of hb g0); (try replace g1 := up_of hb g1); (try replace g2 := up_of hb g2); (try replace g3 := up_of hb g3); (try replace gl := up_of hb gl)))
    go_upto_region 7 with (first | (go_at_call 66; refine (hel2.out _ hr).mono ?_; rintro e W5 ⟨sp, cp, rfl, hps, hb⟩; (try replace hr := up_of hb hr); (try replace hq := up_of hb hq); (try replace hB := up_of hb hB); (try replace d0 := up_of hb d0); (try replace d1 := up_of hb d1); (try replace d2 := up_of hb d2); (try replace dl := up_of hb dl); (try replace g0 := up_of hb g0); (try replace g1 := up_of hb g1); (try replace g2 := up_of hb g2); (try replace g3 := up_of hb g3); (try replace gl := up_of hb gl)))
    obtain ⟨b, off, rfl, hb', y0, y1, y2, y3⟩ := hps.el_at (i := 0) (by omega)
    rw [he0.out] at y0 y1 y2 y3
    simp only [Nat.zero_mul, Nat.add_zero] at y0 y1 y2 y3
    go_region_held3 (fun V => V.cell? ⟨w.heap.size + 1, 0, none⟩ = some (.int .i64 q.f.x) ∧ V.cell? ⟨w.heap.size + 1, 1, none⟩ = some (.int .i64 q.f.y) ∧ V.cell? ⟨w.heap.size + 1, 2, none⟩ = some (.int .i64 q.f.z) ∧ V.cell? ⟨w.heap.size + 1, 3, none⟩ = some (.slice q.s q.off.length q.cap) ∧ V.cell? ⟨b, off, none⟩ = some (.int .i64 e0.v) ∧ V.cell? ⟨b, off + 1, none⟩ = some (.int .i64 e0.p.x) ∧ V.cell? ⟨b, off + 2, none⟩ = some (.int .i64 e0.p.y) ∧ V.cell? ⟨b, off + 3, none⟩ = some (.int .i64 e0.p.z)) ((first | (with_reducible exact ⟨g0, g1, g2, g3, y0, y1, y2, y3⟩) | ((try dsimp only); (repeat' apply And.intro) <;> (repeat (first | (with_reducible assumption) | (with_reducible refine cell_set (by simp; try omega) ?_) | (with_reducible refine cell_drew ?_) | (with_reducible refine cell_alloc ?_ _)))))) ((first | (go_at_call 63; refine calls_below (W0 := W5) ?_ fun hpre => ?_; (repeat (first | exact Below.refl _ _ | refine Below.alloc ?_ (by simp; try omega) _ | refine Below.drew ?_)); refine (ht0.out _ (up_of hpre hq)).mono ?_; rintro e N1 ⟨rfl, hb1⟩; have hb := Up.trans hpre hb1; clear hpre; (first | have hs_N1 := below_alloc_lt hb1 | have hs_N1 := below_alloc_lt (drewB hb1) | skip); have dl_N1 := dl; have gl_N1 := gl; (try replace hr := up_of hb hr); (try replace hq := up_of hb hq); (try replace hB := up_of hb hB); (try replace d0 := up_of hb d0); (try replace d1 := up_of hb d1); (try replace d2 := up_of hb d2); (try replace dl := up_of hb dl); (try replace g0 := up_of hb g0); (try replace g1 := up_of hb g1); (try replace g2 := up_of hb g2); (try replace g3 := up_of hb g3); (try replace gl := up_of hb gl); (try replace hps := up_of hb hps); (try replace y0 := up_of hb y0); (try replace y1 := up_of hb y1); (try replace y2 := up_of hb y2); (try replace y3 := up_of hb y3); (first | have nB := new_up hb1 | have nB := new_up (drewB hb1) | (try replace nB := up_of hb nB))) | (go_at_call 63; refine calls_below (W0 := N1) ?_ fun hpre => ?_; (repeat (first | exact Below.refl _ _ | refine Below.alloc ?_ (by simp; try omega) _ | refine Below.drew ?_)); refine (ht0.out _ (up_of hpre hq)).mono ?_; rintro e N2 ⟨rfl, hb1⟩; have hb := Up.trans hpre hb1; clear hpre; (first | have hs_N2 := below_alloc_lt hb1 | have hs_N2 := below_alloc_lt (drewB hb1) | skip); have dl_N2 := dl; have gl_N2 := gl; (try replace hr := up_of hb hr); (try replace hq := up_of hb hq); (try replace hB := up_of hb hB); (try replace d0 := up_of hb d0); (try replace d1 := up_of hb d1); (try replace d2 := up_of hb d2); (try replace dl := up_of hb dl); (try replace g0 := up_of hb g0); (try replace g1 := up_of hb g1); (try replace g2 := up_of hb g2); (try replace g3 := up_of hb g3); (try replace gl := up_of hb gl); (try replace hps := up_of hb hps); (try replace y0 := up_of hb y0); (try replace y1 := up_of hb y1); (try replace y2 := up_of hb y2); (try replace y3 := up_of hb y3); (first | have nB := new_up hb1 | have nB := new_up (drewB hb1) | (try replace nB := up_of hb nB)))))
    all_goals
      go_wp2
      go_loopw [4, 5, 34] (fun a c i V => ∃ j : Nat, j ≤ E.length ∧ i = .int .i64 j ∧ a = .int .i64 (fl j) ∧ c = .int .i64 (fh j) ∧ Below N2.heap.size N2 V) (fun _ _ i _ => E.length - (intOf i).toNat)
      case atStart => exact ⟨0, by omega, rfl, by rw [l0.out], by rw [m0.out], Below.refl _ _⟩
      case round =>
        obtain ⟨j, hj, rfl, rfl, rfl, hBV⟩ := hrel
        try replace hr := up_of hBV hr
        try replace hq := up_of hBV hq
        try replace hB := up_of hBV hB
        try replace d0 := up_of hBV d0
        try replace d1 := up_of hBV d1
        try replace d2 := up_of hBV d2
        try replace dl := up_of hBV dl
        try replace g0 := up_of hBV g0
        try replace g1 := up_of hBV g1
        try replace g2 := up_of hBV g2
        try replace g3 := up_of hBV g3
        try replace gl := up_of hBV gl
        try replace hps := up_of hBV hps
        try replace y0 := up_of hBV y0
        try replace y1 := up_of hBV y1
        try replace y2 := up_of hBV y2
        try replace y3 := up_of hBV y3
        by_cases hlt : j < E.length
        · have hjT : j < T.length := by have := hTl.out; omega
          obtain ⟨b', off', e', hb', z0, z1, z2, z3⟩ := hps.el_at hlt
          cases e'
          have htj := htm.out j hlt hjT
          have e1 := lx.out j hjT
          have e2 := mx.out j hjT
          obtain ⟨tj, htj0⟩ : ∃ x, T[j] = x := ⟨_, rfl⟩
          obtain ⟨ej, hej0⟩ : ∃ x, E[j] = x := ⟨_, rfl⟩
          simp only [htj0] at htj e1 e2
          simp only [hej0] at htj z0 z1 z2 z3
          clear htj0 hej0
          replace htj := Lib.hid htj; replace e1 := Lib.hid e1; replace e2 := Lib.hid e2
          have i4 : (0 : Int) ≤ (j : Int) := by omega
          have i5 : (j : Int) < (E.length : Int) := by omega
          go_upto_region 11 with (fail)
          refine wp_world fun Y HY => ?_
          have hY : Below wr.heap.size wr Y := by rw [HY.out]; (repeat (first | exact Below.refl _ _ | refine Below.alloc ?_ (by simp; try omega) _ | refine Below.setCell ?_ (by simp) _ | refine Below.drew ?_))
          have x0 : Y.cell? ⟨wr.heap.size, 0, none⟩ = some (.int .i64 ej.v) := by rw [HY.out]; simp [go_sem]
          have x1 : Y.cell? ⟨wr.heap.size, 1, none⟩ = some (.int .i64 ej.p.x) := by rw [HY.out]; simp [go_sem]
          have x2 : Y.cell? ⟨wr.heap.size, 2, none⟩ = some (.int .i64 ej.p.y) := by rw [HY.out]; simp [go_sem]
          have x3 : Y.cell? ⟨wr.heap.size, 3, none⟩ = some (.int .i64 ej.p.z) := by rw [HY.out]; simp [go_sem]
          have xl : wr.heap.size < Y.heap.size := World.block_lt_of_cell? Y _ x0
          try replace hr := up_of hY hr
          try replace hq := up_of hY hq
          try replace hB := up_of hY hB
          try replace d0 := up_of hY d0
          try replace d1 := up_of hY d1
          try replace d2 := up_of hY d2
          try replace dl := up_of hY dl
          try replace g0 := up_of hY g0
          try replace g1 := up_of hY g1
          try replace g2 := up_of hY g2
          try replace g3 := up_of hY g3
          try replace gl := up_of hY gl
          try replace hps := up_of hY hps
          try replace y0 := up_of hY y0
          try replace y1 := up_of hY y1
          try replace y2 := up_of hY y2
          try replace y3 := up_of hY y3
          try replace hBV := up_of hY hBV
          obtain ⟨fa, hfa⟩ : ∃ x, fl j = x := ⟨_, rfl⟩
          obtain ⟨fb, hfb⟩ : ∃ x, fh j = x := ⟨_, rfl⟩
          rw [hfa] at e1 ⊢
          rw [hfb] at e2 ⊢
          replace hfa := Lib.hid hfa; replace hfb := Lib.hid hfb
          by_cases c1 : tj < fa <;> by_cases c2 : fb < tj
          all_goals
            go_region_held3 (fun V => V.cell? ⟨w.heap.size + 1, 0, none⟩ = some (.int .i64 q.f.x) ∧ V.cell? ⟨w.heap.size + 1, 1, none⟩ = some (.int .i64 q.f.y) ∧ V.cell? ⟨w.heap.size + 1, 2, none⟩ = some (.int .i64 q.f.z) ∧ V.cell? ⟨w.heap.size + 1, 3, none⟩ = some (.slice q.s q.off.length q.cap) ∧ V.cell? ⟨wr.heap.size, 0, none⟩ = some (.int .i64 ej.v) ∧ V.cell? ⟨wr.heap.size, 1, none⟩ = some (.int .i64 ej.p.x) ∧ V.cell? ⟨wr.heap.size, 2, none⟩ = some (.int .i64 ej.p.y) ∧ V.cell? ⟨wr.heap.size, 3, none⟩ = some (.int .i64 ej.p.z)) ((first | (with_reducible exact ⟨g0, g1, g2, g3, x0, x1, x2, x3⟩) | ((try dsimp only); (repeat' apply And.intro) <;> (repeat (first | (with_reducible assumption) | (with_reducible refine cell_set (by simp; try omega) ?_) | (with_reducible refine cell_drew ?_) | (with_reducible refine cell_alloc ?_ _)))))) ((first | (go_at_call 63; refine calls_below (W0 := Y) ?_ fun hpre => ?_; (repeat (first | exact Below.refl _ _ | refine Below.alloc ?_ (by simp; try omega) _ | refine Below.drew ?_)); refine (htj.out _ (up_of hpre hq)).mono ?_; rintro e N3 ⟨rfl, hb1⟩; have hb := Up.trans hpre hb1; clear hpre; (first | have hs_N3 := below_alloc_lt hb1 | have hs_N3 := below_alloc_lt (drewB hb1) | skip); have dl_N3 := dl; have gl_N3 := gl; have xl_N3 := xl; (try replace hr := up_of hb hr); (try replace hq := up_of hb hq); (try replace hB := up_of hb hB); (try replace d0 := up_of hb d0); (try replace d1 := up_of hb d1); (try replace d2 := up_of hb d2); (try replace dl := up_of hb dl); (try replace g0 := up_of hb g0); (try replace g1 := up_of hb g1); (try replace g2 := up_of hb g2); (try replace g3 := up_of hb g3); (try replace gl := up_of hb gl); (try replace hps := up_of hb hps); (try replace y0 := up_of hb y0); (try replace y1 := up_of hb y1); (try replace y2 := up_of hb y2); (try replace y3 := up_of hb y3); (try replace hBV := up_of hb hBV); (try replace hY := up_of hb hY); (try replace x0 := up_of hb x0); (try replace x1 := up_of hb x1); (try replace x2 := up_of hb x2); (try replace x3 := up_of hb x3); (try replace xl := up_of hb xl); (first | have nB := new_up hb1 | have nB := new_up (drewB hb1) | (try replace nB := up_of hb nB))) | (go_at_call 63; refine calls_below (W0 := N3) ?_ fun hpre => ?_; (repeat (first | exact Below.refl _ _ | refine Below.alloc ?_ (by simp; try omega) _ | refine Below.drew ?_)); refine (htj.out _ (up_of hpre hq)).mono ?_; rintro e N4 ⟨rfl, hb1⟩; have hb := Up.trans hpre hb1; clear hpre; (first | have hs_N4 := below_alloc_lt hb1 | have hs_N4 := below_alloc_lt (drewB hb1) | skip); have dl_N4 := dl; have gl_N4 := gl; have xl_N4 := xl; (try replace hr := up_of hb hr); (try replace hq := up_of hb hq); (try replace hB := up_of hb hB); (try replace d0 := up_of hb d0); (try replace d1 := up_of hb d1); (try replace d2 := up_of hb d2); (try replace dl := up_of hb dl); (try replace g0 := up_of hb g0); (try replace g1 := up_of hb g1); (try replace g2 := up_of hb g2); (try replace g3 := up_of hb g3); (try replace gl := up_of hb gl); (try replace hps := up_of hb hps); (try replace y0 := up_of hb y0); (try replace y1 := up_of hb y1); (try replace y2 := up_of hb y2); (try replace y3 := up_of hb y3); (try replace hBV := up_of hb hBV); (try replace hY := up_of hb hY); (try replace x0 := up_of hb x0); (try replace x1 := up_of hb x1); (try replace x2 := up_of hb x2); (try replace x3 := up_of hb x3); (try replace xl := up_of hb xl); (first | have nB := new_up hb1 | have nB := new_up (drewB hb1) | (try replace nB := up_of hb nB)))))
            all_goals
              go_wp2
              go_roundw
              case rel => exact ⟨j + 1, by omega, rfl, congrArg (Value.int .i64) (by rw [e1.out]; (first | rfl | ((repeat' split) <;> omega))), congrArg (Value.int .i64) (by rw [e2.out]; (first | rfl | ((repeat' split) <;> omega))), hBV⟩
              case measure => exact meas hlt
        · obtain rfl : j = E.length := by omega
          go_wp2
          go_ret3
          exact ⟨rfl, hB⟩
end Go.Proofs.Ytbpdgoedglkefaa
