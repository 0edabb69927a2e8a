/- Delays of sums: the statement's own function. -/
import Derived.Test.YtbpdgoedglkefaaSchAdd
import Derived.Test.YtbpdgoedglkefaaSch16
import Derived.Test.YtbpdgoedglkefaaSch24
namespace Go.Proofs.Ytbpdgoedglkefaa
open Go.RowKit

theorem sum_ok {n : Int} {l : List Iq} {K : List Vv} {q r : Sd} (h : sumE n l K q r = 0) (s : Option Addr) (c : Nat) : chkE n l K [⟨addP q.f r.f, addO K.length q.off r.off, s, c⟩] = 0 ∧ chkE n l K [q] = 0 ∧ chkE n l K [r] = 0 ∧ legB K q = true ∧ legB K r = true ∧ Lin K.length 1 1 ⟨addP q.f r.f, addO K.length q.off r.off, s, c⟩ q r := by
  unfold sumE at h
  by_cases h0 : allE n l K [q, r] = 0
  · rw [if_neg (fun e => e h0)] at h
    have h1 : fitB n K.length (addP q.f r.f) (addO K.length q.off r.off) = true := by
      by_cases h2 : fitB n K.length (addP q.f r.f) (addO K.length q.off r.off) = true
      · exact h2
      · rw [if_neg h2] at h; cases h
    unfold allE at h0
    by_cases hc : chkE n l K [q, r] = 0
    · rw [if_neg (fun e => e hc)] at h0
      obtain ⟨c1, c2⟩ := chk_pair hc
      have hl : legB K q = true ∧ legB K r = true := by
        cases h5 : legB K q <;> cases h6 : legB K r <;> simp [h5, h6] at h0 ⊢
      refine ⟨chk_one (chk_ok c1).1 h1, c1, c2, hl.1, hl.2, ⟨fun x => ?_, fun v hv => ?_⟩⟩
      · simp only [dotZ, addP, Int.add_mul]; omega
      · simp only [addO]
        rw [List.getD_eq_getElem?_getD, List.getElem?_map, List.getElem?_range hv]
        simp
    · rw [if_pos hc] at h0; exact absurd h0 hc
  · rw [if_pos h0] at h; exact absurd h h0
theorem slow_ok {n : Int} {l : List Iq} {K : List Vv} {q : Sd} {k : Int} (h : slowE n l K q k = 0) (s : Option Addr) (c : Nat) : chkE n l K [⟨mulP k q.f, mulO K.length k q.off, s, c⟩] = 0 ∧ chkE n l K [q] = 0 ∧ legB K q = true ∧ (1 ≤ k ∧ k ≤ 9) ∧ Lin K.length k 0 ⟨mulP k q.f, mulO K.length k q.off, s, c⟩ q q := by
  unfold slowE at h
  by_cases h0 : chkE n l K [q] = 0
  · rw [if_neg (fun e => e h0)] at h
    cases hk : bw 1 k 9
    · rw [hk] at h; cases h
    · cases hl : legB K q
      · rw [hk, hl] at h; cases h
      · rw [hk, hl] at h
        simp only [if_true] at h
        have h1 : fitB n K.length (mulP k q.f) (mulO K.length k q.off) = true := by
          by_cases h2 : fitB n K.length (mulP k q.f) (mulO K.length k q.off) = true
          · exact h2
          · rw [if_neg h2] at h; cases h
        refine ⟨chk_one (chk_ok h0).1 h1, h0, rfl, bw_iff.1 hk, ⟨fun x => ?_, fun v hv => ?_⟩⟩
        · simp only [dotZ, mulP, Int.zero_mul, Int.add_zero, Int.mul_add, Int.mul_assoc]
        · simp only [mulO, Int.zero_mul, Int.add_zero]
          rw [List.getD_eq_getElem?_getD, List.getElem?_map, List.getElem?_range hv]
          simp
  · rw [if_pos h0] at h; exact absurd h h0
set_option maxRecDepth 100000 in
set_option maxHeartbeats 4000000 in
theorem adds_c (n : Int) (s : Option Addr) (cap : Nat) (l : List Iq) (s2 : Option Addr) (cq : Nat) (K : List Vv) (q' q r : Sd) (a b : Int) (w : World) (hr : RecM w s l s2 cq K) (hq' : SdM w q') (hq : SdM w q) (hr2 : SdM w r)
    (h' : chkE n l K [q'] = 0) (h1 : chkE n l K [q] = 0) (h2 : chkE n l K [r] = 0) (hl : Lin K.length a b q' q r) (ha : 1 ≤ a ∧ a ≤ 9) (hb : 0 ≤ b ∧ b ≤ 1) (g1 : legB K q = true) (g2 : legB K r = true) :
    Calls Try.prog 42 #[.agg #[.int .i64 n, .slice s l.length cap, .slice s2 K.length cq], .agg #[.int .i64 q'.f.x, .int .i64 q'.f.y, .int .i64 q'.f.z, .slice q'.s q'.off.length q'.cap], .agg #[.int .i64 q.f.x, .int .i64 q.f.y, .int .i64 q.f.z, .slice q.s q.off.length q.cap], .agg #[.int .i64 r.f.x, .int .i64 r.f.y, .int .i64 r.f.z, .slice r.s r.off.length r.cap], .int .i64 a, .int .i64 b] w fun e w' => e = .returned (.bool true) ∧ Below w.heap.size w w' := by
  have hleg := lin_leg h' h1 h2 hl ha.1 hb.1 g1 g2
  have cl := fun V (h : RecM V s l s2 cq K) (h2 : SdM V q') => Legal_c n s cap l s2 cq K q' V h h2
  rw [show legR n l K q' = true by unfold legR; rw [h', hleg]; rfl, h'] at cl
  have dd1 := fun V (h : RecM V s l s2 cq K) (h2 : SdM V q') => Delays_c n s cap l s2 cq K q' V h h2
  have dd2 := fun V (h : RecM V s l s2 cq K) (h2 : SdM V q) => Delays_c n s cap l s2 cq K q V h h2
  have dd3 := fun V (h : RecM V s l s2 cq K) (h2 : SdM V r) => Delays_c n s cap l s2 cq K r V h h2
  obtain ⟨T', T1, T2, e0, e1, e2, l1, l2, l4, hrow⟩ := lin_tab h' h1 h2 hl
  rw [show delD n l K q' = T' by unfold delD; rw [if_pos h', e0], h'] at dd1
  rw [show delD n l K q = T1 by unfold delD; rw [if_pos h1, e1], h1] at dd2
  rw [show delD n l K r = T2 by unfold delD; rw [if_pos h2, e2], h2] at dd3
  clear e0 e1 e2 h' h1 h2 hl g1 g2 hleg
  have z1 : ((T'.length : Int) != (T1.length : Int)) = false := by simp; omega
  have z2 : ((T'.length : Int) != (T2.length : Int)) = false := by simp; omega
  replace cl := Lib.hid cl; replace dd1 := Lib.hid dd1; replace dd2 := Lib.hid dd2; replace dd3 := Lib.hid dd3; replace l1 := Lib.hid l1; replace l2 := Lib.hid l2; replace hrow := Lib.hid hrow
  go_enter Try.func42, Try.ntmps42
  go_upto_region 1 with (fail)
  refine wp_world fun W HW => ?_
  have hB : Below w.heap.size w W := by rw [HW.out]; (repeat (first | exact Below.refl _ _ | refine Below.alloc ?_ (by simp; try omega) _ | refine Below.setCell ?_ (by simp) _ | refine Below.drew ?_))
  have d0 : W.cell? ⟨w.heap.size, 0, none⟩ = some (.int .i64 n) := by rw [HW.out]; simp [go_sem]
  have d1 : W.cell? ⟨w.heap.size, 1, none⟩ = some (.slice s l.length cap) := by rw [HW.out]; simp [go_sem]
  have d2 : W.cell? ⟨w.heap.size, 2, none⟩ = some (.slice s2 K.length cq) := by rw [HW.out]; simp [go_sem]
  have dl : w.heap.size < W.heap.size := World.block_lt_of_cell? W _ d0
  have g0 : W.cell? ⟨w.heap.size + 1, 0, none⟩ = some (.int .i64 q'.f.x) := by rw [HW.out]; simp [go_sem]
  have g1 : W.cell? ⟨w.heap.size + 1, 1, none⟩ = some (.int .i64 q'.f.y) := by rw [HW.out]; simp [go_sem]
  have g2 : W.cell? ⟨w.heap.size + 1, 2, none⟩ = some (.int .i64 q'.f.z) := by rw [HW.out]; simp [go_sem]
  have g3 : W.cell? ⟨w.heap.size + 1, 3, none⟩ = some (.slice q'.s q'.off.length q'.cap) := by rw [HW.out]; simp [go_sem]
  have gl : w.heap.size + 1 < W.heap.size := World.block_lt_of_cell? W _ g0
  have h0 : W.cell? ⟨w.heap.size + 2, 0, none⟩ = some (.int .i64 q.f.x) := by rw [HW.out]; simp [go_sem]
  have h1 : W.cell? ⟨w.heap.size + 2, 1, none⟩ = some (.int .i64 q.f.y) := by rw [HW.out]; simp [go_sem]
  have h2 : W.cell? ⟨w.heap.size + 2, 2, none⟩ = some (.int .i64 q.f.z) := by rw [HW.out]; simp [go_sem]
  have h3 : W.cell? ⟨w.heap.size + 2, 3, none⟩ = some (.slice q.s q.off.length q.cap) := by rw [HW.out]; simp [go_sem]
  have hl : w.heap.size + 2 < W.heap.size := World.block_lt_of_cell? W _ h0
  have i0 : W.cell? ⟨w.heap.size + 3, 0, none⟩ = some (.int .i64 r.f.x) := by rw [HW.out]; simp [go_sem]
  have i1 : W.cell? ⟨w.heap.size + 3, 1, none⟩ = some (.int .i64 r.f.y) := by rw [HW.out]; simp [go_sem]
  have i2 : W.cell? ⟨w.heap.size + 3, 2, none⟩ = some (.int .i64 r.f.z) := by rw [HW.out]; simp [go_sem]
  have i3 : W.cell? ⟨w.heap.size + 3, 3, none⟩ = some (.slice r.s r.off.length r.cap) := by rw [HW.out]; simp [go_sem]
  have il : w.heap.size + 3 < W.heap.size := World.block_lt_of_cell? W _ i0
  try replace hr := up_of hB hr
  try replace hq' := up_of hB hq'
  try replace hq := up_of hB hq
  try replace hr2 := up_of hB hr2
  go_upto_region 2 with (first | (go_at_call 25; refine (cl.out _ hr hq').mono ?_; rintro e W1 ⟨rfl, hb⟩; (try replace hr := up_of hb hr); (try replace hq' := up_of hb hq'); (try replace hq := up_of hb hq); (try replace hr2 := up_of hb hr2); (try replace hB := up_of hb hB); (try replace d0 := up_of hb d0); (try replace d1 := up_of hb d1); (try replace d2 := up_of hb d2); (try replace dl := up_of hb dl); (try replace g0 := up_of hb g0); (try replace g1 := up_of hb g1); (try replace g2 := up_of hb g2); (try replace g3 := up_of hb g3); (try replace gl := up_of hb gl); (try replace h0 := up_of hb h0); (try replace h1 := up_of hb h1); (try replace h2 := up_of hb h2); (try replace h3 := up_of hb h3); (try replace hl := up_of hb hl); (try replace i0 := up_of hb i0); (try replace i1 := up_of hb i1); (try replace i2 := up_of hb i2); (try replace i3 := up_of hb i3); (try replace il := up_of hb il)))
  go_upto_region 3 with (first | (go_at_call 27; refine (dd1.out _ hr hq').mono ?_; rintro e A1 ⟨⟨t1, k1, rfl, hu1⟩, hb⟩; (try replace hr := up_of hb hr); (try replace hq' := up_of hb hq'); (try replace hq := up_of hb hq); (try replace hr2 := up_of hb hr2); (try replace hB := up_of hb hB); (try replace d0 := up_of hb d0); (try replace d1 := up_of hb d1); (try replace d2 := up_of hb d2); (try replace dl := up_of hb dl); (try replace g0 := up_of hb g0); (try replace g1 := up_of hb g1); (try replace g2 := up_of hb g2); (try replace g3 := up_of hb g3); (try replace gl := up_of hb gl); (try replace h0 := up_of hb h0); (try replace h1 := up_of hb h1); (try replace h2 := up_of hb h2); (try replace h3 := up_of hb h3); (try replace hl := up_of hb hl); (try replace i0 := up_of hb i0); (try replace i1 := up_of hb i1); (try replace i2 := up_of hb i2); (try replace i3 := up_of hb i3); (try replace il := up_of hb il)))
  go_upto_region 4 with (first | (go_at_call 27; refine (dd2.out _ hr hq).mono ?_; rintro e A2 ⟨⟨t2, k2, rfl, hu2⟩, hb⟩; (try replace hr := up_of hb hr); (try replace hq' := up_of hb hq'); (try replace hq := up_of hb hq); (try replace hr2 := up_of hb hr2); (try replace hB := up_of hb hB); (try replace d0 := up_of hb d0); (try replace d1 := up_of hb d1); (try replace d2 := up_of hb d2); (try replace dl := up_of hb dl); (try replace g0 := up_of hb g0); (try replace g1 := up_of hb g1); (try replace g2 := up_of hb g2); (try replace g3 := up_of hb g3); (try replace gl := up_of hb gl); (try replace h0 := up_of hb h0); (try replace h1 := up_of hb h1); (try replace h2 := up_of hb h2); (try replace h3 := up_of hb h3); (try replace hl := up_of hb hl); (try replace i0 := up_of hb i0); (try replace i1 := up_of hb i1); (try replace i2 := up_of hb i2); (try replace i3 := up_of hb i3); (try replace il := up_of hb il); (try replace hu1 := up_of hb hu1)))
  go_upto_region 5 with (first | (go_at_call 27; refine (dd3.out _ hr hr2).mono ?_; rintro e A3 ⟨⟨t3, k3, rfl, hu3⟩, hb⟩; (try replace hr := up_of hb hr); (try replace hq' := up_of hb hq'); (try replace hq := up_of hb hq); (try replace hr2 := up_of hb hr2); (try replace hB := up_of hb hB); (try replace d0 := up_of hb d0); (try replace d1 := up_of hb d1); (try replace d2 := up_of hb d2); (try replace dl := up_of hb dl); (try replace g0 := up_of hb g0); (try replace g1 := up_of hb g1); (try replace g2 := up_of hb g2); (try replace g3 := up_of hb g3); (try replace gl := up_of hb gl); (try replace h0 := up_of hb h0); (try replace h1 := up_of hb h1); (try replace h2 := up_of hb h2); (try replace h3 := up_of hb h3); (try replace hl := up_of hb hl); (try replace i0 := up_of hb i0); (try replace i1 := up_of hb i1); (try replace i2 := up_of hb i2); (try replace i3 := up_of hb i3); (try replace il := up_of hb il); (try replace hu1 := up_of hb hu1); (try replace hu2 := up_of hb hu2)))
  have hv1 := Lib.hid hu1; have hv2 := Lib.hid hu2; have hv3 := Lib.hid hu3
  clear hu1 hu2 hu3
  go_wp2
  go_loopw [81] (fun ii V => ∃ i : Nat, i ≤ T'.length ∧ ii = .int .i64 i ∧ Below A3.heap.size A3 V) (fun ii _ => T'.length - (intOf ii).toNat)
  case atStart => exact ⟨0, by omega, rfl, Below.refl _ _⟩
  case round =>
    obtain ⟨i, hi, rfl, hBV⟩ := hrel
    try replace hB := up_of hBV hB
    by_cases hlt : i < T'.length
    · have hlt1 : i < T1.length := by have := l1.out; omega
      have hlt2 : i < T2.length := by have := l2.out; omega
      obtain ⟨m1, m2, m3, hel⟩ := hrow.out i hlt hlt1 hlt2
      obtain ⟨b1, o1, u1, c1, x1, hb1, p0, s1, -, -⟩ := (up_of hBV hv1).out.at hlt
      obtain ⟨b2, o2, u2, c2, x2, hb2, q0, s2', -, -⟩ := (up_of hBV hv2).out.at hlt1
      obtain ⟨b3, o3, u3, c3, x3, hb3, r0, s3, -, -⟩ := (up_of hBV hv3).out.at hlt2
      cases x1; cases x2; cases x3
      obtain ⟨R', hR'⟩ : ∃ x, T'[i] = x := ⟨_, rfl⟩
      obtain ⟨R1, hR1⟩ : ∃ x, T1[i] = x := ⟨_, rfl⟩
      obtain ⟨R2, hR2⟩ : ∃ x, T2[i] = x := ⟨_, rfl⟩
      have hel2 : ∀ j (g : j < R'.length) (g1 : j < R1.length) (g2 : j < R2.length), R'[j] = a * R1[j] + b * R2[j] ∧ (-1081 ≤ R'[j] ∧ R'[j] ≤ 1081) ∧ (-1081 ≤ R1[j] ∧ R1[j] ≤ 1081) ∧ (-1081 ≤ R2[j] ∧ R2[j] ≤ 1081) := by subst hR'; subst hR1; subst hR2; exact hel
      rw [hR', hR1] at m1
      rw [hR', hR2] at m2
      rw [hR'] at m3 p0 s1
      rw [hR1] at q0 s2'
      rw [hR2] at r0 s3
      have y1 : ((R'.length : Int) != (R1.length : Int)) = false := by simp; omega
      have y2 : ((R'.length : Int) != (R2.length : Int)) = false := by simp; omega
      have j1 : (0 : Int) ≤ (i : Int) := by omega
      have j2 : (i : Int) < (T'.length : Int) := by omega
      have j3 : (i : Int) < (T1.length : Int) := by omega
      have j4 : (i : Int) < (T2.length : Int) := by omega
      clear hel
      replace m1 := Lib.hid m1; replace m2 := Lib.hid m2; replace hel2 := Lib.hid hel2; replace hR' := Lib.hid hR'; replace hR1 := Lib.hid hR1; replace hR2 := Lib.hid hR2
      replace s1 := Lib.hid s1; replace s2' := Lib.hid s2'; replace s3 := Lib.hid s3
      go_upto_region 10 with (fail)
      try have ld_p0 := World.block_lt_of_cell? _ _ p0
      try have ld_q0 := World.block_lt_of_cell? _ _ q0
      try have ld_r0 := World.block_lt_of_cell? _ _ r0
      refine region_q (by kernel_rfl) (by kernel_rfl) ?_
      dsimp only [List.toList_toArray]
      repeat (first
       | go_big_quiet_skip
       | (go_big_quiet_want
          first
          | (refine qq_det ?_
             apply Exists.intro; refine ⟨fun W' hW' => ?_, ?_⟩
             (· have hk := cellB hW'; go_simp; try (first | rfl | rw [if_pos (by omega)]))
             simp only [Act.put, List.setIfInBounds_toArray, List.set_cons_zero, List.set_cons_succ]; go_big_quiet_on)))
      refine wpQuiet_nil ?_
      intro Z hb
      try replace hB := up_of hb hB
      try replace hBV := up_of hb hBV
      try replace p0 := up_of hb p0
      try replace q0 := up_of hb q0
      try replace r0 := up_of hb r0
      try replace s1 := up_of hb s1
      try replace s2' := up_of hb s2'
      try replace s3 := up_of hb s3
      have hBZ := hBV
      go_wp2
      go_loopw [113] (fun jj V => ∃ j : Nat, j ≤ R'.length ∧ jj = .int .i64 j ∧ Below Z.heap.size Z V) (fun jj _ => R'.length - (intOf jj).toNat)
      case atStart => exact ⟨0, by omega, rfl, Below.refl _ _⟩
      case round =>
        obtain ⟨j, hj, rfl, hBX⟩ := hrel
        try replace hB := up_of hBX hB
        try replace hBV := up_of hBX hBV
        try replace p0 := up_of hBX p0
        try replace q0 := up_of hBX q0
        try replace r0 := up_of hBX r0
        try replace s1 := up_of hBX s1
        try replace s2' := up_of hBX s2'
        try replace s3 := up_of hBX s3
        by_cases hlj : j < R'.length
        · have g1 : j < R1.length := by have := m1.out; omega
          have g2 : j < R2.length := by have := m2.out; omega
          obtain ⟨e1, ⟨e2, e3⟩, ⟨e4, e5⟩, e6, e7⟩ := hel2.out j hlj g1 g2
          obtain ⟨b4, o4, x4, hb4, y0⟩ := s1.out.int_at hlj
          obtain ⟨b5, o5, x5, hb5, z0⟩ := s2'.out.int_at g1
          obtain ⟨b6, o6, x6, hb6, v0⟩ := s3.out.int_at g2
          cases x4; cases x5; cases x6
          obtain ⟨n1, hn1⟩ : ∃ x, R'[j] = x := ⟨_, rfl⟩
          obtain ⟨n2, hn2⟩ : ∃ x, R1[j] = x := ⟨_, rfl⟩
          obtain ⟨n3, hn3⟩ : ∃ x, R2[j] = x := ⟨_, rfl⟩
          rw [hn1] at y0 e1 e2 e3
          rw [hn2] at z0 e1 e4 e5
          rw [hn3] at v0 e1 e6 e7
          obtain ⟨w1, hw1⟩ : ∃ x, a * n2 = x := ⟨_, rfl⟩
          obtain ⟨w2, hw2⟩ : ∃ x, b * n3 = x := ⟨_, rfl⟩
          have bw1 := mul_bd (a := a) (b := n2) (A := 9) (B := 1081) (by omega) (by omega)
          have bw2 := mul_bd (a := b) (b := n3) (A := 1) (B := 1081) (by omega) (by omega)
          rw [hw1] at e1 bw1
          rw [hw2] at e1 bw2
          have k1 : IntKind.i64.wrap (a * n2) = w1 := by rw [hw1]; exact i64_small (by omega)
          have k2 : IntKind.i64.wrap (b * n3) = w2 := by rw [hw2]; exact i64_small (by omega)
          have k3 : IntKind.i64.wrap (w1 + w2) = n1 := by rw [← e1]; exact i64_small (by omega)
          have k4 : wrap64 (a * n2) = w1 := by rw [hw1]; unfold wrap64; omega
          have k5 : wrap64 (b * n3) = w2 := by rw [hw2]; unfold wrap64; omega
          have k6 : wrap64 (w1 + w2) = n1 := by rw [← e1]; unfold wrap64; omega
          have k7 : (n1 != n1) = false := by simp
          have i1 : (0 : Int) ≤ (j : Int) := by omega
          have i2 : (j : Int) < (R'.length : Int) := by omega
          have i3 : (j : Int) < (R1.length : Int) := by omega
          have i4 : (j : Int) < (R2.length : Int) := by omega
          replace e1 := Lib.hid e1; replace hw1 := Lib.hid hw1; replace hw2 := Lib.hid hw2; replace hn1 := Lib.hid hn1; replace hn2 := Lib.hid hn2; replace hn3 := Lib.hid hn3
          go_upto_region 15 with (fail)
          try have ld_p0 := World.block_lt_of_cell? _ _ p0
          try have ld_q0 := World.block_lt_of_cell? _ _ q0
          try have ld_r0 := World.block_lt_of_cell? _ _ r0
          try have ld_y0 := World.block_lt_of_cell? _ _ y0
          try have ld_z0 := World.block_lt_of_cell? _ _ z0
          try have ld_v0 := World.block_lt_of_cell? _ _ v0
          refine region_q (by kernel_rfl) (by kernel_rfl) ?_
          dsimp only [List.toList_toArray]
          repeat (first
           | go_big_quiet_skip
           | (go_big_quiet_want
              first
              | (refine qq_det ?_
                 apply Exists.intro; refine ⟨fun W' hW' => ?_, ?_⟩
                 (· have hk := cellB hW'; go_simp; try (first | rfl | rw [if_pos (by omega)]))
                 simp only [Act.put, List.setIfInBounds_toArray, List.set_cons_zero, List.set_cons_succ]; go_big_quiet_on)))
          refine wpQuiet_nil ?_
          intro Z2 hb
          try replace hB := up_of hb hB
          try replace hBV := up_of hb hBV
          try replace p0 := up_of hb p0
          try replace q0 := up_of hb q0
          try replace r0 := up_of hb r0
          try replace s1 := up_of hb s1
          try replace s2' := up_of hb s2'
          try replace s3 := up_of hb s3
          try replace hBX := up_of hb hBX
          try replace y0 := up_of hb y0
          try replace z0 := up_of hb z0
          try replace v0 := up_of hb v0
          go_wp2
          go_roundw
          case rel => exact ⟨j + 1, by omega, rfl, hBX⟩
          case measure => exact meas hlj
        · obtain rfl : j = R'.length := by omega
          go_wp2
          go_roundw
          case rel => exact ⟨i + 1, by omega, rfl, hBZ.trans (hBX.mono hBZ.size)⟩
          case measure => exact meas hlt
    · obtain rfl : i = T'.length := by omega
      go_wp2
      go_ret
      exact ⟨rfl, hB⟩
end Go.Proofs.Ytbpdgoedglkefaa
