/- Valid recurrences: the second reference's Valid. -/
import Derived.Test.YtakbpjgnjfigcaaGreatRef1
namespace Go.Proofs.YtakbpjgnjfigcaaGreat
open Go.RowKit Go.Maps

theorem rec_ways3 (n : Int) (l : List Iq) (K : List Vv) : (validB n l = false ∧ recB n l K = false) ∨
    (validB n l = true ∧ K.length < 1 ∧ recB n l K = false) ∨
    (validB n l = true ∧ 1 ≤ K.length ∧ 4 < K.length ∧ recB n l K = false) ∨
    (validB n l = true ∧ 1 ≤ K.length ∧ K.length ≤ 4 ∧ 1000 < (pts n l).length ∧ recB n l K = false) ∨
    (validB n l = true ∧ 1 ≤ K.length ∧ K.length ≤ 4 ∧ (pts n l).length ≤ 1000 ∧ recB n l K = recS n K) := by
  rcases rec_ways2 n l K with h | h | h | ⟨h1, h2, h3, h4⟩
  · exact .inl h
  · exact .inr (.inl h)
  · exact .inr (.inr (.inl h))
  · by_cases hp : (pts n l).length ≤ 1000
    · exact .inr (.inr (.inr (.inr ⟨h1, h2, h3, hp, by rw [h4, decide_eq_true hp, Bool.and_true]⟩)))
    · exact .inr (.inr (.inr (.inl ⟨h1, h2, h3, by omega, by rw [h4, decide_eq_false hp, Bool.and_false]⟩)))
set_option maxRecDepth 100000 in
set_option maxHeartbeats 4000000 in
theorem Valid2_c (n : Int) (s : Option Addr) (cap : Nat) (l : List Iq) (s2 : Option Addr) (cq : Nat) (K : List Vv) (w : World) (hd : Dom w s l) (hk : VarsM w s2 K) (hkl : K.length ≤ 9223372036854775807) :
    Calls Tryz.prog 6 #[.agg #[.int .i64 n, .slice s l.length cap, .slice s2 K.length cq]] w fun e w' => e = .returned (.bool (recB n l K)) ∧ Below w.heap.size w w' := by
  have hct := fun V (h : Dom V s l) => rValid_t n s cap l V h
  have hw := rec_ways3 n l K
  have hn := valid_n (n := n) (l := l)
  have hall0 := fun (hn : 1 ≤ n ∧ n ≤ 3) (V : World) (h : Dom V s l) => (All_c n s cap l V hn h.iq h.len h.wf).mono (R' := fun e w' => (∃ s' cap', e = .returned (.slice s' (pts n l).length cap')) ∧ Below V.heap.size V w') (fun e w' ⟨s', c', he, _, hb⟩ => ⟨⟨s', c', he⟩, hb⟩)
  have hbad := fun (j : Nat) (h : j < K.length) => recS_false (n := n) (K := K) (j := j) h
  have hgood := recS_true (n := n) (K := K)
  obtain ⟨B, hB0⟩ : ∃ x, recB n l K = x := ⟨_, rfl⟩
  obtain ⟨m, hm⟩ : ∃ x, (pts n l).length = x := ⟨_, rfl⟩
  simp only [hB0, hm] at hw ⊢
  simp only [hm] at hall0
  clear hB0 hm
  rcases hw with ⟨h1, rfl⟩ | ⟨h1, h2, rfl⟩ | ⟨h1, h2, h3, rfl⟩ | ⟨h1, h2, h3, h4, rfl⟩ | ⟨h1, h2, h3, h4, h5⟩
  · rw [h1] at hct
    replace hct := Lib.hid hct
    clear hn h1 hall0 hbad hgood
    go_enter Tryz.func6, Tryz.ntmps6
    go_upto_region 1 with (fail)
    refine wp_world fun W HW => ?_
    have hB : Below w.heap.size w W := by rw [HW.out]; (repeat (first | exact Below.refl _ _ | refine Below.alloc ?_ (by simp; try omega) _ | refine Below.setCell ?_ (by simp) _ | refine Below.drew ?_))
    have d0 : W.cell? ⟨w.heap.size, 0, none⟩ = some (.int .i64 n) := by rw [HW.out]; simp [go_sem]
    have d1 : W.cell? ⟨w.heap.size, 1, none⟩ = some (.slice s l.length cap) := by rw [HW.out]; simp [go_sem]
    have d2 : W.cell? ⟨w.heap.size, 2, none⟩ = some (.slice s2 K.length cq) := by rw [HW.out]; simp [go_sem]
    have dl : w.heap.size < W.heap.size := World.block_lt_of_cell? W _ d0
    try replace hd := up_of hB hd
    try replace hk := up_of hB hk
    go_wp2_with (first | (go_at_call 27; refine (hct.out _ hd).mono ?_; rintro e W1 ⟨rfl, hb⟩; (try replace hd := up_of hb hd); (try replace hk := up_of hb hk); (try replace hB := up_of hb hB); (try replace d0 := up_of hb d0); (try replace d1 := up_of hb d1); (try replace d2 := up_of hb d2); (try replace dl := up_of hb dl)))
    go_ret
    exact ⟨rfl, hB⟩
  · rw [h1] at hct
    replace hct := Lib.hid hct
    clear hn h1 hall0 hbad hgood
    have h4 : (K.length : Int) < 1 := by omega
    go_enter Tryz.func6, Tryz.ntmps6
    go_upto_region 1 with (fail)
    refine wp_world fun W HW => ?_
    have hB : Below w.heap.size w W := by rw [HW.out]; (repeat (first | exact Below.refl _ _ | refine Below.alloc ?_ (by simp; try omega) _ | refine Below.setCell ?_ (by simp) _ | refine Below.drew ?_))
    have d0 : W.cell? ⟨w.heap.size, 0, none⟩ = some (.int .i64 n) := by rw [HW.out]; simp [go_sem]
    have d1 : W.cell? ⟨w.heap.size, 1, none⟩ = some (.slice s l.length cap) := by rw [HW.out]; simp [go_sem]
    have d2 : W.cell? ⟨w.heap.size, 2, none⟩ = some (.slice s2 K.length cq) := by rw [HW.out]; simp [go_sem]
    have dl : w.heap.size < W.heap.size := World.block_lt_of_cell? W _ d0
    try replace hd := up_of hB hd
    try replace hk := up_of hB hk
    go_wp2_with (first | (go_at_call 27; refine (hct.out _ hd).mono ?_; rintro e W1 ⟨rfl, hb⟩; (try replace hd := up_of hb hd); (try replace hk := up_of hb hk); (try replace hB := up_of hb hB); (try replace d0 := up_of hb d0); (try replace d1 := up_of hb d1); (try replace d2 := up_of hb d2); (try replace dl := up_of hb dl)))
    go_ret
    exact ⟨rfl, hB⟩
  · rw [h1] at hct
    replace hct := Lib.hid hct
    clear hn h1 hall0 hbad hgood
    have h4 : ¬ (K.length : Int) < 1 := by omega
    have h5 : (4 : Int) < (K.length : Int) := by omega
    go_enter Tryz.func6, Tryz.ntmps6
    go_upto_region 1 with (fail)
    refine wp_world fun W HW => ?_
    have hB : Below w.heap.size w W := by rw [HW.out]; (repeat (first | exact Below.refl _ _ | refine Below.alloc ?_ (by simp; try omega) _ | refine Below.setCell ?_ (by simp) _ | refine Below.drew ?_))
    have d0 : W.cell? ⟨w.heap.size, 0, none⟩ = some (.int .i64 n) := by rw [HW.out]; simp [go_sem]
    have d1 : W.cell? ⟨w.heap.size, 1, none⟩ = some (.slice s l.length cap) := by rw [HW.out]; simp [go_sem]
    have d2 : W.cell? ⟨w.heap.size, 2, none⟩ = some (.slice s2 K.length cq) := by rw [HW.out]; simp [go_sem]
    have dl : w.heap.size < W.heap.size := World.block_lt_of_cell? W _ d0
    try replace hd := up_of hB hd
    try replace hk := up_of hB hk
    go_wp2_with (first | (go_at_call 27; refine (hct.out _ hd).mono ?_; rintro e W1 ⟨rfl, hb⟩; (try replace hd := up_of hb hd); (try replace hk := up_of hb hk); (try replace hB := up_of hb hB); (try replace d0 := up_of hb d0); (try replace d1 := up_of hb d1); (try replace d2 := up_of hb d2); (try replace dl := up_of hb dl)))
    go_ret
    exact ⟨rfl, hB⟩
  · rw [h1] at hct
    replace hall0 := hall0 (hn h1)
    replace hct := Lib.hid hct; replace hall0 := Lib.hid hall0
    clear hn h1 hbad hgood
    have h5 : ¬ (K.length : Int) < 1 := by omega
    have h6 : ¬ (4 : Int) < (K.length : Int) := by omega
    have h7 : (1000 : Int) < (m : Int) := by omega
    go_enter Tryz.func6, Tryz.ntmps6
    go_upto_region 1 with (fail)
    refine wp_world fun W HW => ?_
    have hB : Below w.heap.size w W := by rw [HW.out]; (repeat (first | exact Below.refl _ _ | refine Below.alloc ?_ (by simp; try omega) _ | refine Below.setCell ?_ (by simp) _ | refine Below.drew ?_))
    have d0 : W.cell? ⟨w.heap.size, 0, none⟩ = some (.int .i64 n) := by rw [HW.out]; simp [go_sem]
    have d1 : W.cell? ⟨w.heap.size, 1, none⟩ = some (.slice s l.length cap) := by rw [HW.out]; simp [go_sem]
    have d2 : W.cell? ⟨w.heap.size, 2, none⟩ = some (.slice s2 K.length cq) := by rw [HW.out]; simp [go_sem]
    have dl : w.heap.size < W.heap.size := World.block_lt_of_cell? W _ d0
    try replace hd := up_of hB hd
    try replace hk := up_of hB hk
    go_wp2_with (first | (go_at_call 27; refine (hct.out _ hd).mono ?_; rintro e W2 ⟨rfl, hb⟩; (try replace hd := up_of hb hd); (try replace hk := up_of hb hk); (try replace hB := up_of hb hB); (try replace d0 := up_of hb d0); (try replace d1 := up_of hb d1); (try replace d2 := up_of hb d2); (try replace dl := up_of hb dl)) | (go_at_call 28; refine (hall0.out _ hd).mono ?_; rintro e W1 ⟨⟨s', c', rfl⟩, hb⟩; (try replace hd := up_of hb hd); (try replace hk := up_of hb hk); (try replace hB := up_of hb hB); (try replace d0 := up_of hb d0); (try replace d1 := up_of hb d1); (try replace d2 := up_of hb d2); (try replace dl := up_of hb dl)))
    go_ret
    exact ⟨rfl, hB⟩
  rw [h1] at hct
  have hn3 := hn h1
  replace hall0 := hall0 hn3
  replace hct := Lib.hid hct; replace hall0 := Lib.hid hall0
  clear hn h1
  obtain ⟨nn, rfl⟩ : ∃ k : Nat, n = k := ⟨n.toNat, by omega⟩
  obtain ⟨R, hR0⟩ : ∃ x, recS nn K = x := ⟨_, rfl⟩
  rw [hR0] at h5
  simp only [hR0] at hbad hgood
  clear hR0
  subst h5
  have k5 : ¬ (K.length : Int) < 1 := by omega
  have k6 : ¬ (4 : Int) < (K.length : Int) := by omega
  have k7 : ¬ (1000 : Int) < (m : Int) := by omega
  have hk14 : Hid (1 ≤ K.length ∧ K.length ≤ 4) := Lib.hid ⟨h2, h3⟩
  replace hbad := Lib.hid hbad; replace hgood := Lib.hid hgood; replace hn3 := Lib.hid hn3
  clear h2 h3 h4
  go_enter Tryz.func6, Tryz.ntmps6
  go_upto_region 1 with (fail)
  refine wp_world fun W HW => ?_
  have hB : Below w.heap.size w W := by rw [HW.out]; (repeat (first | exact Below.refl _ _ | refine Below.alloc ?_ (by simp; try omega) _ | refine Below.setCell ?_ (by simp) _ | refine Below.drew ?_))
  have d0 : W.cell? ⟨w.heap.size, 0, none⟩ = some (.int .i64 nn) := by rw [HW.out]; simp [go_sem]
  have d1 : W.cell? ⟨w.heap.size, 1, none⟩ = some (.slice s l.length cap) := by rw [HW.out]; simp [go_sem]
  have d2 : W.cell? ⟨w.heap.size, 2, none⟩ = some (.slice s2 K.length cq) := by rw [HW.out]; simp [go_sem]
  have dl : w.heap.size < W.heap.size := World.block_lt_of_cell? W _ d0
  try replace hd := up_of hB hd
  try replace hk := up_of hB hk
  go_upto_region 3 with (first | (go_at_call 27; refine (hct.out _ hd).mono ?_; rintro e W2 ⟨rfl, hb⟩; (try replace hd := up_of hb hd); (try replace hk := up_of hb hk); (try replace hB := up_of hb hB); (try replace d0 := up_of hb d0); (try replace d1 := up_of hb d1); (try replace d2 := up_of hb d2); (try replace dl := up_of hb dl)) | (go_at_call 28; refine (hall0.out _ hd).mono ?_; rintro e W3 ⟨⟨s', c', rfl⟩, hb⟩; (try replace hd := up_of hb hd); (try replace hk := up_of hb hk); (try replace hB := up_of hb hB); (try replace d0 := up_of hb d0); (try replace d1 := up_of hb d1); (try replace d2 := up_of hb d2); (try replace dl := up_of hb dl)))
  go_wp2
  go_loopw [3] (fun i V => ∃ k : Nat, k ≤ K.length ∧ i = .int .i64 k ∧ Below W3.heap.size W3 V ∧ Hid (∀ j, j < k → badV nn K j = false)) (fun i _ => K.length - (intOf i).toNat)
  case atStart => exact ⟨0, by omega, rfl, Below.refl _ _, fun j h => absurd h (by omega)⟩
  case round =>
    obtain ⟨k, hkk, rfl, hBV, hall⟩ := hrel
    try replace hd := up_of hBV hd
    try replace hk := up_of hBV hk
    try replace hB := up_of hBV hB
    try replace d0 := up_of hBV d0
    try replace d1 := up_of hBV d1
    try replace d2 := up_of hBV d2
    try replace dl := up_of hBV dl
    by_cases hlt : k < K.length
    · obtain ⟨b, off, sa, ca, rfl, hb, q0, q1, q2, q3, q4, q5, q6, hsa, hal, -, -⟩ := hk.at hlt
      have hbk := badV_at (n := nn) hlt
      rw [varB_vr] at hbk
      have hF := hbad.out k hlt
      have hN := fun (h : ∀ j (hj : j < K.length), j < k → ¬ K[j].name = K[k].name) => hasN_no (K := K) (k := k) (s := K[k].name) hkk h
      have hM := fun (h : ∃ i, ∃ (h : i < K.length), i < k ∧ K[i].name = K[k].name) => mem_names.2 h
      obtain ⟨v, hv⟩ : ∃ v, K[k] = v := ⟨_, rfl⟩
      rw [hv] at q0 q1 q2 q3 q4 q5 q6 hsa hal hbk hM
      simp only [hv] at hN
      have hvv := fun V h => validVar2_c v sa ca nn s l.length cap (some ⟨b, off, none⟩) K.length cq V h hal (by have := hn3.out; omega) (by have := hk14.out; omega)
      obtain ⟨name, op, args, i0, i1, i2, i3⟩ := v
      simp only at q0 q1 q2 q3 q4 q5 q6 hsa hal hbk hM hN hvv
      obtain ⟨VB, hVB⟩ : ∃ x, vrB K.length nn ⟨name, op, args, i0, i1, i2, i3⟩ = x := ⟨_, rfl⟩
      obtain ⟨BV, hBV2⟩ : ∃ x, badV nn K k = x := ⟨_, rfl⟩
      simp only [hVB] at hvv hbk
      rw [hBV2] at hbk hF
      have hup : BV = false → ∀ j, j < k + 1 → badV nn K j = false := fun h => upto_succ hall.out (hBV2.trans h)
      clear hVB hBV2
      replace hv := Lib.hid hv; replace hvv := Lib.hid hvv; replace hup := Lib.hid hup; replace hF := Lib.hid hF
      have g1 : (0 : Int) ≤ (k : Int) := by omega
      have g2 : (k : Int) < (K.length : Int) := by omega
      go_upto_region 7 with (fail)
      refine wp_world fun Y HY => ?_
      have hY : Below wr.heap.size wr Y := by rw [HY.out]; (repeat (first | exact Below.refl _ _ | refine Below.alloc ?_ (by simp; try omega) _ | refine Below.setCell ?_ (by simp) _ | refine Below.drew ?_))
      have c0 : Y.cell? ⟨wr.heap.size, 0, none⟩ = some (.string name) := by rw [HY.out]; simp [go_sem]
      have c1 : Y.cell? ⟨wr.heap.size, 1, none⟩ = some (.int .i64 op) := by rw [HY.out]; simp [go_sem]
      have c2 : Y.cell? ⟨wr.heap.size, 2, none⟩ = some (.slice sa args.length ca) := by rw [HY.out]; simp [go_sem]
      have c3 : Y.cell? ⟨wr.heap.size, 3, none⟩ = some (.int .i64 i0) := by rw [HY.out]; simp [go_sem]
      have c4 : Y.cell? ⟨wr.heap.size, 4, none⟩ = some (.int .i64 i1) := by rw [HY.out]; simp [go_sem]
      have c5 : Y.cell? ⟨wr.heap.size, 5, none⟩ = some (.int .i64 i2) := by rw [HY.out]; simp [go_sem]
      have c6 : Y.cell? ⟨wr.heap.size, 6, none⟩ = some (.int .i64 i3) := by rw [HY.out]; simp [go_sem]
      have cl : wr.heap.size < Y.heap.size := World.block_lt_of_cell? Y _ c0
      try replace hd := up_of hY hd
      try replace hk := up_of hY hk
      try replace hB := up_of hY hB
      try replace d0 := up_of hY d0
      try replace d1 := up_of hY d1
      try replace d2 := up_of hY d2
      try replace dl := up_of hY dl
      try replace hBV := up_of hY hBV
      try replace hsa := up_of hY hsa
      by_cases hz1 : name.size = 1
      case neg =>
        rw [nameB_size hz1, Bool.false_and, Bool.not_false, Bool.true_or] at hbk
        obtain rfl := hF.out hbk
        have h4 : ((name.size : Int) != 1) = true := by rw [bne_iff_ne]; omega
        clear hz1 hN hM hall hbk hup
        go_wp2
        go_ret
        exact ⟨rfl, hB⟩
      obtain ⟨b0, rfl⟩ := one_byte hz1
      rw [nameB_one] at hbk
      have h8 : b0.toNat < 256 := b0.toNat_lt
      clear hz1
      by_cases h97 : b0.toNat < 97
      · rw [decide_eq_false (by omega), Bool.false_and, Bool.false_and, Bool.not_false, Bool.true_or] at hbk
        obtain rfl := hF.out hbk
        have k1 : ((((⟨#[b0]⟩ : ByteArray)[0]'Nat.zero_lt_one).toNat : Nat) : Int) < 97 := by show (b0.toNat : Int) < 97; omega
        clear hN hM hall hbk hup
        go_wp2
        go_ret
        exact ⟨rfl, hB⟩
      have k1 : ¬ ((((⟨#[b0]⟩ : ByteArray)[0]'Nat.zero_lt_one).toNat : Nat) : Int) < 97 := by show ¬ (b0.toNat : Int) < 97; omega
      by_cases h122 : 122 < b0.toNat
      · rw [decide_eq_false (p := b0.toNat ≤ 122) (by omega), Bool.and_false, Bool.false_and, Bool.not_false, Bool.true_or] at hbk
        obtain rfl := hF.out hbk
        have k2 : (122 : Int) < ((((⟨#[b0]⟩ : ByteArray)[0]'Nat.zero_lt_one).toNat : Nat) : Int) := by show (122 : Int) < (b0.toNat : Int); omega
        clear hN hM hall hbk hup
        go_wp2
        go_ret
        exact ⟨rfl, hB⟩
      have k2 : ¬ (122 : Int) < ((((⟨#[b0]⟩ : ByteArray)[0]'Nat.zero_lt_one).toNat : Nat) : Int) := by show ¬ (122 : Int) < (b0.toNat : Int); omega
      rw [decide_eq_true (p := 97 ≤ b0.toNat) (by omega), decide_eq_true (p := b0.toNat ≤ 122) (by omega), Bool.true_and, Bool.true_and] at hbk
      clear h97 h122
      cases VB
      · rw [Bool.not_false, Bool.true_or] at hbk
        obtain rfl := hF.out hbk
        clear hN hM hall hbk hup
        go_wp2_with (first | (go_at_call 29; refine (hvv.out _ hsa).mono ?_; rintro e W1 ⟨rfl, hb⟩; (try replace hd := up_of hb hd); (try replace hk := up_of hb hk); (try replace hB := up_of hb hB); (try replace d0 := up_of hb d0); (try replace d1 := up_of hb d1); (try replace d2 := up_of hb d2); (try replace dl := up_of hb dl); (try replace hBV := up_of hb hBV); (try replace hsa := up_of hb hsa); (try replace hY := up_of hb hY); (try replace c0 := up_of hb c0); (try replace c1 := up_of hb c1); (try replace c2 := up_of hb c2); (try replace c3 := up_of hb c3); (try replace c4 := up_of hb c4); (try replace c5 := up_of hb c5); (try replace c6 := up_of hb c6); (try replace cl := up_of hb cl)))
        go_ret
        exact ⟨rfl, hB⟩
      rw [Bool.not_true, Bool.false_or] at hbk
      replace hM := Lib.hid hM; replace hN := Lib.hid hN; replace hbk := Lib.hid hbk
      clear hall
      go_upto_region 9 with (first | (go_at_call 29; refine (hvv.out _ hsa).mono ?_; rintro e W5 ⟨rfl, hb⟩; (try replace hd := up_of hb hd); (try replace hk := up_of hb hk); (try replace hB := up_of hb hB); (try replace d0 := up_of hb d0); (try replace d1 := up_of hb d1); (try replace d2 := up_of hb d2); (try replace dl := up_of hb dl); (try replace hBV := up_of hb hBV); (try replace hsa := up_of hb hsa); (try replace hY := up_of hb hY); (try replace c0 := up_of hb c0); (try replace c1 := up_of hb c1); (try replace c2 := up_of hb c2); (try replace c3 := up_of hb c3); (try replace c4 := up_of hb c4); (try replace c5 := up_of hb c5); (try replace c6 := up_of hb c6); (try replace cl := up_of hb cl)))
      obtain ⟨NM, hNM⟩ : ∃ x : ByteArray, ⟨#[b0]⟩ = x := ⟨_, rfl⟩
      rw [hNM] at c0
      simp only [hNM] at hM hN hbk
      clear hv
      replace hNM := Lib.hid hNM
      go_wp2
      go_loopw [5] (fun i V => ∃ j : Nat, j ≤ k ∧ i = .int .i64 j ∧ Below W5.heap.size W5 V ∧ Hid (∀ i (hi : i < K.length), i < j → ¬ K[i].name = NM)) (fun i _ => k - (intOf i).toNat)
      case atStart => exact ⟨0, by omega, rfl, Below.refl _ _, fun i hi h => absurd h (by omega)⟩
      case round =>
        obtain ⟨j, hjk, rfl, hBX, hnm⟩ := hrel
        try replace hd := up_of hBX hd
        try replace hk := up_of hBX hk
        try replace hB := up_of hBX hB
        try replace d0 := up_of hBX d0
        try replace d1 := up_of hBX d1
        try replace d2 := up_of hBX d2
        try replace dl := up_of hBX dl
        try replace hBV := up_of hBX hBV
        try replace hsa := up_of hBX hsa
        try replace hY := up_of hBX hY
        try replace c0 := up_of hBX c0
        try replace c1 := up_of hBX c1
        try replace c2 := up_of hBX c2
        try replace c3 := up_of hBX c3
        try replace c4 := up_of hBX c4
        try replace c5 := up_of hBX c5
        try replace c6 := up_of hBX c6
        try replace cl := up_of hBX cl
        by_cases hlj : j < k
        · have hlK : j < K.length := by omega
          obtain ⟨b', off', sa', ca', e', hb', x0, x1, x2, x3, x4, x5, x6, hsa', hal', -, -⟩ := hk.at hlK
          cases e'
          have hy : ¬ K[j].name = NM → ∀ i (hi : i < K.length), i < j + 1 → ¬ K[i].name = NM := fun h i hi hij => by
            by_cases h3 : i < j
            · exact hnm.out i hi h3
            · obtain rfl : i = j := by omega
              exact h
          have hz : K[j].name = NM → hasN K k NM = true := fun h => hM.out ⟨j, hlK, hlj, h⟩
          obtain ⟨u, hu⟩ : ∃ u, K[j].name = u := ⟨_, rfl⟩
          rw [hu] at x0 hy hz
          clear x1 x2 x3 x4 x5 x6 hsa' hal'
          replace hu := Lib.hid hu
          have g4 : (0 : Int) ≤ (j : Int) := by omega
          have g5 : (j : Int) < (k : Int) := by omega
          have g6 : (j : Int) < (K.length : Int) := by omega
          go_upto_region 12 with (fail)
          by_cases hnn : u = NM
          · have hh := hz hnn
            obtain rfl := hF.out (by rw [hbk.out, hh])
            have hdd : (u.toList == NM.toList) = true := by rw [hnn]; exact beq_self_eq_true _
            clear hy hz hh hnm hnn
            try have ld_d0 := World.block_lt_of_cell? _ _ d0
            try have ld_c0 := World.block_lt_of_cell? _ _ c0
            try have ld_x0 := World.block_lt_of_cell? _ _ x0
            refine region_q (by kernel_rfl) (by kernel_rfl) ?_
            dsimp only [List.toList_toArray]
            repeat (first
             | go_big_quiet_skip
             | (go_big_quiet_want
                first
                | (refine qq_det ?_
                   apply Exists.intro; refine ⟨fun W' hW' => ?_, ?_⟩
                   (· have hk := cellB hW'; go_simp; try (first | rfl | rw [if_pos (by omega)]))
                   simp only [Act.put, List.setIfInBounds_toArray, List.set_cons_zero, List.set_cons_succ]; go_big_quiet_on)))
            refine wpQuiet_nil ?_
            intro W1 hb
            try replace hd := up_of hb hd
            try replace hk := up_of hb hk
            try replace hB := up_of hb hB
            try replace d0 := up_of hb d0
            try replace d1 := up_of hb d1
            try replace d2 := up_of hb d2
            try replace dl := up_of hb dl
            try replace hBV := up_of hb hBV
            try replace hsa := up_of hb hsa
            try replace hY := up_of hb hY
            try replace c0 := up_of hb c0
            try replace c1 := up_of hb c1
            try replace c2 := up_of hb c2
            try replace c3 := up_of hb c3
            try replace c4 := up_of hb c4
            try replace c5 := up_of hb c5
            try replace c6 := up_of hb c6
            try replace cl := up_of hb cl
            try replace hBX := up_of hb hBX
            try replace x0 := up_of hb x0
            go_wp2
            go_ret
            exact ⟨rfl, hB⟩
          · have hok := Lib.hid (hy hnn)
            have hdd : (u.toList == NM.toList) = false := by rw [Bool.eq_false_iff]; exact fun h => hnn (toList_inj.1 (eq_of_beq h))
            clear hy hz hnm hnn
            try have ld_d0 := World.block_lt_of_cell? _ _ d0
            try have ld_c0 := World.block_lt_of_cell? _ _ c0
            try have ld_x0 := World.block_lt_of_cell? _ _ x0
            refine region_q (by kernel_rfl) (by kernel_rfl) ?_
            dsimp only [List.toList_toArray]
            repeat (first
             | go_big_quiet_skip
             | (go_big_quiet_want
                first
                | (refine qq_det ?_
                   apply Exists.intro; refine ⟨fun W' hW' => ?_, ?_⟩
                   (· have hk := cellB hW'; go_simp; try (first | rfl | rw [if_pos (by omega)]))
                   simp only [Act.put, List.setIfInBounds_toArray, List.set_cons_zero, List.set_cons_succ]; go_big_quiet_on)))
            refine wpQuiet_nil ?_
            intro W1 hb
            try replace hd := up_of hb hd
            try replace hk := up_of hb hk
            try replace hB := up_of hb hB
            try replace d0 := up_of hb d0
            try replace d1 := up_of hb d1
            try replace d2 := up_of hb d2
            try replace dl := up_of hb dl
            try replace hBV := up_of hb hBV
            try replace hsa := up_of hb hsa
            try replace hY := up_of hb hY
            try replace c0 := up_of hb c0
            try replace c1 := up_of hb c1
            try replace c2 := up_of hb c2
            try replace c3 := up_of hb c3
            try replace c4 := up_of hb c4
            try replace c5 := up_of hb c5
            try replace c6 := up_of hb c6
            try replace cl := up_of hb cl
            try replace hBX := up_of hb hBX
            try replace x0 := up_of hb x0
            go_wp2
            go_roundw
            case rel => exact ⟨j + 1, by omega, rfl, hBX, hok⟩
            case measure => exact meas hlj
        · obtain rfl : j = k := by omega
          have hok := Lib.hid (hup.out (by rw [hbk.out]; exact hN.out (fun i hi hij => hnm.out i hi hij)))
          clear hnm
          go_wp2
          go_roundw
          case rel => exact ⟨j + 1, by omega, rfl, hBV, hok⟩
          case measure => exact meas hlt
    · obtain rfl : k = K.length := by omega
      obtain rfl := hgood.out hall.out
      clear hall
      go_wp2
      go_ret
      exact ⟨rfl, hB⟩
end Go.Proofs.YtakbpjgnjfigcaaGreat
