/- Valid recurrences: the reference's IsRec. -/
import Derived.Test.YtbpdgoedglkefaaRec5
namespace Go.Proofs.Ytbpdgoedglkefaa
open Go.RowKit Go.Maps

/-- The ways a recurrence's head can be, in the reference's order. -/
theorem rec_ways2 (n : Int) (l : List Iq) (K : List Vv) : (validB n l = false ∧ recB n l K = false) ∨
    (validB n l = true ∧ K.length < 1 ∧ recB n l K = false) ∨
    (validB n l = true ∧ 1 ≤ K.length ∧ 4 < K.length ∧ recB n l K = false) ∨
    (validB n l = true ∧ 1 ≤ K.length ∧ K.length ≤ 4 ∧ recB n l K = (recS n K && decide ((pts n l).length ≤ 1000))) := by
  rw [recB_eq]
  cases hv : validB n l
  · exact .inl ⟨rfl, rfl⟩
  · by_cases h1 : K.length < 1
    · exact .inr (.inl ⟨rfl, h1, by rw [show bw 1 K.length 4 = false by simp [bw]; omega]; simp⟩)
    · by_cases h2 : 4 < K.length
      · exact .inr (.inr (.inl ⟨rfl, by omega, h2, by rw [show bw 1 K.length 4 = false by simp [bw]; omega]; simp⟩))
      · exact .inr (.inr (.inr ⟨rfl, by omega, by omega, by rw [show bw 1 K.length 4 = true by rw [bw_iff]; omega]; simp [Bool.and_comm]⟩))
theorem toList_loop (bs : ByteArray) : ∀ (m i : Nat) (r : List UInt8), bs.size - i = m → ByteArray.toList.loop bs i r = r.reverse ++ bs.data.toList.drop i := by
  intro m
  induction m with
  | zero =>
    intro i r h
    rw [ByteArray.toList.loop]
    have h1 : ¬ i < bs.size := by omega
    rw [if_neg h1, List.drop_eq_nil_of_le]
    · simp
    · have : bs.data.toList.length = bs.size := rfl
      omega
  | succ m ih =>
    intro i r h
    rw [ByteArray.toList.loop]
    have h1 : i < bs.size := by omega
    rw [if_pos h1, ih (i+1) _ (by omega)]
    have h2 : i < bs.data.toList.length := h1
    rw [List.drop_eq_getElem_cons h2]
    have h3 : bs.get! i = bs.data.toList[i] := by
      show bs.data[i]! = _
      rw [getElem!_pos bs.data i h1]; rfl
    rw [h3]; simp
theorem toList_inj {a b : ByteArray} : a.toList = b.toList ↔ a = b := by
  have h : ∀ a : ByteArray, a.toList = a.data.toList := fun a => by
    unfold ByteArray.toList; rw [toList_loop a _ 0 [] rfl]; simp
  rw [h, h]
  constructor
  · intro e
    rcases a with ⟨⟨a⟩⟩; rcases b with ⟨⟨b⟩⟩
    simp at e; subst e; rfl
  · rintro rfl; rfl
theorem hasN_no {K : List Vv} {k : Nat} {s : ByteArray} (_hk : k ≤ K.length) (h : ∀ j (hj : j < K.length), j < k → ¬ K[j].name = s) : hasN K k s = false := by
  cases hh : hasN K k s
  · rfl
  · obtain ⟨i, hi, hij, e⟩ := mem_names.1 hh
    exact absurd e (h i hi hij)
set_option maxRecDepth 100000 in
set_option maxHeartbeats 4000000 in
theorem IsRec_c (n : Int) (s : Option Addr) (cap : Nat) (l : List Iq) (s2 : Option Addr) (cq : Nat) (K : List Vv) (w : World) (hd : Dom w s l) (hk : VarsM w s2 K) (hkl : K.length ≤ 9223372036854775807) (hcq : K.length ≤ cq) (hcm : cq ≤ 9223372036854775807) :
    Calls Try.prog 73 #[.agg #[.int .i64 n, .slice s l.length cap, .slice s2 K.length cq]] w fun e w' => e = .returned (.bool (recB n l K)) ∧ Below w.heap.size w w' := by
  have hct := fun V (h : Dom V s l) => rValid_t n s cap l V h
  have hw := rec_ways2 n l K
  have hn := valid_n (n := n) (l := l)
  obtain ⟨B, hB0⟩ : ∃ x, recB n l K = x := ⟨_, rfl⟩
  simp only [hB0] at hw ⊢
  clear hB0
  rcases hw with ⟨h1, rfl⟩ | ⟨h1, h2, rfl⟩ | ⟨h1, h2, h3, rfl⟩ | ⟨h1, h2, h3, rfl⟩
  · rw [h1] at hct
    replace hct := Lib.hid hct
    clear hn h1 hcq
    go_enter Try.func73, Try.ntmps73
    go_upto_region 1 with (fail)
    refine wp_world fun W HW => ?_
    have hB : Below w.heap.size w W := by rw [HW.out]; (repeat (first | exact Below.refl _ _ | refine Below.alloc ?_ (by simp; try omega) _ | refine Below.setCell ?_ (by simp) _ | refine Below.drew ?_))
    have d0 : W.cell? ⟨w.heap.size, 0, none⟩ = some (.int .i64 n) := by rw [HW.out]; simp [go_sem]
    have d1 : W.cell? ⟨w.heap.size, 1, none⟩ = some (.slice s l.length cap) := by rw [HW.out]; simp [go_sem]
    have d2 : W.cell? ⟨w.heap.size, 2, none⟩ = some (.slice s2 K.length cq) := by rw [HW.out]; simp [go_sem]
    have dl : w.heap.size < W.heap.size := World.block_lt_of_cell? W _ d0
    try replace hd := up_of hB hd
    try replace hk := up_of hB hk
    go_wp2_with (first | (go_at_call 105; refine (hct.out _ hd).mono ?_; rintro e W1 ⟨rfl, hb⟩; (try replace hd := up_of hb hd); (try replace hk := up_of hb hk); (try replace hB := up_of hb hB); (try replace d0 := up_of hb d0); (try replace d1 := up_of hb d1); (try replace d2 := up_of hb d2); (try replace dl := up_of hb dl)))
    go_ret
    exact ⟨rfl, hB⟩
  · rw [h1] at hct
    replace hct := Lib.hid hct
    clear hn h1 hcq
    have h4 : (K.length : Int) < 1 := by omega
    go_enter Try.func73, Try.ntmps73
    go_upto_region 1 with (fail)
    refine wp_world fun W HW => ?_
    have hB : Below w.heap.size w W := by rw [HW.out]; (repeat (first | exact Below.refl _ _ | refine Below.alloc ?_ (by simp; try omega) _ | refine Below.setCell ?_ (by simp) _ | refine Below.drew ?_))
    have d0 : W.cell? ⟨w.heap.size, 0, none⟩ = some (.int .i64 n) := by rw [HW.out]; simp [go_sem]
    have d1 : W.cell? ⟨w.heap.size, 1, none⟩ = some (.slice s l.length cap) := by rw [HW.out]; simp [go_sem]
    have d2 : W.cell? ⟨w.heap.size, 2, none⟩ = some (.slice s2 K.length cq) := by rw [HW.out]; simp [go_sem]
    have dl : w.heap.size < W.heap.size := World.block_lt_of_cell? W _ d0
    try replace hd := up_of hB hd
    try replace hk := up_of hB hk
    go_wp2_with (first | (go_at_call 105; refine (hct.out _ hd).mono ?_; rintro e W1 ⟨rfl, hb⟩; (try replace hd := up_of hb hd); (try replace hk := up_of hb hk); (try replace hB := up_of hb hB); (try replace d0 := up_of hb d0); (try replace d1 := up_of hb d1); (try replace d2 := up_of hb d2); (try replace dl := up_of hb dl)))
    go_ret
    exact ⟨rfl, hB⟩
  · rw [h1] at hct
    replace hct := Lib.hid hct
    clear hn h1 hcq
    have h4 : ¬ (K.length : Int) < 1 := by omega
    have h5 : (4 : Int) < (K.length : Int) := by omega
    go_enter Try.func73, Try.ntmps73
    go_upto_region 1 with (fail)
    refine wp_world fun W HW => ?_
    have hB : Below w.heap.size w W := by rw [HW.out]; (repeat (first | exact Below.refl _ _ | refine Below.alloc ?_ (by simp; try omega) _ | refine Below.setCell ?_ (by simp) _ | refine Below.drew ?_))
    have d0 : W.cell? ⟨w.heap.size, 0, none⟩ = some (.int .i64 n) := by rw [HW.out]; simp [go_sem]
    have d1 : W.cell? ⟨w.heap.size, 1, none⟩ = some (.slice s l.length cap) := by rw [HW.out]; simp [go_sem]
    have d2 : W.cell? ⟨w.heap.size, 2, none⟩ = some (.slice s2 K.length cq) := by rw [HW.out]; simp [go_sem]
    have dl : w.heap.size < W.heap.size := World.block_lt_of_cell? W _ d0
    try replace hd := up_of hB hd
    try replace hk := up_of hB hk
    go_wp2_with (first | (go_at_call 105; refine (hct.out _ hd).mono ?_; rintro e W1 ⟨rfl, hb⟩; (try replace hd := up_of hb hd); (try replace hk := up_of hb hk); (try replace hB := up_of hb hB); (try replace d0 := up_of hb d0); (try replace d1 := up_of hb d1); (try replace d2 := up_of hb d2); (try replace dl := up_of hb dl)))
    go_ret
    exact ⟨rfl, hB⟩
  rw [h1] at hct
  replace hct := Lib.hid hct
  have h4 : ¬ (K.length : Int) < 1 := by omega
  have h5 : ¬ (4 : Int) < (K.length : Int) := by omega
  have hn3 := hn h1
  obtain ⟨nn, rfl⟩ : ∃ k : Nat, n = k := ⟨n.toNat, by omega⟩
  have hall0 := fun (V : World) (h : Dom V s l) => All_c nn s cap l V hn3 h.iq h.len h.wf
  have hpl := pts_len nn l
  have hall0 := fun (V : World) (h : Dom V s l) => (hall0 V h).mono (R' := fun e w' => (∃ s' cap', e = .returned (.slice s' (pts nn l).length cap')) ∧ Below V.heap.size V w') (fun e w' ⟨s', c', he, _, hb⟩ => ⟨⟨s', c', he⟩, hb⟩)
  clear hn h1
  have hbad := fun (j : Nat) (h : j < K.length) => recS_false (n := nn) (K := K) (j := j) h
  have hgood := recS_true (n := nn) (K := K)
  obtain ⟨B, hB0⟩ : ∃ x, recS nn K = x := ⟨_, rfl⟩
  obtain ⟨m, hm⟩ : ∃ x, (pts nn l).length = x := ⟨_, rfl⟩
  simp only [hB0] at hbad hgood ⊢
  simp only [hm] at hall0 hpl ⊢
  clear hB0
  replace hbad := Lib.hid hbad; replace hgood := Lib.hid hgood; replace hn3 := Lib.hid hn3; replace hall0 := Lib.hid hall0; replace hm := Lib.hid hm
  have hk14 : Hid (1 ≤ K.length ∧ K.length ≤ 4) := Lib.hid ⟨h2, h3⟩
  clear h2 h3
  go_enter Try.func73, Try.ntmps73
  go_upto_region 1 with (fail)
  refine wp_world fun W HW => ?_
  have hB : Below w.heap.size w W := by rw [HW.out]; (repeat (first | exact Below.refl _ _ | refine Below.alloc ?_ (by simp; try omega) _ | refine Below.setCell ?_ (by simp) _ | refine Below.drew ?_))
  have d0 : W.cell? ⟨w.heap.size, 0, none⟩ = some (.int .i64 nn) := by rw [HW.out]; simp [go_sem]
  have d1 : W.cell? ⟨w.heap.size, 1, none⟩ = some (.slice s l.length cap) := by rw [HW.out]; simp [go_sem]
  have d2 : W.cell? ⟨w.heap.size, 2, none⟩ = some (.slice s2 K.length cq) := by rw [HW.out]; simp [go_sem]
  have dl : w.heap.size < W.heap.size := World.block_lt_of_cell? W _ d0
  try replace hd := up_of hB hd
  try replace hk := up_of hB hk
  go_upto_region 3 with (first | (go_at_call 105; refine (hct.out _ hd).mono ?_; rintro e W2 ⟨rfl, hb⟩; (try replace hd := up_of hb hd); (try replace hk := up_of hb hk); (try replace hB := up_of hb hB); (try replace d0 := up_of hb d0); (try replace d1 := up_of hb d1); (try replace d2 := up_of hb d2); (try replace dl := up_of hb dl)))
  go_wp2
  go_loopw [26] (fun i V => ∃ k : Nat, k ≤ K.length ∧ i = .int .i64 k ∧ Below W2.heap.size W2 V ∧ Hid (∀ j, j < k → badV nn K j = false)) (fun i _ => K.length - (intOf i).toNat)
  case atStart => exact ⟨0, by omega, rfl, Below.refl _ _, fun j h => absurd h (by omega)⟩
  case round =>
    obtain ⟨k, hkk, rfl, hBV, hall⟩ := hrel
    try replace hd := up_of hBV hd
    try replace hk := up_of hBV hk
    try replace hB := up_of hBV hB
    try replace d0 := up_of hBV d0
    try replace d1 := up_of hBV d1
    try replace d2 := up_of hBV d2
    try replace dl := up_of hBV dl
    by_cases hlt : k < K.length
    · obtain ⟨b, off, sa, ca, rfl, hb, q0, q1, q2, q3, q4, q5, q6, hsa, hal, -, -⟩ := hk.at hlt
      have hbk := badV_at (n := nn) hlt
      have hF := hbad.out k hlt
      have hN := fun (h : ∀ j (hj : j < K.length), j < k → ¬ K[j].name = K[k].name) => hasN_no (K := K) (k := k) (s := K[k].name) hkk h
      have hM := fun (h : ∃ i, ∃ (h : i < K.length), i < k ∧ K[i].name = K[k].name) => mem_names.2 h
      obtain ⟨v, hv⟩ : ∃ v, K[k] = v := ⟨_, rfl⟩
      rw [hv] at q0 q1 q2 q3 q4 q5 q6 hsa hal hbk hM
      simp only [hv] at hN
      have hvv := fun V h => isVar_c v sa ca K.length nn V h hal (by have := hn3.out; omega) (by have := hk14.out; omega)
      replace hv := Lib.hid hv; replace hN := Lib.hid hN; replace hM := Lib.hid hM
      have g1 : (0 : Int) ≤ (k : Int) := by omega
      have g2 : (k : Int) < (K.length : Int) := by omega
      go_upto_region 6 with (fail)
      refine wp_world fun Y HY => ?_
      have hY : Below wr.heap.size wr Y := by rw [HY.out]; (repeat (first | exact Below.refl _ _ | refine Below.alloc ?_ (by simp; try omega) _ | refine Below.setCell ?_ (by simp) _ | refine Below.drew ?_))
      have c0 : Y.cell? ⟨wr.heap.size, 0, none⟩ = some (.string v.name) := by rw [HY.out]; simp [go_sem]
      have c1 : Y.cell? ⟨wr.heap.size, 1, none⟩ = some (.int .i64 v.op) := by rw [HY.out]; simp [go_sem]
      have c2 : Y.cell? ⟨wr.heap.size, 2, none⟩ = some (.slice sa v.args.length ca) := by rw [HY.out]; simp [go_sem]
      have c3 : Y.cell? ⟨wr.heap.size, 3, none⟩ = some (.int .i64 v.i0) := by rw [HY.out]; simp [go_sem]
      have c4 : Y.cell? ⟨wr.heap.size, 4, none⟩ = some (.int .i64 v.i1) := by rw [HY.out]; simp [go_sem]
      have c5 : Y.cell? ⟨wr.heap.size, 5, none⟩ = some (.int .i64 v.i2) := by rw [HY.out]; simp [go_sem]
      have c6 : Y.cell? ⟨wr.heap.size, 6, none⟩ = some (.int .i64 v.i3) := by rw [HY.out]; simp [go_sem]
      have cl : wr.heap.size < Y.heap.size := World.block_lt_of_cell? Y _ c0
      try replace hd := up_of hY hd
      try replace hk := up_of hY hk
      try replace hB := up_of hY hB
      try replace d0 := up_of hY d0
      try replace d1 := up_of hY d1
      try replace d2 := up_of hY d2
      try replace dl := up_of hY dl
      try replace hBV := up_of hY hBV
      try replace hsa := up_of hY hsa
      cases hvb : varB K.length nn v
      · rw [hvb] at hvv hbk
        obtain rfl := hF (by rw [hbk]; rfl)
        replace hvv := Lib.hid hvv
        clear hbk hN hM hF hall hvb
        go_wp2_with (first | (go_at_call 118; refine (hvv.out _ hsa).mono ?_; rintro e W1 ⟨rfl, hb⟩; (try replace hd := up_of hb hd); (try replace hk := up_of hb hk); (try replace hB := up_of hb hB); (try replace d0 := up_of hb d0); (try replace d1 := up_of hb d1); (try replace d2 := up_of hb d2); (try replace dl := up_of hb dl); (try replace hBV := up_of hb hBV); (try replace hsa := up_of hb hsa); (try replace hY := up_of hb hY); (try replace c0 := up_of hb c0); (try replace c1 := up_of hb c1); (try replace c2 := up_of hb c2); (try replace c3 := up_of hb c3); (try replace c4 := up_of hb c4); (try replace c5 := up_of hb c5); (try replace c6 := up_of hb c6); (try replace cl := up_of hb cl)))
        go_ret
        exact ⟨rfl, hB⟩
      rw [hvb] at hvv hbk
      replace hvv := Lib.hid hvv; replace hbk := Lib.hid hbk; replace hF := Lib.hid hF
      clear hvb
      have g3 : (k : Int) ≤ (cq : Int) := by omega
      go_upto_region 8 with (first | (go_at_call 118; refine (hvv.out _ hsa).mono ?_; rintro e W5 ⟨rfl, hb⟩; (try replace hd := up_of hb hd); (try replace hk := up_of hb hk); (try replace hB := up_of hb hB); (try replace d0 := up_of hb d0); (try replace d1 := up_of hb d1); (try replace d2 := up_of hb d2); (try replace dl := up_of hb dl); (try replace hBV := up_of hb hBV); (try replace hsa := up_of hb hsa); (try replace hY := up_of hb hY); (try replace c0 := up_of hb c0); (try replace c1 := up_of hb c1); (try replace c2 := up_of hb c2); (try replace c3 := up_of hb c3); (try replace c4 := up_of hb c4); (try replace c5 := up_of hb c5); (try replace c6 := up_of hb c6); (try replace cl := up_of hb cl)))
      go_wp2
      go_loopw [45] (fun i V => ∃ j : Nat, j ≤ k ∧ i = .int .i64 j ∧ Below W5.heap.size W5 V ∧ Hid (∀ i (hi : i < K.length), i < j → ¬ K[i].name = v.name)) (fun i _ => k - (intOf i).toNat)
      case atStart => exact ⟨0, by omega, rfl, Below.refl _ _, fun i hi h => absurd h (by omega)⟩
      case round =>
        obtain ⟨j, hjk, rfl, hBX, hnm⟩ := hrel
        try replace hd := up_of hBX hd
        try replace hk := up_of hBX hk
        try replace hB := up_of hBX hB
        try replace d0 := up_of hBX d0
        try replace d1 := up_of hBX d1
        try replace d2 := up_of hBX d2
        try replace dl := up_of hBX dl
        try replace hBV := up_of hBX hBV
        try replace hsa := up_of hBX hsa
        try replace hY := up_of hBX hY
        try replace c0 := up_of hBX c0
        try replace c1 := up_of hBX c1
        try replace c2 := up_of hBX c2
        try replace c3 := up_of hBX c3
        try replace c4 := up_of hBX c4
        try replace c5 := up_of hBX c5
        try replace c6 := up_of hBX c6
        try replace cl := up_of hBX cl
        by_cases hlj : j < k
        · have hlK : j < K.length := by omega
          obtain ⟨b', off', sa', ca', e', hb', x0, x1, x2, x3, x4, x5, x6, hsa', hal', -, -⟩ := hk.at hlK
          cases e'
          have hy : ¬ K[j].name = v.name → ∀ i (hi : i < K.length), i < j + 1 → ¬ K[i].name = v.name := fun h i hi hij => by
            by_cases h3 : i < j
            · exact hnm.out i hi h3
            · obtain rfl : i = j := by omega
              exact h
          have hz : K[j].name = v.name → hasN K k v.name = true := fun h => hM.out ⟨j, hlK, hlj, h⟩
          obtain ⟨u, hu⟩ : ∃ u, K[j] = u := ⟨_, rfl⟩
          rw [hu] at x0 x1 x2 x3 x4 x5 x6 hsa' hal' hy hz
          replace hu := Lib.hid hu
          have g4 : (0 : Int) ≤ (j : Int) := by omega
          have g5 : (j : Int) < (k : Int) := by omega
          go_upto_region 11 with (fail)
          refine wp_world fun Z HZ => ?_
          have hZ : Below wr.heap.size wr Z := by rw [HZ.out]; (repeat (first | exact Below.refl _ _ | refine Below.alloc ?_ (by simp; try omega) _ | refine Below.setCell ?_ (by simp) _ | refine Below.drew ?_))
          have z0 : Z.cell? ⟨wr.heap.size, 0, none⟩ = some (.string u.name) := by rw [HZ.out]; simp [go_sem]
          have z1 : Z.cell? ⟨wr.heap.size, 1, none⟩ = some (.int .i64 u.op) := by rw [HZ.out]; simp [go_sem]
          have z2 : Z.cell? ⟨wr.heap.size, 2, none⟩ = some (.slice sa' u.args.length ca') := by rw [HZ.out]; simp [go_sem]
          have z3 : Z.cell? ⟨wr.heap.size, 3, none⟩ = some (.int .i64 u.i0) := by rw [HZ.out]; simp [go_sem]
          have z4 : Z.cell? ⟨wr.heap.size, 4, none⟩ = some (.int .i64 u.i1) := by rw [HZ.out]; simp [go_sem]
          have z5 : Z.cell? ⟨wr.heap.size, 5, none⟩ = some (.int .i64 u.i2) := by rw [HZ.out]; simp [go_sem]
          have z6 : Z.cell? ⟨wr.heap.size, 6, none⟩ = some (.int .i64 u.i3) := by rw [HZ.out]; simp [go_sem]
          have zl : wr.heap.size < Z.heap.size := World.block_lt_of_cell? Z _ z0
          try replace hd := up_of hZ hd
          try replace hk := up_of hZ hk
          try replace hB := up_of hZ hB
          try replace d0 := up_of hZ d0
          try replace d1 := up_of hZ d1
          try replace d2 := up_of hZ d2
          try replace dl := up_of hZ dl
          try replace hBV := up_of hZ hBV
          try replace hsa := up_of hZ hsa
          try replace hY := up_of hZ hY
          try replace c0 := up_of hZ c0
          try replace c1 := up_of hZ c1
          try replace c2 := up_of hZ c2
          try replace c3 := up_of hZ c3
          try replace c4 := up_of hZ c4
          try replace c5 := up_of hZ c5
          try replace c6 := up_of hZ c6
          try replace cl := up_of hZ cl
          try replace hBX := up_of hZ hBX
          by_cases hnn : u.name = v.name
          · have hh := hz hnn
            obtain rfl := hF.out (by rw [hbk.out, hh]; rfl)
            clear hy hz hh hnm hall
            have hdd : (u.name.toList == v.name.toList) = true := by rw [hnn]; exact beq_self_eq_true _
            go_wp2
            go_ret
            exact ⟨rfl, hB⟩
          · have hok := Lib.hid (hy hnn)
            have hdd : (u.name.toList == v.name.toList) = false := by rw [Bool.eq_false_iff]; exact fun h => hnn (toList_inj.1 (eq_of_beq h))
            clear hy hz hnm
            go_wp2
            go_roundw
            case rel => exact ⟨j + 1, by omega, rfl, hBX, hok⟩
            case measure => exact meas hlj
        · obtain rfl : j = k := by omega
          have hok := Lib.hid (upto_succ hall.out (by rw [hbk.out, hN.out (fun i hi hij => hnm.out i hi hij)]; rfl))
          clear hall hnm
          go_wp2
          go_roundw
          case rel => exact ⟨j + 1, by omega, rfl, hBV, hok⟩
          case measure => exact meas hlt
    · obtain rfl : k = K.length := by omega
      obtain rfl := hgood.out hall.out
      clear hall
      go_wp2_with (first | (go_at_call 55; refine (hall0.out _ hd).mono ?_; rintro e W1 ⟨⟨s', c', rfl⟩, hb⟩; (try replace hd := up_of hb hd); (try replace hk := up_of hb hk); (try replace hB := up_of hb hB); (try replace d0 := up_of hb d0); (try replace d1 := up_of hb d1); (try replace d2 := up_of hb d2); (try replace dl := up_of hb dl); (try replace hBV := up_of hb hBV); (try replace hsa := up_of hb hsa); (try replace hY := up_of hb hY); (try replace c0 := up_of hb c0); (try replace c1 := up_of hb c1); (try replace c2 := up_of hb c2); (try replace c3 := up_of hb c3); (try replace c4 := up_of hb c4); (try replace c5 := up_of hb c5); (try replace c6 := up_of hb c6); (try replace cl := up_of hb cl); (try replace hBX := up_of hb hBX); (try replace hZ := up_of hb hZ); (try replace z0 := up_of hb z0); (try replace z1 := up_of hb z1); (try replace z2 := up_of hb z2); (try replace z3 := up_of hb z3); (try replace z4 := up_of hb z4); (try replace z5 := up_of hb z5); (try replace z6 := up_of hb z6); (try replace zl := up_of hb zl)))
      go_ret
      exact ⟨ret_bool (by rw [Bool.true_and]; exact decide_eq_decide.2 (by omega)), hB⟩
end Go.Proofs.Ytbpdgoedglkefaa
