/- Valid recurrences: the program's Valid. -/
import Derived.Test.YtbpdgoedglkefaaRec3
import Derived.Test.YtbpdgoedglkefaaRecLaw
import Derived.Test.YtbpdgoedglkefaaPolT
namespace Go.Proofs.Ytbpdgoedglkefaa
open Go.RowKit Go.Maps

theorem upto_succ {p : Nat → Prop} {k : Nat} (h : ∀ j, j < k → p j) (hk : p k) : ∀ j, j < k + 1 → p j := fun j hj => by
  rcases Nat.lt_succ_iff_lt_or_eq.1 hj with h' | rfl
  · exact h j h'
  · exact hk
instance {W W' : World} {H : Type} {P : Program} {k : TypeId} {R : Value → Option (DataW H × List MemPlace)} {b n : Nat} {D : DataW H} : UpF W W' (W.ownsMap P k R b n D) (W'.ownsMap P k R b n D) :=
  ⟨fun h c => c.kept (grownBy_of_below h) (by simp)⟩
instance {W W' : World} {s : Option Addr} {l : List Iq} : UpF W W' (Dom W s l) (Dom W' s l) := ⟨fun h c => Up.dom h c⟩
theorem zero_bool (w : World) : (zeroValue 4).run Try.prog w = .ok (.bool false) w := by kernel_rfl
theorem key_str : Keyed Try.prog 9 := string_keyed Try.underlying9

/-- The ways a recurrence's head can be. -/
theorem rec_ways (n : Int) (l : List Iq) (K : List Vv) : (validB n l = false ∧ recB n l K = false) ∨
    (validB n l = true ∧ 1000 < cntN n l ∧ recB n l K = false) ∨
    (validB n l = true ∧ cntN n l ≤ 1000 ∧ bw 1 K.length 4 = false ∧ recB n l K = false) ∨
    (validB n l = true ∧ cntN n l ≤ 1000 ∧ bw 1 K.length 4 = true ∧ recB n l K = recS n K) := by
  rw [recB_eq]
  unfold cntN
  cases hv : validB n l
  · exact .inl ⟨rfl, rfl⟩
  · rw [if_pos rfl]
    by_cases hp : (pts n l).length ≤ 1000
    · rw [decide_eq_true hp]
      cases hb : bw 1 K.length 4
      · exact .inr (.inr (.inl ⟨rfl, by omega, rfl, rfl⟩))
      · exact .inr (.inr (.inr ⟨rfl, by omega, rfl, by simp⟩))
    · rw [decide_eq_false hp]
      exact .inr (.inl ⟨rfl, by omega, rfl⟩)
theorem valid_n {n : Int} {l : List Iq} (h : validB n l = true) : 1 ≤ n ∧ n ≤ 3 := by
  simp only [validB, Bool.and_eq_true] at h
  have := h
  first | exact bw_iff.1 h.1 | exact bw_iff.1 h.1.1 | (simp [bw] at h; omega)

set_option maxRecDepth 100000 in
set_option maxHeartbeats 2000000 in
theorem recValid_c (n : Int) (s : Option Addr) (cap : Nat) (l : List Iq) (s2 : Option Addr) (cq : Nat) (K : List Vv) (w : World) (hd : Dom w s l) (hk : VarsM w s2 K) (hkl : K.length ≤ 9223372036854775807) :
    Calls Try.prog 71 #[.agg #[.int .i64 n, .slice s l.length cap, .slice s2 K.length cq]] w fun e w' => e = .returned (.bool (recB n l K)) ∧ Below w.heap.size w w' := by
  have hct := fun V (h : Dom V s l) => Count_t n s cap l V h
  have hbt := fun V => recBetween_c 1 K.length 4 V
  have hw := rec_ways n l K
  have hve : vE n l = if validB n l then 0 else 10 := rfl
  have hn := valid_n (n := n) (l := l)
  obtain ⟨B, hB0⟩ : ∃ x, recB n l K = x := ⟨_, rfl⟩
  obtain ⟨m, hm⟩ : ∃ x, cntN n l = x := ⟨_, rfl⟩
  obtain ⟨ve, hv0⟩ : ∃ x, vE n l = x := ⟨_, rfl⟩
  rw [hv0] at hve
  simp only [hB0, hm] at hw ⊢
  simp only [hm, hv0] at hct
  clear hB0 hm hv0
  replace hct := Lib.hid hct
  have hmm := @run_makeMap Try.prog
  rcases hw with ⟨h1, rfl⟩ | ⟨h1, h2, rfl⟩ | ⟨h1, h2, h3, rfl⟩ | ⟨h1, h2, h3, rfl⟩
  · rw [h1, if_neg (by simp)] at hve
    subst hve
    clear hbt hn h1
    go_enter Try.func71, Try.ntmps71
    go_upto_region 1 with (fail)
    refine wp_world fun W HW => ?_
    have hB : Below w.heap.size w W := by rw [HW.out]; (repeat (first | exact Below.refl _ _ | refine Below.alloc ?_ (by simp; try omega) _ | refine Below.setCell ?_ (by simp) _ | refine Below.drew ?_))
    have d0 : W.cell? ⟨w.heap.size, 0, none⟩ = some (.int .i64 n) := by rw [HW.out]; simp [go_sem]
    have d1 : W.cell? ⟨w.heap.size, 1, none⟩ = some (.slice s l.length cap) := by rw [HW.out]; simp [go_sem]
    have d2 : W.cell? ⟨w.heap.size, 2, none⟩ = some (.slice s2 K.length cq) := by rw [HW.out]; simp [go_sem]
    have dl : w.heap.size < W.heap.size := World.block_lt_of_cell? W _ d0
    try replace hd := up_of hB hd
    try replace hk := up_of hB hk
    go_wp2_with (first | (go_at_call 113; refine (hct.out _ hd).mono ?_; rintro e W1 ⟨rfl, hb⟩; (try replace hd := up_of hb hd); (try replace hk := up_of hb hk); (try replace hB := up_of hb hB); (try replace d0 := up_of hb d0); (try replace d1 := up_of hb d1); (try replace d2 := up_of hb d2); (try replace dl := up_of hb dl)))
    go_ret
    exact ⟨rfl, hB⟩
  · rw [h1, if_pos rfl] at hve
    subst hve
    clear hbt hn h1
    go_enter Try.func71, Try.ntmps71
    go_upto_region 1 with (fail)
    refine wp_world fun W HW => ?_
    have hB : Below w.heap.size w W := by rw [HW.out]; (repeat (first | exact Below.refl _ _ | refine Below.alloc ?_ (by simp; try omega) _ | refine Below.setCell ?_ (by simp) _ | refine Below.drew ?_))
    have d0 : W.cell? ⟨w.heap.size, 0, none⟩ = some (.int .i64 n) := by rw [HW.out]; simp [go_sem]
    have d1 : W.cell? ⟨w.heap.size, 1, none⟩ = some (.slice s l.length cap) := by rw [HW.out]; simp [go_sem]
    have d2 : W.cell? ⟨w.heap.size, 2, none⟩ = some (.slice s2 K.length cq) := by rw [HW.out]; simp [go_sem]
    have dl : w.heap.size < W.heap.size := World.block_lt_of_cell? W _ d0
    try replace hd := up_of hB hd
    try replace hk := up_of hB hk
    go_wp2_with (first | (go_at_call 113; refine (hct.out _ hd).mono ?_; rintro e W1 ⟨rfl, hb⟩; (try replace hd := up_of hb hd); (try replace hk := up_of hb hk); (try replace hB := up_of hb hB); (try replace d0 := up_of hb d0); (try replace d1 := up_of hb d1); (try replace d2 := up_of hb d2); (try replace dl := up_of hb dl)))
    go_ret
    exact ⟨rfl, hB⟩
  · rw [h1, if_pos rfl] at hve
    subst hve
    rw [h3] at hbt
    replace hbt := Lib.hid hbt
    clear hn h1 h3
    have h4 : ¬ (1000 : Int) < m := by omega
    go_enter Try.func71, Try.ntmps71
    go_upto_region 1 with (fail)
    refine wp_world fun W HW => ?_
    have hB : Below w.heap.size w W := by rw [HW.out]; (repeat (first | exact Below.refl _ _ | refine Below.alloc ?_ (by simp; try omega) _ | refine Below.setCell ?_ (by simp) _ | refine Below.drew ?_))
    have d0 : W.cell? ⟨w.heap.size, 0, none⟩ = some (.int .i64 n) := by rw [HW.out]; simp [go_sem]
    have d1 : W.cell? ⟨w.heap.size, 1, none⟩ = some (.slice s l.length cap) := by rw [HW.out]; simp [go_sem]
    have d2 : W.cell? ⟨w.heap.size, 2, none⟩ = some (.slice s2 K.length cq) := by rw [HW.out]; simp [go_sem]
    have dl : w.heap.size < W.heap.size := World.block_lt_of_cell? W _ d0
    try replace hd := up_of hB hd
    try replace hk := up_of hB hk
    go_wp2_with (first | (go_at_call 113; refine (hct.out _ hd).mono ?_; rintro e W1 ⟨rfl, hb⟩; (try replace hd := up_of hb hd); (try replace hk := up_of hb hk); (try replace hB := up_of hb hB); (try replace d0 := up_of hb d0); (try replace d1 := up_of hb d1); (try replace d2 := up_of hb d2); (try replace dl := up_of hb dl)) | (go_at_call 114; refine (hbt.out _).mono ?_; rintro e w' ⟨rfl, rfl⟩))
    go_ret
    exact ⟨rfl, hB⟩
  rw [h1, if_pos rfl] at hve
  subst hve
  rw [h3] at hbt
  replace hbt := Lib.hid hbt
  have h4 : ¬ (1000 : Int) < m := by omega
  have hk4 := bw_iff.1 h3
  have hn3 := hn h1
  obtain ⟨nn, rfl⟩ : ∃ k : Nat, n = k := ⟨n.toNat, by omega⟩
  clear hn h1 h3
  have hbad := fun (j : Nat) (h : j < K.length) => recS_false (n := nn) (K := K) (j := j) h
  have hgood := recS_true (n := nn) (K := K)
  obtain ⟨B, hB0⟩ : ∃ x, recS nn K = x := ⟨_, rfl⟩
  simp only [hB0] at hbad hgood ⊢
  clear hB0
  replace hbad := Lib.hid hbad; replace hgood := Lib.hid hgood; replace hk4 := Lib.hid hk4; replace hn3 := Lib.hid hn3
  have hk0 := Lib.hid hk
  go_enter Try.func71, Try.ntmps71
  go_upto_region 1 with (fail)
  refine wp_world fun W HW => ?_
  have hB : Below w.heap.size w W := by rw [HW.out]; (repeat (first | exact Below.refl _ _ | refine Below.alloc ?_ (by simp; try omega) _ | refine Below.setCell ?_ (by simp) _ | refine Below.drew ?_))
  have d0 : W.cell? ⟨w.heap.size, 0, none⟩ = some (.int .i64 nn) := by rw [HW.out]; simp [go_sem]
  have d1 : W.cell? ⟨w.heap.size, 1, none⟩ = some (.slice s l.length cap) := by rw [HW.out]; simp [go_sem]
  have d2 : W.cell? ⟨w.heap.size, 2, none⟩ = some (.slice s2 K.length cq) := by rw [HW.out]; simp [go_sem]
  have dl : w.heap.size < W.heap.size := World.block_lt_of_cell? W _ d0
  try replace hd := up_of hB hd
  try replace hk := up_of hB hk
  go_upto_region 4 with (first | (go_at_call 113; refine (hct.out _ hd).mono ?_; rintro e W2 ⟨rfl, hb⟩; (try replace hd := up_of hb hd); (try replace hk := up_of hb hk); (try replace hB := up_of hb hB); (try replace d0 := up_of hb d0); (try replace d1 := up_of hb d1); (try replace d2 := up_of hb d2); (try replace dl := up_of hb dl)) | (go_at_call 114; refine (hbt.out _).mono ?_; rintro e w' ⟨rfl, rfl⟩))
  go_wp2
  go_loopw [31] (fun i V => ∃ k : Nat, k ≤ K.length ∧ i = .int .i64 k ∧ V.ownsMap Try.prog 9 (plainElem Try.prog 4) W2.heap.size k (seenN K k) ∧ Below W2.heap.size W2 V ∧ Hid (∀ j, j < k → badV nn K j = false)) (fun i _ => K.length - (intOf i).toNat)
  case atStart => exact ⟨0, by omega, rfl, World.ownsMap_made _ _ _ _, (Below.refl _ W2).alloc (Nat.le_refl _) _, fun j h => absurd h (by omega)⟩
  case round =>
    obtain ⟨k, hkk, rfl, hown, hBV, hall⟩ := hrel
    try replace hd := up_of hBV hd
    try replace hk := up_of hBV hk
    try replace hB := up_of hBV hB
    try replace d0 := up_of hBV d0
    try replace d1 := up_of hBV d1
    try replace d2 := up_of hBV d2
    try replace dl := up_of hBV dl
    by_cases hlt : k < K.length
    · obtain ⟨b, off, sa, ca, rfl, hb, q0, q1, q2, q3, q4, q5, q6, hsa, hal, -, -⟩ := hk.at hlt
      have hbk := badV_at (n := nn) hlt
      have hput := seenN_put hlt
      have hS := seenN_at (K := K) K[k].name hkk
      have hF := hbad.out k hlt
      obtain ⟨v, hv⟩ : ∃ v, K[k] = v := ⟨_, rfl⟩
      rw [hv] at q0 q1 q2 q3 q4 q5 q6 hsa hal hbk hput hS
      have hvv := fun V h => validVar_c v sa ca K.length nn V h hal (by have := hn3.out; omega) (by have := hk4.out; omega)
      have hnm : varB K.length nn v = true → v.name.size = 1 := fun h => by
        by_cases h1 : v.name.size = 1
        · exact h1
        · unfold varB at h; rw [nameB_size h1] at h; simp at h
      replace hput := Lib.hid hput; replace hv := Lib.hid hv
      have g1 : (0 : Int) ≤ (k : Int) := by omega
      have g2 : (k : Int) < (K.length : Int) := by omega
      go_upto_region 8 with (fail)
      refine wp_world fun Y HY => ?_
      have hY : Below wr.heap.size wr Y := by rw [HY.out]; (repeat (first | exact Below.refl _ _ | refine Below.alloc ?_ (by simp; try omega) _ | refine Below.setCell ?_ (by simp) _ | refine Below.drew ?_))
      have c0 : Y.cell? ⟨wr.heap.size, 0, none⟩ = some (.string v.name) := by rw [HY.out]; simp [go_sem]
      have c1 : Y.cell? ⟨wr.heap.size, 1, none⟩ = some (.int .i64 v.op) := by rw [HY.out]; simp [go_sem]
      have c2 : Y.cell? ⟨wr.heap.size, 2, none⟩ = some (.slice sa v.args.length ca) := by rw [HY.out]; simp [go_sem]
      have c3 : Y.cell? ⟨wr.heap.size, 3, none⟩ = some (.int .i64 v.i0) := by rw [HY.out]; simp [go_sem]
      have c4 : Y.cell? ⟨wr.heap.size, 4, none⟩ = some (.int .i64 v.i1) := by rw [HY.out]; simp [go_sem]
      have c5 : Y.cell? ⟨wr.heap.size, 5, none⟩ = some (.int .i64 v.i2) := by rw [HY.out]; simp [go_sem]
      have c6 : Y.cell? ⟨wr.heap.size, 6, none⟩ = some (.int .i64 v.i3) := by rw [HY.out]; simp [go_sem]
      have cl : wr.heap.size < Y.heap.size := World.block_lt_of_cell? Y _ c0
      try replace hd := up_of hY hd
      try replace hk := up_of hY hk
      try replace hB := up_of hY hB
      try replace d0 := up_of hY d0
      try replace d1 := up_of hY d1
      try replace d2 := up_of hY d2
      try replace dl := up_of hY dl
      try replace hown := up_of hY hown
      try replace hBV := up_of hY hBV
      try replace hsa := up_of hY hsa
      cases hvb : varB K.length nn v
      · rw [hvb] at hvv hbk
        obtain rfl := hF (by rw [hbk]; rfl)
        replace hvv := Lib.hid hvv
        clear hbk hnm hS hF hall hvb
        go_wp2_with (first | (go_at_call 115; refine (hvv.out _ hsa).mono ?_; rintro e W1 ⟨rfl, hb⟩; (try replace hd := up_of hb hd); (try replace hk := up_of hb hk); (try replace hB := up_of hb hB); (try replace d0 := up_of hb d0); (try replace d1 := up_of hb d1); (try replace d2 := up_of hb d2); (try replace dl := up_of hb dl); (try replace hown := up_of hb hown); (try replace hBV := up_of hb hBV); (try replace hsa := up_of hb hsa); (try replace hY := up_of hb hY); (try replace c0 := up_of hb c0); (try replace c1 := up_of hb c1); (try replace c2 := up_of hb c2); (try replace c3 := up_of hb c3); (try replace c4 := up_of hb c4); (try replace c5 := up_of hb c5); (try replace c6 := up_of hb c6); (try replace cl := up_of hb cl)))
        go_ret
        exact ⟨rfl, hB⟩
      have hkey : keyOf Try.prog 9 (.string v.name) = some (.string v.name.data.toList) := WideMaps.keyOf_string_mk (P := Try.prog) Try.underlying9 (by rw [hnm hvb]; unfold maxLen; omega)
      have hlk := fun (V : World) (h : V.ownsMap Try.prog 9 (plainElem Try.prog 4) W2.heap.size k (seenN K k)) => lookup_bool h key_str Try.underlying138 Try.underlying4 (zero_bool _) hkey
      rw [hvb] at hvv hbk
      rw [hS] at hlk
      obtain ⟨x, hx⟩ : ∃ x, hasN K k v.name = x := ⟨_, rfl⟩
      rw [hx] at hlk hbk
      have hlk2 : ∀ V : World, V.ownsMap Try.prog 9 (plainElem Try.prog 4) W2.heap.size k (seenN K k) → (Instr.lookup 138 (.map (some W2.heap.size)) (.string v.name) false).run Try.prog V = .ok (.bool x) V := fun V h => by
        obtain ⟨c, hr, e⟩ := hlk V h
        injection e with e; injection e with e; subst e; exact hr
      clear hlk hS hx
      replace hvv := Lib.hid hvv; replace hlk2 := Lib.hid hlk2
      cases x
      · have hok := Lib.hid (upto_succ hall.out hbk)
        clear hbk hnm hF hall hvb
        go_wp2_with (first | (go_at_call 115; refine (hvv.out _ hsa).mono ?_; rintro e W5 ⟨rfl, hb⟩; (try replace hd := up_of hb hd); (try replace hk := up_of hb hk); (try replace hB := up_of hb hB); (try replace d0 := up_of hb d0); (try replace d1 := up_of hb d1); (try replace d2 := up_of hb d2); (try replace dl := up_of hb dl); (try replace hown := up_of hb hown); (try replace hBV := up_of hb hBV); (try replace hsa := up_of hb hsa); (try replace hY := up_of hb hY); (try replace c0 := up_of hb c0); (try replace c1 := up_of hb c1); (try replace c2 := up_of hb c2); (try replace c3 := up_of hb c3); (try replace c4 := up_of hb c4); (try replace c5 := up_of hb c5); (try replace c6 := up_of hb c6); (try replace cl := up_of hb cl); have hrun := hlk2.out _ hown) | (at_mapUpdate; refine wpList_mapUpdate_own _ rfl _ _ _ 138 rfl 9 4 key_str Try.underlying138 _ W2.heap.size k (seenN K k) rfl hown (by have := hk4.out; unfold maxLen; omega) _ _ _ rfl rfl hkey (.lit (.bool true)) [] (plainElem_bool Try.underlying4 true) ?_; intro w1 hown1 hgrow1))
        go_roundw
        case rel => exact ⟨k + 1, by omega, rfl, by rw [hput.out]; exact hown1, hBV.grown hgrow1 (by have := hBV.size; omega) (fun j e => by cases e; omega), hok⟩
        case measure => exact meas hlt
      · obtain rfl := hF (by rw [hbk]; rfl)
        clear hbk hnm hF hall hvb
        go_wp2_with (first | (go_at_call 115; refine (hvv.out _ hsa).mono ?_; rintro e W5 ⟨rfl, hb⟩; (try replace hd := up_of hb hd); (try replace hk := up_of hb hk); (try replace hB := up_of hb hB); (try replace d0 := up_of hb d0); (try replace d1 := up_of hb d1); (try replace d2 := up_of hb d2); (try replace dl := up_of hb dl); (try replace hown := up_of hb hown); (try replace hBV := up_of hb hBV); (try replace hsa := up_of hb hsa); (try replace hY := up_of hb hY); (try replace c0 := up_of hb c0); (try replace c1 := up_of hb c1); (try replace c2 := up_of hb c2); (try replace c3 := up_of hb c3); (try replace c4 := up_of hb c4); (try replace c5 := up_of hb c5); (try replace c6 := up_of hb c6); (try replace cl := up_of hb cl); have hrun := hlk2.out _ hown))
        go_ret
        exact ⟨rfl, hB⟩
    · obtain rfl : k = K.length := by omega
      obtain rfl := hgood.out hall.out
      clear hall
      go_wp2
      go_ret
      exact ⟨rfl, hB⟩
end Go.Proofs.Ytbpdgoedglkefaa
