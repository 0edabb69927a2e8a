/- Whether uses are a circle: the reference. -/
import Derived.Test.YtbpdgoedglkefaaSch18
namespace Go.Proofs.Ytbpdgoedglkefaa
open Go.RowKit Go.Maps

theorem seenU_no {l : List Us} {k : Nat} {x : Int} (h : ∀ i (hi : i < l.length), i < k → ¬ l[i].v = x) : seenU l k x = false := by
  cases hh : seenU l k x
  · rfl
  · obtain ⟨i, hi, hk, e⟩ := seenU_iff.1 hh
    exact absurd e (h i hi hk)
theorem inU_no1 {K : List Vv} {u : Us} (h : u.v < 0 ∨ (K.length : Int) ≤ u.v) : inU K u = false := by
  unfold inU
  have : bw 0 u.v (K.length - 1) = false := by simp [bw]; omega
  rw [this]; rfl
def circR (n : Int) (l : List Iq) (K : List Vv) (f : Pt) (U : List Us) : Bool := decide (frmE n l K f = 0) && circB K f U
set_option maxRecDepth 100000 in
set_option maxHeartbeats 4000000 in
theorem rIsCircle_c (n : Int) (s : Option Addr) (cap : Nat) (l : List Iq) (s2 : Option Addr) (cq : Nat) (K : List Vv) (f : Pt) (t : Option Addr) (ct : Nat) (U : List Us) (w : World) (hr : RecM w s l s2 cq K) (hU : SlS usE w t U) (hUl : U.length ≤ 20) (hct : U.length ≤ ct) (hct2 : ct ≤ 9223372036854775807) :
    Calls Try.prog 33 #[.agg #[.int .i64 n, .slice s l.length cap, .slice s2 K.length cq], .agg #[.int .i64 f.x, .int .i64 f.y, .int .i64 f.z], .slice t U.length ct] w fun e w' => e = .returned (.tuple #[.bool (circR n l K f U), .int .i64 (frmE n l K f)]) ∧ Below w.heap.size w w' := by
  have hfo := fun V (h : RecM V s l s2 cq K) => rFormed_c n s cap l s2 cq K f V h
  unfold circR
  by_cases h0 : frmE n l K f = 0
  case neg =>
    rw [decide_eq_false h0, Bool.false_and]
    obtain ⟨E, hE⟩ : ∃ x, frmE n l K f = x := ⟨_, rfl⟩
    simp only [hE] at hfo h0 ⊢
    have k1 : (E != 0) = true := bne_iff_ne.2 h0
    replace hfo := Lib.hid hfo
    clear hE
    go_enter Try.func33, Try.ntmps33
    go_upto_region 1 with (fail)
    refine wp_world fun W HW => ?_
    have hB : Below w.heap.size w W := by rw [HW.out]; (repeat (first | exact Below.refl _ _ | refine Below.alloc ?_ (by simp; try omega) _ | refine Below.setCell ?_ (by simp) _ | refine Below.drew ?_))
    have d0 : W.cell? ⟨w.heap.size, 0, none⟩ = some (.int .i64 n) := by rw [HW.out]; simp [go_sem]
    have d1 : W.cell? ⟨w.heap.size, 1, none⟩ = some (.slice s l.length cap) := by rw [HW.out]; simp [go_sem]
    have d2 : W.cell? ⟨w.heap.size, 2, none⟩ = some (.slice s2 K.length cq) := by rw [HW.out]; simp [go_sem]
    have dl : w.heap.size < W.heap.size := World.block_lt_of_cell? W _ d0
    have g0 : W.cell? ⟨w.heap.size + 1, 0, none⟩ = some (.int .i64 f.x) := by rw [HW.out]; simp [go_sem]
    have g1 : W.cell? ⟨w.heap.size + 1, 1, none⟩ = some (.int .i64 f.y) := by rw [HW.out]; simp [go_sem]
    have g2 : W.cell? ⟨w.heap.size + 1, 2, none⟩ = some (.int .i64 f.z) := by rw [HW.out]; simp [go_sem]
    have gl : w.heap.size + 1 < W.heap.size := World.block_lt_of_cell? W _ g0
    try replace hr := up_of hB hr
    go_wp2_with (first | (go_at_call 77; refine (hfo.out _ hr).mono ?_; rintro e W1 ⟨rfl, hb⟩; (try replace hr := up_of hb hr); (try replace hB := up_of hb hB); (try replace d0 := up_of hb d0); (try replace d1 := up_of hb d1); (try replace d2 := up_of hb d2); (try replace dl := up_of hb dl); (try replace g0 := up_of hb g0); (try replace g1 := up_of hb g1); (try replace g2 := up_of hb g2); (try replace gl := up_of hb gl)))
    go_ret2
    exact ⟨rfl, hB⟩
  rw [decide_eq_true h0, Bool.true_and]
  obtain ⟨hrb, hff⟩ := frm_ok h0
  simp only [h0] at hfo ⊢
  have hN := rec_near hrb
  have hA3 := fun v hv => (rec_args hrb v hv).1
  have hf : f.x.natAbs ≤ 9 ∧ f.y.natAbs ≤ 9 ∧ f.z.natAbs ≤ 9 := flat_abs hff
  have hno := fun i (hi : i < U.length) hb => circ_no (K := K) (f := f) hi hb
  have hyes := fun hh => circ_yes (K := K) (f := f) (l := U) hh
  have hwt := fun u hu => wtU_small (K := K) (f := f) (u := u) hN hf hu
  obtain ⟨B, hB0⟩ : ∃ x, circB K f U = x := ⟨_, rfl⟩
  simp only [hB0] at hno hyes ⊢
  clear hB0 h0 hff hrb
  obtain ⟨sg, hs0, hss, hse⟩ : ∃ sg : Nat → Int, sg 0 = 0 ∧ (∀ i (hi : i < U.length), sg (i + 1) = sg i + wtU K f U[i]) ∧ sumU K f U = sg U.length := ⟨fun i => sumU K f (U.take i), by simp [sumU], fun i hi => sumU_succ hi, by simp⟩
  rw [hse] at hyes
  replace hno := Lib.hid hno; replace hyes := Lib.hid hyes; replace hwt := Lib.hid hwt; replace hss := Lib.hid hss; replace hs0 := Lib.hid hs0; replace hN := Lib.hid hN; replace hA3 := Lib.hid hA3; replace hf := Lib.hid hf; replace hfo := Lib.hid hfo
  clear hse
  have hkl9 := hr.len
  go_enter Try.func33, Try.ntmps33
  go_upto_region 1 with (fail)
  refine wp_world fun W HW => ?_
  have hB : Below w.heap.size w W := by rw [HW.out]; (repeat (first | exact Below.refl _ _ | refine Below.alloc ?_ (by simp; try omega) _ | refine Below.setCell ?_ (by simp) _ | refine Below.drew ?_))
  have d0 : W.cell? ⟨w.heap.size, 0, none⟩ = some (.int .i64 n) := by rw [HW.out]; simp [go_sem]
  have d1 : W.cell? ⟨w.heap.size, 1, none⟩ = some (.slice s l.length cap) := by rw [HW.out]; simp [go_sem]
  have d2 : W.cell? ⟨w.heap.size, 2, none⟩ = some (.slice s2 K.length cq) := by rw [HW.out]; simp [go_sem]
  have dl : w.heap.size < W.heap.size := World.block_lt_of_cell? W _ d0
  have g0 : W.cell? ⟨w.heap.size + 1, 0, none⟩ = some (.int .i64 f.x) := by rw [HW.out]; simp [go_sem]
  have g1 : W.cell? ⟨w.heap.size + 1, 1, none⟩ = some (.int .i64 f.y) := by rw [HW.out]; simp [go_sem]
  have g2 : W.cell? ⟨w.heap.size + 1, 2, none⟩ = some (.int .i64 f.z) := by rw [HW.out]; simp [go_sem]
  have gl : w.heap.size + 1 < W.heap.size := World.block_lt_of_cell? W _ g0
  try replace hr := up_of hB hr
  try replace hU := up_of hB hU
  go_upto_region 4 with (first | (go_at_call 77; refine (hfo.out _ hr).mono ?_; rintro e W2 ⟨rfl, hb⟩; (try replace hr := up_of hb hr); (try replace hU := up_of hb hU); (try replace hB := up_of hb hB); (try replace d0 := up_of hb d0); (try replace d1 := up_of hb d1); (try replace d2 := up_of hb d2); (try replace dl := up_of hb dl); (try replace g0 := up_of hb g0); (try replace g1 := up_of hb g1); (try replace g2 := up_of hb g2); (try replace gl := up_of hb gl)))
  go_wp2
  go_loopw [9, 23] (fun sm ii V => ∃ k : Nat, k ≤ U.length ∧ ii = .int .i64 k ∧ sm = .int .i64 (sg k) ∧ Below W2.heap.size W2 V ∧ Hid (∀ j, j < k → badU K U j = false) ∧ Hid (-80 * k ≤ sg k ∧ sg k ≤ 82 * k)) (fun _ ii _ => U.length - (intOf ii).toNat)
  case atStart => exact ⟨0, by omega, rfl, by rw [hs0.out], Below.refl _ _, fun j h => absurd h (by omega), by rw [hs0.out]; exact Lib.hid (by omega)⟩
  case round =>
    obtain ⟨k, hk, rfl, rfl, hBV, hall, hbd⟩ := hrel
    try replace hr := up_of hBV hr
    try replace hU := up_of hBV hU
    try replace hB := up_of hBV hB
    try replace d0 := up_of hBV d0
    try replace d1 := up_of hBV d1
    try replace d2 := up_of hBV d2
    try replace dl := up_of hBV dl
    try replace g0 := up_of hBV g0
    try replace g1 := up_of hBV g1
    try replace g2 := up_of hBV g2
    try replace gl := up_of hBV gl
    by_cases hlt : k < U.length
    · obtain ⟨bu, ou, eu, hbu, u0, u1⟩ := hU.us_at hlt
      cases eu
      have hbk := badU_at (K := K) hlt
      have hF := hno.out k hlt
      have hnext := hss.out k hlt
      have hwk := hwt.out U[k]
      have hSn : (∀ i (hi : i < U.length), i < k → ¬ U[i].v = U[k].v) → seenU U k U[k].v = false := fun hh => seenU_no hh
      have hSy : (∃ i, ∃ (h : i < U.length), i < k ∧ U[i].v = U[k].v) → seenU U k U[k].v = true := fun hh => seenU_iff.2 hh
      obtain ⟨m, hm⟩ : ∃ m, (k + 1) % U.length = m := ⟨_, rfl⟩
      have hml : m < U.length := by rw [← hm]; exact Nat.mod_lt _ (by omega)
      have hbk2 : badU K U k = (!inU K U[k] || (seenU U k U[k].v || !decide ((usA K U[k]).v = U[m].v))) := by subst hm; exact hbk
      clear hbk
      have hi1 : U[k].v < 0 ∨ (K.length : Int) ≤ U[k].v → inU K U[k] = false := fun hh => inU_no1 hh
      obtain ⟨mv, hmv⟩ : ∃ x, U[m].v = x := ⟨_, rfl⟩
      obtain ⟨u, hu⟩ : ∃ x, U[k] = x := ⟨_, rfl⟩
      rw [hmv] at hbk2
      rw [hu] at u0 u1 hbk2 hnext hwk hi1 hSy
      simp only [hu] at hSn
      replace hm := Lib.hid hm; replace hmv := Lib.hid hmv; replace hu := Lib.hid hu; replace hnext := Lib.hid hnext; replace hSn := Lib.hid hSn; replace hSy := Lib.hid hSy
      have gk1 : (0 : Int) ≤ (k : Int) := by omega
      have gk2 : (k : Int) < (U.length : Int) := by omega
      have gk3 : (k : Int) ≤ (ct : Int) := by omega
      go_upto_region 8 with (fail)
      obtain ⟨V0, rfl⟩ : ∃ V0, V0 = wr := ⟨wr, rfl⟩
      refine wp_world fun Y HY => ?_
      have hY : Below V0.heap.size V0 Y := by rw [HY.out]; (repeat (first | exact Below.refl _ _ | refine Below.alloc ?_ (by simp; try omega) _ | refine Below.setCell ?_ (by simp) _ | refine Below.drew ?_))
      have x0 : Y.cell? ⟨V0.heap.size, 0, none⟩ = some (.int .i64 u.v) := by rw [HY.out]; simp [go_sem]
      have x1 : Y.cell? ⟨V0.heap.size, 1, none⟩ = some (.int .i64 u.a) := by rw [HY.out]; simp [go_sem]
      have xl : V0.heap.size < Y.heap.size := World.block_lt_of_cell? Y _ x0
      try replace hr := up_of hY hr
      try replace hU := up_of hY hU
      try replace hB := up_of hY hB
      try replace d0 := up_of hY d0
      try replace d1 := up_of hY d1
      try replace d2 := up_of hY d2
      try replace dl := up_of hY dl
      try replace g0 := up_of hY g0
      try replace g1 := up_of hY g1
      try replace g2 := up_of hY g2
      try replace gl := up_of hY gl
      try replace hBV := up_of hY hBV
      by_cases hv1 : u.v < 0
      · obtain rfl := hF (by rw [hbk2, hi1 (.inl hv1)]; rfl)
        clear hF hbk2 hwk hall hi1
        try have ld_d0 := World.block_lt_of_cell? _ _ d0
        try have ld_g0 := World.block_lt_of_cell? _ _ g0
        try have ld_x0 := World.block_lt_of_cell? _ _ x0
        refine region_q (by kernel_rfl) (by kernel_rfl) ?_
        dsimp only [List.toList_toArray]
        repeat (first
         | go_big_quiet_skip
         | (go_big_quiet_want
            first
            | (refine qq_det ?_
               apply Exists.intro; refine ⟨fun W' hW' => ?_, ?_⟩
               (· have hk := cellB hW'; go_simp; try (first | rfl | rw [if_pos (by omega)]))
               simp only [Act.put, List.setIfInBounds_toArray, List.set_cons_zero, List.set_cons_succ]; go_big_quiet_on)))
        refine wpQuiet_nil ?_
        intro W1 hb
        try replace hr := up_of hb hr
        try replace hU := up_of hb hU
        try replace hB := up_of hb hB
        try replace d0 := up_of hb d0
        try replace d1 := up_of hb d1
        try replace d2 := up_of hb d2
        try replace dl := up_of hb dl
        try replace g0 := up_of hb g0
        try replace g1 := up_of hb g1
        try replace g2 := up_of hb g2
        try replace gl := up_of hb gl
        try replace hBV := up_of hb hBV
        try replace hY := up_of hb hY
        try replace x0 := up_of hb x0
        try replace x1 := up_of hb x1
        try replace xl := up_of hb xl
        go_wp2
        go_ret2
        exact ⟨rfl, hB⟩
      by_cases hv2 : (K.length : Int) ≤ u.v
      · obtain rfl := hF (by rw [hbk2, hi1 (.inr hv2)]; rfl)
        clear hF hbk2 hwk hall hi1
        try have ld_d0 := World.block_lt_of_cell? _ _ d0
        try have ld_g0 := World.block_lt_of_cell? _ _ g0
        try have ld_x0 := World.block_lt_of_cell? _ _ x0
        refine region_q (by kernel_rfl) (by kernel_rfl) ?_
        dsimp only [List.toList_toArray]
        repeat (first
         | go_big_quiet_skip
         | (go_big_quiet_want
            first
            | (refine qq_det ?_
               apply Exists.intro; refine ⟨fun W' hW' => ?_, ?_⟩
               (· have hk := cellB hW'; go_simp; try (first | rfl | rw [if_pos (by omega)]))
               simp only [Act.put, List.setIfInBounds_toArray, List.set_cons_zero, List.set_cons_succ]; go_big_quiet_on)))
        refine wpQuiet_nil ?_
        intro W1 hb
        try replace hr := up_of hb hr
        try replace hU := up_of hb hU
        try replace hB := up_of hb hB
        try replace d0 := up_of hb d0
        try replace d1 := up_of hb d1
        try replace d2 := up_of hb d2
        try replace dl := up_of hb dl
        try replace g0 := up_of hb g0
        try replace g1 := up_of hb g1
        try replace g2 := up_of hb g2
        try replace gl := up_of hb gl
        try replace hBV := up_of hb hBV
        try replace hY := up_of hb hY
        try replace x0 := up_of hb x0
        try replace x1 := up_of hb x1
        try replace xl := up_of hb xl
        go_wp2
        go_ret2
        exact ⟨rfl, hB⟩
      obtain ⟨kv, hkv⟩ : ∃ j : Nat, u.v = j := ⟨u.v.toNat, by omega⟩
      have hkl : kv < K.length := by omega
      have hb1 : bw 0 u.v (K.length - 1) = true := bw_iff.2 (by omega)
      obtain ⟨bk, ok, sa, ca, e2, hbk3, v0, v1, v2, v3, v4, v5, v6, hsa, hal, -, -⟩ := hr.vars.at hkl
      cases e2
      have hin : inU K u = bw 0 u.a ((K[kv].args.length : Int) - 1) := by
        unfold inU; rw [hb1, Bool.true_and, hkv, argsA_at hkl]
      rw [hin] at hbk2 hwk
      have hA := hA3.out _ (List.getElem_mem hkl)
      have hus : ∀ j (hj : j < K[kv].args.length), u.a = j → usA K u = K[kv].args[j] := fun j hj e => by
        unfold usA; rw [hkv, argsA_at hkl, e, Int.toNat_natCast, List.getD_eq_getElem?_getD, List.getElem?_eq_getElem hj]; rfl
      obtain ⟨X, hX⟩ : ∃ x, K[kv] = x := ⟨_, rfl⟩
      rw [hX] at v2 hsa hal hA hbk2 hwk
      simp only [hX] at hus
      clear hin hb1 hi1 v0 v1 v3 v4 v5 v6
      replace hX := Lib.hid hX
      have g4 : (0 : Int) ≤ (kv : Int) := by omega
      have g5 : (kv : Int) < (K.length : Int) := by omega
      rw [hkv] at x0 hv1 hv2 hSn hSy hbk2
      by_cases ha1 : u.a < 0
      · obtain rfl := hF (by rw [hbk2, show bw 0 u.a ((X.args.length : Int) - 1) = false by simp [bw]; omega]; rfl)
        clear hF hbk2 hwk hall
        try have ld_d0 := World.block_lt_of_cell? _ _ d0
        try have ld_g0 := World.block_lt_of_cell? _ _ g0
        try have ld_x0 := World.block_lt_of_cell? _ _ x0
        refine region_q (by kernel_rfl) (by kernel_rfl) ?_
        dsimp only [List.toList_toArray]
        repeat (first
         | go_big_quiet_skip
         | (go_big_quiet_want
            first
            | (refine qq_det ?_
               apply Exists.intro; refine ⟨fun W' hW' => ?_, ?_⟩
               (· have hk := cellB hW'; go_simp; try (first | rfl | rw [if_pos (by omega)]))
               simp only [Act.put, List.setIfInBounds_toArray, List.set_cons_zero, List.set_cons_succ]; go_big_quiet_on)))
        refine wpQuiet_nil ?_
        intro W1 hb
        try replace hr := up_of hb hr
        try replace hU := up_of hb hU
        try replace hB := up_of hb hB
        try replace d0 := up_of hb d0
        try replace d1 := up_of hb d1
        try replace d2 := up_of hb d2
        try replace dl := up_of hb dl
        try replace g0 := up_of hb g0
        try replace g1 := up_of hb g1
        try replace g2 := up_of hb g2
        try replace gl := up_of hb gl
        try replace hBV := up_of hb hBV
        try replace hY := up_of hb hY
        try replace x0 := up_of hb x0
        try replace x1 := up_of hb x1
        try replace xl := up_of hb xl
        try replace v2 := up_of hb v2
        go_wp2
        go_ret2
        exact ⟨rfl, hB⟩
      by_cases ha2 : (X.args.length : Int) ≤ u.a
      · obtain rfl := hF (by rw [hbk2, show bw 0 u.a ((X.args.length : Int) - 1) = false by simp [bw]; omega]; rfl)
        clear hF hbk2 hwk hall
        try have ld_d0 := World.block_lt_of_cell? _ _ d0
        try have ld_g0 := World.block_lt_of_cell? _ _ g0
        try have ld_x0 := World.block_lt_of_cell? _ _ x0
        refine region_q (by kernel_rfl) (by kernel_rfl) ?_
        dsimp only [List.toList_toArray]
        repeat (first
         | go_big_quiet_skip
         | (go_big_quiet_want
            first
            | (refine qq_det ?_
               apply Exists.intro; refine ⟨fun W' hW' => ?_, ?_⟩
               (· have hk := cellB hW'; go_simp; try (first | rfl | rw [if_pos (by omega)]))
               simp only [Act.put, List.setIfInBounds_toArray, List.set_cons_zero, List.set_cons_succ]; go_big_quiet_on)))
        refine wpQuiet_nil ?_
        intro W1 hb
        try replace hr := up_of hb hr
        try replace hU := up_of hb hU
        try replace hB := up_of hb hB
        try replace d0 := up_of hb d0
        try replace d1 := up_of hb d1
        try replace d2 := up_of hb d2
        try replace dl := up_of hb dl
        try replace g0 := up_of hb g0
        try replace g1 := up_of hb g1
        try replace g2 := up_of hb g2
        try replace gl := up_of hb gl
        try replace hBV := up_of hb hBV
        try replace hY := up_of hb hY
        try replace x0 := up_of hb x0
        try replace x1 := up_of hb x1
        try replace xl := up_of hb xl
        try replace v2 := up_of hb v2
        go_wp2
        go_ret2
        exact ⟨rfl, hB⟩
      have hb2 : bw 0 u.a ((X.args.length : Int) - 1) = true := bw_iff.2 (by omega)
      obtain ⟨ja, hja⟩ : ∃ j : Nat, u.a = j := ⟨u.a.toNat, by omega⟩
      have hjl : ja < X.args.length := by omega
      have hua := hus ja hjl hja
      obtain ⟨hw1, hw2, hw3⟩ := hwk hb2
      obtain ⟨a, ha⟩ : ∃ x, X.args[ja] = x := ⟨_, rfl⟩
      rw [ha] at hua
      rw [hua] at hbk2 hw1
      rw [hb2] at hbk2
      simp only [Bool.not_true, Bool.false_or] at hbk2
      rw [hja] at x1 ha1 ha2
      have g6 : (0 : Int) ≤ (ja : Int) := by omega
      have g7 : (ja : Int) < (X.args.length : Int) := by omega
      have m1' : ((k : Int) + 1).tmod (U.length : Int) = (m : Int) := by rw [Int.tmod_eq_emod_of_nonneg (by omega), ← hm.out]; rfl
      have m2' : ((k : Int) + 1) % (U.length : Int) = (m : Int) := by rw [← hm.out]; rfl
      have m3 : (0 : Int) ≤ (m : Int) := by omega
      have m4 : (m : Int) < (U.length : Int) := by omega
      have m5 : ¬ (U.length : Int) = 0 := by omega
      have m6 : ¬ U.length = 0 := by omega
      have m7 : IntKind.i64.wrap ((k : Int) + 1) = (k : Int) + 1 := i64_small (by omega)
      have htm := fun V => Dot_c f a.p V
      obtain ⟨td, htd⟩ : ∃ x, wrap64 (dotZ f a.p) = x := ⟨_, rfl⟩
      simp only [htd] at htm
      rw [htd] at hw1
      obtain ⟨wt, hwtv⟩ : ∃ x, wtU K f u = x := ⟨_, rfl⟩
      rw [hwtv] at hw1 hw2 hw3 hnext
      obtain ⟨sk, hsk⟩ : ∃ x, sg k = x := ⟨_, rfl⟩
      have hbd2 := hbd.out
      rw [hsk] at hbd2 hnext
      have s1 : wrap64 (1 + td) = wt := by unfold wrap64; omega
      have s2 : wrap64 (sk + wt) = sg (k + 1) := by rw [hnext.out]; unfold wrap64; omega
      have hbd3 : -80 * ((k + 1 : Nat) : Int) ≤ sg (k + 1) ∧ sg (k + 1) ≤ 82 * ((k + 1 : Nat) : Int) := by rw [hnext.out]; omega
      obtain ⟨sn, hsn⟩ : ∃ x, sg (k + 1) = x := ⟨_, rfl⟩
      rw [hsn] at s2 hbd3
      rw [hsk]
      replace hua := Lib.hid hua; replace ha := Lib.hid ha; replace hja := Lib.hid hja; replace hkv := Lib.hid hkv; replace htm := Lib.hid htm; replace s1 := Lib.hid s1; replace s2 := Lib.hid s2; replace hbd3 := Lib.hid hbd3; replace hsn := Lib.hid hsn; replace hsk := Lib.hid hsk; replace hwtv := Lib.hid hwtv; replace htd := Lib.hid htd; replace hnext := Lib.hid hnext; replace hbk2 := Lib.hid hbk2; replace hF := Lib.hid hF; replace hsa := Lib.hid hsa
      clear hwk hus hbd hbd2 hw1 hw2 hw3 hb2
      try have ld_d0 := World.block_lt_of_cell? _ _ d0
      try have ld_g0 := World.block_lt_of_cell? _ _ g0
      try have ld_x0 := World.block_lt_of_cell? _ _ x0
      refine region_q (by kernel_rfl) (by kernel_rfl) ?_
      dsimp only [List.toList_toArray]
      repeat (first
       | go_big_quiet_skip
       | (go_big_quiet_want
          first
          | (refine qq_det ?_
             apply Exists.intro; refine ⟨fun W' hW' => ?_, ?_⟩
             (· have hk := cellB hW'; go_simp; try (first | rfl | rw [if_pos (by omega)]))
             simp only [Act.put, List.setIfInBounds_toArray, List.set_cons_zero, List.set_cons_succ]; go_big_quiet_on)))
      refine wpQuiet_nil ?_
      intro Z hb
      try replace hr := up_of hb hr
      try replace hU := up_of hb hU
      try replace hB := up_of hb hB
      try replace d0 := up_of hb d0
      try replace d1 := up_of hb d1
      try replace d2 := up_of hb d2
      try replace dl := up_of hb dl
      try replace g0 := up_of hb g0
      try replace g1 := up_of hb g1
      try replace g2 := up_of hb g2
      try replace gl := up_of hb gl
      try replace hBV := up_of hb hBV
      try replace hY := up_of hb hY
      try replace x0 := up_of hb x0
      try replace x1 := up_of hb x1
      try replace xl := up_of hb xl
      try replace v2 := up_of hb v2
      try replace hsa := up_of hb hsa
      go_wp2
      go_loopw [61] (fun jj V => ∃ j : Nat, j ≤ k ∧ jj = .int .i64 j ∧ Below Z.heap.size Z V ∧ Hid (∀ i (hi : i < U.length), i < j → ¬ U[i].v = (kv : Int))) (fun jj _ => k - (intOf jj).toNat)
      case atStart => exact ⟨0, by omega, rfl, Below.refl _ _, fun i hi h => absurd h (by omega)⟩
      case round =>
        obtain ⟨j, hjk, rfl, hBX, hnm⟩ := hrel
        try replace hr := up_of hBX hr
        try replace hU := up_of hBX hU
        try replace hB := up_of hBX hB
        try replace d0 := up_of hBX d0
        try replace d1 := up_of hBX d1
        try replace d2 := up_of hBX d2
        try replace dl := up_of hBX dl
        try replace g0 := up_of hBX g0
        try replace g1 := up_of hBX g1
        try replace g2 := up_of hBX g2
        try replace gl := up_of hBX gl
        try replace hBV := up_of hBX hBV
        try replace hY := up_of hBX hY
        try replace x0 := up_of hBX x0
        try replace x1 := up_of hBX x1
        try replace xl := up_of hBX xl
        try replace v2 := up_of hBX v2
        try replace hsa := up_of hBX hsa
        by_cases hlj : j < k
        · have hlU : j < U.length := by omega
          obtain ⟨b', o', e', hb', y0, y1⟩ := hU.us_at hlU
          cases e'
          have hy : ¬ U[j].v = (kv : Int) → ∀ i (hi : i < U.length), i < j + 1 → ¬ U[i].v = (kv : Int) := fun h i hi hij => by
            by_cases h3 : i < j
            · exact hnm.out i hi h3
            · obtain rfl : i = j := by omega
              exact h
          have hz : U[j].v = (kv : Int) → seenU U k (kv : Int) = true := fun h => hSy.out ⟨j, hlU, hlj, h⟩
          obtain ⟨y, hyy⟩ : ∃ u, U[j] = u := ⟨_, rfl⟩
          rw [hyy] at y0 y1 hy hz
          replace hyy := Lib.hid hyy
          have j4 : (0 : Int) ≤ (j : Int) := by omega
          have j5 : (j : Int) < (k : Int) := by omega
          go_upto_region 13 with (fail)
          refine wp_world fun Z2 HZ2 => ?_
          have hZ : Below wr.heap.size wr Z2 := by rw [HZ2.out]; (repeat (first | exact Below.refl _ _ | refine Below.alloc ?_ (by simp; try omega) _ | refine Below.setCell ?_ (by simp) _ | refine Below.drew ?_))
          have z0 : Z2.cell? ⟨wr.heap.size, 0, none⟩ = some (.int .i64 y.v) := by rw [HZ2.out]; simp [go_sem]
          have z1 : Z2.cell? ⟨wr.heap.size, 1, none⟩ = some (.int .i64 y.a) := by rw [HZ2.out]; simp [go_sem]
          have zl : wr.heap.size < Z2.heap.size := World.block_lt_of_cell? Z2 _ z0
          try replace hr := up_of hZ hr
          try replace hU := up_of hZ hU
          try replace hB := up_of hZ hB
          try replace d0 := up_of hZ d0
          try replace d1 := up_of hZ d1
          try replace d2 := up_of hZ d2
          try replace dl := up_of hZ dl
          try replace g0 := up_of hZ g0
          try replace g1 := up_of hZ g1
          try replace g2 := up_of hZ g2
          try replace gl := up_of hZ gl
          try replace hBV := up_of hZ hBV
          try replace hY := up_of hZ hY
          try replace x0 := up_of hZ x0
          try replace x1 := up_of hZ x1
          try replace xl := up_of hZ xl
          try replace v2 := up_of hZ v2
          try replace hsa := up_of hZ hsa
          try replace hBX := up_of hZ hBX
          by_cases hnn : y.v = (kv : Int)
          · have hh := hz hnn
            obtain rfl := hF.out (by rw [hbk2.out, hh]; rfl)
            have hdd : (y.v == (kv : Int)) = true := by rw [hnn]; exact beq_self_eq_true _
            replace hnn := Lib.hid hnn
            clear hy hz hh hnm hall
            go_wp2
            go_ret2
            exact ⟨rfl, hB⟩
          · have hok := Lib.hid (hy hnn)
            have hdd : (y.v == (kv : Int)) = false := by simp [hnn]
            clear hy hz hnm
            go_wp2
            go_roundw
            case rel => exact ⟨j + 1, by omega, rfl, hBX, hok⟩
            case measure => exact meas hlj
        · obtain rfl : j = k := by omega
          have hsf := hSn.out (fun i hi hij => hnm.out i hi hij)
          have hok : a.v = mv → ∀ i, i < j + 1 → badU K U i = false := fun h => upto_succ hall.out (by rw [hbk2.out, hsf, decide_eq_true h]; rfl)
          have hbad : ¬ a.v = mv → B = false := fun h => hF.out (by rw [hbk2.out, hsf, decide_eq_false h]; rfl)
          replace hok := Lib.hid hok; replace hbad := Lib.hid hbad
          obtain ⟨ba, oa, ea, hba, z0, z1, z2, z3⟩ := hsa.out.ar_at hjl
          cases ea
          rw [ha.out] at z0 z1 z2 z3
          obtain ⟨bm, om, em, hbm, m0, -⟩ := hU.us_at hml
          cases em
          rw [hmv.out] at m0
          clear hsf hnm hall
          go_upto_region 16 with (fail)
          go_region_held3 (fun V => V.cell? ⟨w.heap.size, 2, none⟩ = some (.slice (some ⟨bk, ok, none⟩) K.length cq) ∧ V.cell? ⟨V0.heap.size, 0, none⟩ = some (.int .i64 kv) ∧ V.cell? ⟨bk, ok + kv * 7 + 2, none⟩ = some (.slice (some ⟨ba, oa, none⟩) X.args.length ca) ∧ V.cell? ⟨V0.heap.size, 1, none⟩ = some (.int .i64 ja) ∧ V.cell? ⟨ba, oa + ja * 4, none⟩ = some (.int .i64 a.v) ∧ V.cell? ⟨ba, oa + ja * 4 + 1, none⟩ = some (.int .i64 a.p.x) ∧ V.cell? ⟨ba, oa + ja * 4 + 2, none⟩ = some (.int .i64 a.p.y) ∧ V.cell? ⟨ba, oa + ja * 4 + 3, none⟩ = some (.int .i64 a.p.z)) ((first | (with_reducible exact ⟨d2, x0, v2, x1, z0, z1, z2, z3⟩) | ((try dsimp only); (repeat' apply And.intro) <;> (repeat (first | (with_reducible assumption) | (with_reducible refine cell_set (by simp; try omega) ?_) | (with_reducible refine cell_drew ?_) | (with_reducible refine cell_alloc ?_ _)))))) ((first | fail))
          all_goals
            refine exit_world fun X9 HX => ?_
            have hB10 : Below wr.heap.size wr X9 := by
              rw [HX.out]
              repeat (first | (with_reducible exact (Below.refl _ _)) | (with_reducible refine Below.drew ?_) | ((with_reducible refine Below.setC ?_ ?_); (focus (first | omega | (simp; done) | (simp; omega)))) | ((with_reducible refine Below.allo ?_ ?_); (focus (first | omega | (simp; done) | (simp; omega)))))
            have a0 : X9.cell? ⟨wr.heap.size, 0, none⟩ = some (.int .i64 a.v) := by rw [HX.out]; simp [go_sem]
            have a1 : X9.cell? ⟨wr.heap.size, 1, none⟩ = some (.int .i64 a.p.x) := by rw [HX.out]; simp [go_sem]
            have a2 : X9.cell? ⟨wr.heap.size, 2, none⟩ = some (.int .i64 a.p.y) := by rw [HX.out]; simp [go_sem]
            have a3 : X9.cell? ⟨wr.heap.size, 3, none⟩ = some (.int .i64 a.p.z) := by rw [HX.out]; simp [go_sem]
            try replace hr := up_of hB10 hr
            try replace hU := up_of hB10 hU
            try replace hB := up_of hB10 hB
            try replace d0 := up_of hB10 d0
            try replace d1 := up_of hB10 d1
            try replace d2 := up_of hB10 d2
            try replace dl := up_of hB10 dl
            try replace g0 := up_of hB10 g0
            try replace g1 := up_of hB10 g1
            try replace g2 := up_of hB10 g2
            try replace gl := up_of hB10 gl
            try replace hBV := up_of hB10 hBV
            try replace hY := up_of hB10 hY
            try replace x0 := up_of hB10 x0
            try replace x1 := up_of hB10 x1
            try replace xl := up_of hB10 xl
            try replace v2 := up_of hB10 v2
            try replace hsa := up_of hB10 hsa
            try replace hBX := up_of hB10 hBX
            try replace hZ := up_of hB10 hZ
            try replace z0 := up_of hB10 z0
            try replace z1 := up_of hB10 z1
            try replace zl := up_of hB10 zl
            try replace z2 := up_of hB10 z2
            try replace z3 := up_of hB10 z3
            try replace m0 := up_of hB10 m0
            clear HX hB10
            go_upto_region 17 with (fail)
            try have ld_d0 := World.block_lt_of_cell? _ _ d0
            try have ld_g0 := World.block_lt_of_cell? _ _ g0
            try have ld_x0 := World.block_lt_of_cell? _ _ x0
            try have ld_z0 := World.block_lt_of_cell? _ _ z0
            try have ld_m0 := World.block_lt_of_cell? _ _ m0
            try have ld_a0 := World.block_lt_of_cell? _ _ a0
            refine region_q (by kernel_rfl) (by kernel_rfl) ?_
            dsimp only [List.toList_toArray]
            repeat (first
             | go_big_quiet_skip
             | (go_big_quiet_want
                first
                | (refine qq_det ?_
                   apply Exists.intro; refine ⟨fun W' hW' => ?_, ?_⟩
                   (· have hk := cellB hW'; go_simp; try (first | rfl | rw [if_pos (by omega)]))
                   simp only [Act.put, List.setIfInBounds_toArray, List.set_cons_zero, List.set_cons_succ]; go_big_quiet_on)))
            refine wpQuiet_nil ?_
            intro Z5 hb
            try replace hr := up_of hb hr
            try replace hU := up_of hb hU
            try replace hB := up_of hb hB
            try replace d0 := up_of hb d0
            try replace d1 := up_of hb d1
            try replace d2 := up_of hb d2
            try replace dl := up_of hb dl
            try replace g0 := up_of hb g0
            try replace g1 := up_of hb g1
            try replace g2 := up_of hb g2
            try replace gl := up_of hb gl
            try replace hBV := up_of hb hBV
            try replace hY := up_of hb hY
            try replace x0 := up_of hb x0
            try replace x1 := up_of hb x1
            try replace xl := up_of hb xl
            try replace v2 := up_of hb v2
            try replace hsa := up_of hb hsa
            try replace hBX := up_of hb hBX
            try replace hZ := up_of hb hZ
            try replace z0 := up_of hb z0
            try replace z1 := up_of hb z1
            try replace zl := up_of hb zl
            try replace z2 := up_of hb z2
            try replace z3 := up_of hb z3
            try replace m0 := up_of hb m0
            try replace a0 := up_of hb a0
            try replace a1 := up_of hb a1
            try replace a2 := up_of hb a2
            try replace a3 := up_of hb a3
            by_cases hav : a.v = mv
            · have hn2 : (a.v != mv) = false := by simp [hav]
              have hok2 := Lib.hid (hok.out hav)
              replace hav := Lib.hid hav
              clear hok hbad
              go_wp2_with (first | (go_at_call 78; refine (htm.out _).mono ?_; rintro e W1 ⟨rfl, hb⟩; (try replace hr := up_of hb hr); (try replace hU := up_of hb hU); (try replace hB := up_of hb hB); (try replace d0 := up_of hb d0); (try replace d1 := up_of hb d1); (try replace d2 := up_of hb d2); (try replace dl := up_of hb dl); (try replace g0 := up_of hb g0); (try replace g1 := up_of hb g1); (try replace g2 := up_of hb g2); (try replace gl := up_of hb gl); (try replace hBV := up_of hb hBV); (try replace hY := up_of hb hY); (try replace x0 := up_of hb x0); (try replace x1 := up_of hb x1); (try replace xl := up_of hb xl); (try replace v2 := up_of hb v2); (try replace hsa := up_of hb hsa); (try replace hBX := up_of hb hBX); (try replace hZ := up_of hb hZ); (try replace z0 := up_of hb z0); (try replace z1 := up_of hb z1); (try replace zl := up_of hb zl); (try replace z2 := up_of hb z2); (try replace z3 := up_of hb z3); (try replace m0 := up_of hb m0); (try replace a0 := up_of hb a0); (try replace a1 := up_of hb a1); (try replace a2 := up_of hb a2); (try replace a3 := up_of hb a3)))
              go_roundw
              case rel => exact ⟨j + 1, by omega, rfl, congrArg (Value.int .i64) (by rw [s1.out, s2.out, hsn.out]), hBV, hok2, by rw [hsn.out]; exact hbd3⟩
              case measure => exact meas hlt
            · have hn2 : (a.v != mv) = true := bne_iff_ne.2 hav
              obtain rfl := hbad.out hav
              replace hav := Lib.hid hav
              clear hok hbad
              go_wp2
              go_ret2
              exact ⟨rfl, hB⟩
    · obtain rfl : k = U.length := by omega
      obtain rfl := hyes.out hall.out
      clear hall
      by_cases hp : 0 < sg U.length
      · go_wp2
        go_ret2
        exact ⟨by simp [hp], hB⟩
      · go_wp2
        go_ret2
        exact ⟨by simp [hp], hB⟩
end Go.Proofs.Ytbpdgoedglkefaa
