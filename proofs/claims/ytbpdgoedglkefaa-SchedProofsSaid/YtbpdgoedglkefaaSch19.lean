/- Whether uses are a circle: the program. -/
import Derived.Test.YtbpdgoedglkefaaSch18
namespace Go.Proofs.Ytbpdgoedglkefaa
open Go.RowKit Go.Maps

theorem key_int : Keyed Try.prog 3 := int_keyed Try.underlying3
set_option maxRecDepth 100000 in
set_option maxHeartbeats 4000000 in
theorem isCircle_c (n : Int) (s : Option Addr) (cap len : Nat) (s2 : Option Addr) (cq : Nat) (K : List Vv) (f : Pt) (t : Option Addr) (ct : Nat) (U : List Us) (w : World) (hK : VarsM w s2 K) (hK4 : K.length ≤ 4) (hU : SlS usE w t U) (hUl : U.length ≤ 20) (hN : NearK K) (hA3 : ∀ v ∈ K, v.args.length ≤ 3) (hf : f.x.natAbs ≤ 9 ∧ f.y.natAbs ≤ 9 ∧ f.z.natAbs ≤ 9) :
    Calls Try.prog 76 #[.agg #[.int .i64 n, .slice s len cap, .slice s2 K.length cq], .agg #[.int .i64 f.x, .int .i64 f.y, .int .i64 f.z], .slice t U.length ct] w fun e w' => e = .returned (.bool (circB K f U)) ∧ Below w.heap.size w w' := by
  have hno := fun i (hi : i < U.length) hb => circ_no (K := K) (f := f) hi hb
  have hyes := fun hh => circ_yes (K := K) (f := f) (l := U) hh
  have hwt := fun u hu => wtU_small (K := K) (f := f) (u := u) hN hf hu
  obtain ⟨B, hB0⟩ : ∃ x, circB K f U = x := ⟨_, rfl⟩
  simp only [hB0] at hno hyes ⊢
  clear hB0
  obtain ⟨sg, hs0, hss, hse⟩ : ∃ sg : Nat → Int, sg 0 = 0 ∧ (∀ i (hi : i < U.length), sg (i + 1) = sg i + wtU K f U[i]) ∧ sumU K f U = sg U.length := ⟨fun i => sumU K f (U.take i), by simp [sumU], fun i hi => sumU_succ hi, by simp⟩
  rw [hse] at hyes
  replace hno := Lib.hid hno; replace hyes := Lib.hid hyes; replace hwt := Lib.hid hwt; replace hss := Lib.hid hss; replace hs0 := Lib.hid hs0; replace hN := Lib.hid hN; replace hA3 := Lib.hid hA3; replace hf := Lib.hid hf
  clear hse
  have hmm := @run_makeMap Try.prog
  go_enter Try.func76, Try.ntmps76
  go_upto_region 1 with (fail)
  refine wp_world fun W HW => ?_
  have hB : Below w.heap.size w W := by rw [HW.out]; (repeat (first | exact Below.refl _ _ | refine Below.alloc ?_ (by simp; try omega) _ | refine Below.setCell ?_ (by simp) _ | refine Below.drew ?_))
  have d0 : W.cell? ⟨w.heap.size, 0, none⟩ = some (.int .i64 n) := by rw [HW.out]; simp [go_sem]
  have d1 : W.cell? ⟨w.heap.size, 1, none⟩ = some (.slice s len cap) := by rw [HW.out]; simp [go_sem]
  have d2 : W.cell? ⟨w.heap.size, 2, none⟩ = some (.slice s2 K.length cq) := by rw [HW.out]; simp [go_sem]
  have dl : w.heap.size < W.heap.size := World.block_lt_of_cell? W _ d0
  have g0 : W.cell? ⟨w.heap.size + 1, 0, none⟩ = some (.int .i64 f.x) := by rw [HW.out]; simp [go_sem]
  have g1 : W.cell? ⟨w.heap.size + 1, 1, none⟩ = some (.int .i64 f.y) := by rw [HW.out]; simp [go_sem]
  have g2 : W.cell? ⟨w.heap.size + 1, 2, none⟩ = some (.int .i64 f.z) := by rw [HW.out]; simp [go_sem]
  have gl : w.heap.size + 1 < W.heap.size := World.block_lt_of_cell? W _ g0
  try replace hK := up_of hB hK
  try replace hU := up_of hB hU
  have hK0 := Lib.hid hK
  have hU0 := Lib.hid hU
  have gW0 := Lib.hid g0; have gW1 := Lib.hid g1; have gW2 := Lib.hid g2; have dW2 := Lib.hid d2
  have hB0 := hB
  go_wp2
  go_loopw [7, 15] (fun sm ii V => ∃ k : Nat, k ≤ U.length ∧ W.heap.size < V.heap.size ∧ ii = .int .i64 k ∧ sm = .int .i64 (sg k) ∧ V.ownsMap Try.prog 3 (plainElem Try.prog 4) W.heap.size k (mapU U k) ∧ Below W.heap.size W V ∧ Hid (∀ j, j < k → badU K U j = false) ∧ Hid (-80 * k ≤ sg k ∧ sg k ≤ 82 * k)) (fun _ ii _ => U.length - (intOf ii).toNat)
  case atStart => exact ⟨0, by omega, by simp, rfl, by rw [hs0.out], World.ownsMap_made _ _ _ _, (Below.refl _ W).alloc (Nat.le_refl _) _, fun j h => absurd h (by omega), by rw [hs0.out]; exact Lib.hid (by omega)⟩
  case round =>
    obtain ⟨k, hk, hWV, rfl, rfl, hown, hBV, hall, hbd⟩ := hrel
    try replace hK := up_of hBV hK
    try replace hU := up_of hBV hU
    try replace hB := up_of hBV hB
    try replace d0 := up_of hBV d0
    try replace d1 := up_of hBV d1
    try replace d2 := up_of hBV d2
    try replace dl := up_of hBV dl
    try replace g0 := up_of hBV g0
    try replace g1 := up_of hBV g1
    try replace g2 := up_of hBV g2
    try replace gl := up_of hBV gl
    by_cases hlt : k < U.length
    · obtain ⟨bu, ou, eu, hbu, u0, u1⟩ := hU.us_at hlt
      cases eu
      have hbk := badU_at (K := K) hlt
      have hput := mapU_put hlt
      have hS := mapU_at (l := U) U[k].v hk
      have hF := hno.out k hlt
      have hnext := hss.out k hlt
      have hwk := hwt.out U[k]
      obtain ⟨m, hm⟩ : ∃ m, (k + 1) % U.length = m := ⟨_, rfl⟩
      have hml : m < U.length := by rw [← hm]; exact Nat.mod_lt _ (by omega)
      have hbk2 : badU K U k = (!inU K U[k] || (seenU U k U[k].v || !decide ((usA K U[k]).v = U[m].v))) := by subst hm; exact hbk
      clear hbk
      obtain ⟨bm, om, em, hbm, m0, m1⟩ := hU.us_at hml
      cases em
      obtain ⟨mv, hmv⟩ : ∃ x, U[m].v = x := ⟨_, rfl⟩
      obtain ⟨u, hu⟩ : ∃ x, U[k] = x := ⟨_, rfl⟩
      rw [hmv] at m0 hbk2
      rw [hu] at u0 u1 hbk2 hput hS hnext hwk
      replace hm := Lib.hid hm; replace hmv := Lib.hid hmv; replace hu := Lib.hid hu; replace hput := Lib.hid hput; replace hnext := Lib.hid hnext
      have g1 : (0 : Int) ≤ (k : Int) := by omega
      have g2 : (k : Int) < (U.length : Int) := by omega
      have w1 : IntKind.i64.wrap ((K.length : Int) - 1) = (K.length : Int) - 1 := i64_small (by omega)
      go_upto_region 6 with (fail)
      refine wp_world fun Y HY => ?_
      have hY : Below wr.heap.size wr Y := by rw [HY.out]; (repeat (first | exact Below.refl _ _ | refine Below.alloc ?_ (by simp; try omega) _ | refine Below.setCell ?_ (by simp) _ | refine Below.drew ?_))
      have x0 : Y.cell? ⟨wr.heap.size, 0, none⟩ = some (.int .i64 u.v) := by rw [HY.out]; simp [go_sem]
      have x1 : Y.cell? ⟨wr.heap.size, 1, none⟩ = some (.int .i64 u.a) := by rw [HY.out]; simp [go_sem]
      have xl : wr.heap.size < Y.heap.size := World.block_lt_of_cell? Y _ x0
      try replace hK := up_of hY hK
      try replace hU := up_of hY hU
      try replace hB := up_of hY hB
      try replace d0 := up_of hY d0
      try replace d1 := up_of hY d1
      try replace d2 := up_of hY d2
      try replace dl := up_of hY dl
      try replace g0 := up_of hY g0
      try replace g1 := up_of hY g1
      try replace g2 := up_of hY g2
      try replace gl := up_of hY gl
      try replace hown := up_of hY hown
      try replace hBV := up_of hY hBV
      try replace m0 := up_of hY m0
      cases hb1 : bw 0 u.v (K.length - 1)
      · obtain rfl := hF (by rw [hbk2]; unfold inU; rw [hb1]; rfl)
        have hbt := fun V => schBetween_c 0 u.v (K.length - 1) V
        rw [hb1] at hbt
        replace hbt := Lib.hid hbt
        clear hF hbk2 hS hwk hall hb1
        try have ld_d0 := World.block_lt_of_cell? _ _ d0
        try have ld_g0 := World.block_lt_of_cell? _ _ g0
        try have ld_m0 := World.block_lt_of_cell? _ _ m0
        try have ld_x0 := World.block_lt_of_cell? _ _ x0
        refine region_q (by kernel_rfl) (by kernel_rfl) ?_
        dsimp only [List.toList_toArray]
        repeat (first
         | go_big_quiet_skip
         | (go_big_quiet_want
            first
            | (refine qq_det ?_
               apply Exists.intro; refine ⟨fun W' hW' => ?_, ?_⟩
               (· have hk := cellB hW'; go_simp; try (first | rfl | rw [if_pos (by omega)]))
               simp only [Act.put, List.setIfInBounds_toArray, List.set_cons_zero, List.set_cons_succ]; go_big_quiet_on)
            | (refine qq_call ?_
               apply Exists.intro; apply Exists.intro; refine ⟨fun W' hW' => ?_, ?_⟩
               (· have hk := cellB hW'; go_simp; exact ⟨rfl, rfl⟩)
               apply Exists.intro; refine ⟨fun W' hW' => ?_, ?_⟩
               (· first | (go_at_call 59; exact qs hW' (hbt.out _)))
               simp only [Act.put, List.setIfInBounds_toArray, List.set_cons_zero, List.set_cons_succ]; go_big_quiet_on)))
        refine wpQuiet_nil ?_
        intro W1 hb
        try replace hK := up_of hb hK
        try replace hU := up_of hb hU
        try replace hB := up_of hb hB
        try replace d0 := up_of hb d0
        try replace d1 := up_of hb d1
        try replace d2 := up_of hb d2
        try replace dl := up_of hb dl
        try replace g0 := up_of hb g0
        try replace g1 := up_of hb g1
        try replace g2 := up_of hb g2
        try replace gl := up_of hb gl
        try replace hown := up_of hb hown
        try replace hBV := up_of hb hBV
        try replace m0 := up_of hb m0
        try replace hY := up_of hb hY
        try replace x0 := up_of hb x0
        try replace x1 := up_of hb x1
        try replace xl := up_of hb xl
        go_wp2
        go_ret
        exact ⟨rfl, hB⟩
      have hv := bw_iff.1 hb1
      have hkey : keyOf Try.prog 3 (.int .i64 u.v) = some (.int .i64 u.v) := keyOf_int_mk Try.underlying3 (wf_mk (by omega))
      have hlk := fun (V : World) (h : V.ownsMap Try.prog 3 (plainElem Try.prog 4) W.heap.size k (mapU U k)) => lookup_bool h key_int Try.underlying141 Try.underlying4 (zero_bool _) hkey
      rw [hS] at hlk
      obtain ⟨x, hx⟩ : ∃ x, seenU U k u.v = x := ⟨_, rfl⟩
      rw [hx] at hlk hbk2
      have hlk2 : ∀ V : World, V.ownsMap Try.prog 3 (plainElem Try.prog 4) W.heap.size k (mapU U k) → (Instr.lookup 141 (.map (some W.heap.size)) (.int .i64 u.v) false).run Try.prog V = .ok (.bool x) V := fun V h => by
        obtain ⟨c, hr, e⟩ := hlk V h
        injection e with e; injection e with e; subst e; exact hr
      clear hlk hS hx
      replace hlk2 := Lib.hid hlk2
      cases x
      case true =>
        obtain rfl := hF (by rw [hbk2]; simp)
        have hbt := fun V => schBetween_c 0 u.v (K.length - 1) V
        rw [hb1] at hbt
        replace hbt := Lib.hid hbt
        clear hF hbk2 hwk hall hb1
        try have ld_d0 := World.block_lt_of_cell? _ _ d0
        try have ld_g0 := World.block_lt_of_cell? _ _ g0
        try have ld_m0 := World.block_lt_of_cell? _ _ m0
        try have ld_x0 := World.block_lt_of_cell? _ _ x0
        refine region_q (by kernel_rfl) (by kernel_rfl) ?_
        dsimp only [List.toList_toArray]
        repeat (first
         | go_big_quiet_skip
         | (go_big_quiet_want
            first
            | (refine qq_det ?_
               apply Exists.intro; refine ⟨fun W' hW' => ?_, ?_⟩
               (· have hk := cellB hW'; have hlk9 := hlk2.out W' (up_of hW' hown); go_simp; try (first | rfl | rw [if_pos (by omega)]))
               simp only [Act.put, List.setIfInBounds_toArray, List.set_cons_zero, List.set_cons_succ]; go_big_quiet_on)
            | (refine qq_call ?_
               apply Exists.intro; apply Exists.intro; refine ⟨fun W' hW' => ?_, ?_⟩
               (· have hk := cellB hW'; go_simp; exact ⟨rfl, rfl⟩)
               apply Exists.intro; refine ⟨fun W' hW' => ?_, ?_⟩
               (· first | (go_at_call 59; exact qs hW' (hbt.out _)))
               simp only [Act.put, List.setIfInBounds_toArray, List.set_cons_zero, List.set_cons_succ]; go_big_quiet_on)))
        refine wpQuiet_nil ?_
        intro W1 hb
        try replace hK := up_of hb hK
        try replace hU := up_of hb hU
        try replace hB := up_of hb hB
        try replace d0 := up_of hb d0
        try replace d1 := up_of hb d1
        try replace d2 := up_of hb d2
        try replace dl := up_of hb dl
        try replace g0 := up_of hb g0
        try replace g1 := up_of hb g1
        try replace g2 := up_of hb g2
        try replace gl := up_of hb gl
        try replace hown := up_of hb hown
        try replace hBV := up_of hb hBV
        try replace m0 := up_of hb m0
        try replace hY := up_of hb hY
        try replace x0 := up_of hb x0
        try replace x1 := up_of hb x1
        try replace xl := up_of hb xl
        go_wp2
        go_ret
        exact ⟨rfl, hB⟩
      obtain ⟨kv, hkv⟩ : ∃ j : Nat, u.v = j := ⟨u.v.toNat, by omega⟩
      have hkl : kv < K.length := by omega
      obtain ⟨bk, ok, sa, ca, e2, hbk3, v0, v1, v2, v3, v4, v5, v6, hsa, hal, -, -⟩ := hK.at hkl
      cases e2
      have hin : inU K u = bw 0 u.a ((K[kv].args.length : Int) - 1) := by
        unfold inU; rw [hb1, Bool.true_and, hkv, argsA_at hkl]
      rw [hin] at hbk2 hwk
      have hA := hA3.out _ (List.getElem_mem hkl)
      have hus : ∀ j (hj : j < K[kv].args.length), u.a = j → usA K u = K[kv].args[j] := fun j hj e => by
        unfold usA; rw [hkv, argsA_at hkl, e, Int.toNat_natCast, List.getD_eq_getElem?_getD, List.getElem?_eq_getElem hj]; rfl
      obtain ⟨X, hX⟩ : ∃ x, K[kv] = x := ⟨_, rfl⟩
      rw [hX] at v0 v1 v2 v3 v4 v5 v6 hsa hal hA hbk2 hwk
      simp only [hX] at hus
      clear hin
      replace hX := Lib.hid hX
      have g4 : (0 : Int) ≤ (kv : Int) := by omega
      have g5 : (kv : Int) < (K.length : Int) := by omega
      have w2 : IntKind.i64.wrap ((X.args.length : Int) - 1) = (X.args.length : Int) - 1 := i64_small (by omega)
      rw [hkv] at hlk2 x0 hb1 hput hkey
      cases hb2 : bw 0 u.a ((X.args.length : Int) - 1)
      · obtain rfl := hF (by rw [hbk2, hb2]; rfl)
        clear hF hbk2 hwk hall
        try have ld_d0 := World.block_lt_of_cell? _ _ d0
        try have ld_g0 := World.block_lt_of_cell? _ _ g0
        try have ld_m0 := World.block_lt_of_cell? _ _ m0
        try have ld_x0 := World.block_lt_of_cell? _ _ x0
        refine region_q (by kernel_rfl) (by kernel_rfl) ?_
        dsimp only [List.toList_toArray]
        repeat (first
         | go_big_quiet_skip
         | (go_big_quiet_want
            first
            | (refine qq_det ?_
               apply Exists.intro; refine ⟨fun W' hW' => ?_, ?_⟩
               (· have hk := cellB hW'; have hlk9 := hlk2.out W' (up_of hW' hown); go_simp; try (first | rfl | rw [if_pos (by omega)]))
               simp only [Act.put, List.setIfInBounds_toArray, List.set_cons_zero, List.set_cons_succ]; go_big_quiet_on)
            | (refine qq_call ?_
               apply Exists.intro; apply Exists.intro; refine ⟨fun W' hW' => ?_, ?_⟩
               (· have hk := cellB hW'; go_simp; exact ⟨rfl, rfl⟩)
               apply Exists.intro; refine ⟨fun W' hW' => ?_, ?_⟩
               (· first | (go_at_call 59; exact qs hW' (schBetween_c _ _ _ _)))
               simp only [Act.put, List.setIfInBounds_toArray, List.set_cons_zero, List.set_cons_succ]; go_big_quiet_on)))
        refine wpQuiet_nil ?_
        intro W1 hb
        try replace hK := up_of hb hK
        try replace hU := up_of hb hU
        try replace hB := up_of hb hB
        try replace d0 := up_of hb d0
        try replace d1 := up_of hb d1
        try replace d2 := up_of hb d2
        try replace dl := up_of hb dl
        try replace g0 := up_of hb g0
        try replace g1 := up_of hb g1
        try replace g2 := up_of hb g2
        try replace gl := up_of hb gl
        try replace hown := up_of hb hown
        try replace hBV := up_of hb hBV
        try replace m0 := up_of hb m0
        try replace hY := up_of hb hY
        try replace x0 := up_of hb x0
        try replace x1 := up_of hb x1
        try replace xl := up_of hb xl
        try replace v2 := up_of hb v2
        go_wp2
        go_ret
        exact ⟨rfl, hB⟩
      have hva := bw_iff.1 hb2
      obtain ⟨ja, hja⟩ : ∃ j : Nat, u.a = j := ⟨u.a.toNat, by omega⟩
      have hjl : ja < X.args.length := by omega
      have hua := hus ja hjl hja
      obtain ⟨ba, oa, ea, hba, z0, z1, z2, z3⟩ := hsa.ar_at hjl
      cases ea
      obtain ⟨hw1, hw2, hw3⟩ := hwk hb2
      obtain ⟨a, ha⟩ : ∃ x, X.args[ja] = x := ⟨_, rfl⟩
      rw [ha] at hua z0 z1 z2 z3
      rw [hua] at hbk2 hw1
      rw [hb2] at hbk2
      simp only [Bool.not_true, Bool.false_or] at hbk2
      rw [hja] at hb2 x1
      have g6 : (0 : Int) ≤ (ja : Int) := by omega
      have g7 : (ja : Int) < (X.args.length : Int) := by omega
      have m1' : ((k : Int) + 1).tmod (U.length : Int) = (m : Int) := by rw [Int.tmod_eq_emod_of_nonneg (by omega), ← hm.out]; rfl
      have m2' : ((k : Int) + 1) % (U.length : Int) = (m : Int) := by rw [← hm.out]; rfl
      have m3 : (0 : Int) ≤ (m : Int) := by omega
      have m4 : (m : Int) < (U.length : Int) := by omega
      have m5 : ¬ (U.length : Int) = 0 := by omega
      have m6 : ¬ U.length = 0 := by omega
      have m7 : IntKind.i64.wrap ((k : Int) + 1) = (k : Int) + 1 := i64_small (by omega)
      replace hua := Lib.hid hua; replace ha := Lib.hid ha; replace hja := Lib.hid hja; replace hkv := Lib.hid hkv
      clear hwk hus
      try have ld_d0 := World.block_lt_of_cell? _ _ d0
      try have ld_g0 := World.block_lt_of_cell? _ _ g0
      try have ld_m0 := World.block_lt_of_cell? _ _ m0
      try have ld_x0 := World.block_lt_of_cell? _ _ x0
      refine region_q (by kernel_rfl) (by kernel_rfl) ?_
      dsimp only [List.toList_toArray]
      repeat (first
       | go_big_quiet_skip
       | (go_big_quiet_want
          first
          | (refine qq_det ?_
             apply Exists.intro; refine ⟨fun W' hW' => ?_, ?_⟩
             (· have hk := cellB hW'; have hlk9 := hlk2.out W' (up_of hW' hown); go_simp; try (first | rfl | rw [if_pos (by omega)]))
             simp only [Act.put, List.setIfInBounds_toArray, List.set_cons_zero, List.set_cons_succ]; go_big_quiet_on)
          | (refine qq_call ?_
             apply Exists.intro; apply Exists.intro; refine ⟨fun W' hW' => ?_, ?_⟩
             (· have hk := cellB hW'; go_simp; exact ⟨rfl, rfl⟩)
             apply Exists.intro; refine ⟨fun W' hW' => ?_, ?_⟩
             (· first | (go_at_call 59; exact qs hW' (schBetween_c _ _ _ _)))
             simp only [Act.put, List.setIfInBounds_toArray, List.set_cons_zero, List.set_cons_succ]; go_big_quiet_on)))
      refine wpQuiet_nil ?_
      intro W1 hb
      try replace hK := up_of hb hK
      try replace hU := up_of hb hU
      try replace hB := up_of hb hB
      try replace d0 := up_of hb d0
      try replace d1 := up_of hb d1
      try replace d2 := up_of hb d2
      try replace dl := up_of hb dl
      try replace g0 := up_of hb g0
      try replace g1 := up_of hb g1
      try replace g2 := up_of hb g2
      try replace gl := up_of hb gl
      try replace hown := up_of hb hown
      try replace hBV := up_of hb hBV
      try replace m0 := up_of hb m0
      try replace hY := up_of hb hY
      try replace x0 := up_of hb x0
      try replace x1 := up_of hb x1
      try replace xl := up_of hb xl
      try replace v2 := up_of hb v2
      go_upto_region 9 with (at_mapUpdate; refine wpList_mapUpdate_own _ rfl _ _ _ 141 rfl 3 4 key_int Try.underlying141 _ W.heap.size k (mapU U k) rfl hown (by unfold maxLen; omega) _ _ _ rfl rfl hkey (.lit (.bool true)) [] (plainElem_bool Try.underlying4 true) ?_; intro w9 hown9 hgrow9)
      have hB9 : Below W.heap.size W w9 := hBV.grown hgrow9 (by have := hBV.size; omega) (fun j e => by cases e; omega)
      have hx9 : ∀ o u, W1.cell? ⟨wr.heap.size, o, none⟩ = some u → w9.cell? ⟨wr.heap.size, o, none⟩ = some u := fun o u c => by
        rw [World.cell?_of_block (hgrow9.block wr.heap.size (World.block_lt_of_cell? _ _ c) (fun e => by injection e with e; omega))]; exact c
      replace x0 := hx9 _ _ x0
      replace x1 := hx9 _ _ x1
      clear hx9 hb v0 v1 v2 v3 v4 v5 v6 z0 z1 z2 z3 m0 hown hBV hgrow9 d0 d1
      obtain ⟨bk', ok', sa', ca', e8, hbk8, -, -, v2, -, -, -, -, hsa', -, -, -⟩ := (up_of hB9 hK0.out).at hkl
      cases e8
      rw [hX.out] at v2 hsa'
      obtain ⟨ba', oa', ea', hba', z0, z1, z2, z3⟩ := hsa'.ar_at hjl
      cases ea'
      rw [ha.out] at z0 z1 z2 z3
      obtain ⟨bm', om', em', hbm', m0, -⟩ := (up_of hB9 hU0.out).us_at hml
      cases em'
      rw [hmv.out] at m0
      have f0 := up_of hB9 gW0.out; have f1 := up_of hB9 gW1.out; have f2 := up_of hB9 gW2.out; replace d2 := up_of hB9 dW2.out
      have hB9' := hB0.trans (hB9.mono hB0.size)
      have hs9 := hB9.size
      have xl9 := World.block_lt_of_cell? _ _ x0; have dl9 := World.block_lt_of_cell? _ _ d2; have gl9 := World.block_lt_of_cell? _ _ f0
      simp only at xl9 dl9 gl9
      clear hK hU hB hY hb2 hsa hv hva hkey hlk2 hb1
      have htm := fun V => schTimes_c f a.p V
      obtain ⟨td, htd⟩ : ∃ x, wrap64 (dotZ f a.p) = x := ⟨_, rfl⟩
      simp only [htd] at htm
      rw [htd] at hw1
      obtain ⟨wt, hwtv⟩ : ∃ x, wtU K f u = x := ⟨_, rfl⟩
      rw [hwtv] at hw1 hw2 hw3 hnext
      obtain ⟨sk, hsk⟩ : ∃ x, sg k = x := ⟨_, rfl⟩
      have hbd2 := hbd.out
      rw [hsk] at hbd2 hnext
      have s1 : wrap64 (1 + td) = wt := by unfold wrap64; omega
      have s2 : wrap64 (sk + wt) = sg (k + 1) := by rw [hnext.out]; unfold wrap64; omega
      have hbd3 : -80 * ((k + 1 : Nat) : Int) ≤ sg (k + 1) ∧ sg (k + 1) ≤ 82 * ((k + 1 : Nat) : Int) := by rw [hnext.out]; omega
      obtain ⟨sn, hsn⟩ : ∃ x, sg (k + 1) = x := ⟨_, rfl⟩
      rw [hsn] at s2 hbd3
      rw [hsk]
      have hok : a.v = mv → ∀ j, j < k + 1 → badU K U j = false := fun h => upto_succ hall.out (by rw [hbk2, decide_eq_true h]; rfl)
      have hbad : ¬ a.v = mv → B = false := fun h => hF (by rw [hbk2, decide_eq_false h]; rfl)
      replace htm := Lib.hid htm; replace s1 := Lib.hid s1; replace s2 := Lib.hid s2; replace hbd3 := Lib.hid hbd3; replace hsn := Lib.hid hsn; replace hsk := Lib.hid hsk; replace hok := Lib.hid hok; replace hbad := Lib.hid hbad; replace hwtv := Lib.hid hwtv; replace htd := Lib.hid htd; replace hnext := Lib.hid hnext
      clear hbd hbd2 hF hall hbk2 hw1 hw2 hw3
      have x0' := x0; have x1' := x1
      go_region_held3 (fun V => V.cell? ⟨w.heap.size, 2, none⟩ = some (.slice (some ⟨bk, ok, none⟩) K.length cq) ∧ V.cell? ⟨wr.heap.size, 0, none⟩ = some (.int .i64 kv) ∧ V.cell? ⟨bk, ok + kv * 7 + 2, none⟩ = some (.slice (some ⟨ba', oa', none⟩) X.args.length ca') ∧ V.cell? ⟨wr.heap.size, 1, none⟩ = some (.int .i64 ja) ∧ V.cell? ⟨ba', oa' + ja * 4, none⟩ = some (.int .i64 a.v) ∧ V.cell? ⟨ba', oa' + ja * 4 + 1, none⟩ = some (.int .i64 a.p.x) ∧ V.cell? ⟨ba', oa' + ja * 4 + 2, none⟩ = some (.int .i64 a.p.y) ∧ V.cell? ⟨ba', oa' + ja * 4 + 3, none⟩ = some (.int .i64 a.p.z)) ((first | (with_reducible exact ⟨d2, x0, v2, x1, z0, z1, z2, z3⟩) | ((try dsimp only); (repeat' apply And.intro) <;> (repeat (first | (with_reducible assumption) | (with_reducible refine cell_set (by simp; try omega) ?_) | (with_reducible refine cell_drew ?_) | (with_reducible refine cell_alloc ?_ _)))))) ((first | fail))
      all_goals
        refine exit_world fun X9 HX => ?_
        have hB10 : Below w9.heap.size w9 X9 := by
          rw [HX.out]
          repeat (first | (with_reducible exact (Below.refl _ _)) | (with_reducible refine Below.drew ?_) | ((with_reducible refine Below.setC ?_ ?_); (focus (first | omega | (simp; done) | (simp; omega)))) | ((with_reducible refine Below.allo ?_ ?_); (focus (first | omega | (simp; done) | (simp; omega)))))
        have a0 : X9.cell? ⟨w9.heap.size, 0, none⟩ = some (.int .i64 a.v) := by rw [HX.out]; simp [go_sem]
        have a1 : X9.cell? ⟨w9.heap.size, 1, none⟩ = some (.int .i64 a.p.x) := by rw [HX.out]; simp [go_sem]
        have a2 : X9.cell? ⟨w9.heap.size, 2, none⟩ = some (.int .i64 a.p.y) := by rw [HX.out]; simp [go_sem]
        have a3 : X9.cell? ⟨w9.heap.size, 3, none⟩ = some (.int .i64 a.p.z) := by rw [HX.out]; simp [go_sem]
        try replace f0 := up_of hB10 f0
        try replace f1 := up_of hB10 f1
        try replace f2 := up_of hB10 f2
        try replace m0 := up_of hB10 m0
        try replace hown9 := up_of hB10 hown9
        try replace hB9 := up_of hB10 hB9
        try replace hB9' := up_of hB10 hB9'
        try replace hs9 := up_of hB10 hs9
        clear HX hB10
        go_upto_region 10 with (fail)
        try have ld_f0 := World.block_lt_of_cell? _ _ f0
        try have ld_m0 := World.block_lt_of_cell? _ _ m0
        try have ld_a0 := World.block_lt_of_cell? _ _ a0
        refine region_q (by kernel_rfl) (by kernel_rfl) ?_
        dsimp only [List.toList_toArray]
        repeat (first
         | go_big_quiet_skip
         | (go_big_quiet_want
            first
            | (refine qq_det ?_
               apply Exists.intro; refine ⟨fun W' hW' => ?_, ?_⟩
               (· have hk := cellB hW'; go_simp; try (first | rfl | rw [if_pos (by omega)]))
               simp only [Act.put, List.setIfInBounds_toArray, List.set_cons_zero, List.set_cons_succ]; go_big_quiet_on)))
        refine wpQuiet_nil ?_
        intro Z hb
        try replace f0 := up_of hb f0
        try replace f1 := up_of hb f1
        try replace f2 := up_of hb f2
        try replace m0 := up_of hb m0
        try replace hown9 := up_of hb hown9
        try replace hB9 := up_of hb hB9
        try replace hB9' := up_of hb hB9'
        try replace hs9 := up_of hb hs9
        try replace a0 := up_of hb a0
        try replace a1 := up_of hb a1
        try replace a2 := up_of hb a2
        try replace a3 := up_of hb a3
        by_cases hav : a.v = mv
        · have hn2 : (a.v != mv) = false := by simp [hav]
          have hok2 := Lib.hid (hok.out hav)
          replace hav := Lib.hid hav
          clear hok hbad
          go_wp2_with (first | (go_at_call 60; refine (htm.out _).mono ?_; rintro e W1 ⟨rfl, hb⟩; (try replace f0 := up_of hb f0); (try replace f1 := up_of hb f1); (try replace f2 := up_of hb f2); (try replace m0 := up_of hb m0); (try replace hown9 := up_of hb hown9); (try replace hB9 := up_of hb hB9); (try replace hB9' := up_of hb hB9'); (try replace hs9 := up_of hb hs9); (try replace a0 := up_of hb a0); (try replace a1 := up_of hb a1); (try replace a2 := up_of hb a2); (try replace a3 := up_of hb a3)))
          go_roundw
          case rel => exact ⟨k + 1, by omega, by have := World.block_lt_of_cell? _ _ a0; simp only at this; omega, rfl, congrArg (Value.int .i64) (by rw [s1.out, s2.out, hsn.out]), by rw [hput.out]; exact hown9, hB9, hok2, by rw [hsn.out]; exact hbd3⟩
          case measure => exact meas hlt
        · have hn2 : (a.v != mv) = true := bne_iff_ne.2 hav
          obtain rfl := hbad.out hav
          replace hav := Lib.hid hav
          clear hok hbad
          go_wp2
          go_ret
          exact ⟨rfl, hB9'⟩
    · obtain rfl : k = U.length := by omega
      obtain rfl := hyes.out hall.out
      clear hall
      by_cases hp : 0 < sg U.length
      · go_wp2
        go_ret
        exact ⟨ret_bool (by simp [hp]), hB⟩
      · go_wp2
        go_ret
        exact ⟨ret_bool (by simp [hp]), hB⟩
end Go.Proofs.Ytbpdgoedglkefaa
