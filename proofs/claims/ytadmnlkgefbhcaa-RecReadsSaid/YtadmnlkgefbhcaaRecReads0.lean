/- RecReads: the walk. -/
import Derived.Test.YtadmnlkgefbhcaaReads
import Derived.Test.YtadmnlkgefbhcaaMost
import Derived.Test.YtadmnlkgefbhcaaRecLevels0
namespace Go.Proofs.Ytadmnlkgefbhcaa
open Go.RowKit Go.Maps

theorem rdN_none {P : List Pt} {a : Ar} (h : rdN P a P.length = 0) {p : Pt} (hp : p ∈ P) : argN P a p = none := by
  unfold rdN at h
  rw [List.take_length] at h
  have h2 := List.length_eq_zero_iff.1 h
  have h3 := List.filter_eq_nil_iff.1 h2 p hp
  unfold argN
  cases hx : pix P (ptP p a.p) with
  | none => rfl
  | some i => rw [hx] at h3; simp at h3
/-- Where nothing is read, nothing is used. -/
theorem use_none {K : List Vv} {P : List Pt} (h : mostL (rdT K P) ≤ 0) {k : Nat} (hk : k < K.length * P.length) : useN K P k = [] := by
  rw [most_le (by omega)] at h
  obtain ⟨h1, h2, h3⟩ := num_div hk
  have e1 : vOf K P k = K[k / P.length] := by unfold vOf; rw [List.getD_eq_getElem?_getD, List.getElem?_eq_getElem h1]; rfl
  unfold useN
  rw [e1, pOf_at h2, List.filterMap_eq_nil_iff]
  intro a ha
  refine rdN_none ?_ (List.getElem_mem h2)
  have := h _ (List.mem_map.2 ⟨_, List.getElem_mem h1, rfl⟩) _ (List.mem_map.2 ⟨a, ha, rfl⟩)
  omega
theorem lvl_none {K : List Vv} {P : List Pt} (h : mostL (rdT K P) ≤ 0) : okN2 K P ∧ mostL (rowsN P.length (lvsL K P) K.length) ≤ 1 := by
  have hg : ∀ k, k < K.length * P.length → Gd (useN K P) k := fun k hk => .mk k fun u hu => by rw [use_none h hk] at hu; simp at hu
  refine ⟨hg, (most_le (by omega)).2 fun r hr x hx => ?_⟩
  unfold rowsN at hr
  obtain ⟨i, -, rfl⟩ := List.mem_map.1 hr
  have hx2 := List.mem_of_mem_drop (List.mem_of_mem_take hx)
  unfold lvsL at hx2
  obtain ⟨k, hk, rfl⟩ := List.mem_map.1 hx2
  have hk2 := List.mem_range.1 hk
  show ((lvl (useN K P) k : Nat) : Int) ≤ 1
  rw [lvl_eq (hg k hk2)]
  unfold lvR
  rw [use_none h hk2]
  simp
set_option maxRecDepth 100000 in
set_option maxHeartbeats 4000000 in
theorem RecReads_w (n : Int) (s : Option Addr) (cap : Nat) (l : List Iq) (s2 : Option Addr) (cq : Nat) (K : List Vv) (w : World) (hr : RecM w s l s2 cq K) :
    Calls Try.prog 8 #[.agg #[.int .i64 n, .slice s l.length cap, .slice s2 K.length cq]] w fun e w' => e = .returned (.bool true) ∧ Below w.heap.size w w' := by
  have hwd := fun V (h : RecM V s l s2 cq K) => Wide2_c n s cap l s2 cq K 120 V h
  have hva := fun V (h : RecM V s l s2 cq K) => h.valid2 n cap
  have hsn := fun V => Sane_c V
  cases hb : recB n l K
  · rw [hb] at hva
    replace hwd := Lib.hid hwd; replace hva := Lib.hid hva; replace hsn := Lib.hid hsn
    clear hb
    go_enter Try.func8, Try.ntmps8
    go_upto_region 1 with (fail)
    refine wp_world fun W HW => ?_
    have hB : Below w.heap.size w W := by rw [HW.out]; (repeat (first | exact Below.refl _ _ | refine Below.alloc ?_ (by simp; try omega) _ | refine Below.setCell ?_ (by simp) _ | refine Below.drew ?_))
    have d0 : W.cell? ⟨w.heap.size, 0, none⟩ = some (.int .i64 n) := by rw [HW.out]; simp [go_sem]
    have d1 : W.cell? ⟨w.heap.size, 1, none⟩ = some (.slice s l.length cap) := by rw [HW.out]; simp [go_sem]
    have d2 : W.cell? ⟨w.heap.size, 2, none⟩ = some (.slice s2 K.length cq) := by rw [HW.out]; simp [go_sem]
    have dl : w.heap.size < W.heap.size := World.block_lt_of_cell? W _ d0
    try replace hr := up_of hB hr
    go_upto_region 2 with (first | (go_at_call 13; refine (hwd.out _ hr).mono ?_; rintro e W1 ⟨⟨b, rfl⟩, hb⟩; replace hB := up_of hb hB; replace hr := up_of hb hr; replace d0 := up_of hb d0; replace d1 := up_of hb d1; replace d2 := up_of hb d2; cases b) | (go_at_call 31; refine (hva.out _ hr).mono ?_; rintro e W2 ⟨rfl, hb⟩; replace hB := up_of hb hB))
    all_goals
      go_wp2_with (first | (go_at_call 14; refine (hsn.out _).mono ?_; rintro e W1 ⟨rfl, hb⟩; (try replace hr := up_of hb hr); (try replace hB := up_of hb hB); (try replace d0 := up_of hb d0); (try replace d1 := up_of hb d1); (try replace d2 := up_of hb d2); (try replace dl := up_of hb dl)))
      go_ret
      exact ⟨rfl, hB⟩
  rw [hb] at hva
  have ok := netOk hb
  have hrd := fun V (h : RecM V s l s2 cq K) => (Reads_c n s cap l s2 cq K V h).mono (R' := fun e w' => (∃ s' c', e = .returned (.tuple #[.slice s' (rdT K (pts n l)).length c', .int .i64 0]) ∧ SlSS intE w' s' (rdT K (pts n l))) ∧ Below V.heap.size V w') (fun e w' ⟨h1, h2⟩ => ⟨by
    rcases h1 with ⟨h1, -⟩ | ⟨-, h1⟩
    · rw [hb] at h1; cases h1
    · exact h1, h2⟩)
  have hcn := fun V (h : RecM V s l s2 cq K) => Count_t n s cap l V h.dom
  have hvd : validB n l = true := by
    have h := hb
    rw [recB_eq] at h
    simp only [Bool.and_eq_true] at h
    exact h.1
  simp only [cntN, vE, hvd, if_true] at hcn
  have hlv := fun (hy : okN2 K (pts n l)) V (h : RecM V s l s2 cq K) => (Levels_c n s cap l s2 cq K V h).mono (R' := fun e w' => (∃ s' c', e = .returned (.tuple #[.slice s' K.length c', .int .i64 0]) ∧ SlSS intE w' s' (rowsN (pts n l).length (lvsL K (pts n l)) K.length)) ∧ Below V.heap.size V w') (fun e w' ⟨h1, h2⟩ => ⟨by
    rcases h1 with ⟨h1, -⟩ | ⟨-, h1, -⟩ | ⟨-, -, h1⟩
    · rw [hb] at h1; cases h1
    · exact absurd hy h1
    · exact h1, h2⟩)
  have hnone := fun h => lvl_none (K := K) (P := pts n l) h
  have hmo : ∀ (T : List (List Int)) V s1 c1, T.length = K.length → (∀ r ∈ T, r.length ≤ 9223372036854775807) → SlSS intE V s1 T → Calls Try.prog 33 #[.slice s1 K.length c1] V fun e w' => e = .returned (.int .i64 (mostL T)) ∧ Below V.heap.size V w' := fun T V s1 c1 hT hrw h1 => by
    rw [← hT]; exact most_c s1 c1 T V h1 (by have := ok.vars; omega) hrw
  have hT1 := rowsN_len (pts n l).length (lvsL K (pts n l)) K.length
  have hT2 := rowsN_bd (pts n l).length (lvsL K (pts n l)) K.length (pts_len n l)
  have hPl := ok.len
  have hK4 := ok.vars
  have har := ok.args
  obtain ⟨P, hP⟩ : ∃ P, pts n l = P := ⟨_, rfl⟩
  simp only [hP] at hrd hcn hlv hnone hT1 hT2 hPl ok
  clear hP
  have hR1 := rdT_len K P
  have hR2 := rdT_bd (P := P) ok.args
  have hR3 : ∀ k (hk : k < K.length) (h : k < (rdT K P).length), (rdT K P)[k].length = K[k].args.length ∧ ∀ x ∈ (rdT K P)[k], 0 ≤ x ∧ x ≤ (P.length : Int) := fun k hk h => by
    rw [rdT_row hk h]
    refine ⟨by simp, fun x hx => ?_⟩
    obtain ⟨a, -, rfl⟩ := List.mem_map.1 hx
    have := rdN_le P a P.length
    omega
  obtain ⟨L, hL⟩ : ∃ T, rowsN P.length (lvsL K P) K.length = T := ⟨_, rfl⟩
  simp only [hL] at hlv hT1 hT2 hnone
  obtain ⟨T, hT, hrd, hnone, hR1, hR2, hR3⟩ : ∃ T, rdT K P = T ∧ (∀ (V : World), RecM V s l s2 cq K → Calls Try.prog 24 #[.agg #[.int .i64 n, .slice s l.length cap, .slice s2 K.length cq]] V fun e w' => (∃ s' c', e = .returned (.tuple #[.slice s' T.length c', .int .i64 0]) ∧ SlSS intE w' s' T) ∧ Below V.heap.size V w') ∧ (mostL T ≤ 0 → okN2 K P ∧ mostL L ≤ 1) ∧ T.length = K.length ∧ (∀ r ∈ T, r.length ≤ 9223372036854775807) ∧ (∀ k (hk : k < K.length) (h : k < T.length), T[k].length = K[k].args.length ∧ ∀ x ∈ T[k], 0 ≤ x ∧ x ≤ (P.length : Int)) := ⟨_, rfl, hrd, hnone, hR1, hR2, hR3⟩
  rw [hR1] at hrd
  have hmT := fun V s1 c1 => hmo T V s1 c1 hR1 hR2
  have hmL := fun V s1 c1 => hmo L V s1 c1 hT1 hT2
  obtain ⟨mT, hmT0⟩ : ∃ x, mostL T = x := ⟨_, rfl⟩
  obtain ⟨mL, hmL0⟩ : ∃ x, mostL L = x := ⟨_, rfl⟩
  simp only [hmT0, hmL0] at hmT hmL hnone
  clear hmo hb ok hT hL hmT0 hmL0 hvd hT1 hT2
  obtain ⟨PL, hPL⟩ : ∃ x, P.length = x := ⟨_, rfl⟩
  simp only [hPL] at hcn hR3 hPl
  replace hwd := Lib.hid hwd; replace hva := Lib.hid hva; replace hsn := Lib.hid hsn; replace hrd := Lib.hid hrd; replace hcn := Lib.hid hcn; replace hlv := Lib.hid hlv; replace hnone := Lib.hid hnone; replace hmT := Lib.hid hmT; replace hmL := Lib.hid hmL; replace hR1 := Lib.hid hR1; replace hR2 := Lib.hid hR2; replace hR3 := Lib.hid hR3; replace har := Lib.hid har; replace hPL := Lib.hid hPL
  go_enter Try.func8, Try.ntmps8
  go_upto_region 1 with (fail)
  refine wp_world fun W HW => ?_
  have hB : Below w.heap.size w W := by rw [HW.out]; (repeat (first | exact Below.refl _ _ | refine Below.alloc ?_ (by simp; try omega) _ | refine Below.setCell ?_ (by simp) _ | refine Below.drew ?_))
  have d0 : W.cell? ⟨w.heap.size, 0, none⟩ = some (.int .i64 n) := by rw [HW.out]; simp [go_sem]
  have d1 : W.cell? ⟨w.heap.size, 1, none⟩ = some (.slice s l.length cap) := by rw [HW.out]; simp [go_sem]
  have d2 : W.cell? ⟨w.heap.size, 2, none⟩ = some (.slice s2 K.length cq) := by rw [HW.out]; simp [go_sem]
  have dl : w.heap.size < W.heap.size := World.block_lt_of_cell? W _ d0
  try replace hr := up_of hB hr
  go_upto_region 2 with (first | (go_at_call 13; refine (hwd.out _ hr).mono ?_; rintro e W1 ⟨⟨b, rfl⟩, hb⟩; replace hB := up_of hb hB; replace hr := up_of hb hr; replace d0 := up_of hb d0; replace d1 := up_of hb d1; replace d2 := up_of hb d2; cases b) | (go_at_call 31; refine (hva.out _ hr).mono ?_; rintro e W2 ⟨rfl, hb⟩; replace hB := up_of hb hB; replace hr := up_of hb hr; replace d0 := up_of hb d0; replace d1 := up_of hb d1; replace d2 := up_of hb d2))
  rotate_left
  · go_wp2_with (first | (go_at_call 14; refine (hsn.out _).mono ?_; rintro e W1 ⟨rfl, hb⟩; (try replace hr := up_of hb hr); (try replace hB := up_of hb hB); (try replace d0 := up_of hb d0); (try replace d1 := up_of hb d1); (try replace d2 := up_of hb d2); (try replace dl := up_of hb dl)))
    go_ret
    exact ⟨rfl, hB⟩
  have hKb : ((K.length : Int) != K.length) = false := by simp
  go_upto_region 7 with (first | (go_at_call 24; refine (hrd.out _ hr).mono ?_; rintro e W3 ⟨⟨st, ct, rfl, hst⟩, hb⟩; (try replace hr := up_of hb hr); (try replace hB := up_of hb hB); (try replace d0 := up_of hb d0); (try replace d1 := up_of hb d1); (try replace d2 := up_of hb d2); (try replace dl := up_of hb dl)) | (go_at_call 32; refine (hcn.out _ hr).mono ?_; rintro e W4 ⟨rfl, hb⟩; (try replace hr := up_of hb hr); (try replace hB := up_of hb hB); (try replace d0 := up_of hb d0); (try replace d1 := up_of hb d1); (try replace d2 := up_of hb d2); (try replace dl := up_of hb dl); replace hst := up_of hb hst))
  obtain ⟨A, hAe⟩ : ∃ A, A = W4 := ⟨_, rfl⟩
  have h0 : Below A.heap.size A W4 := by rw [hAe]; exact Below.refl _ _
  have hrA := Lib.hid (show RecM A s l s2 cq K by rw [hAe]; exact hr)
  have hsA := Lib.hid (show SlSS intE A st T by rw [hAe]; exact hst)
  have hBA := Lib.hid (show Below w.heap.size w A by rw [hAe]; exact hB)
  have dA := Lib.hid (show A.cell? ⟨w.heap.size, 0, none⟩ = some (.int .i64 n) ∧ A.cell? ⟨w.heap.size, 1, none⟩ = some (.slice s l.length cap) ∧ A.cell? ⟨w.heap.size, 2, none⟩ = some (.slice s2 K.length cq) by rw [hAe]; exact ⟨d0, d1, d2⟩)
  clear hst hr hB d0 d1 d2 hAe
  go_wp2
  go_loopw [7] (fun ii V => ∃ i : Nat, i ≤ K.length ∧ ii = .int .i64 i ∧ Below A.heap.size A V) (fun ii _ => K.length - (intOf ii).toNat)
  case atStart => exact ⟨0, by omega, rfl, h0⟩
  case round =>
    clear h0
    obtain ⟨i, hi, rfl, hBV⟩ := hrel
    obtain ⟨d0, d1, d2⟩ := dA.out
    have hr := up_of hBV hrA.out
    replace d0 := up_of hBV d0; replace d1 := up_of hBV d1; replace d2 := up_of hBV d2
    have hB := hBA.out.trans (hBV.mono hBA.out.size)
    have hst := up_of hBV hsA.out
    by_cases hlt : i < K.length
    · obtain ⟨b, off, sa, ca, e2, hb, q0, q1, q2, q3, q4, q5, q6, hsl, hla, -, -⟩ := hr.vars.at hlt
      have hiT : i < T.length := by rw [hR1.out]; exact hlt
      obtain ⟨b1, o1, ta1, tc1, e1, hb1, p0, hs1, -, -⟩ := hst.at hiT
      obtain ⟨hrl, hrx⟩ := hR3.out i hlt hiT
      have hx3 := har.out _ (List.getElem_mem hlt)
      have hTk0 := hR2.out _ (List.getElem_mem hiT)
      obtain ⟨x, hx⟩ : ∃ x, K[i] = x := ⟨_, rfl⟩
      rw [hx] at q0 q1 q2 q3 q4 q5 q6 hrl hx3
      obtain ⟨c, hc⟩ : ∃ x, T[i] = x := ⟨_, rfl⟩
      rw [hc] at p0 hs1 hrl hrx hTk0
      cases e2; cases e1
      rw [hrl] at p0
      have hbc : ((x.args.length : Int) != x.args.length) = false := by simp
      have i1 : (i : Int) < (K.length : Int) := by omega
      have i0 : (0 : Int) ≤ (i : Int) := by omega
      have hb0 := Lib.hid p0
      have hs0 := Lib.hid hs1
      replace hrl := Lib.hid hrl; replace hrx := Lib.hid hrx; replace hc := Lib.hid hc; replace hx := Lib.hid hx
      clear hs1 hsl
      go_upto_region 10 with (fail)
      try have ld_d0 := World.block_lt_of_cell? _ _ d0
      try have ld_p0 := World.block_lt_of_cell? _ _ p0
      try have ld_q0 := World.block_lt_of_cell? _ _ q0
      refine region_q (by kernel_rfl) (by kernel_rfl) ?_
      dsimp only [List.toList_toArray]
      repeat (first
       | go_big_quiet_skip
       | (go_big_quiet_want
          first
          | (refine qq_det ?_
             apply Exists.intro; refine ⟨fun W' hW' => ?_, ?_⟩
             (· have hk := cellB hW'; go_simp; try (first | rfl | rw [if_pos (by omega)]))
             simp only [Act.put, List.setIfInBounds_toArray, List.set_cons_zero, List.set_cons_succ]; go_big_quiet_on)))
      refine wpQuiet_nil ?_
      intro X1 hb
      try replace hr := up_of hb hr
      try replace d0 := up_of hb d0
      try replace d1 := up_of hb d1
      try replace d2 := up_of hb d2
      try replace hB := up_of hb hB
      try replace p0 := up_of hb p0
      try replace q0 := up_of hb q0
      try replace q2 := up_of hb q2
      try replace hBV := up_of hb hBV
      have hp1 := Lib.hid (up_of hb hb0.out)
      have hs1 := Lib.hid (up_of hb hs0.out)
      have hBX := Lib.hid hBV
      clear p0 q0 q1 q2 q3 q4 q5 q6
      go_wp2
      go_loopw [8] (fun jj V => ∃ j : Nat, j ≤ x.args.length ∧ jj = .int .i64 j ∧ Below X1.heap.size X1 V) (fun jj _ => x.args.length - (intOf jj).toNat)
      case atStart => exact ⟨0, by omega, rfl, Below.refl _ _⟩
      case round =>
        obtain ⟨j, hj, rfl, hBW⟩ := hrel
        have p0 := up_of hBW hp1.out
        by_cases hlj : j < x.args.length
        · have hjc : j < c.length := by rw [hrl.out]; exact hlj
          obtain ⟨d1', e1', rfl, hd1, u0⟩ := (up_of hBW hs1.out).int_at hjc
          obtain ⟨x1, x2⟩ := hrx.out _ (List.getElem_mem hjc)
          obtain ⟨y, hy⟩ : ∃ y, c[j] = y := ⟨_, rfl⟩
          rw [hy] at u0 x1 x2
          have g3 : (0 : Int) ≤ (j : Int) := by omega
          have g4 : (j : Int) < (x.args.length : Int) := by omega
          have y1 : ¬ y < 0 := by omega
          have y2 : ¬ (PL : Int) < y := by omega
          replace hy := Lib.hid hy
          go_wp2
          go_roundw
          case rel => exact ⟨j + 1, by omega, rfl, hBW⟩
          case measure => exact meas hlj
        · obtain rfl : j = x.args.length := by omega
          have hBV2 := hBX.out.trans (hBW.mono hBX.out.size)
          go_wp2
          go_roundw
          case rel => exact ⟨i + 1, by omega, rfl, hBV2⟩
          case measure => exact meas hlt
    · obtain rfl : i = K.length := by omega
      by_cases hm : 0 < mT
      · go_wp2_with (first | (go_at_call 33; refine (hmT.out _ _ _ hst).mono ?_; rintro e W1 ⟨rfl, hb⟩; (try replace hr := up_of hb hr); (try replace d0 := up_of hb d0); (try replace d1 := up_of hb d1); (try replace d2 := up_of hb d2); (try replace hB := up_of hb hB); (try replace hst := up_of hb hst)) | (go_at_call 14; refine (hsn.out _).mono ?_; rintro e W1 ⟨rfl, hb⟩; (try replace hr := up_of hb hr); (try replace d0 := up_of hb d0); (try replace d1 := up_of hb d1); (try replace d2 := up_of hb d2); (try replace hB := up_of hb hB); (try replace hst := up_of hb hst)))
        go_ret
        exact ⟨rfl, hB⟩
      · obtain ⟨hy, hm1⟩ := hnone.out (by omega)
        have hlv2 := fun V h => hlv.out hy V h
        replace hlv2 := Lib.hid hlv2; replace hy := Lib.hid hy
        go_upto_region 19 with (first | (go_at_call 33; refine (hmT.out _ _ _ hst).mono ?_; rintro e W5 ⟨rfl, hb⟩; replace hB := up_of hb hB; replace hr := up_of hb hr; replace d0 := up_of hb d0; replace d1 := up_of hb d1; replace d2 := up_of hb d2))
        go_wp2_with (first | (go_at_call 27; refine (hlv2.out _ hr).mono ?_; rintro e W6 ⟨⟨sl, cl, rfl, hsl⟩, hb⟩; replace hB := up_of hb hB) | (go_at_call 33; refine (hmL.out _ _ _ hsl).mono ?_; rintro e W7 ⟨rfl, hb⟩; replace hB := up_of hb hB) | (go_at_call 14; refine (hsn.out _).mono ?_; rintro e W1 ⟨rfl, hb⟩; (try replace hr := up_of hb hr); (try replace d0 := up_of hb d0); (try replace d1 := up_of hb d1); (try replace d2 := up_of hb d2); (try replace hB := up_of hb hB); (try replace hst := up_of hb hst)))
        go_ret
        exact ⟨rfl, hB⟩
end Go.Proofs.Ytadmnlkgefbhcaa
