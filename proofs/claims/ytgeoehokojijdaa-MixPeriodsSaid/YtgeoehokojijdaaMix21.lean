/- Which starts a kernel forbids to another: the reference. -/
import Derived.Test.YtgeoehokojijdaaMix20
import Derived.Test.YtgeoehokojijdaaMix4
namespace Go.Proofs.Ytgeoehokojijdaa
open Go.RowKit

theorem meet_fb (x y : Clm) (n p : Nat) (hn : n < p) : meetP x 0 y n p ↔ x.cell = y.cell ∧ (x.time - y.time) % (p : Int) = n := by
  unfold meetP
  rw [Int.emod_eq_emod_iff_emod_sub_eq_zero, show x.time + 0 - (y.time + (n : Int)) = (x.time - y.time) - n by omega, ← Int.emod_eq_emod_iff_emod_sub_eq_zero, Int.emod_eq_of_lt (a := (n : Int)) (by omega) (by omega)]
theorem rowD_mem (D : List Int) (B : List Clm) (x : Clm) (n p : Nat) (hn : n < p) {j : Nat} (hj : j < B.length) :
    decide ((n : Int) ∈ D ++ rowD (B.take (j + 1)) p x) = (decide ((n : Int) ∈ D ++ rowD (B.take j) p x) || decide (meetP x 0 B[j] n p)) := by
  have e := meet_fb x B[j] n p hn
  rw [rowD_take B p x hj, ← List.append_assoc, Bool.eq_iff_iff, Bool.or_eq_true, decide_eq_true_iff, decide_eq_true_iff, decide_eq_true_iff, e, List.mem_append]
  refine or_congr Iff.rfl ?_
  by_cases h : x.cell = B[j].cell
  · rw [if_pos h]; simp [h, eq_comm]
  · rw [if_neg h]; simp [h]
theorem rowD_end (A B : List Clm) (p : Int) {i : Nat} (hi : i < A.length) : dLs (A.take i) B p ++ rowD (B.take B.length) p A[i] = dLs (A.take (i + 1)) B p := by
  rw [List.take_length, dLs_take A B p hi]
theorem rowD_zero (D : List Int) (B : List Clm) (p : Int) (x : Clm) : D ++ rowD (B.take 0) p x = D := by simp [rowD]
theorem fb_bad {k : List (List Clm)} {a b p : Int} (h1 : chkE k p = 0) (hh : (bw 0 a (k.length - 1) && bw 0 b (k.length - 1) && decide (a ≠ b)) = false) : fbE k a b p = 2 ∧ fbL k a b p = [] := by
  have e1 : fbE k a b p = 2 := by unfold fbE; rw [if_pos h1, hh]; rfl
  exact ⟨e1, by simp [fbL, e1]⟩
set_option maxRecDepth 100000 in
set_option maxHeartbeats 2000000 in
theorem rForbidden_c (s : Option Addr) (cap : Nat) (k : List (List Clm)) (a b p : Int) (w : World) (h : Ker w s cap k) :
    Calls Try.prog 33 #[.slice s k.length cap, .int .i64 a, .int .i64 b, .int .i64 p] w (IntsErr (fbL k a b p) (fbE k a b p) w) := by
  have H := Lib.hid (rValid_c s cap k w h)
  have hkl := h.len
  cases h1 : vldB k
  · have e0 : chkE k p = 90 := by simp [chkE, h1]
    have e1 : fbE k a b p = 90 := by simp [fbE, e0]
    rw [show fbL k a b p = [] by simp [fbL, e1], e1]
    rw [h1] at H
    clear h e0 e1
    go_enter Try.func33, Try.ntmps33
    go_wp2_with (go_at_call 27; refine H.out.mono ?_; rintro e W1 ⟨rfl, hb⟩)
    go_ret2
    exact IntsErr.nil hb
  rw [h1] at H
  cases h2 : bw 1 p 20
  · have e0 : chkE k p = 2 := by simp [chkE, h1, h2]
    have e1 : fbE k a b p = 2 := by simp [fbE, e0]
    rw [show fbL k a b p = [] by simp [fbL, e1], e1]
    clear h e0 e1
    go_enter Try.func33, Try.ntmps33
    go_wp2_with (first | (go_at_call 50; refine (isPeriod_c _ _).mono ?_; rintro e w' ⟨rfl, rfl⟩) | (go_at_call 27; refine H.out.mono ?_; rintro e W1 ⟨rfl, hb⟩))
    go_ret2
    exact IntsErr.nil hb
  have e0 : chkE k p = 0 := by simp [chkE, h1, h2]
  cases h3 : bw 0 a (k.length - 1)
  · obtain ⟨e1, e2⟩ := fb_bad (a := a) (b := b) e0 (by rw [h3]; rfl)
    rw [e1, e2]
    clear h e0 e1 e2
    go_enter Try.func33, Try.ntmps33
    go_wp2_with (first | (go_at_call 50; refine (isPeriod_c _ _).mono ?_; rintro e w' ⟨rfl, rfl⟩) | (go_at_call 57; refine (isOne_c _ _ _ _ _).mono ?_; rintro e w' ⟨rfl, rfl⟩) | (go_at_call 27; refine H.out.mono ?_; rintro e W1 ⟨rfl, hb⟩))
    go_ret2
    exact IntsErr.nil hb
  cases h4 : bw 0 b (k.length - 1)
  · obtain ⟨e1, e2⟩ := fb_bad (a := a) (b := b) e0 (by rw [h3, h4]; rfl)
    rw [e1, e2]
    clear h e0 e1 e2
    go_enter Try.func33, Try.ntmps33
    go_wp2_with (first | (go_at_call 50; refine (isPeriod_c _ _).mono ?_; rintro e w' ⟨rfl, rfl⟩) | (go_at_call 57; refine (isOne_c _ _ _ _ _).mono ?_; rintro e w' ⟨rfl, rfl⟩) | (go_at_call 27; refine H.out.mono ?_; rintro e W1 ⟨rfl, hb⟩))
    go_ret2
    exact IntsErr.nil hb
  cases h5 : (a == b)
  case true =>
    obtain ⟨e1, e2⟩ := fb_bad (a := a) (b := b) e0 (by rw [h3, h4]; simp at h5; simp [h5])
    rw [e1, e2]
    clear h e0 e1 e2
    go_enter Try.func33, Try.ntmps33
    go_wp2_with (first | (go_at_call 50; refine (isPeriod_c _ _).mono ?_; rintro e w' ⟨rfl, rfl⟩) | (go_at_call 57; refine (isOne_c _ _ _ _ _).mono ?_; rintro e w' ⟨rfl, rfl⟩) | (go_at_call 27; refine H.out.mono ?_; rintro e W1 ⟨rfl, hb⟩))
    go_ret2
    exact IntsErr.nil hb
  have hab : a ≠ b := by simpa using h5
  have e1 : fbE k a b p = 0 := by unfold fbE; rw [if_pos e0, h3, h4]; simp [hab]
  have ha := bw_iff.1 h3
  have hb := bw_iff.1 h4
  have hp := bw_iff.1 h2
  obtain ⟨a, rfl⟩ : ∃ n : Nat, a = n := ⟨a.toNat, by omega⟩
  obtain ⟨b, rfl⟩ : ∃ n : Nat, b = n := ⟨b.toNat, by omega⟩
  obtain ⟨p, rfl⟩ : ∃ n : Nat, p = n := ⟨p.toNat, by omega⟩
  have hal : a < k.length := by omega
  have hbl : b < k.length := by omega
  rw [show fbL k a b p = forbL k[a] k[b] p by simp [fbL, e1, List.getElem?_eq_getElem hal, List.getElem?_eq_getElem hbl], e1]
  have hcA := fun c hc => vldB_c h1 (List.getElem_mem hal) (c := c) hc
  have hcB := fun c hc => vldB_c h1 (List.getElem_mem hbl) (c := c) hc
  have hAl := (vldB_l h1 (List.getElem_mem hal)).2.2
  have hBl := (vldB_l h1 (List.getElem_mem hbl)).2.2
  obtain ⟨A, hA⟩ : ∃ A, k[a] = A := ⟨_, rfl⟩
  obtain ⟨B, hB⟩ : ∃ B, k[b] = B := ⟨_, rfl⟩
  obtain ⟨ba, oa, sa, ca, rfl, -, qa, sla, -, -⟩ := h.ss.at hal
  obtain ⟨ba', oa', sb, cb, eb, -, qb, slb, -, -⟩ := h.ss.at hbl
  cases eb
  rw [hA] at hcA hAl qa sla ⊢
  rw [hB] at hcB hBl qb slb ⊢
  have hdA := fun (i : Nat) hi => rowD_end A B p (i := i) hi
  have hdB := fun D x (n : Nat) hn (j : Nat) hj => rowD_mem D B x n p hn (j := j) hj
  have hd0 : dLs (A.take 0) B p = [] := rfl
  have hr0 := fun D x => rowD_zero D B p x
  have hfz : forbL A B p = fbTo (dLs A B p) p := rfl
  have hp2 : (1 : Int) ≤ (p : Int) ∧ (p : Int) ≤ 20 := hp
  have hfs := fun n => fbTo_succ (dLs A B p) n
  have hfl := fun n => fbTo_len (dLs A B p) n
  rw [hfz]
  have hfull : dLs (A.take A.length) B p = dLs A B p := by rw [List.take_length]
  obtain ⟨DD, hDD⟩ : ∃ D, dLs A B p = D := ⟨_, rfl⟩
  simp only [hDD] at hfs hfl hfull ⊢
  replace hcA := Lib.hid hcA; replace hcB := Lib.hid hcB; replace hdA := Lib.hid hdA; replace hdB := Lib.hid hdB; replace hd0 := Lib.hid hd0; replace hr0 := Lib.hid hr0; replace hfs := Lib.hid hfs; replace hfl := Lib.hid hfl; replace hfull := Lib.hid hfull; replace hDD := Lib.hid hDD
  replace qa := Lib.hid qa; replace qb := Lib.hid qb; replace sla := Lib.hid sla; replace slb := Lib.hid slb
  have j1 : (0 : Int) ≤ (a : Int) := by omega
  have j2 : (a : Int) < (k.length : Int) := by omega
  have j3 : (0 : Int) ≤ (b : Int) := by omega
  have j4 : (b : Int) < (k.length : Int) := by omega
  clear h1 e0 e1 ha hb hp hal hbl hA hB hab h hfz
  go_enter Try.func33, Try.ntmps33
  go_wp2_with (first | (go_at_call 50; refine (isPeriod_c _ _).mono ?_; rintro e w' ⟨rfl, rfl⟩) | (go_at_call 57; refine (isOne_c _ _ _ _ _).mono ?_; rintro e w' ⟨rfl, rfl⟩) | (go_at_call 27; refine H.out.mono ?_; rintro e W1 ⟨rfl, hb⟩))
  clear H
  have hB := hb
  clear hb
  go_loopw [10, 41] (fun v ii V => ∃ n : Nat, n ≤ p ∧ ii = .int .i64 n ∧ V.ownsRow w.heap.size 3 1 v (fbTo DD n).length (intE.all (fbTo DD n)) ∧ Below w.heap.size w V) (fun _ ii _ => p - (intOf ii).toNat)
  case atStart => exact ⟨0, by omega, rfl, World.ownsRow_nil _ _ _ _, hB⟩
  case round =>
    clear hB
    obtain ⟨n, hn, rfl, hown, hB⟩ := hrel
    by_cases hlt : n < p
    · have qa1 := (up_of hB qa).out
      have hfs1 := hfs.out n
      have hfl1 := hfl.out n
      have hBs := hB.size
      obtain ⟨wo, hwo⟩ : ∃ wo : World, wo = wr := ⟨_, rfl⟩
      subst hwo
      have hfalse : decide ((n : Int) ∈ dLs (A.take 0) B p) = false := by rw [hd0.out]; simp
      replace hfalse := Lib.hid hfalse
      go_wp2
      go_loopw [12, 49] (fun c ii V => ∃ i : Nat, i ≤ A.length ∧ ii = .int .i64 i ∧ c = .bool (decide ((n : Int) ∈ dLs (A.take i) B p)) ∧ Below wo.heap.size wo V) (fun _ ii _ => A.length - (intOf ii).toNat)
      case atStart => exact ⟨0, by omega, rfl, by rw [hfalse.out], Below.refl _ _⟩
      case round =>
        clear qa1
        obtain ⟨i, hi, rfl, rfl, hR⟩ := hrel
        have hBR := hB.trans (hR.mono hBs)
        by_cases hli : i < A.length
        · obtain ⟨bx, ox, rfl, hbx, x0, x1⟩ := (up_of hBR sla).out.clm_at hli
          have hxb := hcA.out _ (List.getElem_mem hli)
          have e2 := hdA.out i hli
          obtain ⟨x, hx⟩ : ∃ x, A[i] = x := ⟨_, rfl⟩
          rw [hx] at x0 x1 hxb e2
          replace hx := Lib.hid hx
          have qb1 := (up_of hBR qb).out
          obtain ⟨D, hD⟩ : ∃ D, dLs (A.take i) B p = D := ⟨_, rfl⟩
          rw [hD] at e2 ⊢
          have e3 := hr0.out D x
          replace hD := Lib.hid hD; replace e2 := Lib.hid e2; replace e3 := Lib.hid e3
          have i4 : (0 : Int) ≤ (i : Int) := by omega
          have i5 : (i : Int) < (A.length : Int) := by omega
          go_upto_region 13 with (fail)
          refine wp_world fun Y HY => ?_
          have hY : Below wr.heap.size wr Y := by rw [HY.out]; (repeat (first | exact Below.refl _ _ | refine Below.alloc ?_ (by simp; try omega) _ | refine Below.setCell ?_ (by simp) _ | refine Below.drew ?_))
          have x0 : Y.cell? ⟨wr.heap.size, 0, none⟩ = some (.int .i64 x.cell) := by rw [HY.out]; simp [go_sem]
          have x1 : Y.cell? ⟨wr.heap.size, 1, none⟩ = some (.int .i64 x.time) := by rw [HY.out]; simp [go_sem]
          have xl : wr.heap.size < Y.heap.size := World.block_lt_of_cell? Y _ x0
          try replace hR := up_of hY hR
          try replace hBR := up_of hY hBR
          try replace qb1 := up_of hY qb1
          obtain ⟨cD, hcD⟩ : ∃ c, decide ((n : Int) ∈ D) = c := ⟨_, rfl⟩
          rw [hcD]
          replace hcD := Lib.hid hcD
          go_wp2
          go_loopw [12, 58] (fun c ii V => ∃ j : Nat, j ≤ B.length ∧ ii = .int .i64 j ∧ c = .bool (decide ((n : Int) ∈ D ++ rowD (B.take j) p x)) ∧ Below Y.heap.size Y V) (fun _ ii _ => B.length - (intOf ii).toNat)
          case atStart => exact ⟨0, by omega, rfl, by rw [e3.out, hcD.out], Below.refl _ _⟩
          case round =>
            obtain ⟨j, hj, rfl, rfl, hR2⟩ := hrel
            have x0' := up_of hR2 x0
            have x1' := up_of hR2 x1
            have hBR2 := hBR.trans (hR2.mono hBR.size)
            by_cases hlj : j < B.length
            · obtain ⟨by_, oy, rfl, hby, y0, y1⟩ := (up_of hBR2 slb).out.clm_at hlj
              have hyb := hcB.out _ (List.getElem_mem hlj)
              have e4 := hdB.out D x n hlt j hlj
              obtain ⟨y, hy⟩ : ∃ y, B[j] = y := ⟨_, rfl⟩
              rw [hy] at y0 y1 hyb e4
              replace hy := Lib.hid hy
              obtain ⟨c, hc⟩ : ∃ c, decide ((n : Int) ∈ D ++ rowD (B.take j) p x) = c := ⟨_, rfl⟩
              obtain ⟨vm, hvm⟩ : ∃ v, decide (meetP x 0 y n p) = v := ⟨_, rfl⟩
              rw [hc, hvm] at e4
              rw [hc]
              have mt := fun W => meet_e x 0 y n p W ⟨hxb.2, by omega⟩ ⟨hyb.2, by omega⟩ hp2 hvm
              replace mt := Lib.hid mt; replace e4 := Lib.hid e4
              have i6 : (0 : Int) ≤ (j : Int) := by omega
              have i7 : (j : Int) < (B.length : Int) := by omega
              clear hc hvm
              go_upto_region 16 with (fail)
              refine wp_world fun Z HZ => ?_
              have hZ : Below wr.heap.size wr Z := by rw [HZ.out]; (repeat (first | exact Below.refl _ _ | refine Below.alloc ?_ (by simp; try omega) _ | refine Below.setCell ?_ (by simp) _ | refine Below.drew ?_))
              have y0 : Z.cell? ⟨wr.heap.size, 0, none⟩ = some (.int .i64 y.cell) := by rw [HZ.out]; simp [go_sem]
              have y1 : Z.cell? ⟨wr.heap.size, 1, none⟩ = some (.int .i64 y.time) := by rw [HZ.out]; simp [go_sem]
              have yl : wr.heap.size < Z.heap.size := World.block_lt_of_cell? Z _ y0
              try replace hR2 := up_of hZ hR2
              try replace x0' := up_of hZ x0'
              try replace x1' := up_of hZ x1'
              cases c
              · go_upto_region 17 with (first | (go_at_call 58; refine (mt.out _).mono ?_; rintro e W1 ⟨rfl, hb⟩; (try replace hR2 := up_of hb hR2); (try replace x0' := up_of hb x0'); (try replace x1' := up_of hb x1'); (try replace hZ := up_of hb hZ); (try replace y0 := up_of hb y0); (try replace y1 := up_of hb y1); (try replace yl := up_of hb yl)))
                go_wp2
                go_roundw
                case rel => exact ⟨j + 1, by omega, by go_num, by rw [e4.out]; simp, hR2⟩
                case measure => exact meas hlj
              · go_wp2
                go_roundw
                case rel => exact ⟨j + 1, by omega, by go_num, by rw [e4.out]; simp, hR2⟩
                case measure => exact meas hlj
            · obtain rfl : j = B.length := by omega
              rw [e2.out]
              go_wp2
              go_roundw
              case rel => exact ⟨i + 1, by omega, by go_num, rfl, hR.trans (hR2.mono hR.size)⟩
              case measure => exact meas hli
        · obtain rfl : i = A.length := by omega
          rw [hfull.out]
          have hown2 := Up.owns hR hown
          have hBRs := hBR.size
          obtain ⟨F, hF⟩ : ∃ F, fbTo DD n = F := ⟨_, rfl⟩
          rw [hF] at hown2 hfl1 hfs1
          replace hfs1 := Lib.hid hfs1
          clear hown
          by_cases hd : (n : Int) ∈ DD
          · rw [decide_eq_true hd]
            have e9 := hfs1.out
            rw [if_pos hd] at e9
            replace e9 := Lib.hid e9; replace hF := Lib.hid hF
            clear hd hfs1 hfalse
            go_wp2_with (first | (at_builtin; obtain ⟨i0, hi, hz0, hz1, hz2⟩ := info_parts info_int; refine wpList_append_own _ rfl _ _ 28 rfl w.heap.size 3 i0 (.int .i64 0) 1 8 Try.underlying28 hi hz0 hz1 hz2 rfl (by decide) _ _ _ rfl (hown2.alloc _) ⟨wr.heap.size, 0, none⟩ 1 1 [.int .i64 n] rfl rfl (news_new _ _ _) (by simp [Value.oneCell']) (by unfold maxLen; omega) (by omega) (by simp; omega) ?_; intro v1 w1 hown1 hgrow hnil))
            go_roundw
            case rel => exact ⟨n + 1, by omega, by go_num, by rw [e9.out, Elt.all_append, Elt.all_single, List.length_append]; exact hown1, Up.grown hBR hBRs hown2 hgrow⟩
            case measure => exact meas hlt
          · rw [decide_eq_false hd]
            have e9 := hfs1.out
            rw [if_neg hd, List.append_nil] at e9
            replace e9 := Lib.hid e9; replace hF := Lib.hid hF
            clear hd hfs1 hfalse
            go_wp2
            go_roundw
            case rel => exact ⟨n + 1, by omega, by go_num, by rw [e9.out]; exact hown2, hBR⟩
            case measure => exact meas hlt
    · obtain rfl : n = p := by omega
      obtain ⟨s', c', rfl, _⟩ := owns_shape hown
      go_wp2
      go_ret2
      exact ⟨⟨s', c', rfl, hown⟩, hB⟩
end Go.Proofs.Ytgeoehokojijdaa
