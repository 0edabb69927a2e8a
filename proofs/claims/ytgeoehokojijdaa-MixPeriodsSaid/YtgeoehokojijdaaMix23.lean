/- Timetables: the program. -/
import Derived.Test.YtgeoehokojijdaaMixTab
import Derived.Test.YtgeoehokojijdaaMix5
namespace Go.Proofs.Ytgeoehokojijdaa
open Go.RowKit

theorem chk_ask {k : List (List Clm)} {p : Int} (h : chkE k p ≠ 0) (st : List Int) : askE k p st = chkE k p := by
  unfold chkE at h ⊢
  unfold askE
  cases h1 : vldB k <;> cases h2 : bw 1 p 20 <;> simp_all
theorem tim_ask {k : List (List Clm)} {p : Int} {st : List Int} (h : chkE k p = 0) (h2 : timB k p st = false) : askE k p st = 2 := by
  obtain ⟨h3, h4⟩ := chk_ok h
  simp [askE, h3, h4, h2]
theorem tim_ok {k : List (List Clm)} {p : Int} {st : List Int} (h : chkE k p = 0) (h2 : timB k p st = true) : askE k p st = 0 := by
  obtain ⟨h3, h4⟩ := chk_ok h
  simp [askE, h3, h4, h2]
theorem tim_facts {k : List (List Clm)} {p : Int} {st : List Int} (h2 : timB k p st = true) : st.length = k.length ∧ ∀ n ∈ st, 0 ≤ n ∧ n < p := by
  simp only [timB, Bool.and_eq_true, decide_eq_true_iff, List.all_eq_true] at h2
  exact ⟨h2.1, fun n hn => by have := bw_iff.1 (h2.2 n hn); omega⟩
set_option maxRecDepth 100000 in
set_option maxHeartbeats 1000000 in
theorem Timetable_c (s : Option Addr) (cap : Nat) (k : List (List Clm)) (p : Int) (t : Option Addr) (ct : Nat) (st : List Int) (T : Int) (w : World) (h : Ker w s cap k) (g : Ints w t st) :
    Calls Try.prog 28 #[.slice s k.length cap, .int .i64 p, .slice t st.length ct, .int .i64 T] w (PairsErr 45 (tabL k p st T) (tabE k p st T) w) := by
  have H := Lib.hid (checked_c s cap k p w h)
  have hkl := h.len
  have hsl := g.len
  by_cases h1 : chkE k p = 0
  case neg =>
    have e0 := chk_ask h1 st
    have e1 : tabE k p st T = chkE k p := by unfold tabE; rw [e0, if_neg h1]
    rw [tabL_nil (by rw [e1]; exact h1), e1]
    obtain ⟨E, hE⟩ : ∃ E, chkE k p = E := ⟨_, rfl⟩
    rw [hE] at H h1 ⊢
    have h1' : (E != 0) = true := by simpa using h1
    clear h g hE h1 e0 e1
    go_enter Try.func28, Try.ntmps28
    go_wp2_with (go_at_call 49; refine H.out.mono ?_; rintro e W1 ⟨rfl, hb⟩)
    go_ret2
    exact PairsErr.nil hb
  have hv := chk_ok h1
  have hp := bw_iff.1 hv.2
  have hti := fun W (g : Ints W t st) => timed_c s cap k p t ct st W g hp
  rw [h1] at H
  cases h2 : timB k p st
  · have e0 := tim_ask h1 h2
    have e1 : tabE k p st T = 2 := by simp [tabE, e0]
    rw [tabL_nil (by rw [e1]; decide), e1]
    rw [h2] at hti
    replace hti := Lib.hid hti
    clear h e0 e1 h1 hv hp
    go_enter Try.func28, Try.ntmps28
    go_upto_region 4 with (go_at_call 49; refine H.out.mono ?_; rintro e W1 ⟨rfl, hb⟩)
    have hti2 := Lib.hid (hti.out _ (up_of hb g))
    clear g hti
    go_wp2_with (go_at_call 53; refine hti2.out.mono ?_; rintro e W2 ⟨rfl, hb2⟩)
    go_ret2
    exact PairsErr.nil (hb.trans (hb2.mono hb.size))
  have e0 := tim_ok h1 h2
  obtain ⟨hst, hsr⟩ := tim_facts h2
  rw [h2] at hti
  replace hti := Lib.hid hti
  cases h3 : bw 0 T 500
  · have e1 : tabE k p st T = 2 := by simp [tabE, e0, h3]
    rw [tabL_nil (by rw [e1]; decide), e1]
    clear h e0 e1 h1 hv hp hst hsr
    go_enter Try.func28, Try.ntmps28
    go_upto_region 4 with (go_at_call 49; refine H.out.mono ?_; rintro e W1 ⟨rfl, hb⟩)
    have hti2 := Lib.hid (hti.out _ (up_of hb g))
    clear g hti
    go_wp2_with (first | (go_at_call 54; refine (between_c _ _ _ _).mono ?_; rintro e w' ⟨rfl, rfl⟩) | (go_at_call 53; refine hti2.out.mono ?_; rintro e W2 ⟨rfl, hb2⟩))
    go_ret2
    exact PairsErr.nil (hb.trans (hb2.mono hb.size))
  have hT := bw_iff.1 h3
  have hgd := fun W (h : Ker W s cap k) (g : Ints W t st) => good_c s cap k p t ct st W h g (fun l hl c hc => vldB_c hv.1 hl hc) hp hst hsr
  cases h4 : goodB k p st
  · have e1 : tabE k p st T = 5 := by simp [tabE, e0, h3, h4]
    rw [tabL_nil (by rw [e1]; decide), e1]
    rw [h4] at hgd
    replace hgd := Lib.hid hgd
    clear e0 e1 h1 hv hp hst hsr
    go_enter Try.func28, Try.ntmps28
    go_upto_region 4 with (go_at_call 49; refine H.out.mono ?_; rintro e W1 ⟨rfl, hb⟩)
    have hti2 := Lib.hid (hti.out _ (up_of hb g))
    go_upto_region 6 with (first | (go_at_call 54; refine (between_c _ _ _ _).mono ?_; rintro e w' ⟨rfl, rfl⟩) | (go_at_call 53; refine hti2.out.mono ?_; rintro e W2 ⟨rfl, hb2⟩))
    have hB2 := hb.trans (hb2.mono hb.size)
    have hgd2 := Lib.hid (hgd.out _ (up_of hB2 h) (up_of hB2 g))
    clear h g hti hgd
    go_wp2_with (go_at_call 55; refine hgd2.out.mono ?_; rintro e W3 ⟨rfl, hb3⟩)
    go_ret2
    exact PairsErr.nil (hB2.trans (hb3.mono hB2.size))
  have e1 : tabE k p st T = 0 := by simp [tabE, e0, h3, h4]
  rw [h4] at hgd
  replace hgd := Lib.hid hgd
  have hLLe : tabL k p st T = (List.range T.toNat).map (rowG k p st k.length) := by simp [tabL, e1]
  rw [e1]
  obtain ⟨LL, hLL⟩ : ∃ x, tabL k p st T = x := ⟨_, rfl⟩
  rw [hLL] at hLLe ⊢
  replace hLLe := Lib.hid hLLe
  clear hLL
  replace hst := Lib.hid hst; replace hsr := Lib.hid hsr
  have hp9 := hp
  clear hp
  go_enter Try.func28, Try.ntmps28
  go_upto_region 4 with (go_at_call 49; refine H.out.mono ?_; rintro e W1 ⟨rfl, hb⟩)
  have hti2 := Lib.hid (hti.out _ (up_of hb g))
  go_upto_region 6 with (first | (go_at_call 54; refine (between_c _ _ _ _).mono ?_; rintro e w' ⟨rfl, rfl⟩) | (go_at_call 53; refine hti2.out.mono ?_; rintro e W2 ⟨rfl, hb2⟩))
  have hB2 := hb.trans (hb2.mono hb.size)
  have hgd2 := Lib.hid (hgd.out _ (up_of hB2 h) (up_of hB2 g))
  clear hti hgd hti2 H
  go_upto_region 8 with (go_at_call 55; refine hgd2.out.mono ?_; rintro e W3 ⟨rfl, hb3⟩)
  clear e0 e1
  have hp := hp9
  clear hp9
  obtain ⟨T, rfl⟩ : ∃ n : Nat, T = n := ⟨T.toNat, by omega⟩
  obtain ⟨p, rfl⟩ : ∃ n : Nat, p = n := ⟨p.toNat, by omega⟩
  have hk3 := vldB_k hv.1
  have hcl := fun (n : Nat) (hn : n < k.length) (c : Clm) hc => (vldB_c hv.1 (List.getElem_mem hn) (c := c) hc).2
  have hll := fun (n : Nat) (hn : n < k.length) => (vldB_l hv.1 (List.getElem_mem hn)).2.2
  have hsg := fun (u : Int) (n : Nat) (hn : n ≤ k.length) => sumG_le (fun l hl => (by have := (vldB_l hv.1 hl).2.2; omega)) (p : Int) st u n hn
  have hms := fun (n u : Nat) {c : Nat} (hc : cntT (k.getD n []) p (st.getD n 0) u = c) => midG_step k p st n u T hc
  have hmz := fun n => midG_zero k p st n T
  have hme := fun n => midG_end k p st n T
  have hma := fun n u => midG_at k p st n u
  have hr0 : rowG k p st 0 = fun _ => ⟨0, 0⟩ := rfl
  have hge : ∀ n (hn : n < k.length) (u : Int), cntT (k.getD n []) p (st.getD n 0) u = cntT k[n] p (st[n]'(by have := hst.out; omega)) u := fun n hn u => by
    rw [List.getD_eq_getElem?_getD, List.getD_eq_getElem?_getD, List.getElem?_eq_getElem hn, List.getElem?_eq_getElem (show n < st.length by have := hst.out; omega)]; rfl
  have hmk := fun w => run_make_pairs T (by omega) w
  have hp2 : (1 : Int) ≤ (p : Int) ∧ (p : Int) ≤ 20 := hp
  have hp0 : ¬ (p : Int) = 0 := by omega
  have hp1 : ¬ p = 0 := by omega
  replace h := Lib.hid h; replace g := Lib.hid g; replace hcl := Lib.hid hcl; replace hll := Lib.hid hll; replace hsg := Lib.hid hsg; replace hms := Lib.hid (@hms); replace hmz := Lib.hid hmz; replace hme := Lib.hid hme; replace hma := Lib.hid hma; replace hr0 := Lib.hid hr0; replace hge := Lib.hid hge
  clear h1 hv hp
  go_upto_region 9 with (fail)
  refine wp_world fun X HX => ?_
  have hB3 := hB2.trans (hb3.mono hB2.size)
  have hW3 := hB3.size
  have hX : Below w.heap.size w X := by
    rw [HX.out]
    repeat (first | (with_reducible exact hB3) | (with_reducible refine Below.drew ?_) | ((with_reducible refine Below.setC ?_ ?_); (focus (first | omega | (simp; done) | (simp; omega)))) | ((with_reducible refine Below.allo ?_ ?_); (focus (first | omega | (simp; done) | (simp; omega)))))
  have hrow : Row X W3.heap.size 45 (prA T (rowG k p st 0)) := by
    rw [HX.out, hr0.out]
    exact Row.new _ _ _
  clear hgd2 hmk hb hb2 hb3 hB2 hB3
  go_wp2
  go_loopw [44] (fun ii V => ∃ n : Nat, n ≤ k.length ∧ ii = .int .i64 n ∧ Below w.heap.size w V ∧ Row V W3.heap.size 45 (prA T (rowG k p st n))) (fun ii _ => k.length - (intOf ii).toNat)
  case atStart => exact ⟨0, by omega, rfl, hX, hrow⟩
  case round =>
    clear hX hrow
    obtain ⟨n, hn, rfl, hX, hrow⟩ := hrel
    by_cases hlt : n < k.length
    · obtain ⟨bk, ok, sl1, cl1, rfl, -, qk, slk, -, -⟩ := h.out.ss.at hlt
      have hcx := hcl.out n hlt
      have hlx := hll.out n hlt
      have hgx := hge.out n hlt
      have hnst : n < st.length := by have := hst.out; omega
      obtain ⟨bs, os, rfl, -, sq⟩ := g.out.sl.int_at hnst
      have hsn := hsr.out _ (List.getElem_mem hnst)
      obtain ⟨S, hS⟩ : ∃ v, st[n] = v := ⟨_, rfl⟩
      obtain ⟨l, hl⟩ : ∃ l, k[n] = l := ⟨_, rfl⟩
      simp only [hS, hl] at hgx
      rw [hS] at sq hsn
      rw [hl] at qk slk hcx hlx
      rw [hmz.out n] at hrow
      have qk1 := up_of hX qk
      replace hS := Lib.hid hS; replace hl := Lib.hid hl; replace hcx := Lib.hid hcx; replace hgx := Lib.hid hgx; replace slk := Lib.hid slk; replace sq := Lib.hid sq; replace qk := Lib.hid qk
      have i1 : (0 : Int) ≤ (n : Int) := by omega
      have i2 : (n : Int) < (k.length : Int) := by omega
      have i3 : (n : Int) < (st.length : Int) := by omega
      go_wp2
      go_loopw [51] (fun ii V => ∃ u : Nat, u ≤ T ∧ ii = .int .i64 u ∧ Below w.heap.size w V ∧ Row V W3.heap.size 45 (prA T (midG k p st n u))) (fun ii _ => T - (intOf ii).toNat)
      case atStart => exact ⟨0, by omega, rfl, hX, hrow⟩
      case round =>
        clear hX hrow qk1
        obtain ⟨u, hu, rfl, hX, hrow⟩ := hrel
        have hrl := hrow.lt
        have hXs := hX.size
        by_cases hut : u < T
        · have c0 : cntT (l.take 0) (p : Int) S (u : Int) = 0 := rfl
          replace c0 := Lib.hid c0
          obtain ⟨wi, hwi⟩ : ∃ wi : World, wi = wr := ⟨_, rfl⟩
          subst hwi
          go_wp2
          go_loopw [15, 56] (fun cc ii V => ∃ i : Nat, i ≤ l.length ∧ ii = .int .i64 i ∧ cc = .int .i64 (cntT (l.take i) (p : Int) S (u : Int) : Nat) ∧ Below wi.heap.size wi V) (fun _ ii _ => l.length - (intOf ii).toNat)
          case atStart => exact ⟨0, by omega, rfl, by rw [c0.out]; rfl, Below.refl _ _⟩
          case round =>
            obtain ⟨i, hi, rfl, rfl, hR⟩ := hrel
            have hXR := hX.trans (hR.mono hXs)
            have hXRs := hXR.size
            by_cases hil : i < l.length
            · obtain ⟨bx, ox, rfl, hbx, x0, x1⟩ := (up_of hXR slk).out.clm_at hil
              have hxb := hcx.out _ (List.getElem_mem hil)
              have e2 := cntT_take l (p : Int) S (u : Int) hil
              have e3 := cntT_le (l.take i) (p : Int) S (u : Int)
              rw [List.length_take, Nat.min_eq_left hi] at e3
              obtain ⟨x, hx⟩ : ∃ x, l[i] = x := ⟨_, rfl⟩
              rw [hx] at x0 x1 hxb e2
              obtain ⟨C, hC⟩ : ∃ C, cntT (l.take i) (p : Int) S (u : Int) = C := ⟨_, rfl⟩
              obtain ⟨C2, hC2⟩ : ∃ C, cntT (l.take (i + 1)) (p : Int) S (u : Int) = C := ⟨_, rfl⟩
              rw [hC] at e2 e3 ⊢
              rw [hC2] at e2
              obtain ⟨D, hD⟩ : ∃ D, (u : Int) - S - x.time = D := ⟨_, rfl⟩
              have hh : hitT p S u x = decide (0 ≤ D ∧ D % (p : Int) = 0) := by unfold hitT; rw [hD]
              rw [hh] at e2
              have u7 := i64_small (n := (u : Int) - S) (by omega)
              have u8 : IntKind.i64.wrap ((u : Int) - S - x.time) = D := by rw [i64_small (by omega)]; exact hD
              have u9 := i64_small (n := (C : Int) + 1) (by omega)
              have s0 := (up_of hXR sq).out
              replace hx := Lib.hid hx; replace hC := Lib.hid hC; replace hC2 := Lib.hid hC2; replace hD := Lib.hid hD; replace e2 := Lib.hid e2
              clear hh
              have i4 : (0 : Int) ≤ (i : Int) := by omega
              have i5 : (i : Int) < (l.length : Int) := by omega
              go_upto_region 19 with (fail)
              refine wp_world fun Z HZ => ?_
              have hZ : Below wr.heap.size wr Z := by rw [HZ.out]; (repeat (first | exact Below.refl _ _ | refine Below.alloc ?_ (by simp; try omega) _ | refine Below.setCell ?_ (by simp) _ | refine Below.drew ?_))
              have x0 : Z.cell? ⟨wr.heap.size, 0, none⟩ = some (.int .i64 x.cell) := by rw [HZ.out]; simp [go_sem]
              have x1 : Z.cell? ⟨wr.heap.size, 1, none⟩ = some (.int .i64 x.time) := by rw [HZ.out]; simp [go_sem]
              have xl : wr.heap.size < Z.heap.size := World.block_lt_of_cell? Z _ x0
              try replace hR := up_of hZ hR
              try replace s0 := up_of hZ s0
              try have ld_s0 := World.block_lt_of_cell? _ _ s0
              try have ld_x0 := World.block_lt_of_cell? _ _ x0
              refine region_q (by kernel_rfl) (by kernel_rfl) ?_
              dsimp only [List.toList_toArray]
              repeat (first
               | go_big_quiet_skip
               | (go_big_quiet_want
                  first
                  | (refine qq_det ?_
                     apply Exists.intro; refine ⟨fun W' hW' => ?_, ?_⟩
                     (· have hk := cellB hW'; go_simp; try (first | rfl | rw [if_pos (by omega)]))
                     simp only [Act.put, List.setIfInBounds_toArray, List.set_cons_zero, List.set_cons_succ]; go_big_quiet_on)))
              refine wpQuiet_nil ?_
              intro W1 hb
              try replace hR := up_of hb hR
              try replace s0 := up_of hb s0
              try replace hZ := up_of hb hZ
              try replace x0 := up_of hb x0
              try replace x1 := up_of hb x1
              try replace xl := up_of hb xl
              by_cases h0 : 0 ≤ D
              · have m1 : D.tmod (p : Int) = D % (p : Int) := Int.tmod_eq_emod_of_nonneg h0
                obtain ⟨R, hRe⟩ : ∃ R, D % (p : Int) = R := ⟨_, rfl⟩
                have e4 := e2.out
                rw [hRe] at m1 e4
                clear e2
                by_cases hR0 : R = 0
                · rw [if_pos (by simp [h0, hR0])] at e4
                  subst hR0
                  replace e4 := Lib.hid e4
                  replace hRe := Lib.hid hRe
                  go_wp2
                  go_roundw
                  case rel => exact ⟨i + 1, by omega, by go_num, by rw [hC2.out, e4.out]; go_num, hR⟩
                  case measure => exact meas hil
                · rw [if_neg (by simp [hR0])] at e4
                  have hR1 : (R == 0) = false := by simpa using hR0
                  replace e4 := Lib.hid e4
                  replace hRe := Lib.hid hRe
                  go_wp2
                  go_roundw
                  case rel => exact ⟨i + 1, by omega, by go_num, by rw [hC2.out, e4.out]; rfl, hR⟩
                  case measure => exact meas hil
              · have e4 := e2.out
                rw [if_neg (by simp [h0])] at e4
                replace e4 := Lib.hid e4
                clear e2
                go_wp2
                go_roundw
                case rel => exact ⟨i + 1, by omega, by go_num, by rw [hC2.out, e4.out]; rfl, hR⟩
                case measure => exact meas hil
            · obtain rfl : i = l.length := by omega
              rw [List.take_length]
              have hc := cntT_le l (p : Int) S (u : Int)
              obtain ⟨C, hC⟩ : ∃ C, cntT l (p : Int) S (u : Int) = C := ⟨_, rfl⟩
              rw [hC] at hc ⊢
              have hm1 := hms.out n u (show cntT (k.getD n []) (p : Int) (st.getD n 0) (u : Int) = C by rw [hgx.out]; exact hC)
              have hrow2 := up_of hR hrow
              have q0 := hrow2.cell (prA_at0 (g := midG k p st n u) hut)
              have q1 := hrow2.cell (prA_at1 (g := midG k p st n u) hut)
              rw [hma.out] at q0 q1
              obtain ⟨b0, b1⟩ := hsg.out u n hn
              replace q0 : _ = some (Value.int .i64 (((sumG k p st u n).1 : Nat) : Int)) := q0
              replace q1 : _ = some (Value.int .i64 (((sumG k p st u n).2 : Nat) : Int)) := q1
              obtain ⟨A0, hA0⟩ : ∃ a, (sumG k p st u n).1 = a := ⟨_, rfl⟩
              obtain ⟨A1, hA1⟩ : ∃ a, (sumG k p st u n).2 = a := ⟨_, rfl⟩
              rw [hA0] at q0 b0 hm1
              rw [hA1] at q1 b1 hm1
              obtain ⟨M, hM⟩ : ∃ m, min 1 C = m := ⟨_, rfl⟩
              rw [hM] at hm1
              have hv0 : IntKind.i64.wrap ((A0 : Int) + (C : Int)) = ((A0 + C : Nat) : Int) := by rw [i64_small (by omega)]; simp
              have hv1 : IntKind.i64.wrap ((A1 : Int) + (M : Int)) = ((A1 + M : Nat) : Int) := by rw [i64_small (by omega)]; simp
              have fr := fun i => hrow2.frozen i
              obtain ⟨arr, harr⟩ : ∃ a, prA T (midG k p st n u) = a := ⟨_, rfl⟩
              have a1 := prA_at1 (g := midG k p st n u) hut
              rw [hma.out] at a1
              replace a1 : _ = some (Value.int .i64 (((sumG k p st u n).2 : Nat) : Int)) := a1
              rw [hA1, harr] at a1
              rw [harr] at hrow2 hm1
              simp only [Int.natCast_add] at hm1
              have hmn : (if (C : Int) < 1 then (C : Int) else 1) = (M : Int) := by split <;> omega
              have hmn2 : (if (1 : Int) < (C : Int) then (1 : Int) else (C : Int)) = (M : Int) := by split <;> omega
              have hmb : M ≤ 1 := by omega
              replace a1 := Lib.hid a1
              replace harr := Lib.hid harr; replace hm1 := Lib.hid hm1; replace hA0 := Lib.hid hA0; replace hA1 := Lib.hid hA1; replace hM := Lib.hid hM; replace hC := Lib.hid hC
              clear hrow
              have i6 : (0 : Int) ≤ (u : Int) := by omega
              have i7 : (u : Int) < (T : Int) := by omega
              obtain ⟨wj, hwj⟩ : ∃ wj : World, wj = wr := ⟨_, rfl⟩
              subst hwj
              have hrl2 := hrow2.lt
              go_upto_region 23 with (fail)
              go_region
              all_goals
                go_upto_region 24 with (fail)
                refine wp_world fun X2 HX2 => ?_
                have hX2 : Below w.heap.size w X2 := by
                  rw [HX2.out]
                  repeat (first | (with_reducible exact hXR) | (with_reducible refine Below.drew ?_) | ((with_reducible refine Below.setC ?_ ?_); (focus (first | omega | (simp; done) | (simp; omega)))) | ((with_reducible refine Below.allo ?_ ?_); (focus (first | omega | (simp; done) | (simp; omega)))))
                have hrow3 : Row X2 W3.heap.size 45 (arr.setIfInBounds (u * 2) (.int .i64 ((A0 : Int) + (C : Int)))) := by
                  rw [HX2.out]
                  exact (hrow2.set _ _).drew
                have q3 := hrow3.cell (i := u * 2 + 1) (v := .int .i64 (A1 : Int)) (by rw [Array.getElem?_setIfInBounds_ne (by omega)]; exact a1.out)
                have fr3 := fun i => hrow3.frozen i
                have hrl3 := hrow3.lt
                have hXs3 := hX2.size
                go_region
                all_goals
                  go_wp2
                  go_roundw
                  case rel =>
                    refine ⟨u + 1, by omega, by go_num, ?_, ?_⟩
                    · repeat (first | (with_reducible exact hX2) | (with_reducible refine Below.drew ?_) | ((with_reducible refine Below.setC ?_ ?_); (focus (first | omega | (simp; done) | (simp; omega)))) | ((with_reducible refine Below.allo ?_ ?_); (focus (first | omega | (simp; done) | (simp; omega)))))
                    · rw [← hm1.out]
                      exact (hrow3.set _ _).drew
                  case measure => exact meas hut
        · obtain rfl : u = T := by omega
          rw [hme.out] at hrow
          go_wp2
          go_roundw
          case rel => exact ⟨n + 1, by omega, by go_num, hX, hrow⟩
          case measure => exact meas hlt
    · obtain rfl : n = k.length := by omega
      go_wp2
      go_ret2
      have ho := own_pairs hrow hW3 (T := T) (by omega)
      have e9 := hLLe.out
      rw [Int.toNat_natCast] at e9
      have e8 : LL.length = T := by rw [e9]; simp
      rw [← e9] at ho
      exact ⟨⟨some ⟨W3.heap.size, 0, none⟩, T, by rw [e8]; rfl, by rw [e8]; exact ho⟩, hX⟩
end Go.Proofs.Ytgeoehokojijdaa
