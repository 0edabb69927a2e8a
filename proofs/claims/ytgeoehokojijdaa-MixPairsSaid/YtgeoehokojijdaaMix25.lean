/- Timetables: the reference. -/
import Derived.Test.YtgeoehokojijdaaMix24
namespace Go.Proofs.Ytgeoehokojijdaa
open Go.RowKit

theorem fH_le (l : List Clm) (p S : Int) (q : Nat) (a : Int) (j t : Nat) : fH l p S q a j t ≤ 2 * l.length := by
  have h1 : cq l p S q t ≤ l.length := List.length_filter_le _ _
  have h2 : atC (l.take j) a t ≤ (l.take j).length := List.length_filter_le _ _
  have h3 := List.length_take_le j l
  have h4 : (l.take j).length ≤ l.length := by rw [List.length_take]; omega
  unfold fH; omega
set_option maxRecDepth 100000 in
set_option maxHeartbeats 1000000 in
theorem rTimetable_c (s : Option Addr) (cap : Nat) (k : List (List Clm)) (p : Int) (t : Option Addr) (ct : Nat) (st : List Int) (T : Int) (w : World) (h : Ker w s cap k) (g : Ints w t st) :
    Calls Try.prog 29 #[.slice s k.length cap, .int .i64 p, .slice t st.length ct, .int .i64 T] w (PairsErr 45 (tabL k p st T) (tabE k p st T) w) := by
  have H := Lib.hid (asked_c s cap k p t ct st w h g)
  have hkl := h.len
  have hsl := g.len
  by_cases h1 : askE k p st = 0
  case neg =>
    have e1 : tabE k p st T = askE k p st := by unfold tabE; rw [if_neg h1]
    rw [tabL_nil (by rw [e1]; exact h1), e1]
    obtain ⟨E, hE⟩ : ∃ E, askE k p st = E := ⟨_, rfl⟩
    rw [hE] at H h1 ⊢
    have h1' : (E != 0) = true := by simpa using h1
    clear h g hE h1 e1
    go_enter Try.func29, Try.ntmps29
    go_wp2_with (go_at_call 56; refine H.out.mono ?_; rintro e W1 ⟨rfl, hb⟩)
    go_ret2
    exact PairsErr.nil hb
  have hok := askE_ok h1
  rw [h1] at H
  cases h3 : bw 0 T 500
  · have e1 : tabE k p st T = 2 := by simp [tabE, h1, h3]
    rw [tabL_nil (by rw [e1]; decide), e1]
    have h4 : T < 0 ∨ (¬ T < 0 ∧ 500 < T) := by
      have : ¬ (0 ≤ T ∧ T ≤ 500) := fun hh => by have := bw_iff.2 hh; rw [h3] at this; cases this
      omega
    clear h g e1 h1 hok h3
    rcases h4 with h4 | ⟨h4, h5⟩
    · go_enter Try.func29, Try.ntmps29
      go_wp2_with (go_at_call 56; refine H.out.mono ?_; rintro e W1 ⟨rfl, hb⟩)
      go_ret2
      exact PairsErr.nil hb
    · go_enter Try.func29, Try.ntmps29
      go_wp2_with (go_at_call 56; refine H.out.mono ?_; rintro e W1 ⟨rfl, hb⟩)
      go_ret2
      exact PairsErr.nil hb
  have hT := bw_iff.1 h3
  have hgd := fun W (h : Ker W s cap k) (g : Ints W t st) => rGood_c s cap k p t ct st W h g
  rw [h1, show rgB k p st = goodB k p st by simp [rgB, h1]] at hgd
  have t1 : ¬ T < 0 := by omega
  have t2 : ¬ 500 < T := by omega
  cases h4 : goodB k p st
  · have e1 : tabE k p st T = 5 := by simp [tabE, h1, h3, h4]
    rw [tabL_nil (by rw [e1]; decide), e1]
    rw [h4] at hgd
    replace hgd := Lib.hid hgd
    clear e1 h1 hok
    go_enter Try.func29, Try.ntmps29
    go_upto_region 6 with (go_at_call 56; refine H.out.mono ?_; rintro e W1 ⟨rfl, hb⟩)
    have hgd2 := Lib.hid (hgd.out _ (up_of hb h) (up_of hb g))
    clear h g hgd
    go_wp2_with (go_at_call 35; refine hgd2.out.mono ?_; rintro e W2 ⟨rfl, hb2⟩)
    go_ret2
    exact PairsErr.nil (hb.trans (hb2.mono hb.size))
  have e1 : tabE k p st T = 0 := by simp [tabE, h1, h3, h4]
  rw [h4] at hgd
  replace hgd := Lib.hid hgd
  have hLLe : tabL k p st T = (List.range T.toNat).map (rowG k p st k.length) := by simp [tabL, e1]
  rw [e1]
  obtain ⟨LL, hLL⟩ : ∃ x, tabL k p st T = x := ⟨_, rfl⟩
  rw [hLL] at hLLe ⊢
  replace hLLe := Lib.hid hLLe
  clear hLL e1 h1
  replace hok := Lib.hid hok
  go_enter Try.func29, Try.ntmps29
  go_upto_region 6 with (go_at_call 56; refine H.out.mono ?_; rintro e W1 ⟨rfl, hb⟩)
  have hgd2 := Lib.hid (hgd.out _ (up_of hb h) (up_of hb g))
  clear hgd H
  go_upto_region 9 with (go_at_call 35; refine hgd2.out.mono ?_; rintro e W2 ⟨rfl, hb2⟩)
  obtain ⟨hvl, hp, hst, hsr⟩ := hok.out
  replace hst := Lib.hid hst
  obtain ⟨T, rfl⟩ : ∃ n : Nat, T = n := ⟨T.toNat, by omega⟩
  obtain ⟨p, rfl⟩ : ∃ n : Nat, p = n := ⟨p.toNat, by omega⟩
  have hk3 := vldB_k hvl
  have hcl := fun (n : Nat) (hn : n < k.length) (c : Clm) hc => (vldB_c hvl (List.getElem_mem hn) (c := c) hc).2
  have hll := fun (n : Nat) (hn : n < k.length) => (vldB_l hvl (List.getElem_mem hn)).2.2
  have hsg := fun (u : Int) (n : Nat) (hn : n ≤ k.length) => sumG_le (fun l hl => (by have := (vldB_l hvl hl).2.2; omega)) (p : Int) st u n hn
  have hms := fun (n u : Nat) {c : Nat} (hc : cntT (k.getD n []) p (st.getD n 0) u = c) => midG_step k p st n u T hc
  have hms0 := fun (n u : Nat) {c : Nat} (hc : cntT (k.getD n []) p (st.getD n 0) u = c) (h0 : c = 0) => midG_step0 k p st n u T hc h0
  have hmz := fun n => midG_zero k p st n T
  have hme := fun n => midG_end k p st n T
  have hma := fun n u => midG_at k p st n u
  have hr0 : rowG k p st 0 = fun _ => ⟨0, 0⟩ := rfl
  have hge : ∀ n (hn : n < k.length) (u : Int), cntT (k.getD n []) p (st.getD n 0) u = cntT k[n] p (st[n]'(by have := hst.out; omega)) u := fun n hn u => by
    rw [List.getD_eq_getElem?_getD, List.getD_eq_getElem?_getD, List.getElem?_eq_getElem hn, List.getElem?_eq_getElem (show n < st.length by have := hst.out; omega)]; rfl
  have hmk := fun w => run_make_pairs T (by omega) w
  have hp2 : (1 : Int) ≤ (p : Int) ∧ (p : Int) ≤ 20 := hp
  replace h := Lib.hid h; replace g := Lib.hid g; replace hcl := Lib.hid hcl; replace hll := Lib.hid hll; replace hsg := Lib.hid hsg; replace hms := Lib.hid (@hms); replace hms0 := Lib.hid (@hms0); replace hmz := Lib.hid hmz; replace hme := Lib.hid hme; replace hma := Lib.hid hma; replace hr0 := Lib.hid hr0; replace hge := Lib.hid hge; replace hsr := Lib.hid hsr
  clear hp hvl hok
  go_upto_region 10 with (fail)
  refine wp_world fun X HX => ?_
  have hB2 := hb.trans (hb2.mono hb.size)
  have hW2 := hB2.size
  have hX : Below w.heap.size w X := by
    rw [HX.out]
    repeat (first | (with_reducible exact hB2) | (with_reducible refine Below.drew ?_) | ((with_reducible refine Below.setC ?_ ?_); (focus (first | omega | (simp; done) | (simp; omega)))) | ((with_reducible refine Below.allo ?_ ?_); (focus (first | omega | (simp; done) | (simp; omega)))))
  have hrow : Row X W2.heap.size 45 (prA T (rowG k p st 0)) := by
    rw [HX.out, hr0.out]
    exact Row.new _ _ _
  have hmi := fun w => run_make_ints T (by omega) w
  clear hgd2 hmk hb hb2 hB2
  go_wp2
  go_loopw [48] (fun ii V => ∃ n : Nat, n ≤ k.length ∧ ii = .int .i64 n ∧ Below w.heap.size w V ∧ Row V W2.heap.size 45 (prA T (rowG k p st n))) (fun ii _ => k.length - (intOf ii).toNat)
  case atStart => exact ⟨0, by omega, rfl, hX, hrow⟩
  case round =>
    clear hX hrow
    obtain ⟨n, hn, rfl, hX, hrow⟩ := hrel
    by_cases hlt : n < k.length
    · obtain ⟨bk, ok, sl1, cl1, rfl, -, qk, slk, -, -⟩ := h.out.ss.at hlt
      have hcx := hcl.out n hlt
      have hlx := hll.out n hlt
      have hgx := hge.out n hlt
      have hnst : n < st.length := by have := hst.out; omega
      obtain ⟨bs, os, rfl, -, sq⟩ := g.out.sl.int_at hnst
      have hsn := hsr.out _ (List.getElem_mem hnst)
      obtain ⟨S, hS⟩ : ∃ v, st[n] = v := ⟨_, rfl⟩
      obtain ⟨l, hl⟩ : ∃ l, k[n] = l := ⟨_, rfl⟩
      simp only [hS, hl] at hgx
      rw [hS] at sq hsn
      rw [hl] at qk slk hcx hlx
      replace hS := Lib.hid hS
      obtain ⟨S, rfl⟩ : ∃ m : Nat, S = m := ⟨S.toNat, by omega⟩
      rw [hmz.out n] at hrow
      have qk1 := up_of hX qk
      have hrl := hrow.lt
      have hXs := hX.size
      have hz := her_zero l p S S T
      have hset := fun q (a : Int) (j : Nat) hj (y : Nat) hy => her_set (l := l) p S q a T (j := j) hj (y := y) hy
      have hskip := fun q (a : Int) (j : Nat) hj hy => her_skip (l := l) p S q a T (j := j) hj hy
      have hnext := fun q (a b : Int) ha => her_next l p S q a b T (by omega) ha
      have hfull := fun q (a : Int) ha hT => her_full l p S q a T (fun c hc => (hcx c hc).1) ha hT
      replace hl := Lib.hid hl; replace hcx := Lib.hid hcx; replace hgx := Lib.hid hgx; replace slk := Lib.hid slk; replace sq := Lib.hid sq; replace qk := Lib.hid qk; replace hz := Lib.hid hz; replace hset := Lib.hid hset; replace hskip := Lib.hid hskip; replace hnext := Lib.hid hnext; replace hfull := Lib.hid hfull
      have i1 : (0 : Int) ≤ (n : Int) := by omega
      have i2 : (n : Int) < (k.length : Int) := by omega
      have i3 : (n : Int) < (st.length : Int) := by omega
      obtain ⟨wo, hwo⟩ : ∃ wo : World, wo = wr := ⟨_, rfl⟩
      subst hwo
      go_upto_region 14 with (fail)
      refine wp_world fun Y HY => ?_
      have hY : Below w.heap.size w Y := by
        rw [HY.out]
        repeat (first | (with_reducible exact hX) | (with_reducible refine Below.drew ?_) | ((with_reducible refine Below.setC ?_ ?_); (focus (first | omega | (simp; done) | (simp; omega)))) | ((with_reducible refine Below.allo ?_ ?_); (focus (first | omega | (simp; done) | (simp; omega)))))
      have hro : Row Y W2.heap.size 45 (prA T (midG k p st n 0)) := by
        rw [HY.out]; exact hrow.alloc _
      have hhe : Row Y wo.heap.size 3 (herA T (fH l p S 0 S 0)) := by
        rw [HY.out, ← hz.out]; exact Row.new _ _ _
      have s0 := (up_of hY sq).out
      have hYs := hY.size
      have ha0 : Hid ((S : Int) = (S : Int) + ((0 : Nat) : Int) * (p : Int)) := Lib.hid (by simp)
      clear hX hrow qk1
      go_wp2
      go_loopw [17] (fun v V => ∃ q a : Nat, v = .int .i64 a ∧ a ≤ 520 ∧ Hid ((a : Int) = (S : Int) + (q : Int) * (p : Int)) ∧ Below w.heap.size w V ∧ Row V W2.heap.size 45 (prA T (midG k p st n 0)) ∧ Row V wo.heap.size 3 (herA T (fH l p S q a 0))) (fun v _ => T - (intOf v).toNat)
      case atStart => exact ⟨0, S, rfl, by omega, ha0, hY, hro, hhe⟩
      case round =>
        clear hY hro hhe s0 hYs ha0
        obtain ⟨q, a, rfl, ha, hae, hX, hro, hhe⟩ := hrel
        have hhl := hhe.lt
        by_cases haT : a < T
        · go_wp2
          go_loopw [67] (fun ii V => ∃ j : Nat, j ≤ l.length ∧ ii = .int .i64 j ∧ Below w.heap.size w V ∧ Row V W2.heap.size 45 (prA T (midG k p st n 0)) ∧ Row V wo.heap.size 3 (herA T (fH l p S q a j))) (fun ii _ => l.length - (intOf ii).toNat)
          case atStart => exact ⟨0, by omega, rfl, hX, hro, hhe⟩
          case round =>
            clear hX hro hhe hhl
            obtain ⟨j, hj, rfl, hX, hro, hhe⟩ := hrel
            have hhl := hhe.lt
            by_cases hjl : j < l.length
            · obtain ⟨bx, ox, rfl, hbx, x0, x1⟩ := (up_of hX slk).out.clm_at hjl
              have hxb := hcx.out _ (List.getElem_mem hjl)
              have f1 := hset.out q a j hjl
              have f2 := hskip.out q a j hjl
              obtain ⟨x, hx⟩ : ∃ x, l[j] = x := ⟨_, rfl⟩
              simp only [hx] at f1 f2
              rw [hx] at x0 x1 hxb
              obtain ⟨y, hy⟩ : ∃ y : Nat, (a : Int) + x.time = y := ⟨((a : Int) + x.time).toNat, by omega⟩
              have u1 : IntKind.i64.wrap ((a : Int) + x.time) = (y : Int) := by rw [i64_small (by omega)]; exact hy
              replace f1 := Lib.hid (f1 y hy)
              replace f2 := Lib.hid f2
              replace hx := Lib.hid hx
              have hyb : y ≤ 570 := by omega
              replace hy := Lib.hid hy
              have i4 : (0 : Int) ≤ (j : Int) := by omega
              have i5 : (j : Int) < (l.length : Int) := by omega
              go_upto_region 20 with (fail)
              refine wp_world fun Z HZ => ?_
              have hZ : Below wr.heap.size wr Z := by rw [HZ.out]; (repeat (first | exact Below.refl _ _ | refine Below.alloc ?_ (by simp; try omega) _ | refine Below.setCell ?_ (by simp) _ | refine Below.drew ?_))
              have x0 : Z.cell? ⟨wr.heap.size, 0, none⟩ = some (.int .i64 x.cell) := by rw [HZ.out]; simp [go_sem]
              have x1 : Z.cell? ⟨wr.heap.size, 1, none⟩ = some (.int .i64 x.time) := by rw [HZ.out]; simp [go_sem]
              have xl : wr.heap.size < Z.heap.size := World.block_lt_of_cell? Z _ x0
              try replace hX := up_of hZ hX
              try replace hro := up_of hZ hro
              try replace hhe := up_of hZ hhe
              have hXs2 := hX.size
              by_cases hyT : y < T
              · have hat := hhe.cell (her_at (f := fH l p S q a j) hyT)
                have hfr := hhe.frozen y
                obtain ⟨F, hF⟩ : ∃ F, fH l p S q a j y = F := ⟨_, rfl⟩
                rw [hF] at hat
                have f3 := f1.out
                rw [hF] at f3
                have hFb : F ≤ 40 := by have := fH_le l p S q a j y; omega
                have u2 := i64_small (n := (F : Int) + 1) (by omega)
                have i6 : (0 : Int) ≤ (y : Int) := by omega
                have i7 : (y : Int) < (T : Int) := by omega
                replace f3 := Lib.hid f3; replace hF := Lib.hid hF
                clear f1 f2
                go_wp2
                go_roundw
                case rel =>
                  refine ⟨j + 1, by omega, by go_num, ?_, ?_, ?_⟩
                  · repeat (first | (with_reducible exact hX) | (with_reducible refine Below.drew ?_) | ((with_reducible refine Below.setC ?_ ?_); (focus (first | omega | (simp; done) | (simp; omega)))) | ((with_reducible refine Below.allo ?_ ?_); (focus (first | omega | (simp; done) | (simp; omega)))))
                  · exact hro.other (by simp; omega) _
                  · rw [← f3.out]; exact hhe.set _ _
                case measure => exact meas hjl
              · have f3 := f2.out (by have := hy.out; omega)
                rw [f3] at hhe
                have i7 : ¬ (y : Int) < (T : Int) := by omega
                clear f1 f2 f3
                go_wp2
                go_roundw
                case rel => exact ⟨j + 1, by omega, by go_num, hX, hro, hhe⟩
                case measure => exact meas hjl
            · obtain rfl : j = l.length := by omega
              rw [hnext.out q a (a + p : Nat) hae.out] at hhe
              have hae2 : Hid (((a + p : Nat) : Int) = (S : Int) + ((q + 1 : Nat) : Int) * (p : Int)) := Lib.hid (by
                have := hae.out
                rw [Int.natCast_add, Int.natCast_add, Int.add_mul, this]; simp; omega)
              have u3 := i64_small (n := (a : Int) + (p : Int)) (by omega)
              go_wp2
              go_roundw
              case rel => exact ⟨q + 1, a + p, by go_num, by omega, hae2, hX, hro, hhe⟩
              case measure => (simp [intOf]) <;> omega
        · rw [hfull.out q a hae.out (by omega)] at hhe
          have i8 : ¬ (a : Int) < (T : Int) := by omega
          go_wp2
          go_loopw [89] (fun ii V => ∃ u : Nat, u ≤ T ∧ ii = .int .i64 u ∧ Below w.heap.size w V ∧ Row V W2.heap.size 45 (prA T (midG k p st n u)) ∧ Row V wo.heap.size 3 (herA T (fC l p S))) (fun ii _ => T - (intOf ii).toNat)
          case atStart => exact ⟨0, by omega, rfl, hX, hro, hhe⟩
          case round =>
            clear hX hro hhe hhl
            obtain ⟨u, hu, rfl, hX, hro, hhe⟩ := hrel
            by_cases hut : u < T
            · have hc := cntT_le l (p : Int) (S : Int) (u : Int)
              have hat := hhe.cell (her_at (f := fC l p S) hut)
              replace hat : _ = some (Value.int .i64 ((cntT l (p : Int) (S : Int) (u : Int) : Nat) : Int)) := hat
              obtain ⟨C, hC⟩ : ∃ C, cntT l (p : Int) (S : Int) (u : Int) = C := ⟨_, rfl⟩
              rw [hC] at hc hat
              have hm1 := hms.out n u (show cntT (k.getD n []) (p : Int) (st.getD n 0) (u : Int) = C by rw [hgx.out]; exact hC)
              have hm0 := hms0.out n u (show cntT (k.getD n []) (p : Int) (st.getD n 0) (u : Int) = C by rw [hgx.out]; exact hC)
              have q0 := hro.cell (prA_at0 (g := midG k p st n u) hut)
              have a1 := prA_at1 (g := midG k p st n u) hut
              rw [hma.out] at q0 a1
              obtain ⟨b0, b1⟩ := hsg.out u n hn
              replace q0 : _ = some (Value.int .i64 (((sumG k p st u n).1 : Nat) : Int)) := q0
              replace a1 : _ = some (Value.int .i64 (((sumG k p st u n).2 : Nat) : Int)) := a1
              obtain ⟨A0, hA0⟩ : ∃ a, (sumG k p st u n).1 = a := ⟨_, rfl⟩
              obtain ⟨A1, hA1⟩ : ∃ a, (sumG k p st u n).2 = a := ⟨_, rfl⟩
              rw [hA0] at q0 b0 hm1 hm0
              rw [hA1] at a1 b1 hm1
              have hv0 := i64_small (n := (A0 : Int) + (C : Int)) (by omega)
              have hv1 := i64_small (n := (A1 : Int) + 1) (by omega)
              have fr := fun i => hro.frozen i
              have hrl := hro.lt
              have hhl := hhe.lt
              obtain ⟨arr, harr⟩ : ∃ a, prA T (midG k p st n u) = a := ⟨_, rfl⟩
              rw [harr] at hro hm1 hm0 a1
              simp only [Int.natCast_add] at hm1 hm0
              replace harr := Lib.hid harr; replace hm1 := Lib.hid hm1; replace hm0 := Lib.hid hm0; replace hA0 := Lib.hid hA0; replace hA1 := Lib.hid hA1; replace hC := Lib.hid hC; replace a1 := Lib.hid a1
              have i6 : (0 : Int) ≤ (u : Int) := by omega
              have i7 : (u : Int) < (T : Int) := by omega
              have hXs4 := hX.size
              go_upto_region 26 with (fail)
              go_region
              all_goals
                go_upto_region 27 with (fail)
                refine wp_world fun X2 HX2 => ?_
                have hX2 : Below w.heap.size w X2 := by
                  rw [HX2.out]
                  repeat (first | (with_reducible exact hX) | (with_reducible refine Below.drew ?_) | ((with_reducible refine Below.setC ?_ ?_); (focus (first | omega | (simp; done) | (simp; omega)))) | ((with_reducible refine Below.allo ?_ ?_); (focus (first | omega | (simp; done) | (simp; omega)))))
                have hro3 : Row X2 W2.heap.size 45 (arr.setIfInBounds (u * 2) (.int .i64 ((A0 : Int) + (C : Int)))) := by
                  rw [HX2.out]
                  exact (hro.set _ _).drew
                have hhe3 : Row X2 wo.heap.size 3 (herA T (fC l p S)) := by
                  rw [HX2.out]
                  exact (hhe.other (by simp; omega) _).drew
                by_cases hC0 : C = 0
                · have e7 := hm0.out hC0
                  rw [e7] at hro3
                  have v1 : ¬ (0 : Int) < (C : Int) := by omega
                  clear hm0 hm1 e7
                  go_wp2
                  go_roundw
                  case rel => exact ⟨u + 1, by omega, by go_num, hX2, hro3, hhe3⟩
                  case measure => exact meas hut
                · have v1 : (0 : Int) < (C : Int) := by omega
                  have e7 := hm1.out
                  rw [show min 1 C = 1 by omega] at e7
                  have q3 := hro3.cell (i := u * 2 + 1) (v := .int .i64 (A1 : Int)) (by rw [Array.getElem?_setIfInBounds_ne (by omega)]; exact a1.out)
                  have fr3 := fun i => hro3.frozen i
                  have hrl3 := hro3.lt
                  have hXs3 := hX2.size
                  replace e7 := Lib.hid e7
                  clear hm0 hm1
                  go_upto_region 28 with (fail)
                  go_region
                  all_goals
                    go_wp2
                    go_roundw
                    case rel =>
                      refine ⟨u + 1, by omega, by go_num, ?_, ?_, ?_⟩
                      · repeat (first | (with_reducible exact hX2) | (with_reducible refine Below.drew ?_) | ((with_reducible refine Below.setC ?_ ?_); (focus (first | omega | (simp; done) | (simp; omega)))) | ((with_reducible refine Below.allo ?_ ?_); (focus (first | omega | (simp; done) | (simp; omega)))))
                      · rw [← e7.out]
                        exact (hro3.set _ _).drew
                      · exact (hhe3.other (by simp; omega) _).drew
                    case measure => exact meas hut
            · obtain rfl : u = T := by omega
              rw [hme.out] at hro
              go_wp2
              go_roundw
              case rel => exact ⟨n + 1, by omega, by go_num, hX, hro⟩
              case measure => exact meas hlt
    · obtain rfl : n = k.length := by omega
      go_wp2
      go_ret2
      have ho := own_pairs hrow hW2 (T := T) (by omega)
      have e9 := hLLe.out
      rw [Int.toNat_natCast] at e9
      have e8 : LL.length = T := by rw [e9]; simp
      rw [← e9] at ho
      exact ⟨⟨some ⟨W2.heap.size, 0, none⟩, T, by rw [e8]; rfl, by rw [e8]; exact ho⟩, hX⟩
end Go.Proofs.Ytgeoehokojijdaa
