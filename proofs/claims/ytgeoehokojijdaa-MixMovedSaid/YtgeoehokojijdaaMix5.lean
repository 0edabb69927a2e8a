/- Whether starts are good: the program. -/
import Derived.Test.YtgeoehokojijdaaMixBits
namespace Go.Proofs.Ytgeoehokojijdaa
open Go.RowKit

theorem i64_small' {n : Int} (h : -9223372036854775808 ≤ n ∧ n ≤ 9223372036854775807) : IntKind.i64.wrap n = n := by rw [IntKind.wrap_i64]; omega
def maskA (L : List (Int × Int)) : Array Value := arrA 16 (fun c => .int .u32 (mask L c : Nat))
theorem maskA_nil : maskA [] = #[.int .u32 0, .int .u32 0, .int .u32 0, .int .u32 0, .int .u32 0, .int .u32 0, .int .u32 0, .int .u32 0, .int .u32 0, .int .u32 0, .int .u32 0, .int .u32 0, .int .u32 0, .int .u32 0, .int .u32 0, .int .u32 0] := rfl
theorem maskA_set (L : List (Int × Int)) (c t : Nat) : (maskA L).setIfInBounds c (.int .u32 ((mask L c ||| 2 ^ t : Nat) : Int)) = maskA (L ++ [((c : Int), (t : Int))]) := by
  unfold maskA
  rw [arrA_set]
  refine arrA_congr fun i hi => ?_
  rw [mask_snoc]
  by_cases h : i = c
  · subst h; simp
  · have h2 : ¬ (c : Int) = (i : Int) := by omega
    simp [h, h2]
set_option maxRecDepth 100000 in
set_option maxHeartbeats 2000000 in
theorem good_c (s : Option Addr) (cap : Nat) (k : List (List Clm)) (p : Int) (t : Option Addr) (ct : Nat) (st : List Int) (w : World) (h : Ker w s cap k) (g : Ints w t st)
    (hv : ∀ l ∈ k, ∀ c ∈ l, (0 ≤ c.cell ∧ c.cell ≤ 15) ∧ 0 ≤ c.time ∧ c.time ≤ 50) (hp : 1 ≤ p ∧ p ≤ 20) (hst : st.length = k.length) (hsr : ∀ n ∈ st, 0 ≤ n ∧ n < p) :
    Calls Try.prog 55 #[.slice s k.length cap, .int .i64 p, .slice t st.length ct] w fun e w' => e = .returned (.bool (goodB k p st)) ∧ Below w.heap.size w w' := by
  have hl := g.len
  have hkl := h.len
  have h0 := Lib.hid h
  have g0 := Lib.hid g
  have hbad : ¬ (slots k st p).Nodup → false = goodB k p st := fun hh => by simp [goodB, hh]
  have hgood : (slots k st p).Nodup → true = goodB k p st := fun hh => by simp [goodB, hh]
  have hz0 : slots k st p = [] ++ slots (k.drop 0) (st.drop 0) p := by simp
  have hdr := fun (n : Nat) (hn : n < k.length) => slots_drop (k := k) (s := st) (p := p) (n := n) hn (by omega)
  have hen := slots_end (k := k) (s := st) (p := p) (n := k.length) (Nat.le_refl _)
  obtain ⟨SL, hSL⟩ : ∃ SL, slots k st p = SL := ⟨_, rfl⟩
  rw [hSL] at hbad hgood hz0
  have hp1 : 1 ≤ p := hp.1
  have hp2 : p ≤ 20 := hp.2
  have hp0 : ¬ p = 0 := by omega
  replace hv := Lib.hid hv; replace hst := Lib.hid hst; replace hsr := Lib.hid hsr; replace hbad := Lib.hid hbad; replace hgood := Lib.hid hgood; replace hz0 := Lib.hid hz0; replace hdr := Lib.hid hdr; replace hen := Lib.hid hen; replace hSL := Lib.hid hSL
  go_enter Try.func55, Try.ntmps55
  go_upto_region 2 with (fail)
  refine wp_world fun W HW => ?_
  have hB : Below w.heap.size w W := by rw [HW.out]; (repeat (first | exact Below.refl _ _ | refine Below.alloc ?_ (by simp; try omega) _ | refine Below.setCell ?_ (by simp) _ | refine Below.drew ?_))
  have uB : Row W (w.heap.size) 91 #[.int .u32 0, .int .u32 0, .int .u32 0, .int .u32 0, .int .u32 0, .int .u32 0, .int .u32 0, .int .u32 0, .int .u32 0, .int .u32 0, .int .u32 0, .int .u32 0, .int .u32 0, .int .u32 0, .int .u32 0, .int .u32 0] := (by rw [HW.out]; (repeat (first | (refine blk_new ?_; simp; done) | refine blk_old ?_ _)) : W.heap[w.heap.size]? = some (.cells #[.int .u32 0, .int .u32 0, .int .u32 0, .int .u32 0, .int .u32 0, .int .u32 0, .int .u32 0, .int .u32 0, .int .u32 0, .int .u32 0, .int .u32 0, .int .u32 0, .int .u32 0, .int .u32 0, .int .u32 0, .int .u32 0] 91 (0, 0)))
  have u0 : W.cell? ⟨w.heap.size, 0, none⟩ = some (.int .u32 0) := by rw [HW.out]; simp [go_sem]
  have u1 : W.cell? ⟨w.heap.size, 1, none⟩ = some (.int .u32 0) := by rw [HW.out]; simp [go_sem]
  have u2 : W.cell? ⟨w.heap.size, 2, none⟩ = some (.int .u32 0) := by rw [HW.out]; simp [go_sem]
  have u3 : W.cell? ⟨w.heap.size, 3, none⟩ = some (.int .u32 0) := by rw [HW.out]; simp [go_sem]
  have u4 : W.cell? ⟨w.heap.size, 4, none⟩ = some (.int .u32 0) := by rw [HW.out]; simp [go_sem]
  have u5 : W.cell? ⟨w.heap.size, 5, none⟩ = some (.int .u32 0) := by rw [HW.out]; simp [go_sem]
  have u6 : W.cell? ⟨w.heap.size, 6, none⟩ = some (.int .u32 0) := by rw [HW.out]; simp [go_sem]
  have u7 : W.cell? ⟨w.heap.size, 7, none⟩ = some (.int .u32 0) := by rw [HW.out]; simp [go_sem]
  have u8 : W.cell? ⟨w.heap.size, 8, none⟩ = some (.int .u32 0) := by rw [HW.out]; simp [go_sem]
  have u9 : W.cell? ⟨w.heap.size, 9, none⟩ = some (.int .u32 0) := by rw [HW.out]; simp [go_sem]
  have u10 : W.cell? ⟨w.heap.size, 10, none⟩ = some (.int .u32 0) := by rw [HW.out]; simp [go_sem]
  have u11 : W.cell? ⟨w.heap.size, 11, none⟩ = some (.int .u32 0) := by rw [HW.out]; simp [go_sem]
  have u12 : W.cell? ⟨w.heap.size, 12, none⟩ = some (.int .u32 0) := by rw [HW.out]; simp [go_sem]
  have u13 : W.cell? ⟨w.heap.size, 13, none⟩ = some (.int .u32 0) := by rw [HW.out]; simp [go_sem]
  have u14 : W.cell? ⟨w.heap.size, 14, none⟩ = some (.int .u32 0) := by rw [HW.out]; simp [go_sem]
  have u15 : W.cell? ⟨w.heap.size, 15, none⟩ = some (.int .u32 0) := by rw [HW.out]; simp [go_sem]
  have ul : w.heap.size < W.heap.size := World.block_lt_of_cell? W _ u0
  try replace h := up_of hB h
  try replace g := up_of hB g
  rw [← maskA_nil] at uB
  clear u0 u1 u2 u3 u4 u5 u6 u7 u8 u9 u10 u11 u12 u13 u14 u15
  go_wp2
  go_loopw [15] (fun ii V => ∃ n : Nat, n ≤ k.length ∧ ii = .int .i64 n ∧ Below w.heap.size w V ∧ ∃ L, Hid (SL = L ++ slots (k.drop n) (st.drop n) p) ∧ Hid (L.Nodup ∧ ∀ x ∈ L, 0 ≤ x.2 ∧ x.2 < p) ∧ Row V w.heap.size 91 (maskA L)) (fun ii _ => k.length - (intOf ii).toNat)
  case atStart => exact ⟨0, by omega, rfl, hB, [], hz0.out, ⟨List.nodup_nil, fun x hx => by cases hx⟩, uB⟩
  case round =>
    clear uB hB
    obtain ⟨n, hn, rfl, hB, L, hL, hN, uB⟩ := hrel
    have hBs := hB.size
    by_cases hlt : n < k.length
    · obtain ⟨bk, ok, s1, c1, rfl, hbk, q0, hsl, -, -⟩ := h0.out.ss.at hlt
      replace q0 := up_of hB q0
      have hl1 := h0.out.lens _ (List.getElem_mem hlt)
      have hd := hdr.out n hlt
      have i1 : (0 : Int) ≤ (n : Int) := by omega
      have i2 : (n : Int) < (k.length : Int) := by omega
      have i3 : (n : Int) < (st.length : Int) := by have := hst.out; omega
      obtain ⟨bs, os, rfl, hbs, t0⟩ := g0.out.sl.int_at (i := n) (by have := hst.out; omega)
      have hs := hsr.out _ (List.getElem_mem (show n < st.length by have := hst.out; omega))
      obtain ⟨si, hsi⟩ : ∃ v, st[n]'(by have := hst.out; omega) = v := ⟨_, rfl⟩
      simp only [hsi] at t0 hs hd
      rw [hd] at hL
      replace hd := Lib.hid hd; replace hsi := Lib.hid hsi
      replace hsl := Lib.hid hsl; replace t0 := Lib.hid t0
      go_wp2
      go_loopw [22] (fun ii V => ∃ i : Nat, i ≤ k[n].length ∧ ii = .int .i64 i ∧ Below w.heap.size w V ∧ ∃ L, Hid (SL = L ++ ((k[n].drop i).map (slotOf si p) ++ slots (k.drop (n + 1)) (st.drop (n + 1)) p)) ∧ Hid (L.Nodup ∧ ∀ x ∈ L, 0 ≤ x.2 ∧ x.2 < p) ∧ Row V w.heap.size 91 (maskA L)) (fun ii _ => k[n].length - (intOf ii).toNat)
      case atStart => exact ⟨0, by omega, rfl, hB, L, hL, hN, uB⟩
      case round =>
        clear uB hL hN L hB hBs q0
        obtain ⟨i, hi, rfl, hR, L, hL, hN, uB⟩ := hrel
        by_cases hli : i < k[n].length
        · obtain ⟨bx, ox, rfl, hbx, x0, x1⟩ := (up_of hR hsl).out.clm_at hli
          have hcb := hv.out _ (List.getElem_mem hlt) _ (List.getElem_mem hli)
          have hdi : k[n].drop i = k[n][i] :: k[n].drop (i + 1) := List.drop_eq_getElem_cons hli
          have hL2 := hL.out
          rw [hdi] at hL2
          replace hdi := Lib.hid hdi
          clear hL
          obtain ⟨x, hx⟩ : ∃ x, k[n][i] = x := ⟨_, rfl⟩
          rw [hx] at hcb hL2 x0 x1
          replace hx := Lib.hid hx
          obtain ⟨C, hC, hC2⟩ : ∃ C : Nat, x.cell = C ∧ C < 16 := ⟨x.cell.toNat, by omega, by omega⟩
          have e1 := Int.emod_nonneg (si + x.time) (b := p) (by omega)
          have e2 := Int.emod_lt_of_pos (si + x.time) (b := p) (by omega)
          have hw := i64_small' (n := si + x.time) (by omega)
          have ht : (si + x.time).tmod p = (si + x.time) % p := Int.tmod_eq_emod_of_nonneg (by omega)
          obtain ⟨U, hU, hU2⟩ : ∃ U : Nat, (si + x.time) % p = U ∧ U < 20 := ⟨((si + x.time) % p).toNat, by omega, by omega⟩
          rw [hU] at ht e2
          rw [hC] at x0
          have hsO : slotOf si p x = ((C : Int), (U : Int)) := by simp [slotOf, hU, hC]
          rw [List.map_cons, hsO] at hL2
          clear hU e1 hC hsO
          have hbM : mask L C < 2 ^ 20 := mask_lt L C 20 fun y hy => by have := hN.out.2 y hy; omega
          have hbB : 2 ^ U < 2 ^ 20 := Nat.pow_lt_pow_right (by decide) hU2
          have hms := maskA_set L C U
          have htest := mask_test L C U (fun y hy => (hN.out.2 y hy).1)
          have hne := and_bit (mask L C) U
          have uc := uB.cell (arrA_at (fun c => .int .u32 (mask L c : Nat)) hC2)
          have uf := uB.frozen C
          have sh := wrap_shl U hU2
          obtain ⟨B, hBe⟩ : ∃ B : Nat, 2 ^ U = B := ⟨_, rfl⟩
          obtain ⟨M, hMe⟩ : ∃ M : Nat, mask L C = M := ⟨_, rfl⟩
          rw [hBe] at hbB hms hne
          rw [hMe] at hbM hms hne uc htest
          rw [hBe] at sh
          have an := bits_and32 M B (by omega) (by omega)
          have or' := bits_or32 M B (by omega) (by omega)
          obtain ⟨A, hA⟩ : ∃ A : Nat, M &&& B = A := ⟨_, rfl⟩
          obtain ⟨O, hO⟩ : ∃ O : Nat, M ||| B = O := ⟨_, rfl⟩
          rw [hA] at hne
          rw [hA] at an
          rw [hO] at or'
          rw [hO] at hms
          replace hBe := Lib.hid hBe; replace hMe := Lib.hid hMe; replace hA := Lib.hid hA; replace hO := Lib.hid hO; replace hms := Lib.hid hms; replace hL2 := Lib.hid hL2
          rw [htest] at hne
          have i4 : (0 : Int) ≤ (i : Int) := by omega
          have i5 : (i : Int) < (k[n].length : Int) := by omega
          have i6 : (0 : Int) ≤ (C : Int) := by omega
          have i7 : (C : Int) < 16 := by omega
          have hRs := hR.size
          have hul := uB.lt
          replace t0 := (up_of hR t0).out
          go_upto_region 8 with (fail)
          refine wp_world fun Y HY => ?_
          have hY : Below wr.heap.size wr Y := by rw [HY.out]; (repeat (first | exact Below.refl _ _ | refine Below.alloc ?_ (by simp; try omega) _ | refine Below.setCell ?_ (by simp) _ | refine Below.drew ?_))
          have x0 : Y.cell? ⟨wr.heap.size, 0, none⟩ = some (.int .i64 C) := by rw [HY.out]; simp [go_sem]
          have x1 : Y.cell? ⟨wr.heap.size, 1, none⟩ = some (.int .i64 x.time) := by rw [HY.out]; simp [go_sem]
          have xl : wr.heap.size < Y.heap.size := World.block_lt_of_cell? Y _ x0
          try replace hR := up_of hY hR
          try replace uB := up_of hY uB
          try replace uc := up_of hY uc
          try replace t0 := up_of hY t0
          by_cases hmem : ((C : Int), (U : Int)) ∈ L
          · rw [decide_eq_true hmem] at hne
            have hz := Lib.hid (hbad.out (by
              rw [hL2.out]; intro hnd
              rw [List.nodup_append] at hnd
              exact hnd.2.2 _ hmem _ (by simp) rfl))
            clear htest
            try have ld_t0 := World.block_lt_of_cell? _ _ t0
            try have ld_x0 := World.block_lt_of_cell? _ _ x0
            refine region_q (by kernel_rfl) (by kernel_rfl) ?_
            dsimp only [List.toList_toArray]
            repeat (first
             | go_big_quiet_skip
             | (go_big_quiet_want
                first
                | (refine qq_det ?_
                   apply Exists.intro; refine ⟨fun W' hW' => ?_, ?_⟩
                   (· have hk := cellB hW'; go_simp; try (first | rfl | rw [if_pos (by omega)]))
                   simp only [Act.put, List.setIfInBounds_toArray, List.set_cons_zero, List.set_cons_succ]; go_big_quiet_on)))
            refine wpQuiet_nil ?_
            intro W1 hb
            try replace hR := up_of hb hR
            try replace uB := up_of hb uB
            try replace uc := up_of hb uc
            try replace t0 := up_of hb t0
            try replace hY := up_of hb hY
            try replace x0 := up_of hb x0
            try replace x1 := up_of hb x1
            try replace xl := up_of hb xl
            go_wp2
            go_ret
            exact ⟨ret_bool hz.out, hR⟩
          · rw [decide_eq_false hmem] at hne
            clear htest
            have hN2 : Hid ((L ++ [((C : Int), (U : Int))]).Nodup ∧ ∀ y ∈ L ++ [((C : Int), (U : Int))], 0 ≤ y.2 ∧ y.2 < p) := by
              refine ⟨?_, ?_⟩
              · rw [List.nodup_append]
                refine ⟨hN.out.1, by simp, ?_⟩
                rintro a ha b hb rfl
                simp at hb; subst hb; exact hmem ha
              · intro y hy
                rcases List.mem_append.1 hy with hy | hy
                · exact hN.out.2 y hy
                · simp at hy; subst hy; exact ⟨by simp, e2⟩
            replace hmem := Lib.hid hmem
            clear e2
            try have ld_t0 := World.block_lt_of_cell? _ _ t0
            try have ld_x0 := World.block_lt_of_cell? _ _ x0
            refine region_q (by kernel_rfl) (by kernel_rfl) ?_
            dsimp only [List.toList_toArray]
            repeat (first
             | go_big_quiet_skip
             | (go_big_quiet_want
                first
                | (refine qq_det ?_
                   apply Exists.intro; refine ⟨fun W' hW' => ?_, ?_⟩
                   (· have hk := cellB hW'; go_simp; try (first | rfl | rw [if_pos (by omega)]))
                   simp only [Act.put, List.setIfInBounds_toArray, List.set_cons_zero, List.set_cons_succ]; go_big_quiet_on)))
            refine wpQuiet_nil ?_
            intro W1 hb
            try replace hR := up_of hb hR
            try replace uB := up_of hb uB
            try replace uc := up_of hb uc
            try replace t0 := up_of hb t0
            try replace hY := up_of hb hY
            try replace x0 := up_of hb x0
            try replace x1 := up_of hb x1
            try replace xl := up_of hb xl
            have uf := uB.frozen C
            go_wp2
            go_roundw
            case rel =>
              refine ⟨i + 1, by omega, by go_num, ?_, L ++ [((C : Int), (U : Int))], ?_, hN2, ?_⟩
              · repeat (first | (with_reducible exact hR) | (with_reducible refine Below.drew ?_) | ((with_reducible refine Below.setC ?_ ?_); (focus (first | omega | (simp; done) | (simp; omega)))) | ((with_reducible refine Below.allo ?_ ?_); (focus (first | omega | (simp; done) | (simp; omega)))))
              · show SL = _
                rw [hL2.out]; simp
              · refine Row.of ?_
                repeat (first | (with_reducible refine RowG.base uB ?_) | (with_reducible refine RowG.drew ?_) | (with_reducible refine RowG.set ?_) | ((with_reducible refine RowG.other ?_ ?_); (focus (first | omega | (simp; done) | (simp; omega)))) | (with_reducible refine RowG.alloc ?_))
                exact hms.out
            case measure => exact meas hli
        · obtain rfl : i = k[n].length := by omega
          have hL2 : Hid (SL = L ++ slots (k.drop (n + 1)) (st.drop (n + 1)) p) := by
            show SL = _
            rw [hL.out]; simp
          go_wp2
          go_roundw
          case rel => exact ⟨n + 1, by omega, by go_num, hR, L, hL2, hN, uB⟩
          case measure => exact meas hlt
    · obtain rfl : n = k.length := by omega
      have hz := Lib.hid (hgood.out (by rw [hL.out, hen.out, List.append_nil]; exact hN.out.1))
      go_wp2
      go_ret
      exact ⟨ret_bool hz.out, hB⟩
end Go.Proofs.Ytgeoehokojijdaa
