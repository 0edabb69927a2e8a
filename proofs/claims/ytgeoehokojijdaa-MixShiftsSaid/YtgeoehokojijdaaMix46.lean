/- Kernels one of which is shifted: the reference. -/
import Derived.Test.YtgeoehokojijdaaMix45
namespace Go.Proofs.Ytgeoehokojijdaa
open Go.RowKit

theorem mapT_succ (e : Int) {l : List Clm} {u : Nat} (hu : u < l.length) : clmE.all ((l.take (u + 1)).map (addT e)) = clmE.all ((l.take u).map (addT e)) ++ [.int .i64 l[u].cell, .int .i64 (l[u].time + e)] := by
  rw [List.take_succ_eq_append_getElem hu, List.map_append, Elt.all_append, List.map_cons, List.map_nil, Elt.all_single]; rfl
theorem mapT_len (e : Int) {l : List Clm} {u : Nat} (hu : u ≤ l.length) : ((l.take u).map (addT e)).length = u := by rw [List.length_map, List.length_take]; omega
set_option maxRecDepth 100000 in
set_option maxHeartbeats 2000000 in
theorem rShifted_c (s : Option Addr) (cap : Nat) (k : List (List Clm)) (q d : Int) (w : World) (h : Ker w s cap k) (hq : -9223372036854775808 ≤ q ∧ q ≤ 9223372036854775807) (hd : -9223372036854775808 ≤ d ∧ d ≤ 9223372036854775807) :
    Calls Try.prog 41 #[.slice s k.length cap, .int .i64 q, .int .i64 d] w (KersErr (shR k q d) (shE k q d) w) := by
  have hkl := h.len
  have hva := fun W (h : Ker W s cap k) => rValid_c s cap k W h
  cases h1 : vldB k
  · have e0 : shE k q d = 90 := by simp [shE, h1]
    rw [sh_none (by rw [e0]; decide), e0]
    rw [h1] at hva
    replace hva := Lib.hid hva
    clear h1 e0
    go_enter Try.func41, Try.ntmps41
    go_wp2_with (first | (go_at_call 27; refine (hva.out _ h).mono ?_; rintro e W1 ⟨rfl, hb⟩; (try replace h := up_of hb h)))
    go_ret2
    exact KersErr.nil hb
  rw [h1] at hva
  replace hva := Lib.hid hva
  have hk3 := vldB_k h1
  cases h2 : bw 0 q (k.length - 1)
  · have e0 : shE k q d = 2 := by simp [shE, h1, h2]
    rw [sh_none (by rw [e0]; decide), e0]
    clear h1 e0
    go_enter Try.func41, Try.ntmps41
    go_wp2_with (first | (go_at_call 27; refine (hva.out _ h).mono ?_; rintro e W1 ⟨rfl, hb⟩; (try replace h := up_of hb h)) | (go_at_call 57; refine (isOne_c _ _ _ _ _).mono ?_; rintro e w' ⟨rfl, rfl⟩))
    go_ret2
    exact KersErr.nil hb
  have hqb := bw_iff.1 h2
  cases h3 : bw (-50) d 50
  · have e0 : shE k q d = 2 := by simp [shE, h1, h2, h3]
    rw [sh_none (by rw [e0]; decide), e0]
    have hlohi : d < -50 ∨ (¬ d < -50 ∧ 50 < d) := by
      have h4 : ¬ (-50 ≤ d ∧ d ≤ 50) := fun hh => by rw [bw_iff.2 hh] at h3; cases h3
      omega
    clear h1 e0 h3 hqb
    rcases hlohi with h4 | ⟨h4, h5⟩
    all_goals
      go_enter Try.func41, Try.ntmps41
      go_wp2_with (first | (go_at_call 27; refine (hva.out _ h).mono ?_; rintro e W1 ⟨rfl, hb⟩; (try replace h := up_of hb h)) | (go_at_call 57; refine (isOne_c _ _ _ _ _).mono ?_; rintro e w' ⟨rfl, rfl⟩))
      go_ret2
      exact KersErr.nil hb
  have hdb := bw_iff.1 h3
  have hd1 : ¬ d < -50 := by omega
  have hd2 : ¬ 50 < d := by omega
  have hfin0 := sh_fin h1 h2 h3
  obtain ⟨q, rfl⟩ : ∃ n : Nat, q = n := ⟨q.toNat, by omega⟩
  have hlb : ∀ l ∈ k, l.length ≤ 20 ∧ ∀ c ∈ l, (0 ≤ c.cell ∧ c.cell ≤ 15) ∧ 0 ≤ c.time ∧ c.time ≤ 50 := fun l hl => ⟨(vldB_l h1 hl).2.2, fun c hc => vldB_c h1 hl hc⟩
  have hK1 := fun (i : Nat) hi => shift_succ (k := k) (q := (q : Int)) (d := d) (i := i) hi
  have hKl := shift_len k q d
  have hKs : ∀ l ∈ shiftK k q d, l.length ≤ 1000 := shift_lens fun l hl => by have := (hlb l hl).1; omega
  obtain ⟨K0, hK0⟩ : ∃ x, shiftK k q d = x := ⟨_, rfl⟩
  rw [hK0] at hfin0 hKl hKs
  simp only [hK0] at hK1
  have c9 := fun W s c (h : Ker W s c K0) => rValid_c s c K0 W h
  obtain ⟨RK, hRK⟩ : ∃ x, shR k q d = x := ⟨_, rfl⟩
  obtain ⟨RE, hRE⟩ : ∃ x, shE k q d = x := ⟨_, rfl⟩
  obtain ⟨VB, hVB⟩ : ∃ x, vldB K0 = x := ⟨_, rfl⟩
  rw [hRK, hRE, hVB] at hfin0
  rw [hRK, hRE]
  simp only [hVB] at c9
  have hfull : K0.take k.length = K0 := by rw [← hKl, List.take_length]
  replace hfin0 := Lib.hid hfin0; replace hlb := Lib.hid hlb; replace hK1 := Lib.hid hK1; replace hKl := Lib.hid hKl; replace hKs := Lib.hid hKs; replace c9 := Lib.hid c9; replace hfull := Lib.hid hfull
  clear hK0 hRK hRE hVB h1 hqb hq hd
  have h0 := Lib.hid h
  go_enter Try.func41, Try.ntmps41
  go_upto_region 5 with (first | (go_at_call 27; refine (hva.out _ h).mono ?_; rintro e W1 ⟨rfl, hb⟩; (try replace h := up_of hb h)) | (go_at_call 57; refine (isOne_c _ _ _ _ _).mono ?_; rintro e w' ⟨rfl, rfl⟩))
  have hB := hb
  clear hb h2 h3 hva
  clear h
  go_wp2
  go_loopw [8, 31] (fun v ii V => ∃ (i : Nat) (ss : List Sv), i ≤ k.length ∧ ii = .int .i64 i ∧ V.ownsRow w.heap.size 40 1 v ss.length (svE.all ss) ∧ Inn clmE V v ss (K0.take i) ∧ Below w.heap.size w V) (fun _ ii _ => k.length - (intOf ii).toNat)
  case atStart => exact ⟨0, [], by omega, rfl, World.ownsRow_nil _ _ _ _, Inn.nil, hB⟩
  case round =>
    clear hB
    obtain ⟨i, ss, hi, rfl, hown, hinn, hB⟩ := hrel
    by_cases hli : i < k.length
    · have hBs := hB.size
      obtain ⟨bk, ok, sa, sc, rfl, hbk, x0, hsl, hnn, -⟩ := (up_of hB h0.out).ss.at hli
      have hlc := hlb.out _ (List.getElem_mem hli)
      have e1 := hK1.out i hli
      obtain ⟨l, hl⟩ : ∃ l, k[i] = l := ⟨_, rfl⟩
      rw [hl] at x0 hsl hlc e1
      replace hl := Lib.hid hl
      have hl20 := hlc.1
      have hcb := Lib.hid hlc.2
      have i4 : (0 : Int) ≤ (i : Int) := by omega
      have i5 : (i : Int) < (k.length : Int) := by omega
      obtain ⟨wo, hwo⟩ : ∃ wo : World, wo = wr := ⟨_, rfl⟩
      subst hwo
      replace hown := Lib.hid hown; replace hinn := Lib.hid hinn; replace hsl := Lib.hid hsl
      clear hlc hnn
      obtain ⟨ee, hee, hel⟩ : ∃ ee : Int, (if (i : Int) = (q : Int) then d else 0) = ee ∧ (-50 ≤ ee ∧ ee ≤ 50) := ⟨_, rfl, by split <;> omega⟩
      rw [hee] at e1
      have hLl : (l.map (addT ee)).length = l.length := List.length_map _
      have hmx : (l.take l.length).map (addT ee) = l.map (addT ee) := by rw [List.take_length]
      have hms := fun (u : Nat) hu => mapT_succ ee (l := l) (u := u) hu
      have hml := fun (u : Nat) hu => mapT_len ee (l := l) (u := u) hu
      have hm0 : clmE.all ((l.take 0).map (addT ee)) = [] := rfl
      replace e1 := Lib.hid e1; replace hLl := Lib.hid hLl; replace hmx := Lib.hid hmx; replace hms := Lib.hid hms; replace hml := Lib.hid hml; replace hm0 := Lib.hid hm0
      by_cases hiq : i = q
      · rw [if_pos (by omega)] at hee
        subst hee
        have hiq2 : ((i : Int) == (q : Int)) = true := by rw [beq_iff_eq]; omega
        replace hiq := Lib.hid hiq
        go_wp2
        go_loopw [11, 38] (fun m ii V => ∃ u : Nat, u ≤ l.length ∧ ii = .int .i64 u ∧ V.ownsRow wo.heap.size 65 2 m u (clmE.all ((l.take u).map (addT d))) ∧ Below wo.heap.size wo V) (fun _ ii _ => l.length - (intOf ii).toNat)
        case atStart => exact ⟨0, by omega, rfl, World.ownsRow_nil _ _ _ _, Below.refl _ _⟩
        case round =>
          obtain ⟨u, hu, rfl, hol, hbl⟩ := hrel
          by_cases hlu : u < l.length
          · obtain ⟨bx, ox, rfl, hbx, y0, y1⟩ := (up_of hbl hsl.out).clm_at hlu
            have hw := hcb.out _ (List.getElem_mem hlu)
            have e2 := hms.out u hlu
            obtain ⟨x, hx⟩ : ∃ x, l[u] = x := ⟨_, rfl⟩
            rw [hx] at y0 y1 hw e2
            replace hx := Lib.hid hx
            have hwt : IntKind.i64.wrap (x.time + d) = x.time + d := i64_small (by omega)
            have i6 : (0 : Int) ≤ (u : Int) := by omega
            have i7 : (u : Int) < (l.length : Int) := by omega
            replace e2 := Lib.hid e2
            have hbls := hbl.size
            replace hol := Lib.hid hol
            go_upto_region 13 with (fail)
            refine wp_world fun Y HY => ?_
            have hY : Below wr.heap.size wr Y := by rw [HY.out]; (repeat (first | exact Below.refl _ _ | refine Below.alloc ?_ (by simp; try omega) _ | refine Below.setCell ?_ (by simp) _ | refine Below.drew ?_))
            have xB : Row Y (wr.heap.size) 65 #[.int .i64 x.cell, .int .i64 x.time] := (by rw [HY.out]; (repeat (first | (refine blk_new ?_; simp; done) | refine blk_old ?_ _)) : Y.heap[wr.heap.size]? = some (.cells #[.int .i64 x.cell, .int .i64 x.time] 65 (0, 0)))
            have x0 : Y.cell? ⟨wr.heap.size, 0, none⟩ = some (.int .i64 x.cell) := by rw [HY.out]; simp [go_sem]
            have x1 : Y.cell? ⟨wr.heap.size, 1, none⟩ = some (.int .i64 x.time) := by rw [HY.out]; simp [go_sem]
            have xl : wr.heap.size < Y.heap.size := World.block_lt_of_cell? Y _ x0
            try replace h := up_of hY h
            have xf := fun i => Row.frozen xB i
            go_upto_region 15 with (fail)
            refine wp_world fun Z HZ => ?_
            have zB : Row Z wr.heap.size 65 #[.int .i64 x.cell, .int .i64 (x.time + d)] := by
              rw [HZ.out]
              refine Row.of ?_
              repeat (first | (with_reducible refine RowG.base xB ?_) | (with_reducible refine RowG.drew ?_) | (with_reducible refine RowG.set ?_) | ((with_reducible refine RowG.other ?_ ?_); (focus (first | omega | (simp; done) | (simp; omega)))) | (with_reducible refine RowG.alloc ?_))
              rfl
            have hYZ : Below wr.heap.size wr Z := by
              rw [HZ.out]
              repeat (first | (with_reducible exact hY) | (with_reducible refine Below.drew ?_) | ((with_reducible refine Below.setC ?_ ?_); (focus (first | omega | (simp; done) | (simp; omega)))) | ((with_reducible refine Below.allo ?_ ?_); (focus (first | omega | (simp; done) | (simp; omega)))))
            obtain ⟨z0, z1⟩ := zB.two
            clear HZ xB x0 x1
            have holZ := up_of hYZ hol.out
            have hblZ := hbl.trans (hYZ.mono hbls)
            have hblZs := hblZ.size
            go_wp2_with (first | (at_builtin; obtain ⟨i0, hi, hz0, hz1, hz2⟩ := info_parts info_clm; refine wpList_append_own _ rfl _ _ 40 rfl wo.heap.size 65 i0 (.agg #[.int .i64 0, .int .i64 0]) 2 16 Try.underlying40 hi hz0 hz1 hz2 rfl (by decide) _ _ _ rfl (holZ.alloc _) ⟨Z.heap.size, 0, none⟩ 1 1 [.int .i64 x.cell, .int .i64 (x.time + d)] rfl rfl (news_new _ _ _) (by simp [Value.oneCell']) (by unfold maxLen; omega) (by omega) (by simp; omega) ?_; intro v1 w1 hown1 hgrow hnil))
            go_roundw
            case rel => exact ⟨u + 1, by omega, by go_num, by rw [e2.out]; exact hown1, Up.grown hblZ hblZs holZ hgrow⟩
            case measure => exact meas hlu
          · obtain rfl : u = l.length := by omega
            rw [hmx.out] at hol
            obtain ⟨sl, cl, rfl, _⟩ := owns_shape hol
            replace hLl := hLl.out
            have hsz := own_lenL hLl hol
            have hsV := SlS.of_own (E := clmE) hsz
            have hcp := own_cap hsz
            have hap : ∀ b o, sl = some ⟨b, o, none⟩ → b < (World.heap wr).size ∧ u8.ownBlock ≠ some b := fun b o e => by
              have a1 := hsz.lt b (by rw [e]; rfl)
              exact ⟨a1.2, fun e2 => by have a2 := hown.out.lt b e2; omega⟩
            have hownV := up_of hbl hown.out
            have hinnV := up_of hbl hinn.out
            have hBV := hB.trans (hbl.mono hBs)
            have hBVs := hBV.size
            have hpush : ∀ o w1 v1, (World.alloc wr o).grownBy w1 u8.ownBlock → (v1.ownBlock = u8.ownBlock ∨ v1.ownBlock = some (World.alloc wr o).heap.size) → Inn clmE w1 v1 (ss ++ [⟨sl, l.length, cl⟩]) (K0.take (i + 1)) := fun o w1 v1 g1 g2 => by
              have bb := (Below.refl ((World.heap wr).size) wr).alloc (Nat.le_refl _) o
              have := Inn.push (up_of bb hinnV) g1 g2 (up_of bb hsV) hcp.2 hcp.1 (fun b o e => ⟨by have := (hap b o e).1; simp at this ⊢; omega, (hap b o e).2⟩)
              rw [e1.out]
              first | exact this | (rw [hLl] at this; exact this)
            have hfin : ∀ o w1, (World.alloc wr o).grownBy w1 u8.ownBlock → Below w.heap.size w w1 := fun o w1 g1 => (hBV.alloc hBVs o).grown g1 (by simp; omega) (fun j hj => (hown.out.lt j hj).1)
            have hss3 : ss.length ≤ 3 := by have := hinn.out.len; rw [List.length_take] at this; omega
            have hev : ∀ x : Sv, svE.all (ss ++ [x]) = svE.all ss ++ [.slice x.addr x.len x.cap] := fun x => by simp [Elt.all, svE]
            replace hpush := Lib.hid hpush; replace hfin := Lib.hid hfin; replace hev := Lib.hid hev
            have hown3 := Lib.hid hownV
            clear hsz hsV hcp hap hownV hinnV hol
            go_wp2_with (first | (at_builtin; obtain ⟨i0, hi0, hz0, hz1, hz2⟩ := info_parts info_clms; refine wpList_append_own_at _ rfl _ _ 22 rfl w.heap.size 40 i0 _ 1 24 Try.underlying22 hi0 hz0 hz1 hz2 rfl (by decide) _ _ _ rfl (hown3.out.alloc _) ⟨(World.heap wr).size, 0, none⟩ 1 1 [.slice sl l.length cl] rfl rfl (news_new _ _ _) (by simp [Value.oneCell']) (by unfold maxLen; omega) (by omega) (by simp; omega) ?_; intro v1 w1 hown1 hgrow hnil hat1))
            first
            | (refine ⟨⟨v1, _, _, _, _, ⟨i + 1, ss ++ [⟨sl, l.length, cl⟩], by omega, by go_num, ?_, hpush.out _ _ _ hgrow hat1, hfin.out _ _ hgrow⟩, rfl, rfl, rfl, rfl, rfl⟩, meas hli⟩
               rw [hev.out, List.length_append]; exact hown1)
            | (go_roundw
               case rel => exact ⟨i + 1, ss ++ [⟨sl, l.length, cl⟩], by omega, by go_num, by rw [hev.out, List.length_append]; exact hown1, hpush.out _ _ _ hgrow hat1, hfin.out _ _ hgrow⟩
               case measure => exact meas hli)

      · rw [if_neg (by omega)] at hee
        subst hee
        have hiq2 : ((i : Int) == (q : Int)) = false := by rw [beq_eq_false_iff_ne]; omega
        replace hiq := Lib.hid hiq
        go_wp2
        go_loopw [11, 38] (fun m ii V => ∃ u : Nat, u ≤ l.length ∧ ii = .int .i64 u ∧ V.ownsRow wo.heap.size 65 2 m u (clmE.all ((l.take u).map (addT 0))) ∧ Below wo.heap.size wo V) (fun _ ii _ => l.length - (intOf ii).toNat)
        case atStart => exact ⟨0, by omega, rfl, World.ownsRow_nil _ _ _ _, Below.refl _ _⟩
        case round =>
          obtain ⟨u, hu, rfl, hol, hbl⟩ := hrel
          by_cases hlu : u < l.length
          · obtain ⟨bx, ox, rfl, hbx, y0, y1⟩ := (up_of hbl hsl.out).clm_at hlu
            have hw := hcb.out _ (List.getElem_mem hlu)
            have e2 := hms.out u hlu
            obtain ⟨x, hx⟩ : ∃ x, l[u] = x := ⟨_, rfl⟩
            rw [hx] at y0 y1 hw e2
            replace hx := Lib.hid hx
            rw [Int.add_zero] at e2
            have i6 : (0 : Int) ≤ (u : Int) := by omega
            have i7 : (u : Int) < (l.length : Int) := by omega
            replace e2 := Lib.hid e2
            have hbls := hbl.size
            replace hol := Lib.hid hol
            go_upto_region 13 with (fail)
            refine wp_world fun Y HY => ?_
            have hY : Below wr.heap.size wr Y := by rw [HY.out]; (repeat (first | exact Below.refl _ _ | refine Below.alloc ?_ (by simp; try omega) _ | refine Below.setCell ?_ (by simp) _ | refine Below.drew ?_))
            have xB : Row Y (wr.heap.size) 65 #[.int .i64 x.cell, .int .i64 x.time] := (by rw [HY.out]; (repeat (first | (refine blk_new ?_; simp; done) | refine blk_old ?_ _)) : Y.heap[wr.heap.size]? = some (.cells #[.int .i64 x.cell, .int .i64 x.time] 65 (0, 0)))
            have x0 : Y.cell? ⟨wr.heap.size, 0, none⟩ = some (.int .i64 x.cell) := by rw [HY.out]; simp [go_sem]
            have x1 : Y.cell? ⟨wr.heap.size, 1, none⟩ = some (.int .i64 x.time) := by rw [HY.out]; simp [go_sem]
            have xl : wr.heap.size < Y.heap.size := World.block_lt_of_cell? Y _ x0
            try replace h := up_of hY h
            try replace hY := up_of hY hY
            try replace xB := up_of hY xB
            try replace x0 := up_of hY x0
            try replace x1 := up_of hY x1
            try replace xl := up_of hY xl
            have holZ := up_of hY hol.out
            have hblZ := hbl.trans (hY.mono hbls)
            have hblZs := hblZ.size
            go_wp2_with (first | (at_builtin; obtain ⟨i0, hi, hz0, hz1, hz2⟩ := info_parts info_clm; refine wpList_append_own _ rfl _ _ 40 rfl wo.heap.size 65 i0 (.agg #[.int .i64 0, .int .i64 0]) 2 16 Try.underlying40 hi hz0 hz1 hz2 rfl (by decide) _ _ _ rfl (holZ.alloc _) ⟨Y.heap.size, 0, none⟩ 1 1 [.int .i64 x.cell, .int .i64 x.time] rfl rfl (news_new _ _ _) (by simp [Value.oneCell']) (by unfold maxLen; omega) (by omega) (by simp; omega) ?_; intro v1 w1 hown1 hgrow hnil))
            go_roundw
            case rel => exact ⟨u + 1, by omega, by go_num, by rw [e2.out]; exact hown1, Up.grown hblZ hblZs holZ hgrow⟩
            case measure => exact meas hlu
          · obtain rfl : u = l.length := by omega
            rw [hmx.out] at hol
            obtain ⟨sl, cl, rfl, _⟩ := owns_shape hol
            replace hLl := hLl.out
            have hsz := own_lenL hLl hol
            have hsV := SlS.of_own (E := clmE) hsz
            have hcp := own_cap hsz
            have hap : ∀ b o, sl = some ⟨b, o, none⟩ → b < (World.heap wr).size ∧ u8.ownBlock ≠ some b := fun b o e => by
              have a1 := hsz.lt b (by rw [e]; rfl)
              exact ⟨a1.2, fun e2 => by have a2 := hown.out.lt b e2; omega⟩
            have hownV := up_of hbl hown.out
            have hinnV := up_of hbl hinn.out
            have hBV := hB.trans (hbl.mono hBs)
            have hBVs := hBV.size
            have hpush : ∀ o w1 v1, (World.alloc wr o).grownBy w1 u8.ownBlock → (v1.ownBlock = u8.ownBlock ∨ v1.ownBlock = some (World.alloc wr o).heap.size) → Inn clmE w1 v1 (ss ++ [⟨sl, l.length, cl⟩]) (K0.take (i + 1)) := fun o w1 v1 g1 g2 => by
              have bb := (Below.refl ((World.heap wr).size) wr).alloc (Nat.le_refl _) o
              have := Inn.push (up_of bb hinnV) g1 g2 (up_of bb hsV) hcp.2 hcp.1 (fun b o e => ⟨by have := (hap b o e).1; simp at this ⊢; omega, (hap b o e).2⟩)
              rw [e1.out]
              first | exact this | (rw [hLl] at this; exact this)
            have hfin : ∀ o w1, (World.alloc wr o).grownBy w1 u8.ownBlock → Below w.heap.size w w1 := fun o w1 g1 => (hBV.alloc hBVs o).grown g1 (by simp; omega) (fun j hj => (hown.out.lt j hj).1)
            have hss3 : ss.length ≤ 3 := by have := hinn.out.len; rw [List.length_take] at this; omega
            have hev : ∀ x : Sv, svE.all (ss ++ [x]) = svE.all ss ++ [.slice x.addr x.len x.cap] := fun x => by simp [Elt.all, svE]
            replace hpush := Lib.hid hpush; replace hfin := Lib.hid hfin; replace hev := Lib.hid hev
            have hown3 := Lib.hid hownV
            clear hsz hsV hcp hap hownV hinnV hol
            go_wp2_with (first | (at_builtin; obtain ⟨i0, hi0, hz0, hz1, hz2⟩ := info_parts info_clms; refine wpList_append_own_at _ rfl _ _ 22 rfl w.heap.size 40 i0 _ 1 24 Try.underlying22 hi0 hz0 hz1 hz2 rfl (by decide) _ _ _ rfl (hown3.out.alloc _) ⟨(World.heap wr).size, 0, none⟩ 1 1 [.slice sl l.length cl] rfl rfl (news_new _ _ _) (by simp [Value.oneCell']) (by unfold maxLen; omega) (by omega) (by simp; omega) ?_; intro v1 w1 hown1 hgrow hnil hat1))
            first
            | (refine ⟨⟨v1, _, _, _, _, ⟨i + 1, ss ++ [⟨sl, l.length, cl⟩], by omega, by go_num, ?_, hpush.out _ _ _ hgrow hat1, hfin.out _ _ hgrow⟩, rfl, rfl, rfl, rfl, rfl⟩, meas hli⟩
               rw [hev.out, List.length_append]; exact hown1)
            | (go_roundw
               case rel => exact ⟨i + 1, ss ++ [⟨sl, l.length, cl⟩], by omega, by go_num, by rw [hev.out, List.length_append]; exact hown1, hpush.out _ _ _ hgrow hat1, hfin.out _ _ hgrow⟩
               case measure => exact meas hli)

    · obtain rfl : i = k.length := by omega
      rw [hfull.out] at hinn
      obtain ⟨s', c', rfl, _⟩ := owns_shape hown
      have hker := Inn.ker hinn hown (by rw [hKl.out]; omega) hKs.out
      have hlen := hinn.len
      have c8 := c9.out _ _ _ hker
      rw [← hlen] at c8
      replace c8 := Lib.hid c8; replace hker := Lib.hid hker; replace hlen := Lib.hid hlen
      have hBs := hB.size
      clear hown hinn
      cases VB
      · obtain ⟨rfl, rfl⟩ := hfin0.out.2 rfl
        go_wp2_with (go_at_call 27; refine c8.out.mono ?_; rintro e A3 ⟨rfl, hb3⟩)
        go_ret2
        exact KersErr.nil (hB.trans (hb3.mono hBs))
      · obtain ⟨rfl, rfl⟩ := hfin0.out.1 rfl
        go_wp2_with (go_at_call 27; refine c8.out.mono ?_; rintro e A3 ⟨rfl, hb3⟩)
        go_ret2
        exact ⟨⟨s', c', by first | rfl | (rw [hlen.out]; rfl), up_of hb3 hker.out⟩, hB.trans (hb3.mono hBs)⟩
end Go.Proofs.Ytgeoehokojijdaa
