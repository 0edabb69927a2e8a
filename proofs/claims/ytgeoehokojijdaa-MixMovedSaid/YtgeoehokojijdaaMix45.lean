/- Kernels one of which is shifted: the program. -/
import Derived.Test.YtgeoehokojijdaaMix44
namespace Go.Proofs.Ytgeoehokojijdaa
open Go.RowKit

theorem info_clms : (Try.prog.info? 40).map (fun i => (i.zero, i.size, i.bytes)) = some (some (.slice none 0 0), 1, 24) := by kernel_rfl
theorem own_lenL {W : World} {base cap n : Nat} {s : Option Addr} {L : List Clm} (hL : L.length = n) (h : W.ownsRow base 65 2 (.slice s n cap) n (clmE.all L)) : W.ownsRow base 65 clmE.size (.slice s L.length cap) L.length (clmE.all L) := by
  subst hL; exact h
theorem own_ex {w : World} {base e size n cap : Nat} {s : Option Addr} {xs : List Value} (h : w.ownsRow base e size (.slice s n cap) n xs) (hn : 0 < n) : ∃ g, s = some ⟨g, 0, none⟩ ∧ base ≤ g ∧ g < w.heap.size := by
  obtain ⟨s', cap', he, hs⟩ := owns_shape h
  simp only [Value.slice.injEq] at he
  obtain ⟨rfl, _, rfl⟩ := he
  rcases hs with ⟨h0, _⟩ | hs
  · omega
  · exact hs
theorem sh_fin {k : List (List Clm)} {q d : Int} (h1 : vldB k = true) (h2 : bw 0 q (k.length - 1) = true) (h3 : bw (-50) d 50 = true) :
    (vldB (shiftK k q d) = true → shR k q d = shiftK k q d ∧ shE k q d = 0) ∧ (vldB (shiftK k q d) = false → shR k q d = [] ∧ shE k q d = 2) :=
  ⟨fun h => by have e : shE k q d = 0 := by simp [shE, h1, h2, h3, h]
               exact ⟨by simp [shR, e], e⟩,
   fun h => by have e : shE k q d = 2 := by simp [shE, h1, h2, h3, h]
               exact ⟨by simp [shR, e], e⟩⟩
set_option maxRecDepth 100000 in
set_option maxHeartbeats 2000000 in
theorem Shifted_c (s : Option Addr) (cap : Nat) (k : List (List Clm)) (q d : Int) (w : World) (h : Ker w s cap k) (hq : -9223372036854775808 ≤ q ∧ q ≤ 9223372036854775807) (hd : -9223372036854775808 ≤ d ∧ d ≤ 9223372036854775807) :
    Calls Try.prog 40 #[.slice s k.length cap, .int .i64 q, .int .i64 d] w (KersErr (shR k q d) (shE k q d) w) := by
  have hkl := h.len
  have hva := fun W (h : Ker W s cap k) => valid_c s cap k W h
  cases h1 : vldB k
  · have e0 : shE k q d = 90 := by simp [shE, h1]
    rw [sh_none (by rw [e0]; decide), e0]
    rw [h1] at hva
    replace hva := Lib.hid hva
    clear h1 e0
    go_enter Try.func40, Try.ntmps40
    go_wp2_with (first | (go_at_call 36; refine (hva.out _ h).mono ?_; rintro e W1 ⟨rfl, hb⟩; (try replace h := up_of hb h)))
    go_ret2
    exact KersErr.nil hb
  rw [h1] at hva
  replace hva := Lib.hid hva
  have hk3 := vldB_k h1
  have hw1 := i64_small (n := (k.length : Int) - 1) (by omega)
  cases h2 : bw 0 q (k.length - 1)
  · have e0 : shE k q d = 2 := by simp [shE, h1, h2]
    rw [sh_none (by rw [e0]; decide), e0]
    clear h1 e0
    go_enter Try.func40, Try.ntmps40
    go_wp2_with (first | (go_at_call 36; refine (hva.out _ h).mono ?_; rintro e W1 ⟨rfl, hb⟩; (try replace h := up_of hb h)) | (go_at_call 54; refine (between_c _ _ _ _).mono ?_; rintro e w' ⟨rfl, rfl⟩))
    go_ret2
    exact KersErr.nil hb
  cases h3 : bw (-50) d 50
  · have e0 : shE k q d = 2 := by simp [shE, h1, h2, h3]
    rw [sh_none (by rw [e0]; decide), e0]
    clear h1 e0
    go_enter Try.func40, Try.ntmps40
    go_wp2_with (first | (go_at_call 36; refine (hva.out _ h).mono ?_; rintro e W1 ⟨rfl, hb⟩; (try replace h := up_of hb h)) | (go_at_call 54; refine (between_c _ _ _ _).mono ?_; rintro e w' ⟨rfl, rfl⟩))
    go_ret2
    exact KersErr.nil hb
  have hqb := bw_iff.1 h2
  have hdb := bw_iff.1 h3
  have hfin0 := sh_fin h1 h2 h3
  obtain ⟨q, rfl⟩ : ∃ n : Nat, q = n := ⟨q.toNat, by omega⟩
  have hlb : ∀ l ∈ k, l.length ≤ 20 ∧ ∀ c ∈ l, (0 ≤ c.cell ∧ c.cell ≤ 15) ∧ 0 ≤ c.time ∧ c.time ≤ 50 := fun l hl => ⟨(vldB_l h1 hl).2.2, fun c hc => vldB_c h1 hl hc⟩
  have hK1 := fun (i : Nat) hi => shift_succ (k := k) (q := (q : Int)) (d := d) (i := i) hi
  have hKl := shift_len k q d
  have hKs : ∀ l ∈ shiftK k q d, l.length ≤ 1000 := shift_lens fun l hl => by have := (hlb l hl).1; omega
  obtain ⟨K0, hK0⟩ : ∃ x, shiftK k q d = x := ⟨_, rfl⟩
  rw [hK0] at hfin0 hKl hKs
  simp only [hK0] at hK1
  have c9 := fun W s c (h : Ker W s c K0) => valid_c s c K0 W h
  obtain ⟨RK, hRK⟩ : ∃ x, shR k q d = x := ⟨_, rfl⟩
  obtain ⟨RE, hRE⟩ : ∃ x, shE k q d = x := ⟨_, rfl⟩
  obtain ⟨VB, hVB⟩ : ∃ x, vldB K0 = x := ⟨_, rfl⟩
  rw [hRK, hRE, hVB] at hfin0
  rw [hRK, hRE]
  simp only [hVB] at c9
  have hfull : K0.take k.length = K0 := by rw [← hKl, List.take_length]
  replace hfin0 := Lib.hid hfin0; replace hlb := Lib.hid hlb; replace hK1 := Lib.hid hK1; replace hKl := Lib.hid hKl; replace hKs := Lib.hid hKs; replace c9 := Lib.hid c9; replace hfull := Lib.hid hfull
  clear hK0 hRK hRE hVB h1 hqb hq hd
  have h0 := Lib.hid h
  go_enter Try.func40, Try.ntmps40
  go_upto_region 5 with (first | (go_at_call 36; refine (hva.out _ h).mono ?_; rintro e W1 ⟨rfl, hb⟩; (try replace h := up_of hb h)) | (go_at_call 54; refine (between_c _ _ _ _).mono ?_; rintro e w' ⟨rfl, rfl⟩))
  have hB := hb
  clear hb h2 h3 hva
  clear h
  go_wp2
  go_loopw [8, 30] (fun v ii V => ∃ (i : Nat) (ss : List Sv), i ≤ k.length ∧ ii = .int .i64 i ∧ V.ownsRow w.heap.size 40 1 v ss.length (svE.all ss) ∧ Inn clmE V v ss (K0.take i) ∧ Below w.heap.size w V) (fun _ ii _ => k.length - (intOf ii).toNat)
  case atStart => exact ⟨0, [], by omega, rfl, World.ownsRow_nil _ _ _ _, Inn.nil, hB⟩
  case round =>
    clear hB
    obtain ⟨i, ss, hi, rfl, hown, hinn, hB⟩ := hrel
    by_cases hli : i < k.length
    · have hBs := hB.size
      obtain ⟨bk, ok, sa, sc, rfl, hbk, x0, hsl, hnn, -⟩ := (up_of hB h0.out).ss.at hli
      have hlc := hlb.out _ (List.getElem_mem hli)
      have e1 := hK1.out i hli
      obtain ⟨l, hl⟩ : ∃ l, k[i] = l := ⟨_, rfl⟩
      rw [hl] at x0 hsl hlc e1
      replace hl := Lib.hid hl
      have hl20 := hlc.1
      have hcb := Lib.hid hlc.2
      have i4 : (0 : Int) ≤ (i : Int) := by omega
      have i5 : (i : Int) < (k.length : Int) := by omega
      have hcl := Lib.hid (clm_clone sa sc l _ hsl hnn (by omega))
      obtain ⟨wo, hwo⟩ : ∃ wo : World, wo = wr := ⟨_, rfl⟩
      subst hwo
      replace hown := Lib.hid hown; replace hinn := Lib.hid hinn
      clear hlc hsl hnn
      by_cases hiq : i = q
      · rw [if_pos (by omega)] at e1
        replace e1 := Lib.hid e1
        have hLl : (l.map (addT d)).length = l.length := List.length_map _
        have hiq2 : ((i : Int) == (q : Int)) = true := by rw [beq_iff_eq]; omega
        replace hiq := Lib.hid hiq
        have hmx := mixT_all d l
        replace hLl := Lib.hid hLl; replace hmx := Lib.hid hmx
        go_wp2_with (go_at_call 63; refine hcl.out.mono ?_; rintro e N1 ⟨sl, cl, rfl, hol, hbl⟩)
        go_loopw [39] (fun ii V => ∃ u : Nat, u ≤ l.length ∧ ii = .int .i64 u ∧ V.ownsRow wo.heap.size 65 2 (.slice sl l.length cl) l.length (clmE.all (mixT d l u)) ∧ Below wo.heap.size wo V) (fun ii _ => l.length - (intOf ii).toNat)
        case atStart => exact ⟨0, by omega, rfl, hol, hbl⟩
        case round =>
          clear hol hbl hcl
          obtain ⟨u, hu, rfl, hol, hbl⟩ := hrel
          by_cases hlu : u < l.length
          · obtain ⟨g, rfl, hg1, hg2⟩ := own_ex hol (by omega)
            have hw := hcb.out _ (List.getElem_mem hlu)
            have w0 := owns_cell hol (mixT_cell hlu)
            have gf := World.ownsRow.frozenAt hol (u * 2 + 1)
            have h4 := hol.stored (u * 2 + 1) (.int .i64 (l[u].time + d))
            rw [mixT_cells d l hlu] at h4
            have hbl2 := hbl.grown h4.2 hbl.size (fun j hj => by cases hj; exact hg1)
            have hwt : IntKind.i64.wrap (l[u].time + d) = l[u].time + d := i64_small (by omega)
            obtain ⟨t, ht⟩ : ∃ t, l[u].time = t := ⟨_, rfl⟩
            rw [ht] at w0 h4 hw hwt hbl2
            replace ht := Lib.hid ht
            have i6 : (0 : Int) ≤ (u : Int) := by omega
            have i7 : (u : Int) < (l.length : Int) := by omega
            have h5 := Lib.hid h4.1
            replace hbl2 := Lib.hid hbl2
            clear h4 hol
            go_wp2
            go_roundw
            case rel => exact ⟨u + 1, by omega, by go_num, h5.out, hbl2.out⟩
            case measure => exact meas hlu
          · obtain rfl : u = l.length := by omega
            rw [hmx.out] at hol
            replace hLl := hLl.out
            have hsz := own_lenL hLl hol
            have hsV := SlS.of_own (E := clmE) hsz
            have hcp := own_cap hsz
            have hap : ∀ b o, sl = some ⟨b, o, none⟩ → b < (World.heap wr).size ∧ u8.ownBlock ≠ some b := fun b o e => by
              have a1 := hsz.lt b (by rw [e]; rfl)
              exact ⟨a1.2, fun e2 => by have a2 := hown.out.lt b e2; omega⟩
            have hownV := up_of hbl hown.out
            have hinnV := up_of hbl hinn.out
            have hBV := hB.trans (hbl.mono hBs)
            have hBVs := hBV.size
            have hpush : ∀ o w1 v1, (World.alloc wr o).grownBy w1 u8.ownBlock → (v1.ownBlock = u8.ownBlock ∨ v1.ownBlock = some (World.alloc wr o).heap.size) → Inn clmE w1 v1 (ss ++ [⟨sl, l.length, cl⟩]) (K0.take (i + 1)) := fun o w1 v1 g1 g2 => by
              have bb := (Below.refl ((World.heap wr).size) wr).alloc (Nat.le_refl _) o
              have := Inn.push (up_of bb hinnV) g1 g2 (up_of bb hsV) hcp.2 hcp.1 (fun b o e => ⟨by have := (hap b o e).1; simp at this ⊢; omega, (hap b o e).2⟩)
              rw [e1.out]
              first | exact this | (rw [hLl] at this; exact this)
            have hfin : ∀ o w1, (World.alloc wr o).grownBy w1 u8.ownBlock → Below w.heap.size w w1 := fun o w1 g1 => (hBV.alloc hBVs o).grown g1 (by simp; omega) (fun j hj => (hown.out.lt j hj).1)
            have hss3 : ss.length ≤ 3 := by have := hinn.out.len; rw [List.length_take] at this; omega
            have hev : ∀ x : Sv, svE.all (ss ++ [x]) = svE.all ss ++ [.slice x.addr x.len x.cap] := fun x => by simp [Elt.all, svE]
            replace hpush := Lib.hid hpush; replace hfin := Lib.hid hfin; replace hev := Lib.hid hev
            have hown3 := Lib.hid hownV
            clear hsz hsV hcp hap hownV hinnV hol
            go_wp2_with (first | (at_builtin; obtain ⟨i0, hi0, hz0, hz1, hz2⟩ := info_parts info_clms; refine wpList_append_own_at _ rfl _ _ 22 rfl w.heap.size 40 i0 _ 1 24 Try.underlying22 hi0 hz0 hz1 hz2 rfl (by decide) _ _ _ rfl (hown3.out.alloc _) ⟨(World.heap wr).size, 0, none⟩ 1 1 [.slice sl l.length cl] rfl rfl (news_new _ _ _) (by simp [Value.oneCell']) (by unfold maxLen; omega) (by omega) (by simp; omega) ?_; intro v1 w1 hown1 hgrow hnil hat1))
            first
            | (refine ⟨⟨v1, _, _, _, _, ⟨i + 1, ss ++ [⟨sl, l.length, cl⟩], by omega, by go_num, ?_, hpush.out _ _ _ hgrow hat1, hfin.out _ _ hgrow⟩, rfl, rfl, rfl, rfl, rfl⟩, meas hli⟩
               rw [hev.out, List.length_append]; exact hown1)
            | (go_roundw
               case rel => exact ⟨i + 1, ss ++ [⟨sl, l.length, cl⟩], by omega, by go_num, by rw [hev.out, List.length_append]; exact hown1, hpush.out _ _ _ hgrow hat1, hfin.out _ _ hgrow⟩
               case measure => exact meas hli)

      · rw [if_neg (by omega), addT_zero] at e1
        replace e1 := Lib.hid e1
        have hiq2 : ((i : Int) == (q : Int)) = false := by rw [beq_eq_false_iff_ne]; omega
        replace hiq := Lib.hid hiq
        go_wp2_with (go_at_call 63; refine hcl.out.mono ?_; rintro e N1 ⟨sl, cl, rfl, hol, hbl⟩)
        replace hol := Lib.hid hol; replace hbl := Lib.hid hbl
        go_loop [39] (fun ii => ∃ u : Nat, u ≤ l.length ∧ ii = .int .i64 u) (fun ii => l.length - (intOf ii).toNat)
        case atStart => exact ⟨0, by omega, rfl⟩
        case round =>
          clear hcl
          obtain ⟨u, hu, rfl⟩ := hrel
          by_cases hlu : u < l.length
          · have i6 : (0 : Int) ≤ (u : Int) := by omega
            have i7 : (u : Int) < (l.length : Int) := by omega
            go_wp2
            go_round
            case rel => exact ⟨u + 1, by omega, by go_num⟩
            case measure => exact meas hlu
          · obtain rfl : u = l.length := by omega
            replace hol := hol.out
            replace hbl := hbl.out
            have hLl : l.length = l.length := rfl
            have hsz := own_lenL hLl hol
            have hsV := SlS.of_own (E := clmE) hsz
            have hcp := own_cap hsz
            have hap : ∀ b o, sl = some ⟨b, o, none⟩ → b < (World.heap N1).size ∧ u8.ownBlock ≠ some b := fun b o e => by
              have a1 := hsz.lt b (by rw [e]; rfl)
              exact ⟨a1.2, fun e2 => by have a2 := hown.out.lt b e2; omega⟩
            have hownV := up_of hbl hown.out
            have hinnV := up_of hbl hinn.out
            have hBV := hB.trans (hbl.mono hBs)
            have hBVs := hBV.size
            have hpush : ∀ o w1 v1, (World.alloc N1 o).grownBy w1 u8.ownBlock → (v1.ownBlock = u8.ownBlock ∨ v1.ownBlock = some (World.alloc N1 o).heap.size) → Inn clmE w1 v1 (ss ++ [⟨sl, l.length, cl⟩]) (K0.take (i + 1)) := fun o w1 v1 g1 g2 => by
              have bb := (Below.refl ((World.heap N1).size) N1).alloc (Nat.le_refl _) o
              have := Inn.push (up_of bb hinnV) g1 g2 (up_of bb hsV) hcp.2 hcp.1 (fun b o e => ⟨by have := (hap b o e).1; simp at this ⊢; omega, (hap b o e).2⟩)
              rw [e1.out]
              first | exact this | (rw [hLl] at this; exact this)
            have hfin : ∀ o w1, (World.alloc N1 o).grownBy w1 u8.ownBlock → Below w.heap.size w w1 := fun o w1 g1 => (hBV.alloc hBVs o).grown g1 (by simp; omega) (fun j hj => (hown.out.lt j hj).1)
            have hss3 : ss.length ≤ 3 := by have := hinn.out.len; rw [List.length_take] at this; omega
            have hev : ∀ x : Sv, svE.all (ss ++ [x]) = svE.all ss ++ [.slice x.addr x.len x.cap] := fun x => by simp [Elt.all, svE]
            replace hpush := Lib.hid hpush; replace hfin := Lib.hid hfin; replace hev := Lib.hid hev
            have hown3 := Lib.hid hownV
            clear hsz hsV hcp hap hownV hinnV hol
            go_wp2_with (first | (at_builtin; obtain ⟨i0, hi0, hz0, hz1, hz2⟩ := info_parts info_clms; refine wpList_append_own_at _ rfl _ _ 22 rfl w.heap.size 40 i0 _ 1 24 Try.underlying22 hi0 hz0 hz1 hz2 rfl (by decide) _ _ _ rfl (hown3.out.alloc _) ⟨(World.heap N1).size, 0, none⟩ 1 1 [.slice sl l.length cl] rfl rfl (news_new _ _ _) (by simp [Value.oneCell']) (by unfold maxLen; omega) (by omega) (by simp; omega) ?_; intro v1 w1 hown1 hgrow hnil hat1))
            first
            | (refine ⟨⟨v1, _, _, _, _, ⟨i + 1, ss ++ [⟨sl, l.length, cl⟩], by omega, by go_num, ?_, hpush.out _ _ _ hgrow hat1, hfin.out _ _ hgrow⟩, rfl, rfl, rfl, rfl, rfl⟩, meas hli⟩
               rw [hev.out, List.length_append]; exact hown1)
            | (go_roundw
               case rel => exact ⟨i + 1, ss ++ [⟨sl, l.length, cl⟩], by omega, by go_num, by rw [hev.out, List.length_append]; exact hown1, hpush.out _ _ _ hgrow hat1, hfin.out _ _ hgrow⟩
               case measure => exact meas hli)

    · obtain rfl : i = k.length := by omega
      rw [hfull.out] at hinn
      obtain ⟨s', c', rfl, _⟩ := owns_shape hown
      have hker := Inn.ker hinn hown (by rw [hKl.out]; omega) hKs.out
      have hlen := hinn.len
      have c8 := c9.out _ _ _ hker
      rw [← hlen] at c8
      replace c8 := Lib.hid c8; replace hker := Lib.hid hker; replace hlen := Lib.hid hlen
      have hBs := hB.size
      clear hown hinn
      cases VB
      · obtain ⟨rfl, rfl⟩ := hfin0.out.2 rfl
        go_wp2_with (go_at_call 36; refine c8.out.mono ?_; rintro e A3 ⟨rfl, hb3⟩)
        go_ret2
        exact KersErr.nil (hB.trans (hb3.mono hBs))
      · obtain ⟨rfl, rfl⟩ := hfin0.out.1 rfl
        go_wp2_with (go_at_call 36; refine c8.out.mono ?_; rintro e A3 ⟨rfl, hb3⟩)
        go_ret2
        exact ⟨⟨s', c', by first | rfl | (rw [hlen.out]; rfl), up_of hb3 hker.out⟩, hB.trans (hb3.mono hBs)⟩
end Go.Proofs.Ytgeoehokojijdaa
