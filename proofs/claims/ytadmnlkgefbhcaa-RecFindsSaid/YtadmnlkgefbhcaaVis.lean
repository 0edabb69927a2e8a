/- The search for levels: the reference. -/
import Derived.Test.YtadmnlkgefbhcaaB11
import Derived.Test.YtadmnlkgefbhcaaB7
namespace Go.Proofs.Ytadmnlkgefbhcaa
open Go.RowKit Go.Maps

def elA (y : Ar) : Value := .agg #[.int .i64 y.v, .int .i64 y.p.x, .int .i64 y.p.y, .int .i64 y.p.z]
/-- What visit hands back. -/
def VisRet (us : Uses) (N bl k : Nat) (L : List Int) (w : World) (e : Ending) (w' : World) : Prop :=
  ∃ M : List Int, w'.ownsRow bl 3 1 (.slice (some ⟨bl, 0, none⟩) N N) N (intE.all M) ∧ Chg (fun j => j = bl) w w' ∧
    ((e = .returned (.bool true) ∧ Srch us N M ∧ Went L M ∧ Gd us k ∧ M.getD k 0 = ((lvl us k : Nat) : Int)) ∨ (e = .returned (.bool false) ∧ ∃ j, j < N ∧ ¬ Gd us j))
theorem getD_at {L : List Int} {k : Nat} (h : k < L.length) : L.getD k 0 = L[k] := by rw [List.getD_eq_getElem?_getD, List.getElem?_eq_getElem h]; rfl
section
variable {g : Nat} {n : Int} {s : Option Addr} {cap : Nat} {l : List Iq} {s2 : Option Addr} {cq : Nat} {K : List Vv} {sp : Option Addr} {cp mb : Nat} {P : List Pt}
set_option maxRecDepth 100000 in
set_option maxHeartbeats 2000000 in
theorem visit_c (A : World) (bl : Nat) (h : Net 64 A g n s cap l s2 cq K sp cp mb P) (ok : NetOk n K P) (hbl : A.heap.size ≤ bl) :
    ∀ (fuel k : Nat) (L : List Int) (w : World), Below A.heap.size A w → w.ownsRow bl 3 1 (.slice (some ⟨bl, 0, none⟩) (K.length * P.length) (K.length * P.length)) (K.length * P.length) (intE.all L) → Srch (useN K P) (K.length * P.length) L → k < K.length * P.length →
      (∀ j, L.getD j 0 = -1 → Rch (useN K P) j k) → zros L < fuel →
      Calls Try.prog 103 #[.pointer (some ⟨g, 0, none⟩), elA (elOf P k), .slice (some ⟨bl, 0, none⟩) (K.length * P.length) (K.length * P.length)] w (VisRet (useN K P) (K.length * P.length) bl k L w) := by
  intro fuel
  induction fuel with
  | zero => intro k L w _ _ _ _ _ hz; omega
  | succ fuel ih =>
  intro k L w hA hown hS hk hst hz
  obtain ⟨hk1, hk2, hk3⟩ := num_div hk
  have hnum := fun (k : Nat) (hk : k < K.length * P.length) V (hV : Below A.heap.size A V) => rnum_c k V (Net.up hV h) ok hk
  have huse := fun V (hV : Below A.heap.size A V) => rUses_c (k / P.length) (pOf P k) V (Net.up hV h) ok hk1 (by rw [pOf_at hk2]; exact ok.pts _ (List.getElem_mem hk2))
  have hUe : useN K P k = (usesE P (pOf P k) K[k / P.length].args).map (elNum P) := by
    rw [useN_usesE]; unfold vOf; rw [List.getD_eq_getElem?_getD, List.getElem?_eq_getElem hk1]; rfl
  have hUy : ∀ y ∈ usesE P (pOf P k) K[k / P.length].args, elOf P (elNum P y) = y ∧ elNum P y < K.length * P.length := fun y hy => by
    unfold usesE at hy
    obtain ⟨hy1, hy2⟩ := List.mem_filter.1 hy
    obtain ⟨a, ha, rfl⟩ := List.mem_map.1 hy1
    exact elOf_num ok (ok.var _ (List.getElem_mem hk1) a ha) hy2
  have hlb := fun (k : Nat) (hk : k < K.length * P.length) (hg : Gd (useN K P) k) => lvl_bd (fun k _ => ok.use_lt k) hk hg
  have hul := ok.use_len k
  have hNs := ok.size
  have hel : elOf P k = ⟨((k / P.length : Nat) : Int), pOf P k⟩ := rfl
  obtain ⟨UL, hUL⟩ : ∃ x, usesE P (pOf P k) K[k / P.length].args = x := ⟨_, rfl⟩
  simp only [hUL] at huse hUe hUy
  obtain ⟨us, hus⟩ : ∃ x, useN K P = x := ⟨_, rfl⟩
  obtain ⟨N, hN⟩ : ∃ x, K.length * P.length = x := ⟨_, rfl⟩
  simp only [hus, hN] at ih hown hS hst hk hUe hUy hnum hlb hul hNs ⊢
  obtain ⟨⟨ev, ⟨ex, ey, ez⟩⟩, he⟩ : ∃ y, elOf P k = y := ⟨_, rfl⟩
  have hev : ((k / P.length : Nat) : Int) = ev ∧ pOf P k = ⟨ex, ey, ez⟩ := by rw [he] at hel; injection hel with h1 h2; exact ⟨h1.symm, h2.symm⟩
  have hn1 := hnum k hk
  simp only [he] at hn1
  rw [hev.1, hev.2] at huse
  rw [he]
  unfold elA
  simp only
  clear hus hN hk1 hk2 hk3 hel hev hUL he
  have hkL : k < L.length := by rw [hS.len]; exact hk
  have hgk := getD_at hkL
  have i1 : (0 : Int) ≤ (k : Int) := by omega
  have i2 : (k : Int) < (N : Int) := by omega
  replace hnum := Lib.hid hnum; replace huse := Lib.hid huse; replace hUe := Lib.hid hUe; replace hUy := Lib.hid hUy; replace hlb := Lib.hid hlb; replace ih := Lib.hid ih; replace hst := Lib.hid hst; replace hn1 := Lib.hid hn1; replace hS := Lib.hid hS; replace hul := Lib.hid hul; replace h := Lib.hid h; replace ok := Lib.hid ok
  have hown9 := Lib.hid hown
  go_enter Try.func103, Try.ntmps103
  go_upto_region 1 with (fail)
  refine wp_world fun W HW => ?_
  have hB : Below w.heap.size w W := by rw [HW.out]; (repeat (first | exact Below.refl _ _ | refine Below.alloc ?_ (by simp; try omega) _ | refine Below.setCell ?_ (by simp) _ | refine Below.drew ?_))
  have q0 : W.cell? ⟨w.heap.size, 0, none⟩ = some (.int .i64 ev) := by rw [HW.out]; simp [go_sem]
  have q1 : W.cell? ⟨w.heap.size, 1, none⟩ = some (.int .i64 ex) := by rw [HW.out]; simp [go_sem]
  have q2 : W.cell? ⟨w.heap.size, 2, none⟩ = some (.int .i64 ey) := by rw [HW.out]; simp [go_sem]
  have q3 : W.cell? ⟨w.heap.size, 3, none⟩ = some (.int .i64 ez) := by rw [HW.out]; simp [go_sem]
  have ql : w.heap.size < W.heap.size := World.block_lt_of_cell? W _ q0
  try replace hA := up_of hB hA
  try replace hown := up_of hB hown
  go_upto_region 2 with (first | (go_at_call 62; refine (hn1.out _ hA).mono ?_; rintro e W1 ⟨rfl, hb⟩; (try replace hA := up_of hb hA); (try replace hown := up_of hb hown); (try replace hB := up_of hb hB); (try replace q0 := up_of hb q0); (try replace q1 := up_of hb q1); (try replace q2 := up_of hb q2); (try replace q3 := up_of hb q3); (try replace ql := up_of hb ql)))
  have c17 := owns_cell hown (intE_at L hkL)
  rw [← hgk] at c17
  have hCW : Chg (fun j => j = bl) w W1 := Chg.of_below hB
  by_cases h0 : L.getD k 0 = 0
  case neg =>
    rcases hS.out.ok k hk with h1 | h1 | ⟨h1, h2⟩
    · exact absurd h1 h0
    · have hbad : ∃ j, j < N ∧ ¬ Gd us j := ⟨k, hk, (hst.out k h1).bad⟩
      rw [h1] at c17
      replace hbad := Lib.hid hbad; replace hown := Lib.hid hown; replace hCW := Lib.hid hCW
      clear h0 h1 hgk hz hA
      go_wp2
      go_ret
      exact ⟨L, hown.out, hCW.out, .inr ⟨rfl, hbad.out⟩⟩
    · have hp := lvl_pos h1
      rw [h2] at c17
      have k1 : (((lvl us k : Nat) : Int) != 0) = true := by rw [bne_iff_ne]; omega
      have k2 : (0 : Int) < ((lvl us k : Nat) : Int) := by omega
      obtain ⟨lk, hlk⟩ : ∃ x, lvl us k = x := ⟨_, rfl⟩
      rw [hlk] at c17 k1 k2
      have k3 : (0 : Int) < (lk : Int) := k2
      have k4 : 0 < lk := by omega
      replace hown := Lib.hid hown; replace hCW := Lib.hid hCW; replace h1 := Lib.hid h1; replace h2 := Lib.hid h2
      clear h0 hgk hz hA hlk hp
      go_wp2
      go_ret
      exact ⟨L, hown.out, hCW.out, .inl ⟨ret_bool (by simp), hS.out, Went.refl L, h1.out, h2.out⟩⟩
  rw [h0] at c17
  have hbw : bl < w.heap.size := (hown9.out.lt bl rfl).2
  have hAw0 := hA.size
  have wf := World.ownsRow.frozenAt hown k
  have hst9 := hown.stored k (.int .i64 (-1))
  rw [intE_set] at hst9
  have hS1 := hS.out.enter hk
  have hW0 : Went (L.set k (-1)) (L.set k (-1)) := Went.refl _
  have hz1 := zros_set (x := -1) hkL h0 (by decide)
  have hset := Lib.hid hst9.1
  replace hS1 := Lib.hid hS1; replace h0 := Lib.hid h0; replace hz1 := Lib.hid hz1; replace hCW := Lib.hid hCW
  clear hgk hst9 hown
  go_upto_region 5 with (fail)
  refine wp_world fun Z HZ => ?_
  have hoZ : Z.ownsRow bl 3 1 (.slice (some ⟨bl, 0, none⟩) N N) N (intE.all (L.set k (-1))) := by rw [HZ.out]; exact hset.out
  have hAZ : Below A.heap.size A Z := by rw [HZ.out]; exact hA.setCell (by exact hbl) _
  have hCZ : Chg (fun j => j = bl) w Z := by rw [HZ.out]; exact hCW.out.setCell rfl _
  have hqne : ∀ j, j ≠ bl → W1.heap[j]? = Z.heap[j]? := fun j hj => by rw [HZ.out]; exact (Below.heap_setCell _ _ _ _ (by exact hj)).symm
  have hqc : ∀ o u, W1.cell? ⟨w.heap.size, o, none⟩ = some u → Z.cell? ⟨w.heap.size, o, none⟩ = some u := fun o u c => by
    rw [World.cell?_of_block (w := W1) (a := ⟨w.heap.size, o, none⟩) (hqne w.heap.size (by omega)).symm]; exact c
  replace q0 := hqc _ _ q0; replace q1 := hqc _ _ q1; replace q2 := hqc _ _ q2; replace q3 := hqc _ _ q3
  have qlZ : w.heap.size < Z.heap.size := World.block_lt_of_cell? Z ⟨w.heap.size, 0, none⟩ q0
  clear HZ hset hqne hqc c17 wf hA hB ql hCW
  replace hCZ := Lib.hid hCZ
  go_upto_region 7 with (first | (go_at_call 116; refine (huse.out _ hAZ).mono ?_; rintro e B2 ⟨⟨s', c', rfl, hsl, hslo⟩, hb⟩))
  have hAB := Up.to hAZ hb hAZ.size
  have hoB := up_of hb hoZ
  have hCB := hCZ.out.trans (Chg.of_below hb)
  have hULl : UL.length = (us k).length := by rw [hUe.out]; simp
  have hul3 := hul.out
  have hblZ : bl < Z.heap.size := (hoZ.lt bl rfl).2
  have hslne : ∀ j, Blk s' UL j → ¬ j = bl := fun j ⟨hne, a, e, e2⟩ e3 => by
    obtain ⟨ab, ao, asp⟩ := a
    obtain ⟨b', o', e4, -⟩ := hsl.at (i := 0) (List.length_pos_iff.2 hne)
    rw [e4] at e; cases e
    have := hslo _ _ e4
    simp only at e2
    omega
  have hsl0 := Lib.hid hsl
  replace hslne := Lib.hid hslne; replace hULl := Lib.hid hULl; replace hul3 := Lib.hid hul3; replace hCB := Lib.hid hCB; replace hoB := Lib.hid hoB; replace hW0 := Lib.hid hW0
  have hUL3 : UL.length ≤ 3 := by have := hULl.out; have := hul3.out; omega
  have hN4 : N ≤ 4000 := hNs
  clear hoZ hAZ hsl hslo hCZ q0 q1 q2 q3 hb
  go_wp2
  go_loopw [8, 10] (fun lv jj V => ∃ (j : Nat) (M : List Int), j ≤ UL.length ∧ jj = .int .i64 j ∧ lv = .int .i64 ((((us k).take j).foldl (fun a u => max a (lvl us u + 1)) 1 : Nat) : Int) ∧ ((us k).take j).foldl (fun a u => max a (lvl us u + 1)) 1 ≤ N + 1 ∧ V.ownsRow bl 3 1 (.slice (some ⟨bl, 0, none⟩) N N) N (intE.all M) ∧ Srch us N M ∧ Went (L.set k (-1)) M ∧ Chg (fun j => j = bl) B2 V ∧ Hid (∀ u ∈ (us k).take j, Gd us u)) (fun _ jj _ => UL.length - (intOf jj).toNat)
  case atStart => exact ⟨0, _, by omega, rfl, rfl, by simp, hoB.out, hS1.out, hW0.out, Chg.refl _ _, Lib.hid (by simp)⟩
  case round =>
    obtain ⟨j, M, hj, rfl, rfl, hFN, hoM, hSM, hWM, hCM, hgd⟩ := hrel
    have hAM : Below A.heap.size A wr := hCM.below (fun k hk => by omega) hAB.size hAB
    by_cases hlt : j < UL.length
    · have hju : j < (us k).length := by have := hULl.out; omega
      have huj : (us k)[j] = elNum P UL[j] := by simp only [hUe.out, List.getElem_map]
      obtain ⟨hy1, hy2⟩ := hUy.out _ (List.getElem_mem hlt)
      have hslV := SlS.chg hCM hslne.out hsl0.out
      obtain ⟨ub, uo, eu, hub, x0, x1, x2, x3⟩ := hslV.ar_at hlt
      subst eu
      have hmem : (us k)[j] ∈ us k := List.getElem_mem hju
      have hfold := lvR_take (us := us) (k := k) (g := lvl us) hju
      have htk : (us k).take (j + 1) = (us k).take j ++ [(us k)[j]] := List.take_succ_eq_append_getElem hju
      obtain ⟨u, hu⟩ : ∃ u, (us k)[j] = u := ⟨_, rfl⟩
      rw [hu] at huj hmem hfold htk
      rw [← huj] at hy1 hy2
      have hMst : ∀ i, M.getD i 0 = -1 → Rch us i u := fun i hi => by
        have h1 := hWM.way i hi
        rw [getD_set hkL] at h1
        by_cases e : k = i
        · subst e; exact .one hmem
        · rw [if_neg e] at h1
          exact .more (hst.out i h1) hmem
      have hMz : zros M < fuel := by
        have h1 := hWM.zros
        have h2 := hz1.out
        omega
      have hih := ih.out u M wr hAM hoM hSM hy2 hMst hMz
      have hn2 := fun V hV => hnum.out u hy2 V hV
      obtain ⟨⟨yv, ⟨yx, yy, yz⟩⟩, hye⟩ : ∃ y, UL[j] = y := ⟨_, rfl⟩
      rw [hye] at hy1 x0 x1 x2 x3
      rw [hy1] at hih
      simp only [hy1] at hn2
      unfold elA at hih
      simp only at hih
      obtain ⟨F, hF⟩ : ∃ F, ((us k).take j).foldl (fun a u => max a (lvl us u + 1)) 1 = F := ⟨_, rfl⟩
      rw [hF] at hfold hFN
      have g1 : (0 : Int) ≤ (j : Int) := by omega
      have g2 : (j : Int) < (UL.length : Int) := by omega
      have g3 : (0 : Int) ≤ (u : Int) := by omega
      have g4 : (u : Int) < (N : Int) := by omega
      replace hn2 := Lib.hid hn2; replace hfold := Lib.hid hfold; replace htk := Lib.hid htk; replace hgd := Lib.hid hgd; replace hWM := Lib.hid hWM; replace hCM := Lib.hid hCM; replace hslV := Lib.hid hslV; replace hye := Lib.hid hye; replace hy1 := Lib.hid hy1; replace huj := Lib.hid huj; replace hu := Lib.hid hu
      rw [hF]
      replace hF := Lib.hid hF
      clear hSM hMst hMz hmem hAM hoM
      go_wp2_with fail
      refine hih.mono ?_
      rintro e V2 ⟨M', hoM', hCM', (⟨rfl, hSM', hWM', hgu, hlu⟩ | ⟨rfl, hbad⟩)⟩
      · have hCf := hCM.out.trans hCM'
        have hA2 : Below A.heap.size A V2 := hCf.below (fun k hk => by omega) hAB.size hAB
        have huL : u < M'.length := by rw [hSM'.len]; exact hy2
        have c53 := owns_cell hoM' (intE_at M' huL)
        rw [← getD_at huL, hlu] at c53
        have hlN := hlb.out u hy2 hgu
        have hgd2 : ∀ v ∈ (us k).take (j + 1), Gd us v := fun v hv => by
          rw [htk.out] at hv
          rcases List.mem_append.1 hv with hv | hv
          · exact hgd.out v hv
          · simp at hv; subst hv; exact hgu
        have hW2 := hWM.out.trans hWM'
        have hx : ∀ o u, wr.cell? ⟨ub, uo + o, none⟩ = some u → V2.cell? ⟨ub, uo + o, none⟩ = some u := fun o u c => by
          refine Chg.cell hCM' ?_ c
          exact hslne.out ub ⟨fun e => by rw [e] at hlt; simp at hlt, _, rfl, rfl⟩
        replace x0 := hx _ _ x0
        have y1 := hx (j * 4 + 1) _ (by rw [← Nat.add_assoc]; exact x1)
        have y2 := hx (j * 4 + 2) _ (by rw [← Nat.add_assoc]; exact x2)
        have y3 := hx (j * 4 + 3) _ (by rw [← Nat.add_assoc]; exact x3)
        rw [← Nat.add_assoc] at y1 y2 y3
        obtain ⟨lu, hlue⟩ : ∃ x, lvl us u = x := ⟨_, rfl⟩
        have hfold2 := hfold.out
        rw [hlue] at c53 hlN hfold2
        replace hfold2 := Lib.hid hfold2; replace hoM' := Lib.hid hoM'; replace hSM' := Lib.hid hSM'; replace hCf := Lib.hid hCf; replace hgd2 := Lib.hid hgd2; replace hW2 := Lib.hid hW2; replace hlu := Lib.hid hlu; replace hlue := Lib.hid hlue; replace hgu := Lib.hid hgu
        clear hx x1 x2 x3 hih hCM' hWM' huL
        by_cases hFl : F < lu + 1
        · have hm : max F (lu + 1) = lu + 1 := by omega
          have hFl2 : (F : Int) < (lu : Int) + 1 := by omega
          have hfold3 := hfold2.out
          rw [hm] at hfold3
          replace hfold3 := Lib.hid hfold3
          clear hFl hm
          go_wp2_with (first | (go_at_call 62; refine (hn2.out _ hA2).mono ?_; rintro e V3 ⟨rfl, hb⟩; (try replace hA2 := up_of hb hA2); (try replace c53 := up_of hb c53); (try replace x0 := up_of hb x0); (try replace y1 := up_of hb y1); (try replace y2 := up_of hb y2); (try replace y3 := up_of hb y3)))
          go_roundw
          case rel => exact ⟨j + 1, M', by omega, rfl, by rw [hfold3.out]; simp, by rw [hfold3.out]; omega, up_of hb hoM'.out, hSM'.out, hW2.out, hCf.out.trans (Chg.of_below hb), hgd2⟩
          case measure => exact meas hlt
        · have hm : max F (lu + 1) = F := by omega
          have hFl2 : ¬ (F : Int) < (lu : Int) + 1 := by omega
          have hfold3 := hfold2.out
          rw [hm] at hfold3
          replace hfold3 := Lib.hid hfold3
          clear hFl hm
          go_wp2_with (first | (go_at_call 62; refine (hn2.out _ hA2).mono ?_; rintro e V3 ⟨rfl, hb⟩; (try replace hA2 := up_of hb hA2); (try replace c53 := up_of hb c53); (try replace x0 := up_of hb x0); (try replace y1 := up_of hb y1); (try replace y2 := up_of hb y2); (try replace y3 := up_of hb y3)))
          go_roundw
          case rel => exact ⟨j + 1, M', by omega, rfl, by rw [hfold3.out], by rw [hfold3.out]; omega, up_of hb hoM'.out, hSM'.out, hW2.out, hCf.out.trans (Chg.of_below hb), hgd2⟩
          case measure => exact meas hlt
      · have hCf := (hCB.out.trans (hCM.out.trans hCM'))
        replace hbad := Lib.hid hbad; replace hoM' := Lib.hid hoM'; replace hCf := Lib.hid hCf
        clear hCM'
        go_wp2
        go_ret
        exact ⟨M', hoM'.out, hCf.out, .inr ⟨rfl, hbad.out⟩⟩
    · have hje : j = UL.length := by omega
      subst hje
      have htk : (us k).take UL.length = us k := by rw [hULl.out]; exact List.take_length
      rw [htk] at hgd hFN ⊢
      have hgk : Gd us k := .mk k hgd.out
      have hlv := lvl_eq hgk
      have hlk : ((us k).foldl (fun a u => max a (lvl us u + 1)) 1) = lvl us k := hlv.symm
      rw [hlk] at hFN ⊢
      have hkM : k < M.length := by rw [hSM.len]; exact hk
      have c59 := owns_cell hoM (intE_at M hkM)
      have wf := World.ownsRow.frozenAt hoM k
      have hst2 := hoM.stored k (.int .i64 ((lvl us k : Nat) : Int))
      rw [intE_set] at hst2
      have hSl := hSM.leave hk hgk
      have hWl := Went.visit (x := ((lvl us k : Nat) : Int)) hkL h0.out hWM (by omega)
      have hset := Lib.hid hst2.1
      have hfin : (M.set k ((lvl us k : Nat) : Int)).getD k 0 = ((lvl us k : Nat) : Int) := by rw [getD_set hkM, if_pos rfl]
      obtain ⟨lk, hlke⟩ : ∃ x, lvl us k = x := ⟨_, rfl⟩
      have hCf := (hCB.out.trans hCM)
      rw [hlke] at hset hSl hWl hfin hFN ⊢
      replace hSl := Lib.hid hSl; replace hWl := Lib.hid hWl; replace hfin := Lib.hid hfin; replace hgk := Lib.hid hgk; replace hlke := Lib.hid hlke; replace hCf := Lib.hid hCf
      clear hst2 hlk hlv htk hSM hWM hCM hoM hgd
      go_upto_region 14 with (fail)
      refine wp_world fun Z HZ => ?_
      have hoZ : Z.ownsRow bl 3 1 (.slice (some ⟨bl, 0, none⟩) N N) N (intE.all (M.set k (lk : Int))) := by rw [HZ.out]; exact hset.out
      have hCZ : Chg (fun j => j = bl) w Z := by rw [HZ.out]; exact hCf.out.setCell rfl _
      replace hoZ := Lib.hid hoZ; replace hCZ := Lib.hid hCZ
      clear HZ hset hCf c59 wf
      go_wp2
      go_ret
      exact ⟨_, hoZ.out, hCZ.out, .inl ⟨rfl, hSl.out, hWl.out, hgk.out, by rw [hlke.out]; exact hfin.out⟩⟩
end
end Go.Proofs.Ytadmnlkgefbhcaa
