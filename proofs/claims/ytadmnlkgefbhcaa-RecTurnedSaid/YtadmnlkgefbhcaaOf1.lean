/- The net of a valid recurrence: the reference makes it. -/
import Derived.Test.YtadmnlkgefbhcaaNet4
namespace Go.Proofs.Ytadmnlkgefbhcaa
open Go.RowKit Go.Maps

set_option maxRecDepth 100000 in
set_option maxHeartbeats 2000000 in
theorem Of_c (n : Int) (s : Option Addr) (cap : Nat) (l : List Iq) (s2 : Option Addr) (cq : Nat) (K : List Vv) (w : World) (hr : RecM w s l s2 cq K) (hn : 1 ≤ n ∧ n ≤ 3) (ok : NetOk n K (pts n l)) :
    Calls Try.prog 34 #[.agg #[.int .i64 n, .slice s l.length cap, .slice s2 K.length cq]] w fun e w' => (∃ g sp cp mb, e = .returned (.pointer (some ⟨g, 0, none⟩)) ∧ Net 64 w' g n s cap l s2 cq K sp cp mb (pts n l)) ∧ Below w.heap.size w w' := by
  have hpt := fun V (h : RecM V s l s2 cq K) => (All_c n s cap l V hn h.dom.iq h.dom.len h.dom.wf).mono (R' := fun e w' => (∃ s' c', e = .returned (.slice s' (pts n l).length c') ∧ w'.ownsRow V.heap.size 29 3 (.slice s' (pts n l).length c') (pts n l).length (ptCells (pts n l))) ∧ Below V.heap.size V w') (fun e w' ⟨s', c', he, ho, hb⟩ => ⟨⟨s', c', he, ho⟩, hb⟩)
  obtain ⟨P, hP⟩ : ∃ P, pts n l = P := ⟨_, rfl⟩
  simp only [hP] at hpt ok ⊢
  clear hP
  have hPl := ok.len
  have hI : ∀ q ∈ P, q.I64 := fun q hq => small_i64 (ok.pts q hq) (by omega)
  have hmm := @run_makeMap Try.prog
  replace hpt := Lib.hid hpt; replace hI := Lib.hid hI; replace ok := Lib.hid ok
  have hr0 := Lib.hid hr
  go_enter Try.func34, Try.ntmps34
  go_upto_region 1 with (fail)
  refine wp_world fun W HW => ?_
  have hB : Below w.heap.size w W := by rw [HW.out]; (repeat (first | exact Below.refl _ _ | refine Below.alloc ?_ (by simp; try omega) _ | refine Below.setCell ?_ (by simp) _ | refine Below.drew ?_))
  have d0 : W.cell? ⟨w.heap.size, 0, none⟩ = some (.int .i64 n) := by rw [HW.out]; simp [go_sem]
  have d1 : W.cell? ⟨w.heap.size, 1, none⟩ = some (.slice s l.length cap) := by rw [HW.out]; simp [go_sem]
  have d2 : W.cell? ⟨w.heap.size, 2, none⟩ = some (.slice s2 K.length cq) := by rw [HW.out]; simp [go_sem]
  have dl : w.heap.size < W.heap.size := World.block_lt_of_cell? W _ d0
  try replace hr := up_of hB hr
  go_region_held3 (fun V => V.cell? ⟨w.heap.size, 0, none⟩ = some (.int .i64 n) ∧ V.cell? ⟨w.heap.size, 1, none⟩ = some (.slice s l.length cap) ∧ V.cell? ⟨w.heap.size, 2, none⟩ = some (.slice s2 K.length cq)) ((first | (with_reducible exact ⟨d0, d1, d2⟩) | ((try dsimp only); (repeat' apply And.intro) <;> (repeat (first | (with_reducible assumption) | (with_reducible refine cell_set (by simp; try omega) ?_) | (with_reducible refine cell_drew ?_) | (with_reducible refine cell_alloc ?_ _)))))) ((first | (go_at_call 48; refine calls_below (W0 := W) ?_ fun hpre => ?_; (repeat (first | exact Below.refl _ _ | refine Below.alloc ?_ (by simp; try omega) _ | refine Below.drew ?_)); refine (hpt.out _ (up_of hpre hr)).mono ?_; rintro e N1 ⟨⟨sp, cp, rfl, hown⟩, hb1⟩; have hb := Up.trans hpre hb1; clear hpre; (first | have hs_N1 := below_alloc_lt hb1 | have hs_N1 := below_alloc_lt (drewB hb1) | skip); have dl_N1 := dl; (try replace hr := up_of hb hr); (try replace hB := up_of hb hB); (try replace d0 := up_of hb d0); (try replace d1 := up_of hb d1); (try replace d2 := up_of hb d2); (try replace dl := up_of hb dl); (first | have nB := new_up hb1 | have nB := new_up (drewB hb1) | (try replace nB := up_of hb nB)))))
  all_goals
    have hNs := hb.size
    have hBs := hB.size
    have hos := hown
  · refine exit_world fun X HX => ?_
    have hX : Below w.heap.size w X := by
      rw [HX.out]
      repeat (first | (with_reducible exact hB) | (with_reducible refine Below.drew ?_) | ((with_reducible refine Below.setC ?_ ?_); (focus (first | omega | (simp; done) | (simp; omega)))) | ((with_reducible refine Below.allo ?_ ?_); (focus (first | omega | (simp; done) | (simp; omega)))))
    have gX : Row X (N1.heap.size + 1) 64 #[.int .i64 n, .slice s l.length cap, .slice s2 K.length cq, .slice sp P.length cp, .map (some N1.heap.size)] := by
      rw [HX.out]
      refine Row.of ?_
      repeat (first | (with_reducible refine RowG.new ?_) | (with_reducible refine RowG.drew ?_) | (with_reducible refine RowG.set ?_) | ((with_reducible refine RowG.other ?_ ?_); (focus (first | omega | (simp; done) | (simp; omega)))) | ((with_reducible refine RowG.new' ?_ ?_); (focus (first | omega | (simp; done) | (simp; omega)))) | (with_reducible refine RowG.alloc ?_))
      rfl
    have hM : X.ownsMap Try.prog 29 (plainElem Try.prog 3) N1.heap.size 0 (ptD P 0) := by
      rw [HX.out]
      exact (World.ownsMap_made _ _ _ _).alloc _
    have hpX : PtS X sp P := by
      rw [HX.out]
      exact owns_pt ((hown.alloc _).alloc _)
    have hmg : N1.heap.size < N1.heap.size + 1 := by omega
    have hmw : w.heap.size ≤ N1.heap.size := by omega
    clear HX hown d0 d1 d2 dl hb
    obtain ⟨g, hg⟩ : ∃ g, N1.heap.size + 1 = g := ⟨_, rfl⟩
    obtain ⟨mb, hmb⟩ : ∃ mb, N1.heap.size = mb := ⟨_, rfl⟩
    rw [hg, hmb] at hmg
    rw [hmb] at hM hmw
    simp only [hg] at gX ⊢
    simp only [hmb] at gX ⊢
    have n3 : X.cell? ⟨g, 3, none⟩ = some (.slice sp P.length cp) := gX.cell rfl
    replace hpX := Lib.hid hpX; replace gX := Lib.hid gX; replace hg := Lib.hid hg; replace hmb := Lib.hid hmb
    clear hr hB
    go_wp2
    clear n3
    go_loopw [4] (fun ii V => ∃ k : Nat, k ≤ P.length ∧ ii = .int .i64 k ∧ Below w.heap.size w V ∧ Row V g 64 #[.int .i64 n, .slice s l.length cap, .slice s2 K.length cq, .slice sp P.length cp, .map (some mb)] ∧ PtS V sp P ∧ V.ownsMap Try.prog 29 (plainElem Try.prog 3) mb k (ptD P k)) (fun ii _ => P.length - (intOf ii).toNat)
    case atStart => exact ⟨0, by omega, rfl, hX, gX.out, hpX.out, hM⟩
    case round =>
      clear hX gX hpX hM
      obtain ⟨k, hk, rfl, hBV, gV, hpV, hMV⟩ := hrel
      have n3 : wr.cell? ⟨g, 3, none⟩ = some (.slice sp P.length cp) := gV.cell rfl
      by_cases hlt : k < P.length
      · obtain ⟨pb, po, rfl, hpb, p0, p1, p2⟩ := pt_at hpV hlt
        have hPk := hI.out _ (List.getElem_mem hlt)
        have hput := ptD_put hlt
        have hkey := key_of_pt hPk
        have hpV2 := Lib.hid hpV
        obtain ⟨⟨x, y, z⟩, hp⟩ : ∃ p, P[k] = p := ⟨_, rfl⟩
        rw [hp] at p0 p1 p2 hput hkey
        unfold pvK at hkey
        have i1 : (0 : Int) ≤ (k : Int) := by omega
        have i2 : (k : Int) < (P.length : Int) := by omega
        replace hput := Lib.hid hput
        clear hPk hp hpV
        obtain ⟨Z2, hrun, hM2, hg2⟩ := World.ownsMap.update (t := 61) hMV.drew key_ptk Try.underlying61 (by unfold maxLen; omega) hkey (plainElem_int (H := Unit) Try.underlying3 (a := (k : Int)) (wf_64 ⟨by omega, by omega⟩))
        have n4 : wr.cell? ⟨g, 4, none⟩ = some (.map (some mb)) := gV.cell rfl
        have hgl := gV.lt
        have hBs := hBV.size
        have hn1 : some g ≠ some mb := fun e => by injection e with e; omega
        have hZ2 : Below w.heap.size w Z2 := hBV.drew.grown hg2 (by exact hBs) (fun j e => by cases e; exact hmw)
        have gZ2 : Row Z2 g 64 #[.int .i64 n, .slice s l.length cap, .slice s2 K.length cq, .slice (some ⟨pb, po, none⟩) P.length cp, .map (some mb)] := (hg2.block _ hgl hn1).trans gV
        have hne : pb ≠ mb := fun e => by
          subst e
          obtain ⟨es, clock, h1, _⟩ := hMV
          have h3 := p0
          unfold World.cell? at h3
          simp only [h1] at h3
          cases h3
        have hpZ : PtS Z2 (some ⟨pb, po, none⟩) P := by
          rcases hpV2.out with h | ⟨b', o', e', hb', h⟩
          · exact .inl h
          · cases e'
            have hk : ∀ o, Z2.cell? ⟨pb, o, none⟩ = wr.cell? ⟨pb, o, none⟩ := fun o => World.cell?_of_block (hg2.block pb hb' (fun e => by injection e with e; exact hne e))
            refine .inr ⟨pb, po, rfl, Nat.lt_of_lt_of_le hb' hg2.size, fun i hi => ?_⟩
            rw [hk, hk, hk]
            exact h i hi
        replace hZ2 := Lib.hid hZ2; replace gZ2 := Lib.hid gZ2; replace hpZ := Lib.hid hpZ; replace hM2 := Lib.hid hM2
        clear hg2 hMV hBV gV hkey
        go_upto_region 5 with (fail)
        go_region
        all_goals
          go_wp2
          go_roundw
          case rel => exact ⟨k + 1, by omega, rfl, hZ2.out, gZ2.out, hpZ.out, by rw [hput.out]; exact hM2.out⟩
          case measure => exact meas hlt
      · obtain rfl : k = P.length := by omega
        have hrV := RecM.up hBV hr0.out
        go_wp2
        go_ret
        exact ⟨⟨_, _, _, _, rfl, gV, hrV, hpV, hMV⟩, hBV⟩

  · refine exit_world fun X HX => ?_
    have hMW : N1.ownsMap Try.prog 29 (plainElem Try.prog 3) W.heap.size 0 (ptD P 0) := by
      exact up_of hb1 (World.ownsMap.drew (World.ownsMap_made W _ _ _))
    have hX : Below w.heap.size w X := by
      rw [HX.out]
      repeat (first | (with_reducible exact hB) | (with_reducible refine Below.drew ?_) | ((with_reducible refine Below.setC ?_ ?_); (focus (first | omega | (simp; done) | (simp; omega)))) | ((with_reducible refine Below.allo ?_ ?_); (focus (first | omega | (simp; done) | (simp; omega)))))
    have gX : Row X (N1.heap.size) 64 #[.int .i64 n, .slice s l.length cap, .slice s2 K.length cq, .slice sp P.length cp, .map (some W.heap.size)] := by
      rw [HX.out]
      refine Row.of ?_
      repeat (first | (with_reducible refine RowG.new ?_) | (with_reducible refine RowG.drew ?_) | (with_reducible refine RowG.set ?_) | ((with_reducible refine RowG.other ?_ ?_); (focus (first | omega | (simp; done) | (simp; omega)))) | ((with_reducible refine RowG.new' ?_ ?_); (focus (first | omega | (simp; done) | (simp; omega)))) | (with_reducible refine RowG.alloc ?_))
      rfl
    have hM : X.ownsMap Try.prog 29 (plainElem Try.prog 3) W.heap.size 0 (ptD P 0) := by
      rw [HX.out]
      exact hMW.alloc _
    have hpX : PtS X sp P := by
      rw [HX.out]
      exact owns_pt (hown.alloc _)
    have hmg : W.heap.size < N1.heap.size := by exact hs_N1
    have hmw : w.heap.size ≤ W.heap.size := by omega
    clear HX hown d0 d1 d2 dl hb
    obtain ⟨g, hg⟩ : ∃ g, N1.heap.size = g := ⟨_, rfl⟩
    obtain ⟨mb, hmb⟩ : ∃ mb, W.heap.size = mb := ⟨_, rfl⟩
    rw [hg, hmb] at hmg
    rw [hmb] at hM hmw
    simp only [hg] at gX ⊢
    simp only [hmb] at gX ⊢
    have n3 : X.cell? ⟨g, 3, none⟩ = some (.slice sp P.length cp) := gX.cell rfl
    replace hpX := Lib.hid hpX; replace gX := Lib.hid gX; replace hg := Lib.hid hg; replace hmb := Lib.hid hmb
    clear hr hB
    go_wp2
    clear n3
    go_loopw [4] (fun ii V => ∃ k : Nat, k ≤ P.length ∧ ii = .int .i64 k ∧ Below w.heap.size w V ∧ Row V g 64 #[.int .i64 n, .slice s l.length cap, .slice s2 K.length cq, .slice sp P.length cp, .map (some mb)] ∧ PtS V sp P ∧ V.ownsMap Try.prog 29 (plainElem Try.prog 3) mb k (ptD P k)) (fun ii _ => P.length - (intOf ii).toNat)
    case atStart => exact ⟨0, by omega, rfl, hX, gX.out, hpX.out, hM⟩
    case round =>
      clear hX gX hpX hM
      obtain ⟨k, hk, rfl, hBV, gV, hpV, hMV⟩ := hrel
      have n3 : wr.cell? ⟨g, 3, none⟩ = some (.slice sp P.length cp) := gV.cell rfl
      by_cases hlt : k < P.length
      · obtain ⟨pb, po, rfl, hpb, p0, p1, p2⟩ := pt_at hpV hlt
        have hPk := hI.out _ (List.getElem_mem hlt)
        have hput := ptD_put hlt
        have hkey := key_of_pt hPk
        have hpV2 := Lib.hid hpV
        obtain ⟨⟨x, y, z⟩, hp⟩ : ∃ p, P[k] = p := ⟨_, rfl⟩
        rw [hp] at p0 p1 p2 hput hkey
        unfold pvK at hkey
        have i1 : (0 : Int) ≤ (k : Int) := by omega
        have i2 : (k : Int) < (P.length : Int) := by omega
        replace hput := Lib.hid hput
        clear hPk hp hpV
        obtain ⟨Z2, hrun, hM2, hg2⟩ := World.ownsMap.update (t := 61) hMV.drew key_ptk Try.underlying61 (by unfold maxLen; omega) hkey (plainElem_int (H := Unit) Try.underlying3 (a := (k : Int)) (wf_64 ⟨by omega, by omega⟩))
        have n4 : wr.cell? ⟨g, 4, none⟩ = some (.map (some mb)) := gV.cell rfl
        have hgl := gV.lt
        have hBs := hBV.size
        have hn1 : some g ≠ some mb := fun e => by injection e with e; omega
        have hZ2 : Below w.heap.size w Z2 := hBV.drew.grown hg2 (by exact hBs) (fun j e => by cases e; exact hmw)
        have gZ2 : Row Z2 g 64 #[.int .i64 n, .slice s l.length cap, .slice s2 K.length cq, .slice (some ⟨pb, po, none⟩) P.length cp, .map (some mb)] := (hg2.block _ hgl hn1).trans gV
        have hne : pb ≠ mb := fun e => by
          subst e
          obtain ⟨es, clock, h1, _⟩ := hMV
          have h3 := p0
          unfold World.cell? at h3
          simp only [h1] at h3
          cases h3
        have hpZ : PtS Z2 (some ⟨pb, po, none⟩) P := by
          rcases hpV2.out with h | ⟨b', o', e', hb', h⟩
          · exact .inl h
          · cases e'
            have hk : ∀ o, Z2.cell? ⟨pb, o, none⟩ = wr.cell? ⟨pb, o, none⟩ := fun o => World.cell?_of_block (hg2.block pb hb' (fun e => by injection e with e; exact hne e))
            refine .inr ⟨pb, po, rfl, Nat.lt_of_lt_of_le hb' hg2.size, fun i hi => ?_⟩
            rw [hk, hk, hk]
            exact h i hi
        replace hZ2 := Lib.hid hZ2; replace gZ2 := Lib.hid gZ2; replace hpZ := Lib.hid hpZ; replace hM2 := Lib.hid hM2
        clear hg2 hMV hBV gV hkey
        go_upto_region 5 with (fail)
        go_region
        all_goals
          go_wp2
          go_roundw
          case rel => exact ⟨k + 1, by omega, rfl, hZ2.out, gZ2.out, hpZ.out, by rw [hput.out]; exact hM2.out⟩
          case measure => exact meas hlt
      · obtain rfl : k = P.length := by omega
        have hrV := RecM.up hBV hr0.out
        go_wp2
        go_ret
        exact ⟨⟨_, _, _, _, rfl, gV, hrV, hpV, hMV⟩, hBV⟩

end Go.Proofs.Ytadmnlkgefbhcaa
