/- The net of a valid recurrence: the program makes it. -/
import Derived.Test.YtadmnlkgefbhcaaNet2
namespace Go.Proofs.Ytadmnlkgefbhcaa
open Go.RowKit Go.Maps

/-- What newNet hands back. -/
def NetRet (n : Int) (s : Option Addr) (cap : Nat) (l : List Iq) (s2 : Option Addr) (cq : Nat) (K : List Vv) (w : World) (e : Ending) (w' : World) : Prop :=
  (if recB n l K then ∃ g sp cp mb, e = .returned (.tuple #[.pointer (some ⟨g, 0, none⟩), .bool true]) ∧ Net 106 w' g n s cap l s2 cq K sp cp mb (pts n l) else e = .returned (.tuple #[.pointer none, .bool false])) ∧ Below w.heap.size w w'
theorem pts_nil (w : World) : PtS w none [] := .inl rfl
set_option maxRecDepth 100000 in
set_option maxHeartbeats 2000000 in
theorem newNet_c (n : Int) (s : Option Addr) (cap : Nat) (l : List Iq) (s2 : Option Addr) (cq : Nat) (K : List Vv) (w : World) (hr : RecM w s l s2 cq K) :
    Calls Try.prog 55 #[.agg #[.int .i64 n, .slice s l.length cap, .slice s2 K.length cq]] w (NetRet n s cap l s2 cq K w) := by
  have hv := fun V (h : RecM V s l s2 cq K) => h.valid n cap
  unfold NetRet
  cases hb : recB n l K
  · simp only [hb] at hv
    replace hv := Lib.hid hv
    simp only [Bool.false_eq_true, if_false]
    go_enter Try.func55, Try.ntmps55
    go_upto_region 1 with (fail)
    refine wp_world fun W HW => ?_
    have hB : Below w.heap.size w W := by rw [HW.out]; (repeat (first | exact Below.refl _ _ | refine Below.alloc ?_ (by simp; try omega) _ | refine Below.setCell ?_ (by simp) _ | refine Below.drew ?_))
    have d0 : W.cell? ⟨w.heap.size, 0, none⟩ = some (.int .i64 n) := by rw [HW.out]; simp [go_sem]
    have d1 : W.cell? ⟨w.heap.size, 1, none⟩ = some (.slice s l.length cap) := by rw [HW.out]; simp [go_sem]
    have d2 : W.cell? ⟨w.heap.size, 2, none⟩ = some (.slice s2 K.length cq) := by rw [HW.out]; simp [go_sem]
    have dl : w.heap.size < W.heap.size := World.block_lt_of_cell? W _ d0
    try replace hr := up_of hB hr
    go_wp2_with (first | (go_at_call 49; refine (hv.out _ hr).mono ?_; rintro e W1 ⟨rfl, hb⟩; (try replace hr := up_of hb hr); (try replace hB := up_of hb hB); (try replace d0 := up_of hb d0); (try replace d1 := up_of hb d1); (try replace d2 := up_of hb d2); (try replace dl := up_of hb dl)))
    go_ret2
    exact ⟨rfl, hB⟩
  · simp only [hb] at hv
    have ok := netOk hb
    have hvb : validB n l = true := by rw [recB_eq] at hb; simp only [Bool.and_eq_true] at hb; exact hb.1
    have hpt := fun V (h : Dom V s l) => Points_c n s cap l V h.iq h.len
    have hL1 : ptsL n l = pts n l := by have := ok.len; simp [ptsL, hvb]; omega
    have hE1 : ptsE n l = 0 := by have := ok.len; simp [ptsE, hvb]; omega
    unfold PtsRet at hpt
    simp only [hL1, hE1] at hpt
    simp only [if_true]
    obtain ⟨P, hP⟩ : ∃ P, pts n l = P := ⟨_, rfl⟩
    simp only [hP] at hpt ok ⊢
    clear hL1 hE1 hvb hb hP
    have hPl := ok.len
    have hI : ∀ q ∈ P, q.I64 := fun q hq => small_i64 (ok.pts q hq) (by omega)
    have hmm := @run_makeMap Try.prog
    replace hv := Lib.hid hv; replace hpt := Lib.hid hpt; replace hI := Lib.hid hI; replace ok := Lib.hid ok
    have hr9 := Lib.hid hr
    go_enter Try.func55, Try.ntmps55
    go_upto_region 1 with (fail)
    refine wp_world fun W HW => ?_
    have hB : Below w.heap.size w W := by rw [HW.out]; (repeat (first | exact Below.refl _ _ | refine Below.alloc ?_ (by simp; try omega) _ | refine Below.setCell ?_ (by simp) _ | refine Below.drew ?_))
    have d0 : W.cell? ⟨w.heap.size, 0, none⟩ = some (.int .i64 n) := by rw [HW.out]; simp [go_sem]
    have d1 : W.cell? ⟨w.heap.size, 1, none⟩ = some (.slice s l.length cap) := by rw [HW.out]; simp [go_sem]
    have d2 : W.cell? ⟨w.heap.size, 2, none⟩ = some (.slice s2 K.length cq) := by rw [HW.out]; simp [go_sem]
    have dl : w.heap.size < W.heap.size := World.block_lt_of_cell? W _ d0
    try replace hr := up_of hB hr
    go_upto_region 4 with (first | (go_at_call 49; refine (hv.out _ hr).mono ?_; rintro e W1 ⟨rfl, hb⟩; (try replace hr := up_of hb hr); (try replace hB := up_of hb hB); (try replace d0 := up_of hb d0); (try replace d1 := up_of hb d1); (try replace d2 := up_of hb d2); (try replace dl := up_of hb dl)))
    have hr0 := Lib.hid hr9.out
    have hBW := hB.size
    have hw0 := Lib.hid hBW
    refine wp_world fun X HX => ?_
    have hX : Below W1.heap.size W1 X := by
      rw [HX.out]
      repeat (first | (with_reducible exact Below.refl _ _) | (with_reducible refine Below.drew ?_) | ((with_reducible refine Below.setC ?_ ?_); (focus (first | omega | (simp; done) | (simp; omega)))) | ((with_reducible refine Below.allo ?_ ?_); (focus (first | omega | (simp; done) | (simp; omega)))))
    have hXs : X.heap.size = W1.heap.size + 2 := by rw [HX.out]; simp
    have gB : Row X (W1.heap.size + 1) 106 #[.int .i64 n, .slice s l.length cap, .slice s2 K.length cq, .slice none 0 0, .map (some W1.heap.size)] := by
      rw [HX.out]
      refine Row.of ?_
      repeat (first | (with_reducible refine RowG.new ?_) | (with_reducible refine RowG.drew ?_) | (with_reducible refine RowG.set ?_) | ((with_reducible refine RowG.other ?_ ?_); (focus (first | omega | (simp; done) | (simp; omega)))) | ((with_reducible refine RowG.new' ?_ ?_); (focus (first | omega | (simp; done) | (simp; omega)))) | (with_reducible refine RowG.alloc ?_))
      rfl
    have hM : X.ownsMap Try.prog 29 (plainElem Try.prog 3) W1.heap.size 0 (ptD P 0) := by
      rw [HX.out]
      exact (World.ownsMap_made _ _ _ _).alloc _
    clear HX
    try replace hr := up_of hX hr
    try replace hB := up_of hX hB
    try replace d0 := up_of hX d0
    try replace d1 := up_of hX d1
    try replace d2 := up_of hX d2
    try replace dl := up_of hX dl
    replace hXs := Lib.hid hXs
    go_upto_region 5 with (first | (go_at_call 40; refine (hpt.out _ hr.dom).mono ?_; rintro e W2 ⟨sp, cp, rfl, hown, hb⟩; (try replace hr := up_of hb hr); (try replace hB := up_of hb hB); (try replace d0 := up_of hb d0); (try replace d1 := up_of hb d1); (try replace d2 := up_of hb d2); (try replace dl := up_of hb dl); replace gB := up_of hb gB; replace hM := up_of hb hM; have rf := fun i => Row.frozen gB i; obtain ⟨g0, g1, g2, g3, g4⟩ : W2.cell? ⟨W1.heap.size + 1, 0, none⟩ = some (.int .i64 n) ∧ W2.cell? ⟨W1.heap.size + 1, 1, none⟩ = some (.slice s l.length cap) ∧ W2.cell? ⟨W1.heap.size + 1, 2, none⟩ = some (.slice s2 K.length cq) ∧ W2.cell? ⟨W1.heap.size + 1, 3, none⟩ = some (.slice none 0 0) ∧ W2.cell? ⟨W1.heap.size + 1, 4, none⟩ = some (.map (some W1.heap.size)) := ⟨gB.cell rfl, gB.cell rfl, gB.cell rfl, gB.cell rfl, gB.cell rfl⟩))
    refine wp_world fun Y HY => ?_
    have hw1 : w.heap.size ≤ W1.heap.size + 1 := by have := World.block_lt_of_cell? _ _ g0; have := hX.size; have := hBW; omega
    have hYB : Below w.heap.size w Y := by
      rw [HY.out]
      exact hB.setCell (by exact hw1) _
    have hYs : W2.heap.size ≤ Y.heap.size := by rw [HY.out]; simp [World.setCell]
    have gY : Row Y (W1.heap.size + 1) 106 #[.int .i64 n, .slice s l.length cap, .slice s2 K.length cq, .slice sp P.length cp, .map (some W1.heap.size)] := by
      rw [HY.out]
      refine Row.of ?_
      repeat (first | (with_reducible refine RowG.base gB ?_) | (with_reducible refine RowG.drew ?_) | (with_reducible refine RowG.set ?_) | ((with_reducible refine RowG.other ?_ ?_); (focus (first | omega | (simp; done) | (simp; omega)))) | (with_reducible refine RowG.alloc ?_))
      rfl
    have hMY : Y.ownsMap Try.prog 29 (plainElem Try.prog 3) W1.heap.size 0 (ptD P 0) := by
      obtain ⟨es, clock, h1, h2⟩ := hM
      rw [HY.out]
      exact ⟨es, clock, (Below.heap_setCell _ _ _ _ (by show W1.heap.size ≠ W1.heap.size + 1; omega)).trans h1, h2⟩
    have hoY : Y.ownsRow X.heap.size 29 3 (.slice sp P.length cp) P.length (ptCells P) := by
      refine own_upto hown fun b e => ?_
      have := (hown.lt b e).1
      rw [HY.out]
      exact Below.heap_setCell _ _ _ _ (by show b ≠ W1.heap.size + 1; have := hXs.out; omega)
    have hpY := owns_pt hoY
    have hrY := RecM.up hYB hr0.out
    clear HY hM hown hoY gB g0 g1 g2 g3 g4 rf hb hr hB d0 d1 d2 dl
    obtain ⟨n0, n1, n2, n3, n4⟩ : Y.cell? ⟨W1.heap.size + 1, 0, none⟩ = some (.int .i64 n) ∧ Y.cell? ⟨W1.heap.size + 1, 1, none⟩ = some (.slice s l.length cap) ∧ Y.cell? ⟨W1.heap.size + 1, 2, none⟩ = some (.slice s2 K.length cq) ∧ Y.cell? ⟨W1.heap.size + 1, 3, none⟩ = some (.slice sp P.length cp) ∧ Y.cell? ⟨W1.heap.size + 1, 4, none⟩ = some (.map (some W1.heap.size)) := ⟨gY.cell rfl, gY.cell rfl, gY.cell rfl, gY.cell rfl, gY.cell rfl⟩
    replace hpY := Lib.hid hpY; replace hrY := Lib.hid hrY; replace gY := Lib.hid gY
    go_wp2
    clear n0 n1 n2 n3 n4
    go_loopw [28] (fun ii V => ∃ k : Nat, k ≤ P.length ∧ ii = .int .i64 k ∧ Below w.heap.size w V ∧ Row V (W1.heap.size + 1) 106 #[.int .i64 n, .slice s l.length cap, .slice s2 K.length cq, .slice sp P.length cp, .map (some W1.heap.size)] ∧ PtS V sp P ∧ V.ownsMap Try.prog 29 (plainElem Try.prog 3) W1.heap.size k (ptD P k)) (fun ii _ => P.length - (intOf ii).toNat)
    case atStart => exact ⟨0, by omega, rfl, hYB, gY.out, hpY.out, hMY⟩
    case round =>
      clear hYB gY hpY hMY hrY
      obtain ⟨k, hk, rfl, hBV, gV, hpV, hMV⟩ := hrel
      by_cases hlt : k < P.length
      · obtain ⟨pb, po, rfl, hpb, p0, p1, p2⟩ := pt_at hpV hlt
        have hPk := hI.out _ (List.getElem_mem hlt)
        have hput := ptD_put hlt
        have hkey := key_of_pt hPk
        have hpV2 := Lib.hid hpV
        obtain ⟨⟨x, y, z⟩, hp⟩ : ∃ p, P[k] = p := ⟨_, rfl⟩
        rw [hp] at p0 p1 p2 hput hkey
        unfold pvK at hkey
        have i1 : (0 : Int) ≤ (k : Int) := by omega
        have i2 : (k : Int) < (P.length : Int) := by omega
        replace hput := Lib.hid hput
        clear hPk hp hpV
        go_upto_region 8 with (fail)
        refine wp_world fun Z HZ => ?_
        have hZ : Below wr.heap.size wr Z := by rw [HZ.out]; (repeat (first | exact Below.refl _ _ | refine Below.alloc ?_ (by simp; try omega) _ | refine Below.setCell ?_ (by simp) _ | refine Below.drew ?_))
        have q0 : Z.cell? ⟨wr.heap.size, 0, none⟩ = some (.int .i64 x) := by rw [HZ.out]; simp [go_sem]
        have q1 : Z.cell? ⟨wr.heap.size, 1, none⟩ = some (.int .i64 y) := by rw [HZ.out]; simp [go_sem]
        have q2 : Z.cell? ⟨wr.heap.size, 2, none⟩ = some (.int .i64 z) := by rw [HZ.out]; simp [go_sem]
        have ql : wr.heap.size < Z.heap.size := World.block_lt_of_cell? Z _ q0
        try replace hBV := up_of hZ hBV
        try replace gV := up_of hZ gV
        try replace hMV := up_of hZ hMV
        try replace hpV2 := up_of hZ hpV2
        obtain ⟨Z2, hrun, hM2, hg2⟩ := World.ownsMap.update (t := 61) hMV.drew key_ptk Try.underlying61 (by unfold maxLen; omega) hkey (plainElem_int (H := Unit) Try.underlying3 (a := (k : Int)) (wf_64 ⟨by omega, by omega⟩))
        have n4 : Z.cell? ⟨W1.heap.size + 1, 4, none⟩ = some (.map (some W1.heap.size)) := gV.cell rfl
        have hgl := gV.lt
        have hBs := hBV.size
        have hn1 : some (W1.heap.size + 1) ≠ some W1.heap.size := fun e => by injection e with e; omega
        have hZ2 : Below w.heap.size w Z2 := hBV.drew.grown hg2 (by exact hBs) (fun j e => by cases e; have := hw0.out; omega)
        have gZ2 : Row Z2 (W1.heap.size + 1) 106 #[.int .i64 n, .slice s l.length cap, .slice s2 K.length cq, .slice (some ⟨pb, po, none⟩) P.length cp, .map (some W1.heap.size)] := (hg2.block _ hgl hn1).trans gV
        have hne : pb ≠ W1.heap.size := fun e => by
          subst e
          obtain ⟨es, clock, h1, _⟩ := hMV
          have := p0
          have h3 := up_of hZ p0
          unfold World.cell? at h3
          simp only [h1] at h3
          cases h3
        have hpZ : PtS Z2 (some ⟨pb, po, none⟩) P := by
          rcases hpV2.out with h | ⟨b', o', e', hb', h⟩
          · exact .inl h
          · cases e'
            have hk : ∀ o, Z2.cell? ⟨pb, o, none⟩ = Z.cell? ⟨pb, o, none⟩ := fun o => World.cell?_of_block (hg2.block pb hb' (fun e => by injection e with e; exact hne e))
            refine .inr ⟨pb, po, rfl, Nat.lt_of_lt_of_le hb' hg2.size, fun i hi => ?_⟩
            rw [hk, hk, hk]
            exact h i hi
        replace hZ2 := Lib.hid hZ2; replace gZ2 := Lib.hid gZ2; replace hpZ := Lib.hid hpZ; replace hM2 := Lib.hid hM2
        clear hg2 hMV hBV gV hkey
        go_region
        all_goals
          go_wp2
          go_roundw
          case rel => exact ⟨k + 1, by omega, rfl, hZ2.out, gZ2.out, hpZ.out, by rw [hput.out]; exact hM2.out⟩
          case measure => exact meas hlt
      · obtain rfl : k = P.length := by omega
        have hrV := RecM.up hBV hr0.out
        go_wp2
        go_ret2
        exact ⟨⟨_, _, _, _, rfl, gV, hrV, hpV, hMV⟩, hBV⟩
end Go.Proofs.Ytadmnlkgefbhcaa
