/- Several texts in one: each says what it proves. -/
import Derived.Test.YtakbpjgnjfigcaaGreatB10
import Derived.Test.YtakbpjgnjfigcaaGreatB7
/- The net of a valid recurrence: the reference makes it. -/
namespace Go.Proofs.YtakbpjgnjfigcaaGreat
open Go.RowKit Go.Maps

set_option maxRecDepth 100000 in
set_option maxHeartbeats 2000000 in
theorem Of_c (n : Int) (s : Option Addr) (cap : Nat) (l : List Iq) (s2 : Option Addr) (cq : Nat) (K : List Vv) (w : World) (hr : RecM w s l s2 cq K) (hn : 1 ≤ n ∧ n ≤ 3) (ok : NetOk n K (pts n l)) :
    Calls Tryz.prog 41 #[.agg #[.int .i64 n, .slice s l.length cap, .slice s2 K.length cq]] w fun e w' => (∃ g sp cp mb, e = .returned (.pointer (some ⟨g, 0, none⟩)) ∧ Net 142 w' g n s cap l s2 cq K sp cp mb (pts n l)) ∧ Below w.heap.size w w' := by
  have hpt := fun V (h : RecM V s l s2 cq K) => (All_c n s cap l V hn h.dom.iq h.dom.len h.dom.wf).mono (R' := fun e w' => (∃ s' c', e = .returned (.slice s' (pts n l).length c') ∧ w'.ownsRow V.heap.size 30 3 (.slice s' (pts n l).length c') (pts n l).length (ptCells (pts n l))) ∧ Below V.heap.size V w') (fun e w' ⟨s', c', he, ho, hb⟩ => ⟨⟨s', c', he, ho⟩, hb⟩)
  obtain ⟨P, hP⟩ : ∃ P, pts n l = P := ⟨_, rfl⟩
  simp only [hP] at hpt ok ⊢
  clear hP
  have hPl := ok.len
  have hI : ∀ q ∈ P, q.I64 := fun q hq => small_i64 (ok.pts q hq) (by omega)
  have hmm := @run_makeMap Tryz.prog
  replace hpt := Lib.hid hpt; replace hI := Lib.hid hI; replace ok := Lib.hid ok
  have hr0 := Lib.hid hr
  go_enter Tryz.func41, Tryz.ntmps41
  go_upto_region 1 with (fail)
  refine wp_world fun W HW => ?_
  have hB : Below w.heap.size w W := by rw [HW.out]; (repeat (first | exact Below.refl _ _ | refine Below.alloc ?_ (by simp; try omega) _ | refine Below.setCell ?_ (by simp) _ | refine Below.drew ?_))
  have d0 : W.cell? ⟨w.heap.size, 0, none⟩ = some (.int .i64 n) := by rw [HW.out]; simp [go_sem]
  have d1 : W.cell? ⟨w.heap.size, 1, none⟩ = some (.slice s l.length cap) := by rw [HW.out]; simp [go_sem]
  have d2 : W.cell? ⟨w.heap.size, 2, none⟩ = some (.slice s2 K.length cq) := by rw [HW.out]; simp [go_sem]
  have dl : w.heap.size < W.heap.size := World.block_lt_of_cell? W _ d0
  try replace hr := up_of hB hr
  go_region_held3 (fun V => V.cell? ⟨w.heap.size, 0, none⟩ = some (.int .i64 n) ∧ V.cell? ⟨w.heap.size, 1, none⟩ = some (.slice s l.length cap) ∧ V.cell? ⟨w.heap.size, 2, none⟩ = some (.slice s2 K.length cq)) ((first | (with_reducible exact ⟨d0, d1, d2⟩) | ((try dsimp only); (repeat' apply And.intro) <;> (repeat (first | (with_reducible assumption) | (with_reducible refine cell_set (by simp; try omega) ?_) | (with_reducible refine cell_drew ?_) | (with_reducible refine cell_alloc ?_ _)))))) ((first | (go_at_call 28; refine calls_below (W0 := W) ?_ fun hpre => ?_; (repeat (first | exact Below.refl _ _ | refine Below.alloc ?_ (by simp; try omega) _ | refine Below.drew ?_)); refine (hpt.out _ (up_of hpre hr)).mono ?_; rintro e N1 ⟨⟨sp, cp, rfl, hown⟩, hb1⟩; have hb := Up.trans hpre hb1; clear hpre; (first | have hs_N1 := below_alloc_lt hb1 | have hs_N1 := below_alloc_lt (drewB hb1) | skip); have dl_N1 := dl; (try replace hr := up_of hb hr); (try replace hB := up_of hb hB); (try replace d0 := up_of hb d0); (try replace d1 := up_of hb d1); (try replace d2 := up_of hb d2); (try replace dl := up_of hb dl); (first | have nB := new_up hb1 | have nB := new_up (drewB hb1) | (try replace nB := up_of hb nB)))))
  all_goals
    have hNs := hb.size
    have hBs := hB.size
    have hos := hown
  · refine exit_world fun X HX => ?_
    have hX : Below w.heap.size w X := by
      rw [HX.out]
      repeat (first | (with_reducible exact hB) | (with_reducible refine Below.drew ?_) | ((with_reducible refine Below.setC ?_ ?_); (focus (first | omega | (simp; done) | (simp; omega)))) | ((with_reducible refine Below.allo ?_ ?_); (focus (first | omega | (simp; done) | (simp; omega)))))
    have gX : Row X (N1.heap.size + 1) 142 #[.int .i64 n, .slice s l.length cap, .slice s2 K.length cq, .slice sp P.length cp, .map (some N1.heap.size)] := by
      rw [HX.out]
      refine Row.of ?_
      repeat (first | (with_reducible refine RowG.new ?_) | (with_reducible refine RowG.drew ?_) | (with_reducible refine RowG.set ?_) | ((with_reducible refine RowG.other ?_ ?_); (focus (first | omega | (simp; done) | (simp; omega)))) | ((with_reducible refine RowG.new' ?_ ?_); (focus (first | omega | (simp; done) | (simp; omega)))) | (with_reducible refine RowG.alloc ?_))
      rfl
    have hM : X.ownsMap Tryz.prog 30 (plainElem Tryz.prog 3) N1.heap.size 0 (ptD P 0) := by
      rw [HX.out]
      exact (World.ownsMap_made _ _ _ _).alloc _
    have hpX : PtS X sp P := by
      rw [HX.out]
      exact owns_pt ((hown.alloc _).alloc _)
    have hmg : N1.heap.size < N1.heap.size + 1 := by omega
    have hmw : w.heap.size ≤ N1.heap.size := by omega
    clear HX hown d0 d1 d2 dl hb
    obtain ⟨g, hg⟩ : ∃ g, N1.heap.size + 1 = g := ⟨_, rfl⟩
    obtain ⟨mb, hmb⟩ : ∃ mb, N1.heap.size = mb := ⟨_, rfl⟩
    rw [hg, hmb] at hmg
    rw [hmb] at hM hmw
    simp only [hg] at gX ⊢
    simp only [hmb] at gX ⊢
    have n3 : X.cell? ⟨g, 3, none⟩ = some (.slice sp P.length cp) := gX.cell rfl
    replace hpX := Lib.hid hpX; replace gX := Lib.hid gX; replace hg := Lib.hid hg; replace hmb := Lib.hid hmb
    clear hr hB
    go_wp2
    clear n3
    go_loopw [4] (fun ii V => ∃ k : Nat, k ≤ P.length ∧ ii = .int .i64 k ∧ Below w.heap.size w V ∧ Row V g 142 #[.int .i64 n, .slice s l.length cap, .slice s2 K.length cq, .slice sp P.length cp, .map (some mb)] ∧ PtS V sp P ∧ V.ownsMap Tryz.prog 30 (plainElem Tryz.prog 3) mb k (ptD P k)) (fun ii _ => P.length - (intOf ii).toNat)
    case atStart => exact ⟨0, by omega, rfl, hX, gX.out, hpX.out, hM⟩
    case round =>
      clear hX gX hpX hM
      obtain ⟨k, hk, rfl, hBV, gV, hpV, hMV⟩ := hrel
      have n3 : wr.cell? ⟨g, 3, none⟩ = some (.slice sp P.length cp) := gV.cell rfl
      by_cases hlt : k < P.length
      · obtain ⟨pb, po, rfl, hpb, p0, p1, p2⟩ := pt_at hpV hlt
        have hPk := hI.out _ (List.getElem_mem hlt)
        have hput := ptD_put hlt
        have hkey := key_of_pt hPk
        have hpV2 := Lib.hid hpV
        obtain ⟨⟨x, y, z⟩, hp⟩ : ∃ p, P[k] = p := ⟨_, rfl⟩
        rw [hp] at p0 p1 p2 hput hkey
        unfold pvK at hkey
        have i1 : (0 : Int) ≤ (k : Int) := by omega
        have i2 : (k : Int) < (P.length : Int) := by omega
        replace hput := Lib.hid hput
        clear hPk hp hpV
        obtain ⟨Z2, hrun, hM2, hg2⟩ := World.ownsMap.update (t := 124) hMV.drew key_ptk Tryz.underlying124 (by unfold maxLen; omega) hkey (plainElem_int (H := Unit) Tryz.underlying3 (a := (k : Int)) (wf_64 ⟨by omega, by omega⟩))
        have n4 : wr.cell? ⟨g, 4, none⟩ = some (.map (some mb)) := gV.cell rfl
        have hgl := gV.lt
        have hBs := hBV.size
        have hn1 : some g ≠ some mb := fun e => by injection e with e; omega
        have hZ2 : Below w.heap.size w Z2 := hBV.drew.grown hg2 (by exact hBs) (fun j e => by cases e; exact hmw)
        have gZ2 : Row Z2 g 142 #[.int .i64 n, .slice s l.length cap, .slice s2 K.length cq, .slice (some ⟨pb, po, none⟩) P.length cp, .map (some mb)] := (hg2.block _ hgl hn1).trans gV
        have hne : pb ≠ mb := fun e => by
          subst e
          obtain ⟨es, clock, h1, _⟩ := hMV
          have h3 := p0
          unfold World.cell? at h3
          simp only [h1] at h3
          cases h3
        have hpZ : PtS Z2 (some ⟨pb, po, none⟩) P := by
          rcases hpV2.out with h | ⟨b', o', e', hb', h⟩
          · exact .inl h
          · cases e'
            have hk : ∀ o, Z2.cell? ⟨pb, o, none⟩ = wr.cell? ⟨pb, o, none⟩ := fun o => World.cell?_of_block (hg2.block pb hb' (fun e => by injection e with e; exact hne e))
            refine .inr ⟨pb, po, rfl, Nat.lt_of_lt_of_le hb' hg2.size, fun i hi => ?_⟩
            rw [hk, hk, hk]
            exact h i hi
        replace hZ2 := Lib.hid hZ2; replace gZ2 := Lib.hid gZ2; replace hpZ := Lib.hid hpZ; replace hM2 := Lib.hid hM2
        clear hg2 hMV hBV gV hkey
        go_upto_region 5 with (fail)
        go_region
        all_goals
          go_wp2
          go_roundw
          case rel => exact ⟨k + 1, by omega, rfl, hZ2.out, gZ2.out, hpZ.out, by rw [hput.out]; exact hM2.out⟩
          case measure => exact meas hlt
      · obtain rfl : k = P.length := by omega
        have hrV := RecM.up hBV hr0.out
        go_wp2
        go_ret
        exact ⟨⟨_, _, _, _, rfl, gV, hrV, hpV, hMV⟩, hBV⟩

  · refine exit_world fun X HX => ?_
    have hMW : N1.ownsMap Tryz.prog 30 (plainElem Tryz.prog 3) W.heap.size 0 (ptD P 0) := by
      exact up_of hb1 (World.ownsMap.drew (World.ownsMap_made W _ _ _))
    have hX : Below w.heap.size w X := by
      rw [HX.out]
      repeat (first | (with_reducible exact hB) | (with_reducible refine Below.drew ?_) | ((with_reducible refine Below.setC ?_ ?_); (focus (first | omega | (simp; done) | (simp; omega)))) | ((with_reducible refine Below.allo ?_ ?_); (focus (first | omega | (simp; done) | (simp; omega)))))
    have gX : Row X (N1.heap.size) 142 #[.int .i64 n, .slice s l.length cap, .slice s2 K.length cq, .slice sp P.length cp, .map (some W.heap.size)] := by
      rw [HX.out]
      refine Row.of ?_
      repeat (first | (with_reducible refine RowG.new ?_) | (with_reducible refine RowG.drew ?_) | (with_reducible refine RowG.set ?_) | ((with_reducible refine RowG.other ?_ ?_); (focus (first | omega | (simp; done) | (simp; omega)))) | ((with_reducible refine RowG.new' ?_ ?_); (focus (first | omega | (simp; done) | (simp; omega)))) | (with_reducible refine RowG.alloc ?_))
      rfl
    have hM : X.ownsMap Tryz.prog 30 (plainElem Tryz.prog 3) W.heap.size 0 (ptD P 0) := by
      rw [HX.out]
      exact hMW.alloc _
    have hpX : PtS X sp P := by
      rw [HX.out]
      exact owns_pt (hown.alloc _)
    have hmg : W.heap.size < N1.heap.size := by exact hs_N1
    have hmw : w.heap.size ≤ W.heap.size := by omega
    clear HX hown d0 d1 d2 dl hb
    obtain ⟨g, hg⟩ : ∃ g, N1.heap.size = g := ⟨_, rfl⟩
    obtain ⟨mb, hmb⟩ : ∃ mb, W.heap.size = mb := ⟨_, rfl⟩
    rw [hg, hmb] at hmg
    rw [hmb] at hM hmw
    simp only [hg] at gX ⊢
    simp only [hmb] at gX ⊢
    have n3 : X.cell? ⟨g, 3, none⟩ = some (.slice sp P.length cp) := gX.cell rfl
    replace hpX := Lib.hid hpX; replace gX := Lib.hid gX; replace hg := Lib.hid hg; replace hmb := Lib.hid hmb
    clear hr hB
    go_wp2
    clear n3
    go_loopw [4] (fun ii V => ∃ k : Nat, k ≤ P.length ∧ ii = .int .i64 k ∧ Below w.heap.size w V ∧ Row V g 142 #[.int .i64 n, .slice s l.length cap, .slice s2 K.length cq, .slice sp P.length cp, .map (some mb)] ∧ PtS V sp P ∧ V.ownsMap Tryz.prog 30 (plainElem Tryz.prog 3) mb k (ptD P k)) (fun ii _ => P.length - (intOf ii).toNat)
    case atStart => exact ⟨0, by omega, rfl, hX, gX.out, hpX.out, hM⟩
    case round =>
      clear hX gX hpX hM
      obtain ⟨k, hk, rfl, hBV, gV, hpV, hMV⟩ := hrel
      have n3 : wr.cell? ⟨g, 3, none⟩ = some (.slice sp P.length cp) := gV.cell rfl
      by_cases hlt : k < P.length
      · obtain ⟨pb, po, rfl, hpb, p0, p1, p2⟩ := pt_at hpV hlt
        have hPk := hI.out _ (List.getElem_mem hlt)
        have hput := ptD_put hlt
        have hkey := key_of_pt hPk
        have hpV2 := Lib.hid hpV
        obtain ⟨⟨x, y, z⟩, hp⟩ : ∃ p, P[k] = p := ⟨_, rfl⟩
        rw [hp] at p0 p1 p2 hput hkey
        unfold pvK at hkey
        have i1 : (0 : Int) ≤ (k : Int) := by omega
        have i2 : (k : Int) < (P.length : Int) := by omega
        replace hput := Lib.hid hput
        clear hPk hp hpV
        obtain ⟨Z2, hrun, hM2, hg2⟩ := World.ownsMap.update (t := 124) hMV.drew key_ptk Tryz.underlying124 (by unfold maxLen; omega) hkey (plainElem_int (H := Unit) Tryz.underlying3 (a := (k : Int)) (wf_64 ⟨by omega, by omega⟩))
        have n4 : wr.cell? ⟨g, 4, none⟩ = some (.map (some mb)) := gV.cell rfl
        have hgl := gV.lt
        have hBs := hBV.size
        have hn1 : some g ≠ some mb := fun e => by injection e with e; omega
        have hZ2 : Below w.heap.size w Z2 := hBV.drew.grown hg2 (by exact hBs) (fun j e => by cases e; exact hmw)
        have gZ2 : Row Z2 g 142 #[.int .i64 n, .slice s l.length cap, .slice s2 K.length cq, .slice (some ⟨pb, po, none⟩) P.length cp, .map (some mb)] := (hg2.block _ hgl hn1).trans gV
        have hne : pb ≠ mb := fun e => by
          subst e
          obtain ⟨es, clock, h1, _⟩ := hMV
          have h3 := p0
          unfold World.cell? at h3
          simp only [h1] at h3
          cases h3
        have hpZ : PtS Z2 (some ⟨pb, po, none⟩) P := by
          rcases hpV2.out with h | ⟨b', o', e', hb', h⟩
          · exact .inl h
          · cases e'
            have hk : ∀ o, Z2.cell? ⟨pb, o, none⟩ = wr.cell? ⟨pb, o, none⟩ := fun o => World.cell?_of_block (hg2.block pb hb' (fun e => by injection e with e; exact hne e))
            refine .inr ⟨pb, po, rfl, Nat.lt_of_lt_of_le hb' hg2.size, fun i hi => ?_⟩
            rw [hk, hk, hk]
            exact h i hi
        replace hZ2 := Lib.hid hZ2; replace gZ2 := Lib.hid gZ2; replace hpZ := Lib.hid hpZ; replace hM2 := Lib.hid hM2
        clear hg2 hMV hBV gV hkey
        go_upto_region 5 with (fail)
        go_region
        all_goals
          go_wp2
          go_roundw
          case rel => exact ⟨k + 1, by omega, rfl, hZ2.out, gZ2.out, hpZ.out, by rw [hput.out]; exact hM2.out⟩
          case measure => exact meas hlt
      · obtain rfl : k = P.length := by omega
        have hrV := RecM.up hBV hr0.out
        go_wp2
        go_ret
        exact ⟨⟨_, _, _, _, rfl, gV, hrV, hpV, hMV⟩, hBV⟩

end Go.Proofs.YtakbpjgnjfigcaaGreat

/- The net's size, its elements, what they use: the reference. -/
namespace Go.Proofs.YtakbpjgnjfigcaaGreat
open Go.RowKit Go.Maps

/-- The element with a number. -/
def elOf (P : List Pt) (k : Nat) : Ar := ⟨((k / P.length : Nat) : Int), pOf P k⟩
/-- What an argument of an element names. -/
def argE (p : Pt) (a : Ar) : Ar := ⟨a.v, ptP p a.p⟩
def isIn (P : List Pt) (y : Ar) : Bool := (pix P y.p).isSome
def usesE (P : List Pt) (p : Pt) (args : List Ar) : List Ar := (args.map (argE p)).filter (isIn P)
def elNum (P : List Pt) (y : Ar) : Nat := y.v.toNat * P.length + (pix P y.p).getD 0
theorem useN_usesE (K : List Vv) (P : List Pt) (k : Nat) : useN K P k = (usesE P (pOf P k) (vOf K P k).args).map (elNum P) := by
  unfold useN usesE
  generalize (vOf K P k).args = L
  induction L with
  | nil => rfl
  | cons a L ih =>
    rw [List.filterMap_cons, List.map_cons, List.filter_cons]
    have e : argN P a (pOf P k) = (pix P (ptP (pOf P k) a.p)).map fun i => a.v.toNat * P.length + i := rfl
    rw [e, ih]
    cases h : pix P (ptP (pOf P k) a.p) with
    | none => simp [isIn, argE, h]
    | some i => simp [isIn, argE, h, elNum]
theorem elNum_of {n : Int} {K : List Vv} {P : List Pt} (ok : NetOk n K P) {k : Nat} (hk : k < K.length * P.length) : elNum P (elOf P k) = k := by
  obtain ⟨h1, h2, h3⟩ := num_div hk
  unfold elNum elOf
  rw [pOf_at h2, pix_at ok.nd h2]
  show (((k / P.length : Nat) : Int)).toNat * P.length + k % P.length = k
  rw [Int.toNat_natCast]; exact h3
theorem elOf_num {n : Int} {K : List Vv} {P : List Pt} (_ok : NetOk n K P) {y : Ar} (hv : bw 0 y.v (K.length - 1) = true) (hi : isIn P y = true) : elOf P (elNum P y) = y ∧ elNum P y < K.length * P.length := by
  unfold isIn at hi
  have hb := bw_iff.1 hv
  cases h : pix P y.p with
  | none => rw [h] at hi; cases hi
  | some i =>
    obtain ⟨hi2, e⟩ := pix_some h
    obtain ⟨h1, h2⟩ := div_num (v := y.v.toNat) hi2
    unfold elNum elOf
    rw [h]
    show (⟨(((y.v.toNat * P.length + i) / P.length : Nat) : Int), pOf P (y.v.toNat * P.length + i)⟩ : Ar) = y ∧ _
    rw [h1, pOf_at (by rw [h2]; exact hi2)]
    simp only [h2, e]
    refine ⟨?_, numb_lt (by omega) hi2⟩
    obtain ⟨v, p⟩ := y
    simp only at hb ⊢
    rw [Int.toNat_of_nonneg hb.1]
theorem ar_snoc (pre : List Ar) (x : Ar) : arE.all (pre ++ [x]) = arE.all pre ++ [.int .i64 x.v, .int .i64 x.p.x, .int .i64 x.p.y, .int .i64 x.p.z] := by simp [Elt.all, arE, Ar.cells]
theorem info_elm : (Tryz.prog.info? 90).map (fun i => (i.zero, i.size, i.bytes)) = some (some (.agg #[.int .i64 0, .int .i64 0, .int .i64 0, .int .i64 0]), 4, 32) := by kernel_rfl
section
variable {g : Nat} {n : Int} {s : Option Addr} {cap : Nat} {l : List Iq} {s2 : Option Addr} {cq : Nat} {K : List Vv} {sp : Option Addr} {cp mb : Nat} {P : List Pt}
set_option maxRecDepth 100000 in
set_option maxHeartbeats 1000000 in
theorem rIs_c (y : Ar) (w : World) (h : Net 142 w g n s cap l s2 cq K sp cp mb P) (ok : NetOk n K P) (hy : y.p.I64) :
    Calls Tryz.prog 87 #[.pointer (some ⟨g, 0, none⟩), .agg #[.int .i64 y.v, .int .i64 y.p.x, .int .i64 y.p.y, .int .i64 y.p.z]] w fun e w' => e = .returned (.bool (isIn P y && bw 0 y.v (K.length - 1))) ∧ Below w.heap.size w w' := by
  have hlk := fun V (h : Net 142 V g n s cap l s2 cq K sp cp mb P) => (h.look ok hy).1
  have hkl := ok.vars
  have hB0 : isIn P y = (pix P y.p).isSome := rfl
  obtain ⟨v, ⟨x, yy, z⟩⟩ := y
  simp only at hlk hB0 ⊢
  obtain ⟨i, hi⟩ : ∃ i, (pix P ⟨x, yy, z⟩).getD 0 = i := ⟨_, rfl⟩
  obtain ⟨B, hB1⟩ : ∃ B, (pix P ⟨x, yy, z⟩).isSome = B := ⟨_, rfl⟩
  simp only [hi, hB1] at hlk
  rw [hB0, hB1]
  obtain ⟨R, hR⟩ : ∃ R, (B && bw 0 v ((K.length : Int) - 1)) = R := ⟨_, rfl⟩
  rw [hR]
  obtain ⟨n0, n1, n2, n3, n4⟩ := h.cells
  replace hlk := Lib.hid hlk; replace hi := Lib.hid hi; replace hB1 := Lib.hid hB1; replace hR := Lib.hid hR
  clear hB0 hy
  have h0 := Lib.hid h
  clear h ok
  go_enter Tryz.func87, Tryz.ntmps87
  go_upto_region 1 with (fail)
  refine wp_world fun W HW => ?_
  have hB : Below w.heap.size w W := by rw [HW.out]; (repeat (first | exact Below.refl _ _ | refine Below.alloc ?_ (by simp; try omega) _ | refine Below.setCell ?_ (by simp) _ | refine Below.drew ?_))
  have q0 : W.cell? ⟨w.heap.size, 0, none⟩ = some (.int .i64 v) := by rw [HW.out]; simp [go_sem]
  have q1 : W.cell? ⟨w.heap.size, 1, none⟩ = some (.int .i64 x) := by rw [HW.out]; simp [go_sem]
  have q2 : W.cell? ⟨w.heap.size, 2, none⟩ = some (.int .i64 yy) := by rw [HW.out]; simp [go_sem]
  have q3 : W.cell? ⟨w.heap.size, 3, none⟩ = some (.int .i64 z) := by rw [HW.out]; simp [go_sem]
  have ql : w.heap.size < W.heap.size := World.block_lt_of_cell? W _ q0
  try replace h0 := up_of hB h0
  try replace n0 := up_of hB n0
  try replace n2 := up_of hB n2
  try replace n4 := up_of hB n4
  try have ld_h0 := World.block_lt_of_cell? _ _ h0
  try have ld_n0 := World.block_lt_of_cell? _ _ n0
  try have ld_q0 := World.block_lt_of_cell? _ _ q0
  refine region_q (by kernel_rfl) (by kernel_rfl) ?_
  dsimp only [List.toList_toArray]
  repeat (first
   | go_big_quiet_skip
   | (go_big_quiet_want
      first
      | (refine qq_det ?_
         apply Exists.intro; refine ⟨fun W' hW' => ?_, ?_⟩
         (· have hk := cellB hW'; have hlk9 := hlk.out W' (up_of hW' h0).out; go_simp; try (first | rfl | rw [if_pos (by omega)]))
         simp only [Act.put, List.setIfInBounds_toArray, List.set_cons_zero, List.set_cons_succ]; go_big_quiet_on)))
  refine wpQuiet_nil ?_
  intro X1 hb
  try replace h0 := up_of hb h0
  try replace n0 := up_of hb n0
  try replace n2 := up_of hb n2
  try replace n4 := up_of hb n4
  try replace hB := up_of hb hB
  try replace q0 := up_of hb q0
  try replace q1 := up_of hb q1
  try replace q2 := up_of hb q2
  try replace q3 := up_of hb q3
  try replace ql := up_of hb ql
  go_upto_region 2 with (fail)
  cases B
  · obtain rfl : false = R := by rw [← hR.out]; rfl
    try have ld_h0 := World.block_lt_of_cell? _ _ h0
    try have ld_n0 := World.block_lt_of_cell? _ _ n0
    try have ld_q0 := World.block_lt_of_cell? _ _ q0
    refine region_q (by kernel_rfl) (by kernel_rfl) ?_
    dsimp only [List.toList_toArray]
    repeat (first
     | go_big_quiet_skip
     | (go_big_quiet_want
        first
        | (refine qq_det ?_
           apply Exists.intro; refine ⟨fun W' hW' => ?_, ?_⟩
           (· have hk := cellB hW'; go_simp; try (first | rfl | rw [if_pos (by omega)]))
           simp only [Act.put, List.setIfInBounds_toArray, List.set_cons_zero, List.set_cons_succ]; go_big_quiet_on)))
    refine wpQuiet_nil ?_
    intro X2 hb
    try replace h0 := up_of hb h0
    try replace n0 := up_of hb n0
    try replace n2 := up_of hb n2
    try replace n4 := up_of hb n4
    try replace hB := up_of hb hB
    try replace q0 := up_of hb q0
    try replace q1 := up_of hb q1
    try replace q2 := up_of hb q2
    try replace q3 := up_of hb q3
    try replace ql := up_of hb ql
    go_wp2
    go_ret
    exact ⟨rfl, hB⟩
  · by_cases hv : 0 ≤ v
    · by_cases hv2 : v < (K.length : Int)
      · obtain rfl : true = R := by rw [← hR.out, Bool.true_and]; symm; rw [bw_iff]; omega
        try have ld_h0 := World.block_lt_of_cell? _ _ h0
        try have ld_n0 := World.block_lt_of_cell? _ _ n0
        try have ld_q0 := World.block_lt_of_cell? _ _ q0
        refine region_q (by kernel_rfl) (by kernel_rfl) ?_
        dsimp only [List.toList_toArray]
        repeat (first
         | go_big_quiet_skip
         | (go_big_quiet_want
            first
            | (refine qq_det ?_
               apply Exists.intro; refine ⟨fun W' hW' => ?_, ?_⟩
               (· have hk := cellB hW'; go_simp; try (first | rfl | rw [if_pos (by omega)]))
               simp only [Act.put, List.setIfInBounds_toArray, List.set_cons_zero, List.set_cons_succ]; go_big_quiet_on)))
        refine wpQuiet_nil ?_
        intro X2 hb
        try replace h0 := up_of hb h0
        try replace n0 := up_of hb n0
        try replace n2 := up_of hb n2
        try replace n4 := up_of hb n4
        try replace hB := up_of hb hB
        try replace q0 := up_of hb q0
        try replace q1 := up_of hb q1
        try replace q2 := up_of hb q2
        try replace q3 := up_of hb q3
        try replace ql := up_of hb ql
        go_wp2
        go_ret
        exact ⟨rfl, hB⟩
      · obtain rfl : false = R := by rw [← hR.out]; simp [bw]; omega
        try have ld_h0 := World.block_lt_of_cell? _ _ h0
        try have ld_n0 := World.block_lt_of_cell? _ _ n0
        try have ld_q0 := World.block_lt_of_cell? _ _ q0
        refine region_q (by kernel_rfl) (by kernel_rfl) ?_
        dsimp only [List.toList_toArray]
        repeat (first
         | go_big_quiet_skip
         | (go_big_quiet_want
            first
            | (refine qq_det ?_
               apply Exists.intro; refine ⟨fun W' hW' => ?_, ?_⟩
               (· have hk := cellB hW'; go_simp; try (first | rfl | rw [if_pos (by omega)]))
               simp only [Act.put, List.setIfInBounds_toArray, List.set_cons_zero, List.set_cons_succ]; go_big_quiet_on)))
        refine wpQuiet_nil ?_
        intro X2 hb
        try replace h0 := up_of hb h0
        try replace n0 := up_of hb n0
        try replace n2 := up_of hb n2
        try replace n4 := up_of hb n4
        try replace hB := up_of hb hB
        try replace q0 := up_of hb q0
        try replace q1 := up_of hb q1
        try replace q2 := up_of hb q2
        try replace q3 := up_of hb q3
        try replace ql := up_of hb ql
        go_wp2
        go_ret
        exact ⟨rfl, hB⟩
    · obtain rfl : false = R := by rw [← hR.out]; simp [bw]; omega
      try have ld_h0 := World.block_lt_of_cell? _ _ h0
      try have ld_n0 := World.block_lt_of_cell? _ _ n0
      try have ld_q0 := World.block_lt_of_cell? _ _ q0
      refine region_q (by kernel_rfl) (by kernel_rfl) ?_
      dsimp only [List.toList_toArray]
      repeat (first
       | go_big_quiet_skip
       | (go_big_quiet_want
          first
          | (refine qq_det ?_
             apply Exists.intro; refine ⟨fun W' hW' => ?_, ?_⟩
             (· have hk := cellB hW'; go_simp; try (first | rfl | rw [if_pos (by omega)]))
             simp only [Act.put, List.setIfInBounds_toArray, List.set_cons_zero, List.set_cons_succ]; go_big_quiet_on)))
      refine wpQuiet_nil ?_
      intro X2 hb
      try replace h0 := up_of hb h0
      try replace n0 := up_of hb n0
      try replace n2 := up_of hb n2
      try replace n4 := up_of hb n4
      try replace hB := up_of hb hB
      try replace q0 := up_of hb q0
      try replace q1 := up_of hb q1
      try replace q2 := up_of hb q2
      try replace q3 := up_of hb q3
      try replace ql := up_of hb ql
      go_wp2
      go_ret
      exact ⟨rfl, hB⟩
set_option maxRecDepth 100000 in
set_option maxHeartbeats 1000000 in
theorem rArg_c (v j : Nat) (p : Pt) (w : World) (h : Net 142 w g n s cap l s2 cq K sp cp mb P) (ok : NetOk n K P) (hv : v < K.length) (hj : j < K[v].args.length) (hp : p.small 20) :
    Calls Tryz.prog 122 #[.pointer (some ⟨g, 0, none⟩), .agg #[.int .i64 v, .int .i64 p.x, .int .i64 p.y, .int .i64 p.z], .int .i64 j] w fun e w' => e = .returned (.agg #[.int .i64 (argE p K[v].args[j]).v, .int .i64 (argE p K[v].args[j]).p.x, .int .i64 (argE p K[v].args[j]).p.y, .int .i64 (argE p K[v].args[j]).p.z]) ∧ Below w.heap.size w w' := by
  obtain ⟨n0, n1, n2, n3, n4⟩ := h.cells
  have hsh := ok.shift _ (List.getElem_mem hv) _ (List.getElem_mem hj)
  obtain ⟨vb, vo, sa, ca, rfl, hvb, z0, z1, z2, z3, z4, z5, z6, hsa, hal, -, -⟩ := h.rc.vars.at hv
  obtain ⟨ab, ao, rfl, hab, a0, a1, a2, a3⟩ := hsa.ar_at hj
  have hkl := ok.vars
  have haa := ok.args _ (List.getElem_mem hv)
  obtain ⟨AA, hAA⟩ : ∃ x, K[v].args.length = x := ⟨_, rfl⟩
  obtain ⟨⟨av, ⟨ax, ay, az⟩⟩, ha⟩ : ∃ x, K[v].args[j] = x := ⟨_, rfl⟩
  simp only [ha] at a0 a1 a2 a3 hsh ⊢
  rw [hAA] at z2 hj haa
  obtain ⟨⟨x, y, z⟩, hpp⟩ : ∃ q, p = q := ⟨_, rfl⟩
  subst hpp
  unfold argE ptP
  simp only
  obtain ⟨h1, h2, h3⟩ := hsh
  obtain ⟨p1, p2, p3⟩ := hp
  simp only at h1 h2 h3 p1 p2 p3
  have t1 : IntKind.i64.wrap (x + ax) = x + ax := i64_small (by omega)
  have t2 : IntKind.i64.wrap (y + ay) = y + ay := i64_small (by omega)
  have t3 : IntKind.i64.wrap (z + az) = z + az := i64_small (by omega)
  have i1 : (0 : Int) ≤ (v : Int) := by omega
  have i2 : (v : Int) < (K.length : Int) := by omega
  have i3 : (0 : Int) ≤ (j : Int) := by omega
  have i4 : (j : Int) < (AA : Int) := by omega
  replace hAA := Lib.hid hAA; replace ha := Lib.hid ha
  clear h ok h1 h2 h3 p1 p2 p3 hsa hal z0 z1 z3 z4 z5 z6
  go_enter Tryz.func122, Tryz.ntmps122
  go_upto_region 1 with (fail)
  refine wp_world fun W HW => ?_
  have hB : Below w.heap.size w W := by rw [HW.out]; (repeat (first | exact Below.refl _ _ | refine Below.alloc ?_ (by simp; try omega) _ | refine Below.setCell ?_ (by simp) _ | refine Below.drew ?_))
  have q0 : W.cell? ⟨w.heap.size, 0, none⟩ = some (.int .i64 v) := by rw [HW.out]; simp [go_sem]
  have q1 : W.cell? ⟨w.heap.size, 1, none⟩ = some (.int .i64 x) := by rw [HW.out]; simp [go_sem]
  have q2 : W.cell? ⟨w.heap.size, 2, none⟩ = some (.int .i64 y) := by rw [HW.out]; simp [go_sem]
  have q3 : W.cell? ⟨w.heap.size, 3, none⟩ = some (.int .i64 z) := by rw [HW.out]; simp [go_sem]
  have ql : w.heap.size < W.heap.size := World.block_lt_of_cell? W _ q0
  have rB : Row W (w.heap.size + 1) 90 #[.int .i64 0, .int .i64 0, .int .i64 0, .int .i64 0] := (by rw [HW.out]; (repeat (first | (refine blk_new ?_; simp; done) | refine blk_old ?_ _)) : W.heap[w.heap.size + 1]? = some (.cells #[.int .i64 0, .int .i64 0, .int .i64 0, .int .i64 0] 90 (0, 0)))
  have r0 : W.cell? ⟨w.heap.size + 1, 0, none⟩ = some (.int .i64 0) := by rw [HW.out]; simp [go_sem]
  have r1 : W.cell? ⟨w.heap.size + 1, 1, none⟩ = some (.int .i64 0) := by rw [HW.out]; simp [go_sem]
  have r2 : W.cell? ⟨w.heap.size + 1, 2, none⟩ = some (.int .i64 0) := by rw [HW.out]; simp [go_sem]
  have r3 : W.cell? ⟨w.heap.size + 1, 3, none⟩ = some (.int .i64 0) := by rw [HW.out]; simp [go_sem]
  have rl : w.heap.size + 1 < W.heap.size := World.block_lt_of_cell? W _ r0
  try replace n0 := up_of hB n0
  try replace n2 := up_of hB n2
  try replace z2 := up_of hB z2
  try replace a0 := up_of hB a0
  try replace a1 := up_of hB a1
  try replace a2 := up_of hB a2
  try replace a3 := up_of hB a3
  have rf := fun i => Row.frozen rB i
  have ln := World.block_lt_of_cell? _ _ n2
  have lz := World.block_lt_of_cell? _ _ z2
  have la := World.block_lt_of_cell? _ _ a0
  simp only at ln lz la
  go_region
  all_goals
    go_wp2
    refine bodyPost_ret (resC1 rfl rfl (loadEl (cs := #[.int .i64 av, .int .i64 (x + ax), .int .i64 (y + ay), .int .i64 (z + az)]) (b1 := w.heap.size + 1) ?_ rfl)) rfl ⟨rfl, ?_⟩
    · refine Row.of ?_
      repeat (first | (with_reducible refine RowG.base rB ?_) | (with_reducible refine RowG.drew ?_) | (with_reducible refine RowG.set ?_) | ((with_reducible refine RowG.other ?_ ?_); (focus (first | omega | (simp; done) | (simp; omega)))) | (with_reducible refine RowG.alloc ?_))
      rfl
    · repeat (first | (with_reducible exact hB) | (with_reducible refine Below.drew ?_) | ((with_reducible refine Below.setC ?_ ?_); (focus (first | omega | (simp; done) | (simp; omega)))) | ((with_reducible refine Below.allo ?_ ?_); (focus (first | omega | (simp; done) | (simp; omega)))))
end
end Go.Proofs.YtakbpjgnjfigcaaGreat

/- What an element uses: the reference. -/
namespace Go.Proofs.YtakbpjgnjfigcaaGreat
open Go.RowKit Go.Maps

section
variable {g : Nat} {n : Int} {s : Option Addr} {cap : Nat} {l : List Iq} {s2 : Option Addr} {cq : Nat} {K : List Vv} {sp : Option Addr} {cp mb : Nat} {P : List Pt}
set_option maxRecDepth 100000 in
set_option maxHeartbeats 1000000 in
theorem rUses_c (v : Nat) (p : Pt) (w : World) (h : Net 142 w g n s cap l s2 cq K sp cp mb P) (ok : NetOk n K P) (hv : v < K.length) (hp : p.small 20) :
    Calls Tryz.prog 88 #[.pointer (some ⟨g, 0, none⟩), .agg #[.int .i64 v, .int .i64 p.x, .int .i64 p.y, .int .i64 p.z]] w fun e w' => (∃ s' c', e = .returned (.slice s' (usesE P p K[v].args).length c') ∧ SlS arE w' s' (usesE P p K[v].args) ∧ ∀ b o, s' = some ⟨b, o, none⟩ → w.heap.size ≤ b) ∧ Below w.heap.size w w' := by
  have his := fun (y : Ar) (hy : y.p.I64) V (h : Net 142 V g n s cap l s2 cq K sp cp mb P) => rIs_c y V h ok hy
  have haa := ok.args _ (List.getElem_mem hv)
  have hvar := fun V (h : Net 142 V g n s cap l s2 cq K sp cp mb P) => h.rc.vars.at hv
  have hkl := ok.vars
  obtain ⟨args, hargs⟩ : ∃ x, K[v].args = x := ⟨_, rfl⟩
  have harg : ∀ (j : Nat) (hj : j < args.length) (V : World), Net 142 V g n s cap l s2 cq K sp cp mb P → Calls Tryz.prog 122 #[.pointer (some ⟨g, 0, none⟩), .agg #[.int .i64 v, .int .i64 p.x, .int .i64 p.y, .int .i64 p.z], .int .i64 j] V fun e w' => e = .returned (.agg #[.int .i64 (argE p args[j]).v, .int .i64 (argE p args[j]).p.x, .int .i64 (argE p args[j]).p.y, .int .i64 (argE p args[j]).p.z]) ∧ Below V.heap.size V w' := by
    subst hargs; exact fun j hj V h => rArg_c v j p V h ok hv hj hp
  have hsm : ∀ (j : Nat) (hj : j < args.length), (argE p args[j]).p.I64 := by
    subst hargs; exact fun j hj => small_i64 (ptP_small hp (ok.shift _ (List.getElem_mem hv) _ (List.getElem_mem hj))) (by omega)
  have hva : ∀ (j : Nat) (hj : j < args.length), bw 0 args[j].v (K.length - 1) = true := by
    subst hargs; exact fun j hj => ok.var _ (List.getElem_mem hv) _ (List.getElem_mem hj)
  simp only [hargs] at haa hvar ⊢
  obtain ⟨UU, hUU⟩ : ∃ x, usesE P p args = x := ⟨_, rfl⟩
  rw [hUU]
  have hus : UU = ([] : List Ar) ++ ((args.drop 0).map (argE p)).filter (isIn P) := by rw [← hUU]; rfl
  obtain ⟨⟨x, y, z⟩, hpp⟩ : ∃ q, p = q := ⟨_, rfl⟩
  subst hpp
  have i1 : (0 : Int) ≤ (v : Int) := by omega
  have i2 : (v : Int) < (K.length : Int) := by omega
  replace harg := Lib.hid harg; replace his := Lib.hid his; replace hsm := Lib.hid hsm; replace hva := Lib.hid hva; replace hvar := Lib.hid hvar; replace hus := Lib.hid hus
  clear hUU hargs hp ok
  go_enter Tryz.func88, Tryz.ntmps88
  go_upto_region 1 with (fail)
  refine wp_world fun W HW => ?_
  have hB : Below w.heap.size w W := by rw [HW.out]; (repeat (first | exact Below.refl _ _ | refine Below.alloc ?_ (by simp; try omega) _ | refine Below.setCell ?_ (by simp) _ | refine Below.drew ?_))
  have q0 : W.cell? ⟨w.heap.size, 0, none⟩ = some (.int .i64 v) := by rw [HW.out]; simp [go_sem]
  have q1 : W.cell? ⟨w.heap.size, 1, none⟩ = some (.int .i64 x) := by rw [HW.out]; simp [go_sem]
  have q2 : W.cell? ⟨w.heap.size, 2, none⟩ = some (.int .i64 y) := by rw [HW.out]; simp [go_sem]
  have q3 : W.cell? ⟨w.heap.size, 3, none⟩ = some (.int .i64 z) := by rw [HW.out]; simp [go_sem]
  have ql : w.heap.size < W.heap.size := World.block_lt_of_cell? W _ q0
  try replace h := up_of hB h
  have hWw0 := hB.size
  have hown0 : W.ownsRow W.heap.size 90 4 (.slice none 0 0) 0 (arE.all []) := World.ownsRow_nil _ _ _ _
  go_wp2
  go_loopw [5, 6] (fun ov jj V => ∃ (j : Nat) (pre : List Ar), j ≤ args.length ∧ jj = .int .i64 j ∧ V.ownsRow W.heap.size 90 4 ov pre.length (arE.all pre) ∧ pre.length ≤ j ∧ Hid (UU = pre ++ ((args.drop j).map (argE ⟨x, y, z⟩)).filter (isIn P)) ∧ Below W.heap.size W V) (fun _ jj _ => args.length - (intOf jj).toNat)
  case atStart => exact ⟨0, [], by omega, rfl, hown0, by simp, hus, Below.refl _ _⟩
  case round =>
    clear hown0 hus
    obtain ⟨j, pre, hj, rfl, hown, hpj, hpre, hBV⟩ := hrel
    try replace h := up_of hBV h
    try replace hB := up_of hBV hB
    try replace q0 := up_of hBV q0
    try replace q1 := up_of hBV q1
    try replace q2 := up_of hBV q2
    try replace q3 := up_of hBV q3
    try replace ql := up_of hBV ql
    obtain ⟨vb, vo, sa, ca, es, hvb, -, -, z0, -, -, -, -, -, hal, -, -⟩ := hvar.out _ h
    cases es
    obtain ⟨n0, n1, n2, n3, n4⟩ := h.cells
    by_cases hlt : j < args.length
    · have hdr : args.drop j = args[j] :: args.drop (j + 1) := List.drop_eq_getElem_cons hlt
      have hp2 := hpre.out
      rw [hdr, List.map_cons, List.filter_cons] at hp2
      have hA := fun V h => harg.out j hlt V h
      have hI := fun V h => his.out (argE ⟨x, y, z⟩ args[j]) (hsm.out j hlt) V h
      have hvb2 := hva.out j hlt
      obtain ⟨ye, hye⟩ : ∃ q, argE ⟨x, y, z⟩ args[j] = q := ⟨_, rfl⟩
      have hyv : ye.v = args[j].v := by rw [← hye]; rfl
      rw [← hyv] at hvb2
      simp only [hye] at hA hI hp2
      rw [hvb2] at hI
      obtain ⟨yv, ⟨yx, yy, yz⟩⟩ := ye
      simp only at hA hI hp2
      have g1 : (0 : Int) ≤ (j : Int) := by omega
      have g2 : (j : Int) < (args.length : Int) := by omega
      replace hA := Lib.hid hA
      clear hdr hye hyv hvb2 hpre
      go_upto_region 3 with (fail)
      try have ld_q0 := World.block_lt_of_cell? _ _ q0
      try have ld_z0 := World.block_lt_of_cell? _ _ z0
      try have ld_n0 := World.block_lt_of_cell? _ _ n0
      refine region_q (by kernel_rfl) (by kernel_rfl) ?_
      dsimp only [List.toList_toArray]
      repeat (first
       | go_big_quiet_skip
       | (go_big_quiet_want
          first
          | (refine qq_det ?_
             apply Exists.intro; refine ⟨fun W' hW' => ?_, ?_⟩
             (· have hk := cellB hW'; go_simp; try (first | rfl | rw [if_pos (by omega)]))
             simp only [Act.put, List.setIfInBounds_toArray, List.set_cons_zero, List.set_cons_succ]; go_big_quiet_on)))
      refine wpQuiet_nil ?_
      intro V1 hb
      try replace h := up_of hb h
      try replace hB := up_of hb hB
      try replace q0 := up_of hb q0
      try replace q1 := up_of hb q1
      try replace q2 := up_of hb q2
      try replace q3 := up_of hb q3
      try replace ql := up_of hb ql
      try replace hBV := up_of hb hBV
      try replace hown := up_of hb hown
      try replace z0 := up_of hb z0
      try replace n0 := up_of hb n0
      try replace n2 := up_of hb n2
      clear z0 n0 n2
      have hwW := hBV.size
      go_upto_region 6 with (first | (go_at_call 122; refine (hA.out _ h).mono ?_; rintro e V2 ⟨rfl, hb⟩; replace h := up_of hb h; replace hBV := up_of hb hBV; replace hown := up_of hb hown; replace hB := up_of hb hB))
      refine wp_world fun X HX => ?_
      have hX : Below V2.heap.size V2 X := by rw [HX.out]; (repeat (first | exact Below.refl _ _ | refine Below.alloc ?_ (by simp; try omega) _ | refine Below.setCell ?_ (by simp) _ | refine Below.drew ?_))
      have e0 : X.cell? ⟨V2.heap.size, 0, none⟩ = some (.int .i64 yv) := by rw [HX.out]; simp [go_sem]
      have e1 : X.cell? ⟨V2.heap.size, 1, none⟩ = some (.int .i64 yx) := by rw [HX.out]; simp [go_sem]
      have e2 : X.cell? ⟨V2.heap.size, 2, none⟩ = some (.int .i64 yy) := by rw [HX.out]; simp [go_sem]
      have e3 : X.cell? ⟨V2.heap.size, 3, none⟩ = some (.int .i64 yz) := by rw [HX.out]; simp [go_sem]
      have el : V2.heap.size < X.heap.size := World.block_lt_of_cell? X _ e0
      try replace h := up_of hX h
      try replace hBV := up_of hX hBV
      try replace hown := up_of hX hown
      try replace hB := up_of hX hB
      cases hin : isIn P ⟨yv, ⟨yx, yy, yz⟩⟩
      · rw [hin] at hI hp2
        rw [if_neg (by simp)] at hp2
        simp only [Bool.false_and] at hI
        replace hp2 := Lib.hid hp2; replace hI := Lib.hid hI
        clear hin
        go_wp2_with (first | (go_at_call 87; refine (hI.out _ h).mono ?_; rintro e W1 ⟨rfl, hb⟩; (try replace h := up_of hb h); (try replace hBV := up_of hb hBV); (try replace hown := up_of hb hown); (try replace hB := up_of hb hB); (try replace hX := up_of hb hX); (try replace e0 := up_of hb e0); (try replace e1 := up_of hb e1); (try replace e2 := up_of hb e2); (try replace e3 := up_of hb e3); (try replace el := up_of hb el)))
        go_roundw
        case rel => exact ⟨j + 1, pre, by omega, rfl, hown, by omega, hp2, hBV⟩
        case measure => exact meas hlt
      · rw [hin] at hI hp2
        rw [if_pos rfl] at hp2
        simp only [Bool.true_and] at hI
        have hp3 : UU = (pre ++ [(⟨yv, ⟨yx, yy, yz⟩⟩ : Ar)]) ++ ((args.drop (j + 1)).map (argE ⟨x, y, z⟩)).filter (isIn P) := by rw [hp2]; simp
        replace hp3 := Lib.hid hp3; replace hI := Lib.hid hI
        clear hin hp2
        obtain ⟨i0, hi0, hz0, hz1, hz2⟩ := info_parts info_elm
        go_upto_region 7 with (first | (go_at_call 87; refine (hI.out _ h).mono ?_; rintro e V3 ⟨rfl, hb⟩; (try replace h := up_of hb h); (try replace hBV := up_of hb hBV); (try replace hown := up_of hb hown); (try replace hB := up_of hb hB); (try replace hX := up_of hb hX); (try replace e0 := up_of hb e0); (try replace e1 := up_of hb e1); (try replace e2 := up_of hb e2); (try replace e3 := up_of hb e3); (try replace el := up_of hb el)))
        have hVs := hBV.size
        go_wp2_with (first | (at_builtin; refine wpList_append_own_at _ rfl _ _ 28 rfl W.heap.size 90 i0 _ 4 32 Tryz.underlying28 hi0 hz0 hz1 hz2 rfl (by decide) _ _ _ rfl (hown.alloc _) ⟨V3.heap.size, 0, none⟩ 1 1 [.int .i64 yv, .int .i64 yx, .int .i64 yy, .int .i64 yz] rfl rfl (news_new _ _ _) (by simp [Value.oneCell']) (by unfold maxLen; omega) (by omega) (by simp; omega) ?_; intro v1 w1 hown1 hgrow hnil hat1))
        have hB1 : Below W.heap.size W w1 := (hBV.alloc hVs _).grown hgrow (by simp; omega) (fun j e => (hown.lt j e).1)
        go_roundw
        case rel => exact ⟨j + 1, pre ++ [(⟨yv, ⟨yx, yy, yz⟩⟩ : Ar)], by omega, rfl, by rw [ar_snoc, List.length_append]; exact hown1, by simp; omega, hp3, hB1⟩
        case measure => exact meas hlt
    · have hje : j = args.length := by omega
      subst hje
      have hUP : UU = pre := by rw [hpre.out]; simp
      subst hUP
      obtain ⟨s', c', e', -⟩ := owns_shape hown
      subst e'
      have hsl := Lib.hid (SlS.of_own (E := arE) hown)
      have hWw := hWw0
      have hlo : ∀ b o, s' = some ⟨b, o, none⟩ → w.heap.size ≤ b := fun b o e => by have := (hown.lt b (by rw [e]; rfl)).1; omega
      replace hlo := Lib.hid hlo
      go_upto_region 3 with (fail)
      try have ld_q0 := World.block_lt_of_cell? _ _ q0
      try have ld_z0 := World.block_lt_of_cell? _ _ z0
      try have ld_n0 := World.block_lt_of_cell? _ _ n0
      refine region_q (by kernel_rfl) (by kernel_rfl) ?_
      dsimp only [List.toList_toArray]
      repeat (first
       | go_big_quiet_skip
       | (go_big_quiet_want
          first
          | (refine qq_det ?_
             apply Exists.intro; refine ⟨fun W' hW' => ?_, ?_⟩
             (· have hk := cellB hW'; go_simp; try (first | rfl | rw [if_pos (by omega)]))
             simp only [Act.put, List.setIfInBounds_toArray, List.set_cons_zero, List.set_cons_succ]; go_big_quiet_on)))
      refine wpQuiet_nil ?_
      intro V1 hb
      try replace h := up_of hb h
      try replace hB := up_of hb hB
      try replace q0 := up_of hb q0
      try replace q1 := up_of hb q1
      try replace q2 := up_of hb q2
      try replace q3 := up_of hb q3
      try replace ql := up_of hb ql
      try replace hBV := up_of hb hBV
      try replace z0 := up_of hb z0
      try replace n0 := up_of hb n0
      try replace n2 := up_of hb n2
      clear hpre
      have hsl2 := Lib.hid (up_of hb hsl.out)
      clear hsl hown z0 n0 n2 h hBV
      go_wp2
      go_ret
      first | exact ⟨⟨s', ⟨c', rfl⟩, hsl2.out, hlo.out⟩, hB⟩ | exact ⟨⟨s', c', rfl, hsl2.out, hlo.out⟩, hB⟩
end
end Go.Proofs.YtakbpjgnjfigcaaGreat

/- Where an element is: the program. -/
namespace Go.Proofs.YtakbpjgnjfigcaaGreat
open Go.RowKit Go.Maps

section
variable {g : Nat} {n : Int} {s : Option Addr} {cap : Nat} {l : List Iq} {s2 : Option Addr} {cq : Nat} {K : List Vv} {sp : Option Addr} {cp mb : Nat} {P : List Pt}
theorem isEl_in (K : List Vv) (P : List Pt) (y : Ar) : isEl K P y.v y.p = (isIn P y && bw 0 y.v (K.length - 1)) := rfl
set_option maxRecDepth 100000 in
set_option maxHeartbeats 1000000 in
theorem find_c (y : Ar) (w : World) (h : Net 126 w g n s cap l s2 cq K sp cp mb P) (ok : NetOk n K P) (hy : y.p.I64) :
    Calls Tryz.prog 92 #[.pointer (some ⟨g, 0, none⟩), .agg #[.int .i64 y.v, .int .i64 y.p.x, .int .i64 y.p.y, .int .i64 y.p.z]] w fun e w' => (∃ z, e = .returned (.tuple #[.int .i64 z, .bool (isEl K P y.v y.p)]) ∧ (isEl K P y.v y.p = true → z = (elNum P y : Nat) ∧ elNum P y < K.length * P.length ∧ elOf P (elNum P y) = y)) ∧ Below w.heap.size w w' := by
  have hlk := fun V (h : Net 126 V g n s cap l s2 cq K sp cp mb P) => (h.look ok hy).1
  have hkl := ok.vars
  have hPl := ok.len
  have hNs := ok.size
  have hil := pix_lt (P := P) (p := y.p)
  have hfin : isEl K P y.v y.p = true → IntKind.i64.wrap (IntKind.i64.wrap (y.v * (P.length : Int)) + ((pix P y.p).getD 0 : Nat)) = (elNum P y : Nat) ∧ elNum P y < K.length * P.length ∧ elOf P (elNum P y) = y := fun he => by
    rw [isEl_in, Bool.and_eq_true] at he
    obtain ⟨h1, h2⟩ := elOf_num ok he.2 he.1
    have hb := bw_iff.1 he.2
    refine ⟨?_, h2, h1⟩
    have e0 : elNum P y = y.v.toNat * P.length + (pix P y.p).getD 0 := rfl
    have e1 : y.v * (P.length : Int) = ((y.v.toNat * P.length : Nat) : Int) := by rw [Int.natCast_mul, Int.toNat_of_nonneg hb.1]
    rw [e1, i64_small (n := ((y.v.toNat * P.length : Nat) : Int)) (by omega), i64_small (by omega), e0]
    omega
  have hB0 : isEl K P y.v y.p = ((pix P y.p).isSome && bw 0 y.v (K.length - 1)) := rfl
  obtain ⟨FN, hFN⟩ : ∃ x, elNum P y = x := ⟨_, rfl⟩
  simp only [hFN] at hfin ⊢
  obtain ⟨QQ, hQQ⟩ : ∃ x, (FN < K.length * P.length ∧ elOf P FN = y) = x := ⟨_, rfl⟩
  rw [hQQ] at hfin ⊢
  rw [hB0] at hfin ⊢
  clear hB0 hFN hQQ
  obtain ⟨v, ⟨x, yy, z⟩⟩ := y
  simp only at hlk hfin hil ⊢
  obtain ⟨i, hi⟩ : ∃ i, (pix P ⟨x, yy, z⟩).getD 0 = i := ⟨_, rfl⟩
  obtain ⟨B, hB1⟩ : ∃ B, (pix P ⟨x, yy, z⟩).isSome = B := ⟨_, rfl⟩
  simp only [hi, hB1] at hlk hfin hil ⊢
  obtain ⟨A, hA⟩ : ∃ a, IntKind.i64.wrap (v * (P.length : Int)) = a := ⟨_, rfl⟩
  rw [hA] at hfin
  obtain ⟨Z, hZ⟩ : ∃ a, IntKind.i64.wrap (A + (i : Int)) = a := ⟨_, rfl⟩
  rw [hZ] at hfin
  have hbt := fun V => (recBetween_c 0 v (K.length - 1) V).mono (R' := fun e w' => e = .returned (.bool (bw 0 v (K.length - 1))) ∧ Below V.heap.size V w') (fun e w' ⟨h1, h2⟩ => ⟨h1, by rw [h2]; exact Below.refl _ _⟩)
  obtain ⟨XB, hXB⟩ : ∃ q, bw 0 v ((K.length : Int) - 1) = q := ⟨_, rfl⟩
  rw [hXB] at hfin ⊢
  simp only [hXB] at hbt
  have hk1 := i64_small (n := (K.length : Int) - 1) (by omega)
  obtain ⟨n0, n1, n2, n3, n4⟩ := h.cells
  replace hlk := Lib.hid hlk; replace hi := Lib.hid hi; replace hB1 := Lib.hid hB1; replace hXB := Lib.hid hXB; replace hfin := Lib.hid hfin; replace hbt := Lib.hid hbt
  clear hy
  have h0 := Lib.hid h
  clear h ok
  go_enter Tryz.func92, Tryz.ntmps92
  go_upto_region 1 with (fail)
  refine wp_world fun W HW => ?_
  have hB : Below w.heap.size w W := by rw [HW.out]; (repeat (first | exact Below.refl _ _ | refine Below.alloc ?_ (by simp; try omega) _ | refine Below.setCell ?_ (by simp) _ | refine Below.drew ?_))
  have q0 : W.cell? ⟨w.heap.size, 0, none⟩ = some (.int .i64 v) := by rw [HW.out]; simp [go_sem]
  have q1 : W.cell? ⟨w.heap.size, 1, none⟩ = some (.int .i64 x) := by rw [HW.out]; simp [go_sem]
  have q2 : W.cell? ⟨w.heap.size, 2, none⟩ = some (.int .i64 yy) := by rw [HW.out]; simp [go_sem]
  have q3 : W.cell? ⟨w.heap.size, 3, none⟩ = some (.int .i64 z) := by rw [HW.out]; simp [go_sem]
  have ql : w.heap.size < W.heap.size := World.block_lt_of_cell? W _ q0
  try replace h0 := up_of hB h0
  try replace n0 := up_of hB n0
  try replace n2 := up_of hB n2
  try replace n3 := up_of hB n3
  try replace n4 := up_of hB n4
  try have ld_h0 := World.block_lt_of_cell? _ _ h0
  try have ld_n0 := World.block_lt_of_cell? _ _ n0
  try have ld_q0 := World.block_lt_of_cell? _ _ q0
  refine region_q (by kernel_rfl) (by kernel_rfl) ?_
  dsimp only [List.toList_toArray]
  repeat (first
   | go_big_quiet_skip
   | (go_big_quiet_want
      first
      | (refine qq_det ?_
         apply Exists.intro; refine ⟨fun W' hW' => ?_, ?_⟩
         (· have hk := cellB hW'; have hlk9 := hlk.out W' (up_of hW' h0).out; go_simp; try (first | rfl | rw [if_pos (by omega)]))
         simp only [Act.put, List.setIfInBounds_toArray, List.set_cons_zero, List.set_cons_succ]; go_big_quiet_on)))
  refine wpQuiet_nil ?_
  intro X1 hb
  try replace h0 := up_of hb h0
  try replace n0 := up_of hb n0
  try replace n2 := up_of hb n2
  try replace n3 := up_of hb n3
  try replace n4 := up_of hb n4
  try replace hB := up_of hb hB
  try replace q0 := up_of hb q0
  try replace q1 := up_of hb q1
  try replace q2 := up_of hb q2
  try replace q3 := up_of hb q3
  try replace ql := up_of hb ql
  go_upto_region 2 with (fail)
  cases B
  · try have ld_h0 := World.block_lt_of_cell? _ _ h0
    try have ld_n0 := World.block_lt_of_cell? _ _ n0
    try have ld_q0 := World.block_lt_of_cell? _ _ q0
    refine region_q (by kernel_rfl) (by kernel_rfl) ?_
    dsimp only [List.toList_toArray]
    repeat (first
     | go_big_quiet_skip
     | (go_big_quiet_want
        first
        | (refine qq_det ?_
           apply Exists.intro; refine ⟨fun W' hW' => ?_, ?_⟩
           (· have hk := cellB hW'; go_simp; try (first | rfl | rw [if_pos (by omega)]))
           simp only [Act.put, List.setIfInBounds_toArray, List.set_cons_zero, List.set_cons_succ]; go_big_quiet_on)))
    refine wpQuiet_nil ?_
    intro X2 hb
    try replace h0 := up_of hb h0
    try replace n0 := up_of hb n0
    try replace n2 := up_of hb n2
    try replace n3 := up_of hb n3
    try replace n4 := up_of hb n4
    try replace hB := up_of hb hB
    try replace q0 := up_of hb q0
    try replace q1 := up_of hb q1
    try replace q2 := up_of hb q2
    try replace q3 := up_of hb q3
    try replace ql := up_of hb ql
    go_wp2
    refine bodyPost_ret (results_tmp2 rfl _ _ _) rfl ?_
    first | exact ⟨⟨_, rfl, fun h => by cases h⟩, hB⟩ | exact ⟨⟨_, rfl⟩, hB⟩
  · try have ld_h0 := World.block_lt_of_cell? _ _ h0
    try have ld_n0 := World.block_lt_of_cell? _ _ n0
    try have ld_q0 := World.block_lt_of_cell? _ _ q0
    refine region_q (by kernel_rfl) (by kernel_rfl) ?_
    dsimp only [List.toList_toArray]
    repeat (first
     | go_big_quiet_skip
     | (go_big_quiet_want
        first
        | (refine qq_det ?_
           apply Exists.intro; refine ⟨fun W' hW' => ?_, ?_⟩
           (· have hk := cellB hW'; go_simp; try (first | rfl | rw [if_pos (by omega)]))
           simp only [Act.put, List.setIfInBounds_toArray, List.set_cons_zero, List.set_cons_succ]; go_big_quiet_on)
        | (refine qq_call ?_
           apply Exists.intro; apply Exists.intro; refine ⟨fun W' hW' => ?_, ?_⟩
           (· have hk := cellB hW'; go_simp; exact ⟨rfl, rfl⟩)
           apply Exists.intro; refine ⟨fun W' hW' => ?_, ?_⟩
           (· first | (go_at_call 70; exact qc hW' (hbt.out _)))
           simp only [Act.put, List.setIfInBounds_toArray, List.set_cons_zero, List.set_cons_succ]; go_big_quiet_on)))
    refine wpQuiet_nil ?_
    intro X2 hb
    try replace h0 := up_of hb h0
    try replace n0 := up_of hb n0
    try replace n2 := up_of hb n2
    try replace n3 := up_of hb n3
    try replace n4 := up_of hb n4
    try replace hB := up_of hb hB
    try replace q0 := up_of hb q0
    try replace q1 := up_of hb q1
    try replace q2 := up_of hb q2
    try replace q3 := up_of hb q3
    try replace ql := up_of hb ql
    go_wp2
    refine bodyPost_ret (results_tmp2 rfl _ _ _) rfl ?_
    refine ⟨⟨_, rfl, fun h => ?_⟩, hB⟩
    exact hfin.out h
end
end Go.Proofs.YtakbpjgnjfigcaaGreat
