/- The least and the greatest coordinates. -/
import Derived.Test.YtfebkccdcbkdiaaPoly12
namespace Go.Proofs.Ytfebkccdcbkdiaa
open Go.RowKit

attribute [local go_sem] Oper.semAt_some

def mnP (a b : Pt) : Pt := ⟨min a.x b.x, min a.y b.y, min a.z b.z⟩
def mxP (a b : Pt) : Pt := ⟨max a.x b.x, max a.y b.y, max a.z b.z⟩
def lowL : List Pt → Pt
  | [] => ⟨0, 0, 0⟩
  | p :: l => l.foldl mnP p
def highL : List Pt → Pt
  | [] => ⟨0, 0, 0⟩
  | p :: l => l.foldl mxP p
def someL (l : List Pt) : Bool := !l.isEmpty
theorem lowL_snoc (l : List Pt) (p : Pt) : lowL (l ++ [p]) = if someL l then mnP (lowL l) p else p := by
  cases l with
  | nil => rfl
  | cons q l => simp [lowL, someL]
theorem highL_snoc (l : List Pt) (p : Pt) : highL (l ++ [p]) = if someL l then mxP (highL l) p else p := by
  cases l with
  | nil => rfl
  | cons q l => simp [highL, someL]
theorem someL_snoc (l : List Pt) (p : Pt) : someL (l ++ [p]) = true := by simp [someL]
/-- One coordinate of the least and the greatest so far. -/
def loC (f : Bool) (a x : Int) : Int := if f then min a x else x
def hiC (f : Bool) (a x : Int) : Int := if f then max a x else x

def boxE (n : Int) (l : List Iq) : Int := if validB n l then (if someL (pts n l) then 0 else 5) else 10
def boxLo (n : Int) (l : List Iq) : Pt := if validB n l then lowL (pts n l) else ⟨0, 0, 0⟩
def boxHi (n : Int) (l : List Iq) : Pt := if validB n l then highL (pts n l) else ⟨0, 0, 0⟩
def ptA (p : Pt) : Array Value := #[.int .i64 p.x, .int .i64 p.y, .int .i64 p.z]
def ptV (p : Pt) : Value := .agg #[.int .i64 p.x, .int .i64 p.y, .int .i64 p.z]
def BoxRet (n : Int) (l : List Iq) (w : World) (e : Ending) (w' : World) : Prop :=
  e = .returned (.tuple #[ptV (boxLo n l), ptV (boxHi n l), .int .i64 (boxE n l)]) ∧ Below w.heap.size w w'

theorem load_pt {X : World} {b : Nat} {t : TypeId} {x y z : Value} (h : Row X b t #[x, y, z]) : (loadVar 26 ⟨b, 0, none⟩).run Try.prog X = .ok (.agg #[x, y, z]) X := by
  obtain ⟨h0, h1, h2⟩ := h.three
  simp [go_sem, loadVar, h0, h1, h2]
theorem results_ccs {fn : Func} {p u q : Tmp} {tp tu : TypeId} {tmps : Array Value} {P : Program} {w : World} {a b : Addr} {va vb vc : Value} (h : fn.results = #[.cell p tp, .cell u tu, .tmp q])
    (hp : tmps.getD p undef = .pointer (some a)) (hu : tmps.getD u undef = .pointer (some b)) (hq : tmps.getD q undef = vc)
    (la : (loadVar tp a).run P w = .ok va w) (lb : (loadVar tu b).run P w = .ok vb w) : (results fn tmps).run P w = .ok (.tuple #[va, vb, vc]) w := by
  simp only [results, h]
  simp only [Array.getD_eq_getD_getElem?] at hp hu hq
  simp [Sem.run_bind, Result.andThen, hp, hu, hq, asAddr, la, lb]
theorem load_P {X : World} {b : Nat} (p : Pt) (h0 : X.cell? ⟨b, 0, none⟩ = some (.int .i64 p.x)) (h1 : X.cell? ⟨b, 1, none⟩ = some (.int .i64 p.y)) (h2 : X.cell? ⟨b, 2, none⟩ = some (.int .i64 p.z)) : (loadVar 26 ⟨b, 0, none⟩).run Try.prog X = .ok (ptV p) X := by
  simp [go_sem, loadVar, h0, h1, h2, ptV]
/-- The end of Box. -/
theorem box_ret (n : Int) (l : List Iq) {tmps : Array Value} {w X : World} {b1 b2 : Nat} (lo hi : Pt) (er : Int) (e1 : boxLo n l = lo) (e2 : boxHi n l = hi) (e3 : boxE n l = er)
    (h2 : tmps.getD 2 undef = .pointer (some ⟨b1, 0, none⟩)) (h3 : tmps.getD 3 undef = .pointer (some ⟨b2, 0, none⟩)) (h4 : tmps.getD 4 undef = .int .i64 er)
    (rl : Row X b1 26 (ptA lo)) (rh : Row X b2 26 (ptA hi)) (hB : Below w.heap.size w X) :
    (results Try.f25 tmps).run Try.prog X = .ok (.tuple #[ptV lo, ptV hi, .int .i64 er]) X ∧ BoxRet n l w (.returned (.tuple #[ptV lo, ptV hi, .int .i64 er])) X := by
  subst e1; subst e2; subst e3
  exact ⟨results_ccs rfl h2 h3 h4 (load_P _ rl.three.1 rl.three.2.1 rl.three.2.2) (load_P _ rh.three.1 rh.three.2.1 rh.three.2.2), rfl, hB⟩
theorem box_end0 (n : Int) (l : List Iq) {tmps : Array Value} {w X : World} {b1 b2 : Nat} (lo hi : Pt) (er : Int) (e1 : boxLo n l = lo) (e2 : boxHi n l = hi) (e3 : boxE n l = er)
    (h2 : tmps.getD 2 undef = .pointer (some ⟨b1, 0, none⟩)) (h3 : tmps.getD 3 undef = .pointer (some ⟨b2, 0, none⟩)) (h4 : tmps.getD 4 undef = .int .i64 er)
    (rl : Row X b1 26 (ptA lo)) (rh : Row X b2 26 (ptA hi)) (hB : Below w.heap.size w X) :
    bodyPostM Fence.wide 6 Try.prog Try.f25 (BoxRet n l w) .ret { tmps := tmps, defers := [] } X := by
  have hb := box_ret n l lo hi er e1 e2 e3 h2 h3 h4 rl rh hB
  exact marks_ret0 hb.1 hb.2
theorem box_endD (n : Int) (l : List Iq) {tmps : Array Value} {w X : World} {b1 b2 D : Nat} (hD : w.heap.size ≤ D) (hK : At X D (.deferred (some []))) (lo hi : Pt) (er : Int) (e1 : boxLo n l = lo) (e2 : boxHi n l = hi) (e3 : boxE n l = er)
    (h2 : tmps.getD 2 undef = .pointer (some ⟨b1, 0, none⟩)) (h3 : tmps.getD 3 undef = .pointer (some ⟨b2, 0, none⟩)) (h4 : tmps.getD 4 undef = .int .i64 er)
    (rl : Row X b1 26 (ptA lo)) (rh : Row X b2 26 (ptA hi)) (hB : Below w.heap.size w X) :
    bodyPostM Fence.wide 6 Try.prog Try.f25 (BoxRet n l w) .ret { tmps := tmps, defers := [{ target := .collected D, args := #[] }] } X := by
  have hu := marks_up (n := w.heap.size) hB.size hD hK
  have hb := box_ret n l lo hi er e1 e2 e3 h2 h3 h4 (hu.cells _ _ _ _ rl) (hu.cells _ _ _ _ rh) (hB.trans hu.below)
  exact marks_ret hK hb.1 hb.2

set_option maxRecDepth 100000 in
set_option maxHeartbeats 1000000 in
theorem Box_c (n : Int) (s : Option Addr) (cap : Nat) (l : List Iq) (w : World) (h : Dom w s l) :
    Calls Try.prog 25 #[.agg #[.int .i64 n, .slice s l.length cap]] w (BoxRet n l w) := by
  have hblk : ∀ k, Blk s l k → k < w.heap.size := fun k hk => h.iq.blk hk
  have hlen := pts_len n l
  replace hblk := Lib.hid hblk
  cases h1 : validB n l
  · refine calls_of_wp_marks Try.func25 rfl ?_
    simp only [Try.ntmps25, List.size_toArray, List.length_cons, List.length_nil, Nat.reduceAdd, Nat.reduceSub, Array.replicate_succ, Array.replicate_zero, List.push_toArray, List.append_toArray, List.nil_append, List.cons_append]
    go_upto_region 1 with (fail)
    refine wp_world fun W HW => ?_
    have hB : Below w.heap.size w W := by rw [HW.out]; (repeat (first | exact Below.refl _ _ | refine Below.alloc ?_ (by simp; try omega) _ | refine Below.setCell ?_ (by simp) _ | refine Below.drew ?_))
    have d0 : W.cell? ⟨w.heap.size, 0, none⟩ = some (.int .i64 n) := by rw [HW.out]; simp [go_sem]
    have d1 : W.cell? ⟨w.heap.size, 1, none⟩ = some (.slice s l.length cap) := by rw [HW.out]; simp [go_sem]
    have dl : w.heap.size < W.heap.size := World.block_lt_of_cell? W _ d0
    have xB : Row W (w.heap.size + 1) 26 #[.int .i64 0, .int .i64 0, .int .i64 0] := (by rw [HW.out]; (repeat (first | (refine blk_new ?_; simp; done) | refine blk_old ?_ _)) : W.heap[w.heap.size + 1]? = some (.cells #[.int .i64 0, .int .i64 0, .int .i64 0] 26 (0, 0)))
    have x0 : W.cell? ⟨w.heap.size + 1, 0, none⟩ = some (.int .i64 0) := by rw [HW.out]; simp [go_sem]
    have x1 : W.cell? ⟨w.heap.size + 1, 1, none⟩ = some (.int .i64 0) := by rw [HW.out]; simp [go_sem]
    have x2 : W.cell? ⟨w.heap.size + 1, 2, none⟩ = some (.int .i64 0) := by rw [HW.out]; simp [go_sem]
    have xl : w.heap.size + 1 < W.heap.size := World.block_lt_of_cell? W _ x0
    have yB : Row W (w.heap.size + 2) 26 #[.int .i64 0, .int .i64 0, .int .i64 0] := (by rw [HW.out]; (repeat (first | (refine blk_new ?_; simp; done) | refine blk_old ?_ _)) : W.heap[w.heap.size + 2]? = some (.cells #[.int .i64 0, .int .i64 0, .int .i64 0] 26 (0, 0)))
    have y0 : W.cell? ⟨w.heap.size + 2, 0, none⟩ = some (.int .i64 0) := by rw [HW.out]; simp [go_sem]
    have y1 : W.cell? ⟨w.heap.size + 2, 1, none⟩ = some (.int .i64 0) := by rw [HW.out]; simp [go_sem]
    have y2 : W.cell? ⟨w.heap.size + 2, 2, none⟩ = some (.int .i64 0) := by rw [HW.out]; simp [go_sem]
    have yl : w.heap.size + 2 < W.heap.size := World.block_lt_of_cell? W _ y0
    try replace h := up_of hB h
    go_upto_region 2 with (first | (go_at_call 17; refine (Valid_t _ _ _ _ _ h).mono ?_; rintro e W1 ⟨rfl, hb⟩; (try replace h := up_of hb h); (try replace hB := up_of hb hB); (try replace d0 := up_of hb d0); (try replace d1 := up_of hb d1); (try replace dl := up_of hb dl); (try replace xB := up_of hb xB); (try replace x0 := up_of hb x0); (try replace x1 := up_of hb x1); (try replace x2 := up_of hb x2); (try replace xl := up_of hb xl); (try replace yB := up_of hb yB); (try replace y0 := up_of hb y0); (try replace y1 := up_of hb y1); (try replace y2 := up_of hb y2); (try replace yl := up_of hb yl)))
    have xf : ∀ i, W1.frozen? ⟨w.heap.size + 1, i, none⟩ = false := fun i => Row.frozen xB i
    have yf : ∀ i, W1.frozen? ⟨w.heap.size + 2, i, none⟩ = false := fun i => Row.frozen yB i
    go_region
    all_goals
      go_wp2
      refine box_end0 n l (b1 := w.heap.size + 1) (b2 := w.heap.size + 2) ⟨0, 0, 0⟩ ⟨0, 0, 0⟩ 10 (by simp [boxLo, h1]) (by simp [boxHi, h1]) (by simp [boxE, h1]) rfl rfl rfl ?_ ?_ ?_
      · refine Row.of ?_
        repeat (first | (with_reducible refine RowG.base xB ?_) | (with_reducible refine RowG.drew ?_) | (with_reducible refine RowG.set ?_) | ((with_reducible refine RowG.other ?_ ?_); (focus (first | omega | (simp; done) | (simp; omega)))) | (with_reducible refine RowG.alloc ?_))
        rfl
      · refine Row.of ?_
        repeat (first | (with_reducible refine RowG.base yB ?_) | (with_reducible refine RowG.drew ?_) | (with_reducible refine RowG.set ?_) | ((with_reducible refine RowG.other ?_ ?_); (focus (first | omega | (simp; done) | (simp; omega)))) | (with_reducible refine RowG.alloc ?_))
        rfl
      · repeat (first | (with_reducible exact hB) | (with_reducible refine Below.drew ?_) | ((with_reducible refine Below.setC ?_ ?_); (focus (first | omega | (simp; done) | (simp; omega)))) | ((with_reducible refine Below.allo ?_ ?_); (focus (first | omega | (simp; done) | (simp; omega)))))
  · have hn := validB_n h1
    refine calls_of_wp_marks Try.func25 rfl ?_
    simp only [Try.ntmps25, List.size_toArray, List.length_cons, List.length_nil, Nat.reduceAdd, Nat.reduceSub, Array.replicate_succ, Array.replicate_zero, List.push_toArray, List.append_toArray, List.nil_append, List.cons_append]
    go_upto_region 1 with (fail)
    refine wp_world fun W HW => ?_
    have hB : Below w.heap.size w W := by rw [HW.out]; (repeat (first | exact Below.refl _ _ | refine Below.alloc ?_ (by simp; try omega) _ | refine Below.setCell ?_ (by simp) _ | refine Below.drew ?_))
    have d0 : W.cell? ⟨w.heap.size, 0, none⟩ = some (.int .i64 n) := by rw [HW.out]; simp [go_sem]
    have d1 : W.cell? ⟨w.heap.size, 1, none⟩ = some (.slice s l.length cap) := by rw [HW.out]; simp [go_sem]
    have dl : w.heap.size < W.heap.size := World.block_lt_of_cell? W _ d0
    have xB : Row W (w.heap.size + 1) 26 #[.int .i64 0, .int .i64 0, .int .i64 0] := (by rw [HW.out]; (repeat (first | (refine blk_new ?_; simp; done) | refine blk_old ?_ _)) : W.heap[w.heap.size + 1]? = some (.cells #[.int .i64 0, .int .i64 0, .int .i64 0] 26 (0, 0)))
    have x0 : W.cell? ⟨w.heap.size + 1, 0, none⟩ = some (.int .i64 0) := by rw [HW.out]; simp [go_sem]
    have x1 : W.cell? ⟨w.heap.size + 1, 1, none⟩ = some (.int .i64 0) := by rw [HW.out]; simp [go_sem]
    have x2 : W.cell? ⟨w.heap.size + 1, 2, none⟩ = some (.int .i64 0) := by rw [HW.out]; simp [go_sem]
    have xl : w.heap.size + 1 < W.heap.size := World.block_lt_of_cell? W _ x0
    have yB : Row W (w.heap.size + 2) 26 #[.int .i64 0, .int .i64 0, .int .i64 0] := (by rw [HW.out]; (repeat (first | (refine blk_new ?_; simp; done) | refine blk_old ?_ _)) : W.heap[w.heap.size + 2]? = some (.cells #[.int .i64 0, .int .i64 0, .int .i64 0] 26 (0, 0)))
    have y0 : W.cell? ⟨w.heap.size + 2, 0, none⟩ = some (.int .i64 0) := by rw [HW.out]; simp [go_sem]
    have y1 : W.cell? ⟨w.heap.size + 2, 1, none⟩ = some (.int .i64 0) := by rw [HW.out]; simp [go_sem]
    have y2 : W.cell? ⟨w.heap.size + 2, 2, none⟩ = some (.int .i64 0) := by rw [HW.out]; simp [go_sem]
    have yl : w.heap.size + 2 < W.heap.size := World.block_lt_of_cell? W _ y0
    try replace h := up_of hB h
    go_upto_region 4 with (first | (go_at_call 17; refine (Valid_t _ _ _ _ _ h).mono ?_; rintro e W1 ⟨rfl, hb⟩; (try replace h := up_of hb h); (try replace hB := up_of hb hB); (try replace d0 := up_of hb d0); (try replace d1 := up_of hb d1); (try replace dl := up_of hb dl); (try replace xB := up_of hb xB); (try replace x0 := up_of hb x0); (try replace x1 := up_of hb x1); (try replace x2 := up_of hb x2); (try replace xl := up_of hb xl); (try replace yB := up_of hb yB); (try replace y0 := up_of hb y0); (try replace y1 := up_of hb y1); (try replace y2 := up_of hb y2); (try replace yl := up_of hb yl)))
    have hW1s := hB.size
    have hb3 : w.heap.size + 2 < W1.heap.size := yl
    refine wp_world fun X HX => ?_
    have hX : Below W1.heap.size W1 X := by rw [HX.out]; (repeat (first | exact Below.refl _ _ | refine Below.alloc ?_ (by simp; try omega) _ | refine Below.setCell ?_ (by simp) _ | refine Below.drew ?_))
    have fB : Row X (W1.heap.size) 4 #[.bool false] := (by rw [HX.out]; (repeat (first | (refine blk_new ?_; simp; done) | refine blk_old ?_ _)) : X.heap[W1.heap.size]? = some (.cells #[.bool false] 4 (0, 0)))
    have f0 : X.cell? ⟨W1.heap.size, 0, none⟩ = some (.bool false) := by rw [HX.out]; simp [go_sem]
    have fl : W1.heap.size < X.heap.size := World.block_lt_of_cell? X _ f0
    try replace h := up_of hX h
    try replace hB := up_of hX hB
    try replace d0 := up_of hX d0
    try replace d1 := up_of hX d1
    try replace dl := up_of hX dl
    try replace xB := up_of hX xB
    try replace x0 := up_of hX x0
    try replace x1 := up_of hX x1
    try replace x2 := up_of hX x2
    try replace xl := up_of hX xl
    try replace yB := up_of hX yB
    try replace y0 := up_of hX y0
    try replace y1 := up_of hX y1
    try replace y2 := up_of hX y2
    try replace yl := up_of hX yl
    go_wp2_with (go_at_call 54; refine (points_c _ _ _ _ _ hn h.iq h.len).mono ?_; rintro e V ⟨⟨lb, S, rfl, hit, hS⟩, hb⟩)
    have hXs := hX.size
    have hXV := hb.size
    have hSlt := hit.lt
    have hbx : ∀ k, S k → k < V.heap.size ∧ ¬ (k = w.heap.size + 1 ∨ k = w.heap.size + 2 ∨ k = W1.heap.size) := fun k hk => ⟨hSlt k hk, by
      rcases hS k hk with h | h
      · omega
      · have := hblk.out k h; omega⟩
    try replace h := up_of hb h
    try replace hB := up_of hb hB
    try replace d0 := up_of hb d0
    try replace d1 := up_of hb d1
    try replace dl := up_of hb dl
    try replace xB := up_of hb xB
    try replace x0 := up_of hb x0
    try replace x1 := up_of hb x1
    try replace x2 := up_of hb x2
    try replace xl := up_of hb xl
    try replace yB := up_of hb yB
    try replace y0 := up_of hb y0
    try replace y1 := up_of hb y1
    try replace y2 := up_of hb y2
    try replace yl := up_of hb yl
    try replace hX := up_of hb hX
    try replace fB := up_of hb fB
    try replace f0 := up_of hb f0
    try replace fl := up_of hb fl
    have hVs := hB.size
    replace hbx := Lib.hid hbx
    clear hS
    refine' wp_rangeB rfl (fun _ _ => by simp [go_sem]) hit w.heap.size hB.size
      (fun pre W => (Row W (w.heap.size + 1) 26 (ptA (lowL pre)) ∧ Row W (w.heap.size + 2) 26 (ptA (highL pre)) ∧ Row W W1.heap.size 4 #[.bool (someL pre)] ∧ Below w.heap.size w W) ∧ V.heap.size ≤ W.heap.size) (fun _ _ _ => False)
      ?hI (fun _ _ _ _ h _ => h) (fun s A h => h.1.2.2.2.size) (fun _ _ _ h => h.elim) ⟨⟨xB, yB, fB, hB⟩, Nat.le_refl _⟩ 26 (fun x => ptA x) _ ?assign ?body ?done ?stop
    case hI =>
      rintro s A B ⟨⟨h1, h2, h3, h4⟩, h5⟩ hu
      exact ⟨⟨hu.cells _ _ _ _ h1, hu.cells _ _ _ _ h2, hu.cells _ _ _ _ h3, h4.trans hu.below⟩, Nat.le_trans h5 hu.below.size⟩
    case assign =>
      intro l x W b K hb hK
      simp only [encPt, List.setIfInBounds_toArray, List.set_cons_zero, List.set_cons_succ]
      gi_wp2
      exact hK
    case body =>
      rintro l pre x B W ⟨⟨rl, rh, rf, hB⟩, hVW⟩ hlt hVB hp
      replace hp : Row W B _ #[.int .i64 x.x, .int .i64 x.y, .int .i64 x.z] := hp
      have x0 := ix0
      have x1 := ix1
      have x2 := ix2
      have hlo := lowL_snoc pre x
      have hhi := highL_snoc pre x
      obtain ⟨lo, hlo2⟩ : ∃ lo, lowL pre = lo := ⟨_, rfl⟩
      obtain ⟨hi, hhi2⟩ : ∃ hi, highL pre = hi := ⟨_, rfl⟩
      obtain ⟨fd, hfd⟩ : ∃ fd, someL pre = fd := ⟨_, rfl⟩
      rw [hlo2] at rl hlo
      rw [hhi2] at rh hhi
      rw [hfd] at rf hlo hhi
      replace hlo := Lib.hid hlo
      replace hhi := Lib.hid hhi
      clear hlo2 hhi2 hfd
      have p0 := hp.cell (i := 0) rfl
      have p1 := hp.cell (i := 1) rfl
      have p2 := hp.cell (i := 2) rfl
      gi_wp2
      gi_loopw [18] (fun i wr => ((i = .int .i64 0 ∧ Row wr (w.heap.size + 1) 26 #[.int .i64 lo.x, .int .i64 lo.y, .int .i64 lo.z] ∧ Row wr (w.heap.size + 2) 26 #[.int .i64 hi.x, .int .i64 hi.y, .int .i64 hi.z]) ∨
          (i = .int .i64 1 ∧ Row wr (w.heap.size + 1) 26 #[.int .i64 (loC fd lo.x x.x), .int .i64 lo.y, .int .i64 lo.z] ∧ Row wr (w.heap.size + 2) 26 #[.int .i64 (hiC fd hi.x x.x), .int .i64 hi.y, .int .i64 hi.z]) ∨
          (i = .int .i64 2 ∧ Row wr (w.heap.size + 1) 26 #[.int .i64 (loC fd lo.x x.x), .int .i64 (loC fd lo.y x.y), .int .i64 lo.z] ∧ Row wr (w.heap.size + 2) 26 #[.int .i64 (hiC fd hi.x x.x), .int .i64 (hiC fd hi.y x.y), .int .i64 hi.z]) ∨
          (i = .int .i64 3 ∧ Row wr (w.heap.size + 1) 26 #[.int .i64 (loC fd lo.x x.x), .int .i64 (loC fd lo.y x.y), .int .i64 (loC fd lo.z x.z)] ∧ Row wr (w.heap.size + 2) 26 #[.int .i64 (hiC fd hi.x x.x), .int .i64 (hiC fd hi.y x.y), .int .i64 (hiC fd hi.z x.z)])) ∧
          Chg (fun k => k = w.heap.size + 1 ∨ k = w.heap.size + 2) W wr) (fun i _ => 3 - (intOf i).toNat)
      case atStart => exact ⟨.inl ⟨rfl, rl, rh⟩, Chg.refl _ _⟩
      case round =>
        obtain ⟨hrel, hC⟩ := hrel
        clear rl rh p0 p1 p2
        have hWs := hC.size
        have hWl := hB.size
        replace rf := hC.row (by omega) rf
        have f0 := rf.one
        rcases hrel with ⟨rfl, rl, rh⟩ | ⟨rfl, rl, rh⟩ | ⟨rfl, rl, rh⟩ | ⟨rfl, rl, rh⟩
        · obtain ⟨l0, l1, l2⟩ := rl.three
          obtain ⟨g0, g1, g2⟩ := rh.three
          have lf := rl.frozen 0
          have gf := rh.frozen 0
          cases fd
          · gi_wp2
            go_roundw
            case rel =>
              refine ⟨.inr (.inl ⟨rfl, ?_, ?_⟩), ?_⟩
              · refine Row.of ?_
                repeat (first | (with_reducible refine RowG.base rl ?_) | (with_reducible refine RowG.drew ?_) | (with_reducible refine RowG.set ?_) | ((with_reducible refine RowG.other ?_ ?_); (focus (first | omega | (simp; done) | (simp; omega)))) | (with_reducible refine RowG.alloc ?_))
                rfl
              · refine Row.of ?_
                repeat (first | (with_reducible refine RowG.base rh ?_) | (with_reducible refine RowG.drew ?_) | (with_reducible refine RowG.set ?_) | ((with_reducible refine RowG.other ?_ ?_); (focus (first | omega | (simp; done) | (simp; omega)))) | (with_reducible refine RowG.alloc ?_))
                rfl
              · exact (hC.setCell (by simp) _).setCell (by simp) _
            case measure => simp [intOf]
          · by_cases c1 : x.x < lo.x
            all_goals
              by_cases c2 : hi.x < x.x
              all_goals
                gi_wp2
                go_roundw
                case rel =>
                  refine ⟨.inr (.inl ⟨rfl, ?_, ?_⟩), ?_⟩
                  · refine Row.of ?_
                    repeat (first | (with_reducible refine RowG.base rl ?_) | (with_reducible refine RowG.drew ?_) | (with_reducible refine RowG.set ?_) | ((with_reducible refine RowG.other ?_ ?_); (focus (first | omega | (simp; done) | (simp; omega)))) | (with_reducible refine RowG.alloc ?_))
                    (simp [loC] <;> omega)
                  · refine Row.of ?_
                    repeat (first | (with_reducible refine RowG.base rh ?_) | (with_reducible refine RowG.drew ?_) | (with_reducible refine RowG.set ?_) | ((with_reducible refine RowG.other ?_ ?_); (focus (first | omega | (simp; done) | (simp; omega)))) | (with_reducible refine RowG.alloc ?_))
                    (simp [hiC] <;> omega)
                  · repeat (first | (with_reducible exact hC) | (with_reducible refine Chg.setCell ?_ (by simp) _))
                case measure => simp [intOf]
        · obtain ⟨l0, l1, l2⟩ := rl.three
          obtain ⟨g0, g1, g2⟩ := rh.three
          have lf := rl.frozen 1
          have gf := rh.frozen 1
          cases fd
          · gi_wp2
            go_roundw
            case rel =>
              refine ⟨.inr (.inr (.inl ⟨rfl, ?_, ?_⟩)), ?_⟩
              · refine Row.of ?_
                repeat (first | (with_reducible refine RowG.base rl ?_) | (with_reducible refine RowG.drew ?_) | (with_reducible refine RowG.set ?_) | ((with_reducible refine RowG.other ?_ ?_); (focus (first | omega | (simp; done) | (simp; omega)))) | (with_reducible refine RowG.alloc ?_))
                rfl
              · refine Row.of ?_
                repeat (first | (with_reducible refine RowG.base rh ?_) | (with_reducible refine RowG.drew ?_) | (with_reducible refine RowG.set ?_) | ((with_reducible refine RowG.other ?_ ?_); (focus (first | omega | (simp; done) | (simp; omega)))) | (with_reducible refine RowG.alloc ?_))
                rfl
              · exact (hC.setCell (by simp) _).setCell (by simp) _
            case measure => simp [intOf]
          · by_cases c1 : x.y < lo.y
            all_goals
              by_cases c2 : hi.y < x.y
              all_goals
                gi_wp2
                go_roundw
                case rel =>
                  refine ⟨.inr (.inr (.inl ⟨rfl, ?_, ?_⟩)), ?_⟩
                  · refine Row.of ?_
                    repeat (first | (with_reducible refine RowG.base rl ?_) | (with_reducible refine RowG.drew ?_) | (with_reducible refine RowG.set ?_) | ((with_reducible refine RowG.other ?_ ?_); (focus (first | omega | (simp; done) | (simp; omega)))) | (with_reducible refine RowG.alloc ?_))
                    (simp [loC] <;> omega)
                  · refine Row.of ?_
                    repeat (first | (with_reducible refine RowG.base rh ?_) | (with_reducible refine RowG.drew ?_) | (with_reducible refine RowG.set ?_) | ((with_reducible refine RowG.other ?_ ?_); (focus (first | omega | (simp; done) | (simp; omega)))) | (with_reducible refine RowG.alloc ?_))
                    (simp [hiC] <;> omega)
                  · repeat (first | (with_reducible exact hC) | (with_reducible refine Chg.setCell ?_ (by simp) _))
                case measure => simp [intOf]
        · obtain ⟨l0, l1, l2⟩ := rl.three
          obtain ⟨g0, g1, g2⟩ := rh.three
          have lf := rl.frozen 2
          have gf := rh.frozen 2
          cases fd
          · gi_wp2
            go_roundw
            case rel =>
              refine ⟨.inr (.inr (.inr ⟨rfl, ?_, ?_⟩)), ?_⟩
              · refine Row.of ?_
                repeat (first | (with_reducible refine RowG.base rl ?_) | (with_reducible refine RowG.drew ?_) | (with_reducible refine RowG.set ?_) | ((with_reducible refine RowG.other ?_ ?_); (focus (first | omega | (simp; done) | (simp; omega)))) | (with_reducible refine RowG.alloc ?_))
                rfl
              · refine Row.of ?_
                repeat (first | (with_reducible refine RowG.base rh ?_) | (with_reducible refine RowG.drew ?_) | (with_reducible refine RowG.set ?_) | ((with_reducible refine RowG.other ?_ ?_); (focus (first | omega | (simp; done) | (simp; omega)))) | (with_reducible refine RowG.alloc ?_))
                rfl
              · exact (hC.setCell (by simp) _).setCell (by simp) _
            case measure => simp [intOf]
          · by_cases c1 : x.z < lo.z
            all_goals
              by_cases c2 : hi.z < x.z
              all_goals
                gi_wp2
                go_roundw
                case rel =>
                  refine ⟨.inr (.inr (.inr ⟨rfl, ?_, ?_⟩)), ?_⟩
                  · refine Row.of ?_
                    repeat (first | (with_reducible refine RowG.base rl ?_) | (with_reducible refine RowG.drew ?_) | (with_reducible refine RowG.set ?_) | ((with_reducible refine RowG.other ?_ ?_); (focus (first | omega | (simp; done) | (simp; omega)))) | (with_reducible refine RowG.alloc ?_))
                    (simp [loC] <;> omega)
                  · refine Row.of ?_
                    repeat (first | (with_reducible refine RowG.base rh ?_) | (with_reducible refine RowG.drew ?_) | (with_reducible refine RowG.set ?_) | ((with_reducible refine RowG.other ?_ ?_); (focus (first | omega | (simp; done) | (simp; omega)))) | (with_reducible refine RowG.alloc ?_))
                    (simp [hiC] <;> omega)
                  · repeat (first | (with_reducible exact hC) | (with_reducible refine Chg.setCell ?_ (by simp) _))
                case measure => simp [intOf]
        · have e1 : Hid (lowL (pre ++ [x]) = ⟨loC fd lo.x x.x, loC fd lo.y x.y, loC fd lo.z x.z⟩) := Lib.hid (by rw [hlo.out]; cases fd <;> rfl)
          have e2 : Hid (highL (pre ++ [x]) = ⟨hiC fd hi.x x.x, hiC fd hi.y x.y, hiC fd hi.z x.z⟩) := Lib.hid (by rw [hhi.out]; cases fd <;> rfl)
          have ff := rf.frozen 0
          gi_wp2
          have hC2 : Chg (fun k => k = w.heap.size + 1 ∨ k = w.heap.size + 2 ∨ k = W1.heap.size) W (wr.setCell ⟨W1.heap.size, 0, none⟩ (.bool true)) :=
            Chg.setCell ⟨hC.os, hC.tape, hC.output, hC.size, fun k hk hp => hC.block k hk (fun h => hp (by rcases h with h | h; exact .inl h; exact .inr (.inl h))), hC.others⟩ (by simp) _
          refine ⟨hC2.others, hC2.keepUp (fun k hk => ⟨Nat.lt_of_lt_of_le (hbx.out k hk).1 hVW, (hbx.out k hk).2⟩), ⟨?_, ?_, ?_, ?_⟩, ?_⟩
          · rw [e1.out]; exact rl.other (by show _ ≠ W1.heap.size; omega) _
          · rw [e2.out]; exact rh.other (by show _ ≠ W1.heap.size; omega) _
          · rw [someL_snoc]; exact rf.set 0 _
          · exact hC2.below (fun k hk => by omega) hWl hB
          · simp [World.setCell]; omega
    case done =>
      rintro D W hD ⟨⟨rl, rh, rf, hB⟩, hVW⟩ hK
      have f0 := rf.one
      obtain ⟨l0, l1, l2⟩ := rl.three
      obtain ⟨g0, g1, g2⟩ := rh.three
      have lf := fun i => rl.frozen i
      have gf := fun i => rh.frozen i
      replace hK : At W D _ := hK
      have e1 : boxLo n l = lowL (pts n l) := by simp [boxLo, h1]
      have e2 : boxHi n l = highL (pts n l) := by simp [boxHi, h1]
      have e3 : boxE n l = if someL (pts n l) then 0 else 5 := by simp [boxE, h1]
      have hWs := hB.size
      replace e1 := Lib.hid e1; replace e2 := Lib.hid e2; replace e3 := Lib.hid e3
      cases hsm : someL (pts n l)
      · rw [hsm] at f0 e3
        go_upto_region 16 with (fail)
        go_region
        all_goals
          go_wp2
          refine box_endD n l (D := D) (b1 := w.heap.size + 1) (b2 := w.heap.size + 2) (by omega) ?_ (lowL (pts n l)) (highL (pts n l)) 5 e1.out e2.out e3.out rfl rfl rfl ?_ ?_ ?_
          · repeat (first | (with_reducible exact hK) | (with_reducible refine At.drew ?_) | (with_reducible refine At.other (by simp; omega) ?_))
          · refine Row.of ?_
            repeat (first | (with_reducible refine RowG.base rl ?_) | (with_reducible refine RowG.drew ?_) | (with_reducible refine RowG.set ?_) | ((with_reducible refine RowG.other ?_ ?_); (focus (first | omega | (simp; done) | (simp; omega)))) | (with_reducible refine RowG.alloc ?_))
            rfl
          · refine Row.of ?_
            repeat (first | (with_reducible refine RowG.base rh ?_) | (with_reducible refine RowG.drew ?_) | (with_reducible refine RowG.set ?_) | ((with_reducible refine RowG.other ?_ ?_); (focus (first | omega | (simp; done) | (simp; omega)))) | (with_reducible refine RowG.alloc ?_))
            rfl
          · repeat (first | (with_reducible exact hB) | (with_reducible refine Below.drew ?_) | ((with_reducible refine Below.setC ?_ ?_); (focus (first | omega | (simp; done) | (simp; omega)))) | ((with_reducible refine Below.allo ?_ ?_); (focus (first | omega | (simp; done) | (simp; omega)))))
      · rw [hsm] at f0 e3
        go_upto_region 17 with (fail)
        go_region
        all_goals
          go_wp2
          refine box_endD n l (D := D) (b1 := w.heap.size + 1) (b2 := w.heap.size + 2) (by omega) ?_ (lowL (pts n l)) (highL (pts n l)) 0 e1.out e2.out e3.out rfl rfl rfl ?_ ?_ ?_
          · repeat (first | (with_reducible exact hK) | (with_reducible refine At.drew ?_) | (with_reducible refine At.other (by simp; omega) ?_))
          · refine Row.of ?_
            repeat (first | (with_reducible refine RowG.base rl ?_) | (with_reducible refine RowG.drew ?_) | (with_reducible refine RowG.set ?_) | ((with_reducible refine RowG.other ?_ ?_); (focus (first | omega | (simp; done) | (simp; omega)))) | (with_reducible refine RowG.alloc ?_))
            rfl
          · refine Row.of ?_
            repeat (first | (with_reducible refine RowG.base rh ?_) | (with_reducible refine RowG.drew ?_) | (with_reducible refine RowG.set ?_) | ((with_reducible refine RowG.other ?_ ?_); (focus (first | omega | (simp; done) | (simp; omega)))) | (with_reducible refine RowG.alloc ?_))
            rfl
          · repeat (first | (with_reducible exact hB) | (with_reducible refine Below.drew ?_) | ((with_reducible refine Below.setC ?_ ?_); (focus (first | omega | (simp; done) | (simp; omega)))) | ((with_reducible refine Below.allo ?_ ?_); (focus (first | omega | (simp; done) | (simp; omega)))))
    case stop =>
      rintro D c pre W hD hpre h hK
      exact h.elim
end Go.Proofs.Ytfebkccdcbkdiaa
