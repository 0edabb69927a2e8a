/- The point with the least value of a form. -/
import Derived.Test.YtfebkccdcbkdiaaPoly15
namespace Go.Proofs.Ytfebkccdcbkdiaa
open Go.RowKit

attribute [local go_sem] Oper.semAt_some

def negP (p : Pt) : Pt := ⟨wrap64 (-p.x), wrap64 (-p.y), wrap64 (-p.z)⟩
def vf (f p : Pt) : Int := wrap64 (dotZ f p)
def stepM (f b q : Pt) : Pt := if vf f q < vf f b then q else b
/-- The first point with the least value. -/
def minM (f : Pt) : List Pt → Pt
  | [] => ⟨0, 0, 0⟩
  | p :: l => l.foldl (stepM f) p
theorem minM_snoc (f : Pt) (l : List Pt) (p : Pt) : minM f (l ++ [p]) = if someL l then stepM f (minM f l) p else p := by
  cases l with
  | nil => rfl
  | cons q l => simp [minM, someL]
def minV (f : Pt) (l : List Pt) : Int := if someL l then vf f (minM f l) else 0

theorem results_c1 {fn : Func} {p : Tmp} {tp : TypeId} {tmps : Array Value} {P : Program} {w : World} {a : Addr} {va : Value} (h : fn.results = #[.cell p tp])
    (hp : tmps.getD p undef = .pointer (some a)) (la : (loadVar tp a).run P w = .ok va w) : (results fn tmps).run P w = .ok va w := by
  simp only [results, h]
  simp only [Array.getD_eq_getD_getElem?] at hp
  simp [hp, asAddr, la]
theorem results_css {fn : Func} {p u q : Tmp} {tp : TypeId} {tmps : Array Value} {P : Program} {w : World} {a : Addr} {va vb vc : Value} (h : fn.results = #[.cell p tp, .tmp u, .tmp q])
    (hp : tmps.getD p undef = .pointer (some a)) (hu : tmps.getD u undef = vb) (hq : tmps.getD q undef = vc)
    (la : (loadVar tp a).run P w = .ok va w) : (results fn tmps).run P w = .ok (.tuple #[va, vb, vc]) w := by
  simp only [results, h]
  simp only [Array.getD_eq_getD_getElem?] at hp hu hq
  simp [hp, hu, hq, asAddr, la]

theorem negated_c (p : Pt) (w : World) :
    Calls Try.prog 57 #[.agg #[.int .i64 p.x, .int .i64 p.y, .int .i64 p.z]] w fun e w' => e = .returned (.agg #[.int .i64 (negP p).x, .int .i64 (negP p).y, .int .i64 (negP p).z]) ∧ Below w.heap.size w w' := by
  go_enter Try.func57, Try.ntmps57
  go_upto_region 1 with (fail)
  refine wp_world fun W HW => ?_
  have hB : Below w.heap.size w W := by rw [HW.out]; (repeat (first | exact Below.refl _ _ | refine Below.alloc ?_ (by simp; try omega) _ | refine Below.setCell ?_ (by simp) _ | refine Below.drew ?_))
  have d0 : W.cell? ⟨w.heap.size, 0, none⟩ = some (.int .i64 p.x) := by rw [HW.out]; simp [go_sem]
  have d1 : W.cell? ⟨w.heap.size, 1, none⟩ = some (.int .i64 p.y) := by rw [HW.out]; simp [go_sem]
  have d2 : W.cell? ⟨w.heap.size, 2, none⟩ = some (.int .i64 p.z) := by rw [HW.out]; simp [go_sem]
  have dl : w.heap.size < W.heap.size := World.block_lt_of_cell? W _ d0
  have rB : Row W (w.heap.size + 1) 26 #[.int .i64 0, .int .i64 0, .int .i64 0] := (by rw [HW.out]; (repeat (first | (refine blk_new ?_; simp; done) | refine blk_old ?_ _)) : W.heap[w.heap.size + 1]? = some (.cells #[.int .i64 0, .int .i64 0, .int .i64 0] 26 (0, 0)))
  have r0 : W.cell? ⟨w.heap.size + 1, 0, none⟩ = some (.int .i64 0) := by rw [HW.out]; simp [go_sem]
  have r1 : W.cell? ⟨w.heap.size + 1, 1, none⟩ = some (.int .i64 0) := by rw [HW.out]; simp [go_sem]
  have r2 : W.cell? ⟨w.heap.size + 1, 2, none⟩ = some (.int .i64 0) := by rw [HW.out]; simp [go_sem]
  have rl : w.heap.size + 1 < W.heap.size := World.block_lt_of_cell? W _ r0
  have rf := fun i => Row.frozen rB i
  go_wp2
  refine bodyPost_ret (results_c1 rfl rfl (load_P (b := w.heap.size + 1) (negP p) ?_ ?_ ?_)) rfl ⟨rfl, ?_⟩
  · go_simp; simp [negP]
  · go_simp; simp [negP]
  · go_simp; simp [negP]
  · repeat (first | (with_reducible exact hB) | (with_reducible refine Below.drew ?_) | ((with_reducible refine Below.setC ?_ ?_); (focus (first | omega | (simp; done) | (simp; omega)))) | ((with_reducible refine Below.allo ?_ ?_); (focus (first | omega | (simp; done) | (simp; omega)))))
theorem minus_c (p : Pt) (w : World) :
    Calls Try.prog 58 #[.agg #[.int .i64 p.x, .int .i64 p.y, .int .i64 p.z]] w fun e w' => e = .returned (.agg #[.int .i64 (negP p).x, .int .i64 (negP p).y, .int .i64 (negP p).z]) ∧ Below w.heap.size w w' := by
  go_enter Try.func58, Try.ntmps58
  go_upto_region 1 with (fail)
  refine wp_world fun W HW => ?_
  have hB : Below w.heap.size w W := by rw [HW.out]; (repeat (first | exact Below.refl _ _ | refine Below.alloc ?_ (by simp; try omega) _ | refine Below.setCell ?_ (by simp) _ | refine Below.drew ?_))
  have d0 : W.cell? ⟨w.heap.size, 0, none⟩ = some (.int .i64 p.x) := by rw [HW.out]; simp [go_sem]
  have d1 : W.cell? ⟨w.heap.size, 1, none⟩ = some (.int .i64 p.y) := by rw [HW.out]; simp [go_sem]
  have d2 : W.cell? ⟨w.heap.size, 2, none⟩ = some (.int .i64 p.z) := by rw [HW.out]; simp [go_sem]
  have dl : w.heap.size < W.heap.size := World.block_lt_of_cell? W _ d0
  have rB : Row W (w.heap.size + 1) 26 #[.int .i64 0, .int .i64 0, .int .i64 0] := (by rw [HW.out]; (repeat (first | (refine blk_new ?_; simp; done) | refine blk_old ?_ _)) : W.heap[w.heap.size + 1]? = some (.cells #[.int .i64 0, .int .i64 0, .int .i64 0] 26 (0, 0)))
  have r0 : W.cell? ⟨w.heap.size + 1, 0, none⟩ = some (.int .i64 0) := by rw [HW.out]; simp [go_sem]
  have r1 : W.cell? ⟨w.heap.size + 1, 1, none⟩ = some (.int .i64 0) := by rw [HW.out]; simp [go_sem]
  have r2 : W.cell? ⟨w.heap.size + 1, 2, none⟩ = some (.int .i64 0) := by rw [HW.out]; simp [go_sem]
  have rl : w.heap.size + 1 < W.heap.size := World.block_lt_of_cell? W _ r0
  have rf := fun i => Row.frozen rB i
  go_wp2
  refine bodyPost_ret (results_c1 rfl rfl (load_P (b := w.heap.size + 1) (negP p) ?_ ?_ ?_)) rfl ⟨rfl, ?_⟩
  · go_simp; simp [negP]
  · go_simp; simp [negP]
  · go_simp; simp [negP]
  · repeat (first | (with_reducible exact hB) | (with_reducible refine Below.drew ?_) | ((with_reducible refine Below.setC ?_ ?_); (focus (first | omega | (simp; done) | (simp; omega)))) | ((with_reducible refine Below.allo ?_ ?_); (focus (first | omega | (simp; done) | (simp; omega)))))

def FirstRet (f : Pt) (L : List Pt) (w : World) (e : Ending) (w' : World) : Prop :=
  e = .returned (.tuple #[ptV (minM f L), .int .i64 (minV f L), .bool (someL L)]) ∧ Below w.heap.size w w'
theorem first_endD {f : Pt} {L : List Pt} {tmps : Array Value} {w X : World} {b1 D : Nat} (hD : w.heap.size ≤ D) (hK : At X D (.deferred (some [])))
    (h2 : tmps.getD 4 undef = .pointer (some ⟨b1, 0, none⟩)) (h3 : tmps.getD 5 undef = .int .i64 (minV f L)) (h4 : tmps.getD 6 undef = .bool (someL L))
    (rl : Row X b1 26 (ptA (minM f L))) (hB : Below w.heap.size w X) :
    bodyPostM Fence.wide 6 Try.prog Try.f56 (FirstRet f L w) .ret { tmps := tmps, defers := [{ target := .collected D, args := #[] }] } X := by
  have hu := marks_up (n := w.heap.size) hB.size hD hK
  replace rl : Row (X.putObj D (.deferred none)) b1 _ _ := hu.cells _ _ _ _ rl
  exact marks_ret hK (results_css rfl h2 h3 h4 (load_P _ rl.three.1 rl.three.2.1 rl.three.2.2)) ⟨rfl, hB.trans hu.below⟩

set_option maxRecDepth 100000 in
set_option maxHeartbeats 1000000 in
theorem first_c (n : Int) (s : Option Addr) (cap : Nat) (l : List Iq) (f : Pt) (w : World) (h : Dom w s l) (hn : 1 ≤ n ∧ n ≤ 3) :
    Calls Try.prog 56 #[.agg #[.int .i64 n, .slice s l.length cap], .agg #[.int .i64 f.x, .int .i64 f.y, .int .i64 f.z]] w (FirstRet f (pts n l) w) := by
  have hblk : ∀ k, Blk s l k → k < w.heap.size := fun k hk => h.iq.blk hk
  replace hblk := Lib.hid hblk
  refine calls_of_wp_marks Try.func56 rfl ?_
  simp only [Try.ntmps56, List.size_toArray, List.length_cons, List.length_nil, Nat.reduceAdd, Nat.reduceSub, Array.replicate_succ, Array.replicate_zero, List.push_toArray, List.append_toArray, List.nil_append, List.cons_append]
  go_upto_region 3 with (fail)
  refine wp_world fun W HW => ?_
  have hB : Below w.heap.size w W := by rw [HW.out]; (repeat (first | exact Below.refl _ _ | refine Below.alloc ?_ (by simp; try omega) _ | refine Below.setCell ?_ (by simp) _ | refine Below.drew ?_))
  have d0 : W.cell? ⟨w.heap.size, 0, none⟩ = some (.int .i64 n) := by rw [HW.out]; simp [go_sem]
  have d1 : W.cell? ⟨w.heap.size, 1, none⟩ = some (.slice s l.length cap) := by rw [HW.out]; simp [go_sem]
  have dl : w.heap.size < W.heap.size := World.block_lt_of_cell? W _ d0
  have f0 : W.cell? ⟨w.heap.size + 1, 0, none⟩ = some (.int .i64 f.x) := by rw [HW.out]; simp [go_sem]
  have f1 : W.cell? ⟨w.heap.size + 1, 1, none⟩ = some (.int .i64 f.y) := by rw [HW.out]; simp [go_sem]
  have f2 : W.cell? ⟨w.heap.size + 1, 2, none⟩ = some (.int .i64 f.z) := by rw [HW.out]; simp [go_sem]
  have fl : w.heap.size + 1 < W.heap.size := World.block_lt_of_cell? W _ f0
  have rB : Row W (w.heap.size + 2) 26 #[.int .i64 0, .int .i64 0, .int .i64 0] := (by rw [HW.out]; (repeat (first | (refine blk_new ?_; simp; done) | refine blk_old ?_ _)) : W.heap[w.heap.size + 2]? = some (.cells #[.int .i64 0, .int .i64 0, .int .i64 0] 26 (0, 0)))
  have r0 : W.cell? ⟨w.heap.size + 2, 0, none⟩ = some (.int .i64 0) := by rw [HW.out]; simp [go_sem]
  have r1 : W.cell? ⟨w.heap.size + 2, 1, none⟩ = some (.int .i64 0) := by rw [HW.out]; simp [go_sem]
  have r2 : W.cell? ⟨w.heap.size + 2, 2, none⟩ = some (.int .i64 0) := by rw [HW.out]; simp [go_sem]
  have rl : w.heap.size + 2 < W.heap.size := World.block_lt_of_cell? W _ r0
  have mB : Row W (w.heap.size + 3) 26 #[.int .i64 0, .int .i64 0, .int .i64 0] := (by rw [HW.out]; (repeat (first | (refine blk_new ?_; simp; done) | refine blk_old ?_ _)) : W.heap[w.heap.size + 3]? = some (.cells #[.int .i64 0, .int .i64 0, .int .i64 0] 26 (0, 0)))
  have m0 : W.cell? ⟨w.heap.size + 3, 0, none⟩ = some (.int .i64 0) := by rw [HW.out]; simp [go_sem]
  have m1 : W.cell? ⟨w.heap.size + 3, 1, none⟩ = some (.int .i64 0) := by rw [HW.out]; simp [go_sem]
  have m2 : W.cell? ⟨w.heap.size + 3, 2, none⟩ = some (.int .i64 0) := by rw [HW.out]; simp [go_sem]
  have ml : w.heap.size + 3 < W.heap.size := World.block_lt_of_cell? W _ m0
  have vB : Row W (w.heap.size + 4) 3 #[.int .i64 0] := (by rw [HW.out]; (repeat (first | (refine blk_new ?_; simp; done) | refine blk_old ?_ _)) : W.heap[w.heap.size + 4]? = some (.cells #[.int .i64 0] 3 (0, 0)))
  have v0 : W.cell? ⟨w.heap.size + 4, 0, none⟩ = some (.int .i64 0) := by rw [HW.out]; simp [go_sem]
  have vl : w.heap.size + 4 < W.heap.size := World.block_lt_of_cell? W _ v0
  have kB : Row W (w.heap.size + 5) 4 #[.bool false] := (by rw [HW.out]; (repeat (first | (refine blk_new ?_; simp; done) | refine blk_old ?_ _)) : W.heap[w.heap.size + 5]? = some (.cells #[.bool false] 4 (0, 0)))
  have k0 : W.cell? ⟨w.heap.size + 5, 0, none⟩ = some (.bool false) := by rw [HW.out]; simp [go_sem]
  have kl : w.heap.size + 5 < W.heap.size := World.block_lt_of_cell? W _ k0
  try replace h := up_of hB h
  have hfl : w.heap.size + 5 < W.heap.size := kl
  have hWs := hB.size
  go_wp2_with (go_at_call 54; refine (points_c _ _ _ _ _ hn h.iq h.len).mono ?_; rintro e V ⟨⟨lb, S, rfl, hit, hS⟩, hb⟩)
  have hXV := hb.size
  have hSlt := hit.lt
  have hbx : ∀ k, S k → k < V.heap.size ∧ ¬ (k = w.heap.size + 3 ∨ k = w.heap.size + 4 ∨ k = w.heap.size + 5) := fun k hk => ⟨hSlt k hk, by
    rcases hS k hk with h | h
    · omega
    · have := hblk.out k h; omega⟩
  try replace h := up_of hb h
  try replace hB := up_of hb hB
  try replace d0 := up_of hb d0
  try replace d1 := up_of hb d1
  try replace dl := up_of hb dl
  try replace f0 := up_of hb f0
  try replace f1 := up_of hb f1
  try replace f2 := up_of hb f2
  try replace fl := up_of hb fl
  try replace rB := up_of hb rB
  try replace r0 := up_of hb r0
  try replace r1 := up_of hb r1
  try replace r2 := up_of hb r2
  try replace rl := up_of hb rl
  try replace mB := up_of hb mB
  try replace m0 := up_of hb m0
  try replace m1 := up_of hb m1
  try replace m2 := up_of hb m2
  try replace ml := up_of hb ml
  try replace vB := up_of hb vB
  try replace v0 := up_of hb v0
  try replace vl := up_of hb vl
  try replace kB := up_of hb kB
  try replace k0 := up_of hb k0
  try replace kl := up_of hb kl
  have hVs := hB.size
  replace hbx := Lib.hid hbx
  clear hS
  refine' wp_rangeB rfl (fun _ _ => by simp [go_sem]) hit w.heap.size hB.size
    (fun pre W => (Row W (w.heap.size + 3) 26 (ptA (minM f pre)) ∧ Row W (w.heap.size + 4) 3 #[.int .i64 (minV f pre)] ∧ Row W (w.heap.size + 5) 4 #[.bool (someL pre)] ∧
      W.cell? ⟨w.heap.size + 1, 0, none⟩ = some (.int .i64 f.x) ∧ W.cell? ⟨w.heap.size + 1, 1, none⟩ = some (.int .i64 f.y) ∧ W.cell? ⟨w.heap.size + 1, 2, none⟩ = some (.int .i64 f.z) ∧
      Row W (w.heap.size + 2) 26 #[.int .i64 0, .int .i64 0, .int .i64 0] ∧ Below w.heap.size w W) ∧ V.heap.size ≤ W.heap.size) (fun _ _ _ => False)
    ?hI (fun _ _ _ _ h _ => h) (fun s A h => h.1.2.2.2.2.2.2.2.size) (fun _ _ _ h => h.elim) ⟨⟨mB, vB, kB, f0, f1, f2, rB, hB⟩, Nat.le_refl _⟩ 26 (fun x => ptA x) _ ?assign ?body ?done ?stop
  case hI =>
    rintro s A B ⟨⟨h1, h2, h3, h4, h5, h6, h7, h8⟩, h9⟩ hu
    exact ⟨⟨hu.cells _ _ _ _ h1, hu.cells _ _ _ _ h2, hu.cells _ _ _ _ h3, hu.cell h4, hu.cell h5, hu.cell h6, hu.cells _ _ _ _ h7, h8.trans hu.below⟩, Nat.le_trans h9 hu.below.size⟩
  case assign =>
    intro l x W b K hb hK
    simp only [encPt, List.setIfInBounds_toArray, List.set_cons_zero, List.set_cons_succ]
    gi_wp2
    exact hK
  case body =>
    rintro l pre x B W ⟨⟨rm, rv, rk, q0, q1, q2, rr, hB⟩, hVW⟩ hlt hVB hp
    replace hp : Row W B _ #[.int .i64 x.x, .int .i64 x.y, .int .i64 x.z] := hp
    have hm := minM_snoc f pre x
    obtain ⟨mn, hm2⟩ : ∃ mn, minM f pre = mn := ⟨_, rfl⟩
    obtain ⟨fd, hfd⟩ : ∃ fd, someL pre = fd := ⟨_, rfl⟩
    have hv2 : minV f pre = if fd then vf f mn else 0 := by unfold minV; rw [hfd, hm2]
    have hv3 : minV f (pre ++ [x]) = vf f (minM f (pre ++ [x])) := by unfold minV; rw [someL_snoc]; rfl
    rw [hm, hm2, hfd] at hv3
    rw [hm2] at rm hm
    rw [hfd] at rk hm
    rw [hv2] at rv
    replace hm := Lib.hid hm
    replace hv3 := Lib.hid hv3
    clear hm2 hfd hv2
    obtain ⟨p0, p1, p2⟩ := hp.three
    have hWl := hB.size
    gi_wp2_with fail
    refine (cir (times_c f x _)).mono ?_; rintro e W1 ⟨rfl, hb⟩
    have hC1 : Chg (fun k => k = w.heap.size + 3 ∨ k = w.heap.size + 4 ∨ k = w.heap.size + 5) W W1 := Chg.of_below hb
    have q0' := q0
    have q1' := q1
    have q2' := q2
    have rr' := rr
    replace rm := up_of hb rm
    replace rv := up_of hb rv
    replace rk := up_of hb rk
    replace q0 := up_of hb q0
    replace q1 := up_of hb q1
    replace q2 := up_of hb q2
    replace rr := up_of hb rr
    replace hp := up_of hb hp
    obtain ⟨p0, p1, p2⟩ := hp.three
    obtain ⟨m0, m1, m2⟩ := rm.three
    have v0 := rv.one
    have k0 := rk.one
    have mf := fun i => rm.frozen i
    have vf0 := rv.frozen 0
    have kf := rk.frozen 0
    have hvx : wrap64 (dotZ f x) = vf f x := rfl
    replace hvx := Lib.hid hvx
    rw [hvx.out]
    cases fd
    · simp only [Bool.false_eq_true, if_false] at v0 rv hm hv3
      gi_wp2
      have hC : Chg (fun k => k = w.heap.size + 3 ∨ k = w.heap.size + 4 ∨ k = w.heap.size + 5) W ((((((W1.setCell ⟨w.heap.size + 3, 0, none⟩ (.int .i64 x.x)).setCell ⟨w.heap.size + 3, 1, none⟩ (.int .i64 x.y)).setCell ⟨w.heap.size + 3, 2, none⟩ (.int .i64 x.z)).setCell ⟨w.heap.size + 4, 0, none⟩ (.int .i64 (vf f x))).setCell ⟨w.heap.size + 5, 0, none⟩ (.bool true))) := by
        repeat (first | (with_reducible exact hC1) | (with_reducible refine Chg.setCell ?_ (by simp) _) | (with_reducible refine Chg.drew ?_) | (with_reducible refine Chg.alloc ?_ _))
      refine ⟨hC.others, hC.keepUp (fun k hk => ⟨Nat.lt_of_lt_of_le (hbx.out k hk).1 hVW, (hbx.out k hk).2⟩), ⟨?_, ?_, ?_, ?_, ?_, ?_, ?_, ?_⟩, Nat.le_trans hVW hC.size⟩
      · rw [hm.out]
        refine Row.of ?_
        repeat (first | (with_reducible refine RowG.base rm ?_) | (with_reducible refine RowG.drew ?_) | (with_reducible refine RowG.set ?_) | ((with_reducible refine RowG.other ?_ ?_); (focus (first | omega | (simp; done) | (simp; omega)))) | (with_reducible refine RowG.alloc ?_))
        rfl
      · rw [hv3.out]
        refine Row.of ?_
        repeat (first | (with_reducible refine RowG.base rv ?_) | (with_reducible refine RowG.drew ?_) | (with_reducible refine RowG.set ?_) | ((with_reducible refine RowG.other ?_ ?_); (focus (first | omega | (simp; done) | (simp; omega)))) | (with_reducible refine RowG.alloc ?_))
        rfl
      · rw [someL_snoc]
        refine Row.of ?_
        repeat (first | (with_reducible refine RowG.base rk ?_) | (with_reducible refine RowG.drew ?_) | (with_reducible refine RowG.set ?_) | ((with_reducible refine RowG.other ?_ ?_); (focus (first | omega | (simp; done) | (simp; omega)))) | (with_reducible refine RowG.alloc ?_))
        rfl
      · exact hC.cell (by simp) q0'
      · exact hC.cell (by simp) q1'
      · exact hC.cell (by simp) q2'
      · exact hC.row (by simp) rr'
      · exact hC.below (fun k hk => by omega) hWl hB
    · simp only [if_true] at v0 rv hm hv3
      by_cases c1 : vf f x < vf f mn
      · gi_wp2
        skip
        have hC : Chg (fun k => k = w.heap.size + 3 ∨ k = w.heap.size + 4 ∨ k = w.heap.size + 5) W ((((((W1.setCell ⟨w.heap.size + 3, 0, none⟩ (.int .i64 x.x)).setCell ⟨w.heap.size + 3, 1, none⟩ (.int .i64 x.y)).setCell ⟨w.heap.size + 3, 2, none⟩ (.int .i64 x.z)).setCell ⟨w.heap.size + 4, 0, none⟩ (.int .i64 (vf f x))).setCell ⟨w.heap.size + 5, 0, none⟩ (.bool true))) := by
          repeat (first | (with_reducible exact hC1) | (with_reducible refine Chg.setCell ?_ (by simp) _) | (with_reducible refine Chg.drew ?_) | (with_reducible refine Chg.alloc ?_ _))
        refine ⟨hC.others, hC.keepUp (fun k hk => ⟨Nat.lt_of_lt_of_le (hbx.out k hk).1 hVW, (hbx.out k hk).2⟩), ⟨?_, ?_, ?_, ?_, ?_, ?_, ?_, ?_⟩, Nat.le_trans hVW hC.size⟩
        · rw [hm.out, stepM, if_pos c1]
          refine Row.of ?_
          repeat (first | (with_reducible refine RowG.base rm ?_) | (with_reducible refine RowG.drew ?_) | (with_reducible refine RowG.set ?_) | ((with_reducible refine RowG.other ?_ ?_); (focus (first | omega | (simp; done) | (simp; omega)))) | (with_reducible refine RowG.alloc ?_))
          rfl
        · rw [hv3.out, stepM, if_pos c1]
          refine Row.of ?_
          repeat (first | (with_reducible refine RowG.base rv ?_) | (with_reducible refine RowG.drew ?_) | (with_reducible refine RowG.set ?_) | ((with_reducible refine RowG.other ?_ ?_); (focus (first | omega | (simp; done) | (simp; omega)))) | (with_reducible refine RowG.alloc ?_))
          rfl
        · rw [someL_snoc]
          refine Row.of ?_
          repeat (first | (with_reducible refine RowG.base rk ?_) | (with_reducible refine RowG.drew ?_) | (with_reducible refine RowG.set ?_) | ((with_reducible refine RowG.other ?_ ?_); (focus (first | omega | (simp; done) | (simp; omega)))) | (with_reducible refine RowG.alloc ?_))
          rfl
        · exact hC.cell (by simp) q0'
        · exact hC.cell (by simp) q1'
        · exact hC.cell (by simp) q2'
        · exact hC.row (by simp) rr'
        · exact hC.below (fun k hk => by omega) hWl hB
      · gi_wp2
        refine ⟨hC1.others, hC1.keepUp (fun k hk => ⟨Nat.lt_of_lt_of_le (hbx.out k hk).1 hVW, (hbx.out k hk).2⟩), ⟨?_, ?_, ?_, q0, q1, q2, rr, hC1.below (fun k hk => by omega) hWl hB⟩, Nat.le_trans hVW hC1.size⟩
        · rw [hm.out, stepM, if_neg (by omega)]; exact rm
        · rw [hv3.out, stepM, if_neg (by omega)]; exact rv
        · rw [someL_snoc]; exact rk
  case done =>
    rintro D W hD ⟨⟨rm, rv, rk, q0, q1, q2, rr, hB⟩, hVW⟩ hK
    replace hK : At W D _ := hK
    obtain ⟨m0, m1, m2⟩ := rm.three
    obtain ⟨r0, r1, r2⟩ := rr.three
    have v0 := rv.one
    have k0 := rk.one
    have rf := fun i => rr.frozen i
    have hWs := hB.size
    go_upto_region 8 with (fail)
    go_region
    all_goals
      go_wp2
      refine first_endD (D := D) (b1 := w.heap.size + 2) (by omega) ?_ rfl rfl rfl ?_ ?_
      · repeat (first | (with_reducible exact hK) | (with_reducible refine At.drew ?_) | (with_reducible refine At.other (by simp; omega) ?_))
      · refine Row.of ?_
        repeat (first | (with_reducible refine RowG.base rr ?_) | (with_reducible refine RowG.drew ?_) | (with_reducible refine RowG.set ?_) | ((with_reducible refine RowG.other ?_ ?_); (focus (first | omega | (simp; done) | (simp; omega)))) | (with_reducible refine RowG.alloc ?_))
        rfl
      · repeat (first | (with_reducible exact hB) | (with_reducible refine Below.drew ?_) | ((with_reducible refine Below.setC ?_ ?_); (focus (first | omega | (simp; done) | (simp; omega)))) | ((with_reducible refine Below.allo ?_ ?_); (focus (first | omega | (simp; done) | (simp; omega)))))
  case stop =>
    rintro D c pre W hD hpre h hK
    exact h.elim
end Go.Proofs.Ytfebkccdcbkdiaa
