/- Greatest, of the program and of the reference. -/
import Derived.Test.YtfebkccdcbkdiaaPoly18
namespace Go.Proofs.Ytfebkccdcbkdiaa
open Go.RowKit

def greatB (n : Int) (l : List Iq) (f : Pt) : Bool := validB n l && !flatB f n 100
def greatP (n : Int) (l : List Iq) (f : Pt) : Pt := if greatB n l f then ⟨0, 0, 0⟩ else leastP n l (negP f)
def greatN (n : Int) (l : List Iq) (f : Pt) : Int := if greatB n l f then 0 else wrap64 (-leastN n l (negP f))
def greatE (n : Int) (l : List Iq) (f : Pt) : Int := if greatB n l f then 2 else leastE n l (negP f)
theorem PntRet.calls {p : Pt} {v er : Int} {P : Program} {g : FuncId} {args : Array Value} {w : World} {p' : Pt} {v' er' : Int} (h : Calls P g args w (PntRet p v er w)) (e1 : p = p') (e2 : v = v') (e3 : er = er') :
    Calls P g args w fun e w' => e = .returned (.tuple #[.agg #[.int .i64 p'.x, .int .i64 p'.y, .int .i64 p'.z], .int .i64 v', .int .i64 er']) ∧ Below w.heap.size w w' := by
  subst e1; subst e2; subst e3; exact h

set_option maxRecDepth 100000 in
set_option maxHeartbeats 2000000 in
theorem Greatest_c (n : Int) (s : Option Addr) (cap : Nat) (l : List Iq) (f : Pt) (w : World) (h : Dom w s l) :
    Calls Try.prog 29 #[.agg #[.int .i64 n, .slice s l.length cap], .agg #[.int .i64 f.x, .int .i64 f.y, .int .i64 f.z]] w (PntRet (greatP n l f) (greatN n l f) (greatE n l f) w) := by
  cases hg : greatB n l f
  case true =>
    rw [show greatP n l f = ⟨0, 0, 0⟩ by simp [greatP, hg], show greatN n l f = 0 by simp [greatN, hg], show greatE n l f = 2 by simp [greatE, hg]]
    simp only [greatB, Bool.and_eq_true, Bool.not_eq_true'] at hg
    obtain ⟨h1, h2⟩ := hg
    go_enter Try.func29, Try.ntmps29
    go_upto_region 1 with (fail)
    refine wp_world fun W HW => ?_
    have hB : Below w.heap.size w W := by rw [HW.out]; (repeat (first | exact Below.refl _ _ | refine Below.alloc ?_ (by simp; try omega) _ | refine Below.setCell ?_ (by simp) _ | refine Below.drew ?_))
    have d0 : W.cell? ⟨w.heap.size, 0, none⟩ = some (.int .i64 n) := by rw [HW.out]; simp [go_sem]
    have d1 : W.cell? ⟨w.heap.size, 1, none⟩ = some (.slice s l.length cap) := by rw [HW.out]; simp [go_sem]
    have dl : w.heap.size < W.heap.size := World.block_lt_of_cell? W _ d0
    have f0 : W.cell? ⟨w.heap.size + 1, 0, none⟩ = some (.int .i64 f.x) := by rw [HW.out]; simp [go_sem]
    have f1 : W.cell? ⟨w.heap.size + 1, 1, none⟩ = some (.int .i64 f.y) := by rw [HW.out]; simp [go_sem]
    have f2 : W.cell? ⟨w.heap.size + 1, 2, none⟩ = some (.int .i64 f.z) := by rw [HW.out]; simp [go_sem]
    have fl : w.heap.size + 1 < W.heap.size := World.block_lt_of_cell? W _ f0
    have rB : Row W (w.heap.size + 2) 26 #[.int .i64 0, .int .i64 0, .int .i64 0] := (by rw [HW.out]; (repeat (first | (refine blk_new ?_; simp; done) | refine blk_old ?_ _)) : W.heap[w.heap.size + 2]? = some (.cells #[.int .i64 0, .int .i64 0, .int .i64 0] 26 (0, 0)))
    have r0 : W.cell? ⟨w.heap.size + 2, 0, none⟩ = some (.int .i64 0) := by rw [HW.out]; simp [go_sem]
    have r1 : W.cell? ⟨w.heap.size + 2, 1, none⟩ = some (.int .i64 0) := by rw [HW.out]; simp [go_sem]
    have r2 : W.cell? ⟨w.heap.size + 2, 2, none⟩ = some (.int .i64 0) := by rw [HW.out]; simp [go_sem]
    have rl : w.heap.size + 2 < W.heap.size := World.block_lt_of_cell? W _ r0
    try replace h := up_of hB h
    go_upto_region 2 with (first | (go_at_call 17; refine (Valid_t _ _ _ _ _ h).mono ?_; rintro e W1 ⟨rfl, hb⟩; (try replace h := up_of hb h); (try replace hB := up_of hb hB); (try replace d0 := up_of hb d0); (try replace d1 := up_of hb d1); (try replace dl := up_of hb dl); (try replace f0 := up_of hb f0); (try replace f1 := up_of hb f1); (try replace f2 := up_of hb f2); (try replace fl := up_of hb fl); (try replace rB := up_of hb rB); (try replace r0 := up_of hb r0); (try replace r1 := up_of hb r1); (try replace r2 := up_of hb r2); (try replace rl := up_of hb rl)) | (go_at_call 51; refine (ranged_c _ _ _ _ (by omega) (by omega)).mono ?_; rintro e W1 ⟨rfl, hb⟩; (try replace h := up_of hb h); (try replace hB := up_of hb hB); (try replace d0 := up_of hb d0); (try replace d1 := up_of hb d1); (try replace dl := up_of hb dl); (try replace f0 := up_of hb f0); (try replace f1 := up_of hb f1); (try replace f2 := up_of hb f2); (try replace fl := up_of hb fl); (try replace rB := up_of hb rB); (try replace r0 := up_of hb r0); (try replace r1 := up_of hb r1); (try replace r2 := up_of hb r2); (try replace rl := up_of hb rl)))
    have rf := fun i => Row.frozen rB i
    go_wp2
    refine pnt_end rfl ⟨0, 0, 0⟩ 0 2 (b1 := w.heap.size + 2) rfl rfl rfl ?_ ?_
    · refine Row.of ?_
      repeat (first | (with_reducible refine RowG.base rB ?_) | (with_reducible refine RowG.drew ?_) | (with_reducible refine RowG.set ?_) | ((with_reducible refine RowG.other ?_ ?_); (focus (first | omega | (simp; done) | (simp; omega)))) | (with_reducible refine RowG.alloc ?_))
      rfl
    · repeat (first | (with_reducible exact hB) | (with_reducible refine Below.drew ?_) | ((with_reducible refine Below.setC ?_ ?_); (focus (first | omega | (simp; done) | (simp; omega)))) | ((with_reducible refine Below.allo ?_ ?_); (focus (first | omega | (simp; done) | (simp; omega)))))
  rw [show greatP n l f = leastP n l (negP f) by simp [greatP, hg], show greatN n l f = wrap64 (-leastN n l (negP f)) by simp [greatN, hg], show greatE n l f = leastE n l (negP f) by simp [greatE, hg]]
  obtain ⟨gp, e1⟩ : ∃ x, leastP n l (negP f) = x := ⟨_, rfl⟩
  obtain ⟨gv, e2⟩ : ∃ x, leastN n l (negP f) = x := ⟨_, rfl⟩
  obtain ⟨ge, e3⟩ : ∃ x, leastE n l (negP f) = x := ⟨_, rfl⟩
  obtain ⟨nf, e4⟩ : ∃ x, negP f = x := ⟨_, rfl⟩
  rw [e1, e2, e3]
  rw [e4] at e1 e2 e3
  replace e1 := Lib.hid e1; replace e2 := Lib.hid e2; replace e3 := Lib.hid e3; replace e4 := Lib.hid e4
  cases h1 : validB n l
  case true =>
    have h2 : flatB f n 100 = true := by simpa [greatB, h1] using hg
    clear hg
    go_enter Try.func29, Try.ntmps29
    go_upto_region 1 with (fail)
    refine wp_world fun W HW => ?_
    have hB : Below w.heap.size w W := by rw [HW.out]; (repeat (first | exact Below.refl _ _ | refine Below.alloc ?_ (by simp; try omega) _ | refine Below.setCell ?_ (by simp) _ | refine Below.drew ?_))
    have d0 : W.cell? ⟨w.heap.size, 0, none⟩ = some (.int .i64 n) := by rw [HW.out]; simp [go_sem]
    have d1 : W.cell? ⟨w.heap.size, 1, none⟩ = some (.slice s l.length cap) := by rw [HW.out]; simp [go_sem]
    have dl : w.heap.size < W.heap.size := World.block_lt_of_cell? W _ d0
    have f0 : W.cell? ⟨w.heap.size + 1, 0, none⟩ = some (.int .i64 f.x) := by rw [HW.out]; simp [go_sem]
    have f1 : W.cell? ⟨w.heap.size + 1, 1, none⟩ = some (.int .i64 f.y) := by rw [HW.out]; simp [go_sem]
    have f2 : W.cell? ⟨w.heap.size + 1, 2, none⟩ = some (.int .i64 f.z) := by rw [HW.out]; simp [go_sem]
    have fl : w.heap.size + 1 < W.heap.size := World.block_lt_of_cell? W _ f0
    have rB : Row W (w.heap.size + 2) 26 #[.int .i64 0, .int .i64 0, .int .i64 0] := (by rw [HW.out]; (repeat (first | (refine blk_new ?_; simp; done) | refine blk_old ?_ _)) : W.heap[w.heap.size + 2]? = some (.cells #[.int .i64 0, .int .i64 0, .int .i64 0] 26 (0, 0)))
    have r0 : W.cell? ⟨w.heap.size + 2, 0, none⟩ = some (.int .i64 0) := by rw [HW.out]; simp [go_sem]
    have r1 : W.cell? ⟨w.heap.size + 2, 1, none⟩ = some (.int .i64 0) := by rw [HW.out]; simp [go_sem]
    have r2 : W.cell? ⟨w.heap.size + 2, 2, none⟩ = some (.int .i64 0) := by rw [HW.out]; simp [go_sem]
    have rl : w.heap.size + 2 < W.heap.size := World.block_lt_of_cell? W _ r0
    try replace h := up_of hB h
    go_upto_region 3 with (first | (go_at_call 17; refine (Valid_t _ _ _ _ _ h).mono ?_; rintro e W1 ⟨rfl, hb⟩; (try replace h := up_of hb h); (try replace hB := up_of hb hB); (try replace d0 := up_of hb d0); (try replace d1 := up_of hb d1); (try replace dl := up_of hb dl); (try replace f0 := up_of hb f0); (try replace f1 := up_of hb f1); (try replace f2 := up_of hb f2); (try replace fl := up_of hb fl); (try replace rB := up_of hb rB); (try replace r0 := up_of hb r0); (try replace r1 := up_of hb r1); (try replace r2 := up_of hb r2); (try replace rl := up_of hb rl)) | (go_at_call 51; refine (ranged_c _ _ _ _ (by omega) (by omega)).mono ?_; rintro e W1 ⟨rfl, hb⟩; (try replace h := up_of hb h); (try replace hB := up_of hb hB); (try replace d0 := up_of hb d0); (try replace d1 := up_of hb d1); (try replace dl := up_of hb dl); (try replace f0 := up_of hb f0); (try replace f1 := up_of hb f1); (try replace f2 := up_of hb f2); (try replace fl := up_of hb fl); (try replace rB := up_of hb rB); (try replace r0 := up_of hb r0); (try replace r1 := up_of hb r1); (try replace r2 := up_of hb r2); (try replace rl := up_of hb rl)))
    have rf := fun i => Row.frozen rB i
    go_region_held3 (fun V => V.cell? ⟨w.heap.size, 0, none⟩ = some (.int .i64 n) ∧ V.cell? ⟨w.heap.size, 1, none⟩ = some (.slice s l.length cap) ∧ V.cell? ⟨w.heap.size + 1, 0, none⟩ = some (.int .i64 f.x) ∧ V.cell? ⟨w.heap.size + 1, 1, none⟩ = some (.int .i64 f.y) ∧ V.cell? ⟨w.heap.size + 1, 2, none⟩ = some (.int .i64 f.z)) ((first | (with_reducible exact ⟨d0, d1, f0, f1, f2⟩) | ((try dsimp only); (repeat' apply And.intro) <;> (repeat (first | (with_reducible assumption) | (with_reducible refine cell_set (by simp; try omega) ?_) | (with_reducible refine cell_drew ?_) | (with_reducible refine cell_alloc ?_ _)))))) ((first | (go_at_call 57; refine calls_below (W0 := W1) ?_ fun hpre => ?_; (repeat (first | exact Below.refl _ _ | refine Below.alloc ?_ (by simp; try omega) _ | refine Below.drew ?_)); refine (e4.out ▸ negated_c f _).mono ?_; rintro e N1 ⟨rfl, hb1⟩; have hcc := cellB hb1; have hff := frozB hb1; have hb := Up.trans hpre hb1; clear hpre; (first | have hs_N1 := below_alloc_lt hb1 | have hs_N1 := below_alloc_lt (drewB hb1) | skip); have dl_N1 := dl; have fl_N1 := fl; have rl_N1 := rl; (try replace h := up_of hb h); (try replace hB := up_of hb hB); (try replace d0 := up_of hb d0); (try replace d1 := up_of hb d1); (try replace dl := up_of hb dl); (try replace f0 := up_of hb f0); (try replace f1 := up_of hb f1); (try replace f2 := up_of hb f2); (try replace fl := up_of hb fl); (try replace rB := up_of hb rB); (try replace r0 := up_of hb r0); (try replace r1 := up_of hb r1); (try replace r2 := up_of hb r2); (try replace rl := up_of hb rl); (first | have nB := new_up hb1 | have nB := new_up (drewB hb1) | (try replace nB := up_of hb nB))) | (go_at_call 27; refine calls_below (W0 := N1) ?_ fun hpre => ?_; (repeat (first | exact Below.refl _ _ | refine Below.alloc ?_ (by simp; try omega) _ | refine Below.drew ?_)); refine (PntRet.calls (Least_c n s cap l nf _ (up_of hpre h)) e1.out e2.out e3.out).mono ?_; rintro e N2 ⟨rfl, hb1⟩; have hcc := cellB hb1; have hff := frozB hb1; have hb := Up.trans hpre hb1; clear hpre; (first | have hs_N2 := below_alloc_lt hb1 | have hs_N2 := below_alloc_lt (drewB hb1) | skip); have dl_N2 := dl; have fl_N2 := fl; have rl_N2 := rl; (try replace h := up_of hb h); (try replace hB := up_of hb hB); (try replace d0 := up_of hb d0); (try replace d1 := up_of hb d1); (try replace dl := up_of hb dl); (try replace f0 := up_of hb f0); (try replace f1 := up_of hb f1); (try replace f2 := up_of hb f2); (try replace fl := up_of hb fl); (try replace rB := up_of hb rB); (try replace r0 := up_of hb r0); (try replace r1 := up_of hb r1); (try replace r2 := up_of hb r2); (try replace rl := up_of hb rl); (first | have nB := new_up hb1 | have nB := new_up (drewB hb1) | (try replace nB := up_of hb nB)))))
    all_goals
      refine exit_world fun X HX => ?_
      have hBX : Below w.heap.size w X := by
        rw [HX.out]
        repeat (first | (with_reducible exact hB) | (with_reducible refine Below.drew ?_) | ((with_reducible refine Below.setC ?_ ?_); (focus (first | omega | (simp; done) | (simp; omega)))) | ((with_reducible refine Below.allo ?_ ?_); (focus (first | omega | (simp; done) | (simp; omega)))))
      have rX : Row X (w.heap.size + 2) 26 #[.int .i64 0, .int .i64 0, .int .i64 0] := by
        rw [HX.out]
        refine Row.of ?_
        repeat (first | (with_reducible refine RowG.base rB ?_) | (with_reducible refine RowG.drew ?_) | (with_reducible refine RowG.set ?_) | ((with_reducible refine RowG.other ?_ ?_); (focus (first | omega | (simp; done) | (simp; omega)))) | (with_reducible refine RowG.alloc ?_))
        rfl
      first | (refine have_it (Row X N2.heap.size 26 (ptA gp)) ?_ fun tX => ?_; (focus (rw [HX.out]; refine Row.of ?_; (repeat (first | (with_reducible refine RowG.base nB ?_) | (with_reducible refine RowG.drew ?_) | (with_reducible refine RowG.set ?_) | (with_reducible refine RowG.new ?_) | ((with_reducible refine RowG.other ?_ ?_); (focus (first | omega | (simp; done) | (simp; omega)))) | (with_reducible refine RowG.alloc ?_))); rfl; done))) | (refine have_it (Row X N1.heap.size 26 (ptA gp)) ?_ fun tX => ?_; (focus (rw [HX.out]; refine Row.of ?_; (repeat (first | (with_reducible refine RowG.base nB ?_) | (with_reducible refine RowG.drew ?_) | (with_reducible refine RowG.set ?_) | (with_reducible refine RowG.new ?_) | ((with_reducible refine RowG.other ?_ ?_); (focus (first | omega | (simp; done) | (simp; omega)))) | (with_reducible refine RowG.alloc ?_))); rfl; done))) | (refine have_it (Row X W1.heap.size 26 (ptA gp)) ?_ fun tX => ?_; (focus (rw [HX.out]; refine Row.of ?_; (repeat (first | (with_reducible refine RowG.base nB ?_) | (with_reducible refine RowG.drew ?_) | (with_reducible refine RowG.set ?_) | (with_reducible refine RowG.new ?_) | ((with_reducible refine RowG.other ?_ ?_); (focus (first | omega | (simp; done) | (simp; omega)))) | (with_reducible refine RowG.alloc ?_))); rfl; done)))
      obtain ⟨t0, t1, t2⟩ := tX.three
      obtain ⟨r0, r1, r2⟩ := rX.three
      have rf := fun i => rX.frozen i
      clear hb1 hcc hff
      go_wp2
      refine pnt_end rfl _ _ _ (b1 := w.heap.size + 2) rfl rfl rfl ?_ ?_
      · refine Row.of ?_
        repeat (first | (with_reducible refine RowG.base rX ?_) | (with_reducible refine RowG.drew ?_) | (with_reducible refine RowG.set ?_) | ((with_reducible refine RowG.other ?_ ?_); (focus (first | omega | (simp; done) | (simp; omega)))) | (with_reducible refine RowG.alloc ?_))
        rfl
      · repeat (first | (with_reducible exact hBX) | (with_reducible refine Below.drew ?_) | ((with_reducible refine Below.setC ?_ ?_); (focus (first | omega | (simp; done) | (simp; omega)))) | ((with_reducible refine Below.allo ?_ ?_); (focus (first | omega | (simp; done) | (simp; omega)))))
  case false =>
    clear hg
    go_enter Try.func29, Try.ntmps29
    go_upto_region 1 with (fail)
    refine wp_world fun W HW => ?_
    have hB : Below w.heap.size w W := by rw [HW.out]; (repeat (first | exact Below.refl _ _ | refine Below.alloc ?_ (by simp; try omega) _ | refine Below.setCell ?_ (by simp) _ | refine Below.drew ?_))
    have d0 : W.cell? ⟨w.heap.size, 0, none⟩ = some (.int .i64 n) := by rw [HW.out]; simp [go_sem]
    have d1 : W.cell? ⟨w.heap.size, 1, none⟩ = some (.slice s l.length cap) := by rw [HW.out]; simp [go_sem]
    have dl : w.heap.size < W.heap.size := World.block_lt_of_cell? W _ d0
    have f0 : W.cell? ⟨w.heap.size + 1, 0, none⟩ = some (.int .i64 f.x) := by rw [HW.out]; simp [go_sem]
    have f1 : W.cell? ⟨w.heap.size + 1, 1, none⟩ = some (.int .i64 f.y) := by rw [HW.out]; simp [go_sem]
    have f2 : W.cell? ⟨w.heap.size + 1, 2, none⟩ = some (.int .i64 f.z) := by rw [HW.out]; simp [go_sem]
    have fl : w.heap.size + 1 < W.heap.size := World.block_lt_of_cell? W _ f0
    have rB : Row W (w.heap.size + 2) 26 #[.int .i64 0, .int .i64 0, .int .i64 0] := (by rw [HW.out]; (repeat (first | (refine blk_new ?_; simp; done) | refine blk_old ?_ _)) : W.heap[w.heap.size + 2]? = some (.cells #[.int .i64 0, .int .i64 0, .int .i64 0] 26 (0, 0)))
    have r0 : W.cell? ⟨w.heap.size + 2, 0, none⟩ = some (.int .i64 0) := by rw [HW.out]; simp [go_sem]
    have r1 : W.cell? ⟨w.heap.size + 2, 1, none⟩ = some (.int .i64 0) := by rw [HW.out]; simp [go_sem]
    have r2 : W.cell? ⟨w.heap.size + 2, 2, none⟩ = some (.int .i64 0) := by rw [HW.out]; simp [go_sem]
    have rl : w.heap.size + 2 < W.heap.size := World.block_lt_of_cell? W _ r0
    try replace h := up_of hB h
    go_upto_region 3 with (first | (go_at_call 17; refine (Valid_t _ _ _ _ _ h).mono ?_; rintro e W1 ⟨rfl, hb⟩; (try replace h := up_of hb h); (try replace hB := up_of hb hB); (try replace d0 := up_of hb d0); (try replace d1 := up_of hb d1); (try replace dl := up_of hb dl); (try replace f0 := up_of hb f0); (try replace f1 := up_of hb f1); (try replace f2 := up_of hb f2); (try replace fl := up_of hb fl); (try replace rB := up_of hb rB); (try replace r0 := up_of hb r0); (try replace r1 := up_of hb r1); (try replace r2 := up_of hb r2); (try replace rl := up_of hb rl)) | (go_at_call 51; refine (ranged_c _ _ _ _ (by omega) (by omega)).mono ?_; rintro e W1 ⟨rfl, hb⟩; (try replace h := up_of hb h); (try replace hB := up_of hb hB); (try replace d0 := up_of hb d0); (try replace d1 := up_of hb d1); (try replace dl := up_of hb dl); (try replace f0 := up_of hb f0); (try replace f1 := up_of hb f1); (try replace f2 := up_of hb f2); (try replace fl := up_of hb fl); (try replace rB := up_of hb rB); (try replace r0 := up_of hb r0); (try replace r1 := up_of hb r1); (try replace r2 := up_of hb r2); (try replace rl := up_of hb rl)))
    have rf := fun i => Row.frozen rB i
    go_region_held3 (fun V => V.cell? ⟨w.heap.size, 0, none⟩ = some (.int .i64 n) ∧ V.cell? ⟨w.heap.size, 1, none⟩ = some (.slice s l.length cap) ∧ V.cell? ⟨w.heap.size + 1, 0, none⟩ = some (.int .i64 f.x) ∧ V.cell? ⟨w.heap.size + 1, 1, none⟩ = some (.int .i64 f.y) ∧ V.cell? ⟨w.heap.size + 1, 2, none⟩ = some (.int .i64 f.z)) ((first | (with_reducible exact ⟨d0, d1, f0, f1, f2⟩) | ((try dsimp only); (repeat' apply And.intro) <;> (repeat (first | (with_reducible assumption) | (with_reducible refine cell_set (by simp; try omega) ?_) | (with_reducible refine cell_drew ?_) | (with_reducible refine cell_alloc ?_ _)))))) ((first | (go_at_call 57; refine calls_below (W0 := W1) ?_ fun hpre => ?_; (repeat (first | exact Below.refl _ _ | refine Below.alloc ?_ (by simp; try omega) _ | refine Below.drew ?_)); refine (e4.out ▸ negated_c f _).mono ?_; rintro e N1 ⟨rfl, hb1⟩; have hcc := cellB hb1; have hff := frozB hb1; have hb := Up.trans hpre hb1; clear hpre; (first | have hs_N1 := below_alloc_lt hb1 | have hs_N1 := below_alloc_lt (drewB hb1) | skip); have dl_N1 := dl; have fl_N1 := fl; have rl_N1 := rl; (try replace h := up_of hb h); (try replace hB := up_of hb hB); (try replace d0 := up_of hb d0); (try replace d1 := up_of hb d1); (try replace dl := up_of hb dl); (try replace f0 := up_of hb f0); (try replace f1 := up_of hb f1); (try replace f2 := up_of hb f2); (try replace fl := up_of hb fl); (try replace rB := up_of hb rB); (try replace r0 := up_of hb r0); (try replace r1 := up_of hb r1); (try replace r2 := up_of hb r2); (try replace rl := up_of hb rl); (first | have nB := new_up hb1 | have nB := new_up (drewB hb1) | (try replace nB := up_of hb nB))) | (go_at_call 27; refine calls_below (W0 := N1) ?_ fun hpre => ?_; (repeat (first | exact Below.refl _ _ | refine Below.alloc ?_ (by simp; try omega) _ | refine Below.drew ?_)); refine (PntRet.calls (Least_c n s cap l nf _ (up_of hpre h)) e1.out e2.out e3.out).mono ?_; rintro e N2 ⟨rfl, hb1⟩; have hcc := cellB hb1; have hff := frozB hb1; have hb := Up.trans hpre hb1; clear hpre; (first | have hs_N2 := below_alloc_lt hb1 | have hs_N2 := below_alloc_lt (drewB hb1) | skip); have dl_N2 := dl; have fl_N2 := fl; have rl_N2 := rl; (try replace h := up_of hb h); (try replace hB := up_of hb hB); (try replace d0 := up_of hb d0); (try replace d1 := up_of hb d1); (try replace dl := up_of hb dl); (try replace f0 := up_of hb f0); (try replace f1 := up_of hb f1); (try replace f2 := up_of hb f2); (try replace fl := up_of hb fl); (try replace rB := up_of hb rB); (try replace r0 := up_of hb r0); (try replace r1 := up_of hb r1); (try replace r2 := up_of hb r2); (try replace rl := up_of hb rl); (first | have nB := new_up hb1 | have nB := new_up (drewB hb1) | (try replace nB := up_of hb nB)))))
    all_goals
      refine exit_world fun X HX => ?_
      have hBX : Below w.heap.size w X := by
        rw [HX.out]
        repeat (first | (with_reducible exact hB) | (with_reducible refine Below.drew ?_) | ((with_reducible refine Below.setC ?_ ?_); (focus (first | omega | (simp; done) | (simp; omega)))) | ((with_reducible refine Below.allo ?_ ?_); (focus (first | omega | (simp; done) | (simp; omega)))))
      have rX : Row X (w.heap.size + 2) 26 #[.int .i64 0, .int .i64 0, .int .i64 0] := by
        rw [HX.out]
        refine Row.of ?_
        repeat (first | (with_reducible refine RowG.base rB ?_) | (with_reducible refine RowG.drew ?_) | (with_reducible refine RowG.set ?_) | ((with_reducible refine RowG.other ?_ ?_); (focus (first | omega | (simp; done) | (simp; omega)))) | (with_reducible refine RowG.alloc ?_))
        rfl
      first | (refine have_it (Row X N2.heap.size 26 (ptA gp)) ?_ fun tX => ?_; (focus (rw [HX.out]; refine Row.of ?_; (repeat (first | (with_reducible refine RowG.base nB ?_) | (with_reducible refine RowG.drew ?_) | (with_reducible refine RowG.set ?_) | (with_reducible refine RowG.new ?_) | ((with_reducible refine RowG.other ?_ ?_); (focus (first | omega | (simp; done) | (simp; omega)))) | (with_reducible refine RowG.alloc ?_))); rfl; done))) | (refine have_it (Row X N1.heap.size 26 (ptA gp)) ?_ fun tX => ?_; (focus (rw [HX.out]; refine Row.of ?_; (repeat (first | (with_reducible refine RowG.base nB ?_) | (with_reducible refine RowG.drew ?_) | (with_reducible refine RowG.set ?_) | (with_reducible refine RowG.new ?_) | ((with_reducible refine RowG.other ?_ ?_); (focus (first | omega | (simp; done) | (simp; omega)))) | (with_reducible refine RowG.alloc ?_))); rfl; done))) | (refine have_it (Row X W1.heap.size 26 (ptA gp)) ?_ fun tX => ?_; (focus (rw [HX.out]; refine Row.of ?_; (repeat (first | (with_reducible refine RowG.base nB ?_) | (with_reducible refine RowG.drew ?_) | (with_reducible refine RowG.set ?_) | (with_reducible refine RowG.new ?_) | ((with_reducible refine RowG.other ?_ ?_); (focus (first | omega | (simp; done) | (simp; omega)))) | (with_reducible refine RowG.alloc ?_))); rfl; done)))
      obtain ⟨t0, t1, t2⟩ := tX.three
      obtain ⟨r0, r1, r2⟩ := rX.three
      have rf := fun i => rX.frozen i
      clear hb1 hcc hff
      go_wp2
      refine pnt_end rfl _ _ _ (b1 := w.heap.size + 2) rfl rfl rfl ?_ ?_
      · refine Row.of ?_
        repeat (first | (with_reducible refine RowG.base rX ?_) | (with_reducible refine RowG.drew ?_) | (with_reducible refine RowG.set ?_) | ((with_reducible refine RowG.other ?_ ?_); (focus (first | omega | (simp; done) | (simp; omega)))) | (with_reducible refine RowG.alloc ?_))
        rfl
      · repeat (first | (with_reducible exact hBX) | (with_reducible refine Below.drew ?_) | ((with_reducible refine Below.setC ?_ ?_); (focus (first | omega | (simp; done) | (simp; omega)))) | ((with_reducible refine Below.allo ?_ ?_); (focus (first | omega | (simp; done) | (simp; omega)))))

set_option maxRecDepth 100000 in
set_option maxHeartbeats 2000000 in
theorem rGreatest_c (n : Int) (s : Option Addr) (cap : Nat) (l : List Iq) (f : Pt) (w : World) (h : Dom w s l) :
    Calls Try.prog 30 #[.agg #[.int .i64 n, .slice s l.length cap], .agg #[.int .i64 f.x, .int .i64 f.y, .int .i64 f.z]] w (PntRet (greatP n l f) (greatN n l f) (greatE n l f) w) := by
  cases h1 : validB n l
  · rw [show greatP n l f = ⟨0, 0, 0⟩ by simp [greatP, greatB, leastP, leastG, h1], show greatN n l f = 0 by simp [greatN, greatB, leastN, leastG, h1]; unfold wrap64; rfl, show greatE n l f = 10 by simp [greatE, greatB, leastE, h1]]
    go_enter Try.func30, Try.ntmps30
    go_upto_region 1 with (fail)
    refine wp_world fun W HW => ?_
    have hB : Below w.heap.size w W := by rw [HW.out]; (repeat (first | exact Below.refl _ _ | refine Below.alloc ?_ (by simp; try omega) _ | refine Below.setCell ?_ (by simp) _ | refine Below.drew ?_))
    have d0 : W.cell? ⟨w.heap.size, 0, none⟩ = some (.int .i64 n) := by rw [HW.out]; simp [go_sem]
    have d1 : W.cell? ⟨w.heap.size, 1, none⟩ = some (.slice s l.length cap) := by rw [HW.out]; simp [go_sem]
    have dl : w.heap.size < W.heap.size := World.block_lt_of_cell? W _ d0
    have f0 : W.cell? ⟨w.heap.size + 1, 0, none⟩ = some (.int .i64 f.x) := by rw [HW.out]; simp [go_sem]
    have f1 : W.cell? ⟨w.heap.size + 1, 1, none⟩ = some (.int .i64 f.y) := by rw [HW.out]; simp [go_sem]
    have f2 : W.cell? ⟨w.heap.size + 1, 2, none⟩ = some (.int .i64 f.z) := by rw [HW.out]; simp [go_sem]
    have fl : w.heap.size + 1 < W.heap.size := World.block_lt_of_cell? W _ f0
    have rB : Row W (w.heap.size + 2) 26 #[.int .i64 0, .int .i64 0, .int .i64 0] := (by rw [HW.out]; (repeat (first | (refine blk_new ?_; simp; done) | refine blk_old ?_ _)) : W.heap[w.heap.size + 2]? = some (.cells #[.int .i64 0, .int .i64 0, .int .i64 0] 26 (0, 0)))
    have r0 : W.cell? ⟨w.heap.size + 2, 0, none⟩ = some (.int .i64 0) := by rw [HW.out]; simp [go_sem]
    have r1 : W.cell? ⟨w.heap.size + 2, 1, none⟩ = some (.int .i64 0) := by rw [HW.out]; simp [go_sem]
    have r2 : W.cell? ⟨w.heap.size + 2, 2, none⟩ = some (.int .i64 0) := by rw [HW.out]; simp [go_sem]
    have rl : w.heap.size + 2 < W.heap.size := World.block_lt_of_cell? W _ r0
    try replace h := up_of hB h
    go_upto_region 2 with (first | (go_at_call 18; refine (rValid_t _ _ _ _ _ h).mono ?_; rintro e W1 ⟨rfl, hb⟩; (try replace h := up_of hb h); (try replace hB := up_of hb hB); (try replace d0 := up_of hb d0); (try replace d1 := up_of hb d1); (try replace dl := up_of hb dl); (try replace f0 := up_of hb f0); (try replace f1 := up_of hb f1); (try replace f2 := up_of hb f2); (try replace fl := up_of hb fl); (try replace rB := up_of hb rB); (try replace r0 := up_of hb r0); (try replace r1 := up_of hb r1); (try replace r2 := up_of hb r2); (try replace rl := up_of hb rl)))
    have rf := fun i => Row.frozen rB i
    go_wp2
    refine pnt_end rfl ⟨0, 0, 0⟩ 0 10 (b1 := w.heap.size + 2) rfl rfl rfl ?_ ?_
    · refine Row.of ?_
      repeat (first | (with_reducible refine RowG.base rB ?_) | (with_reducible refine RowG.drew ?_) | (with_reducible refine RowG.set ?_) | ((with_reducible refine RowG.other ?_ ?_); (focus (first | omega | (simp; done) | (simp; omega)))) | (with_reducible refine RowG.alloc ?_))
      rfl
    · repeat (first | (with_reducible exact hB) | (with_reducible refine Below.drew ?_) | ((with_reducible refine Below.setC ?_ ?_); (focus (first | omega | (simp; done) | (simp; omega)))) | ((with_reducible refine Below.allo ?_ ?_); (focus (first | omega | (simp; done) | (simp; omega)))))
  cases h2 : flatB f n 100
  · rw [show greatP n l f = ⟨0, 0, 0⟩ by simp [greatP, greatB, h1, h2], show greatN n l f = 0 by simp [greatN, greatB, h1, h2], show greatE n l f = 2 by simp [greatE, greatB, h1, h2]]
    go_enter Try.func30, Try.ntmps30
    go_upto_region 1 with (fail)
    refine wp_world fun W HW => ?_
    have hB : Below w.heap.size w W := by rw [HW.out]; (repeat (first | exact Below.refl _ _ | refine Below.alloc ?_ (by simp; try omega) _ | refine Below.setCell ?_ (by simp) _ | refine Below.drew ?_))
    have d0 : W.cell? ⟨w.heap.size, 0, none⟩ = some (.int .i64 n) := by rw [HW.out]; simp [go_sem]
    have d1 : W.cell? ⟨w.heap.size, 1, none⟩ = some (.slice s l.length cap) := by rw [HW.out]; simp [go_sem]
    have dl : w.heap.size < W.heap.size := World.block_lt_of_cell? W _ d0
    have f0 : W.cell? ⟨w.heap.size + 1, 0, none⟩ = some (.int .i64 f.x) := by rw [HW.out]; simp [go_sem]
    have f1 : W.cell? ⟨w.heap.size + 1, 1, none⟩ = some (.int .i64 f.y) := by rw [HW.out]; simp [go_sem]
    have f2 : W.cell? ⟨w.heap.size + 1, 2, none⟩ = some (.int .i64 f.z) := by rw [HW.out]; simp [go_sem]
    have fl : w.heap.size + 1 < W.heap.size := World.block_lt_of_cell? W _ f0
    have rB : Row W (w.heap.size + 2) 26 #[.int .i64 0, .int .i64 0, .int .i64 0] := (by rw [HW.out]; (repeat (first | (refine blk_new ?_; simp; done) | refine blk_old ?_ _)) : W.heap[w.heap.size + 2]? = some (.cells #[.int .i64 0, .int .i64 0, .int .i64 0] 26 (0, 0)))
    have r0 : W.cell? ⟨w.heap.size + 2, 0, none⟩ = some (.int .i64 0) := by rw [HW.out]; simp [go_sem]
    have r1 : W.cell? ⟨w.heap.size + 2, 1, none⟩ = some (.int .i64 0) := by rw [HW.out]; simp [go_sem]
    have r2 : W.cell? ⟨w.heap.size + 2, 2, none⟩ = some (.int .i64 0) := by rw [HW.out]; simp [go_sem]
    have rl : w.heap.size + 2 < W.heap.size := World.block_lt_of_cell? W _ r0
    try replace h := up_of hB h
    go_upto_region 4 with (first | (go_at_call 18; refine (rValid_t _ _ _ _ _ h).mono ?_; rintro e W1 ⟨rfl, hb⟩; (try replace h := up_of hb h); (try replace hB := up_of hb hB); (try replace d0 := up_of hb d0); (try replace d1 := up_of hb d1); (try replace dl := up_of hb dl); (try replace f0 := up_of hb f0); (try replace f1 := up_of hb f1); (try replace f2 := up_of hb f2); (try replace fl := up_of hb fl); (try replace rB := up_of hb rB); (try replace r0 := up_of hb r0); (try replace r1 := up_of hb r1); (try replace r2 := up_of hb r2); (try replace rl := up_of hb rl)) | (go_at_call 52; refine (flat_c _ _ _ _ (by omega) (by omega)).mono ?_; rintro e W1 ⟨rfl, hb⟩; (try replace h := up_of hb h); (try replace hB := up_of hb hB); (try replace d0 := up_of hb d0); (try replace d1 := up_of hb d1); (try replace dl := up_of hb dl); (try replace f0 := up_of hb f0); (try replace f1 := up_of hb f1); (try replace f2 := up_of hb f2); (try replace fl := up_of hb fl); (try replace rB := up_of hb rB); (try replace r0 := up_of hb r0); (try replace r1 := up_of hb r1); (try replace r2 := up_of hb r2); (try replace rl := up_of hb rl)))
    have rf := fun i => Row.frozen rB i
    go_wp2
    refine pnt_end rfl ⟨0, 0, 0⟩ 0 2 (b1 := w.heap.size + 2) rfl rfl rfl ?_ ?_
    · refine Row.of ?_
      repeat (first | (with_reducible refine RowG.base rB ?_) | (with_reducible refine RowG.drew ?_) | (with_reducible refine RowG.set ?_) | ((with_reducible refine RowG.other ?_ ?_); (focus (first | omega | (simp; done) | (simp; omega)))) | (with_reducible refine RowG.alloc ?_))
      rfl
    · repeat (first | (with_reducible exact hB) | (with_reducible refine Below.drew ?_) | ((with_reducible refine Below.setC ?_ ?_); (focus (first | omega | (simp; done) | (simp; omega)))) | ((with_reducible refine Below.allo ?_ ?_); (focus (first | omega | (simp; done) | (simp; omega)))))
  rw [show greatP n l f = leastP n l (negP f) by simp [greatP, greatB, h1, h2], show greatN n l f = wrap64 (-leastN n l (negP f)) by simp [greatN, greatB, h1, h2], show greatE n l f = leastE n l (negP f) by simp [greatE, greatB, h1, h2]]
  obtain ⟨gp, e1⟩ : ∃ x, leastP n l (negP f) = x := ⟨_, rfl⟩
  obtain ⟨gv, e2⟩ : ∃ x, leastN n l (negP f) = x := ⟨_, rfl⟩
  obtain ⟨ge, e3⟩ : ∃ x, leastE n l (negP f) = x := ⟨_, rfl⟩
  obtain ⟨nf, e4⟩ : ∃ x, negP f = x := ⟨_, rfl⟩
  rw [e1, e2, e3]
  rw [e4] at e1 e2 e3
  replace e1 := Lib.hid e1; replace e2 := Lib.hid e2; replace e3 := Lib.hid e3; replace e4 := Lib.hid e4
  go_enter Try.func30, Try.ntmps30
  go_upto_region 1 with (fail)
  refine wp_world fun W HW => ?_
  have hB : Below w.heap.size w W := by rw [HW.out]; (repeat (first | exact Below.refl _ _ | refine Below.alloc ?_ (by simp; try omega) _ | refine Below.setCell ?_ (by simp) _ | refine Below.drew ?_))
  have d0 : W.cell? ⟨w.heap.size, 0, none⟩ = some (.int .i64 n) := by rw [HW.out]; simp [go_sem]
  have d1 : W.cell? ⟨w.heap.size, 1, none⟩ = some (.slice s l.length cap) := by rw [HW.out]; simp [go_sem]
  have dl : w.heap.size < W.heap.size := World.block_lt_of_cell? W _ d0
  have f0 : W.cell? ⟨w.heap.size + 1, 0, none⟩ = some (.int .i64 f.x) := by rw [HW.out]; simp [go_sem]
  have f1 : W.cell? ⟨w.heap.size + 1, 1, none⟩ = some (.int .i64 f.y) := by rw [HW.out]; simp [go_sem]
  have f2 : W.cell? ⟨w.heap.size + 1, 2, none⟩ = some (.int .i64 f.z) := by rw [HW.out]; simp [go_sem]
  have fl : w.heap.size + 1 < W.heap.size := World.block_lt_of_cell? W _ f0
  have rB : Row W (w.heap.size + 2) 26 #[.int .i64 0, .int .i64 0, .int .i64 0] := (by rw [HW.out]; (repeat (first | (refine blk_new ?_; simp; done) | refine blk_old ?_ _)) : W.heap[w.heap.size + 2]? = some (.cells #[.int .i64 0, .int .i64 0, .int .i64 0] 26 (0, 0)))
  have r0 : W.cell? ⟨w.heap.size + 2, 0, none⟩ = some (.int .i64 0) := by rw [HW.out]; simp [go_sem]
  have r1 : W.cell? ⟨w.heap.size + 2, 1, none⟩ = some (.int .i64 0) := by rw [HW.out]; simp [go_sem]
  have r2 : W.cell? ⟨w.heap.size + 2, 2, none⟩ = some (.int .i64 0) := by rw [HW.out]; simp [go_sem]
  have rl : w.heap.size + 2 < W.heap.size := World.block_lt_of_cell? W _ r0
  try replace h := up_of hB h
  go_upto_region 5 with (first | (go_at_call 18; refine (rValid_t _ _ _ _ _ h).mono ?_; rintro e W1 ⟨rfl, hb⟩; (try replace h := up_of hb h); (try replace hB := up_of hb hB); (try replace d0 := up_of hb d0); (try replace d1 := up_of hb d1); (try replace dl := up_of hb dl); (try replace f0 := up_of hb f0); (try replace f1 := up_of hb f1); (try replace f2 := up_of hb f2); (try replace fl := up_of hb fl); (try replace rB := up_of hb rB); (try replace r0 := up_of hb r0); (try replace r1 := up_of hb r1); (try replace r2 := up_of hb r2); (try replace rl := up_of hb rl)) | (go_at_call 52; refine (flat_c _ _ _ _ (by omega) (by omega)).mono ?_; rintro e W1 ⟨rfl, hb⟩; (try replace h := up_of hb h); (try replace hB := up_of hb hB); (try replace d0 := up_of hb d0); (try replace d1 := up_of hb d1); (try replace dl := up_of hb dl); (try replace f0 := up_of hb f0); (try replace f1 := up_of hb f1); (try replace f2 := up_of hb f2); (try replace fl := up_of hb fl); (try replace rB := up_of hb rB); (try replace r0 := up_of hb r0); (try replace r1 := up_of hb r1); (try replace r2 := up_of hb r2); (try replace rl := up_of hb rl)))
  have rf := fun i => Row.frozen rB i
  go_region_held3 (fun V => V.cell? ⟨w.heap.size, 0, none⟩ = some (.int .i64 n) ∧ V.cell? ⟨w.heap.size, 1, none⟩ = some (.slice s l.length cap) ∧ V.cell? ⟨w.heap.size + 1, 0, none⟩ = some (.int .i64 f.x) ∧ V.cell? ⟨w.heap.size + 1, 1, none⟩ = some (.int .i64 f.y) ∧ V.cell? ⟨w.heap.size + 1, 2, none⟩ = some (.int .i64 f.z)) ((first | (with_reducible exact ⟨d0, d1, f0, f1, f2⟩) | ((try dsimp only); (repeat' apply And.intro) <;> (repeat (first | (with_reducible assumption) | (with_reducible refine cell_set (by simp; try omega) ?_) | (with_reducible refine cell_drew ?_) | (with_reducible refine cell_alloc ?_ _)))))) ((first | (go_at_call 58; refine calls_below (W0 := W1) ?_ fun hpre => ?_; (repeat (first | exact Below.refl _ _ | refine Below.alloc ?_ (by simp; try omega) _ | refine Below.drew ?_)); refine (e4.out ▸ minus_c f _).mono ?_; rintro e N1 ⟨rfl, hb1⟩; have hcc := cellB hb1; have hff := frozB hb1; have hb := Up.trans hpre hb1; clear hpre; (first | have hs_N1 := below_alloc_lt hb1 | have hs_N1 := below_alloc_lt (drewB hb1) | skip); have dl_N1 := dl; have fl_N1 := fl; have rl_N1 := rl; (try replace h := up_of hb h); (try replace hB := up_of hb hB); (try replace d0 := up_of hb d0); (try replace d1 := up_of hb d1); (try replace dl := up_of hb dl); (try replace f0 := up_of hb f0); (try replace f1 := up_of hb f1); (try replace f2 := up_of hb f2); (try replace fl := up_of hb fl); (try replace rB := up_of hb rB); (try replace r0 := up_of hb r0); (try replace r1 := up_of hb r1); (try replace r2 := up_of hb r2); (try replace rl := up_of hb rl); (first | have nB := new_up hb1 | have nB := new_up (drewB hb1) | (try replace nB := up_of hb nB))) | (go_at_call 28; refine calls_below (W0 := N1) ?_ fun hpre => ?_; (repeat (first | exact Below.refl _ _ | refine Below.alloc ?_ (by simp; try omega) _ | refine Below.drew ?_)); refine (PntRet.calls (rLeast_c n s cap l nf _ (up_of hpre h)) e1.out e2.out e3.out).mono ?_; rintro e N2 ⟨rfl, hb1⟩; have hcc := cellB hb1; have hff := frozB hb1; have hb := Up.trans hpre hb1; clear hpre; (first | have hs_N2 := below_alloc_lt hb1 | have hs_N2 := below_alloc_lt (drewB hb1) | skip); have dl_N2 := dl; have fl_N2 := fl; have rl_N2 := rl; (try replace h := up_of hb h); (try replace hB := up_of hb hB); (try replace d0 := up_of hb d0); (try replace d1 := up_of hb d1); (try replace dl := up_of hb dl); (try replace f0 := up_of hb f0); (try replace f1 := up_of hb f1); (try replace f2 := up_of hb f2); (try replace fl := up_of hb fl); (try replace rB := up_of hb rB); (try replace r0 := up_of hb r0); (try replace r1 := up_of hb r1); (try replace r2 := up_of hb r2); (try replace rl := up_of hb rl); (first | have nB := new_up hb1 | have nB := new_up (drewB hb1) | (try replace nB := up_of hb nB)))))
  all_goals
    refine exit_world fun X HX => ?_
    have hBX : Below w.heap.size w X := by
      rw [HX.out]
      repeat (first | (with_reducible exact hB) | (with_reducible refine Below.drew ?_) | ((with_reducible refine Below.setC ?_ ?_); (focus (first | omega | (simp; done) | (simp; omega)))) | ((with_reducible refine Below.allo ?_ ?_); (focus (first | omega | (simp; done) | (simp; omega)))))
    have rX : Row X (w.heap.size + 2) 26 #[.int .i64 0, .int .i64 0, .int .i64 0] := by
      rw [HX.out]
      refine Row.of ?_
      repeat (first | (with_reducible refine RowG.base rB ?_) | (with_reducible refine RowG.drew ?_) | (with_reducible refine RowG.set ?_) | ((with_reducible refine RowG.other ?_ ?_); (focus (first | omega | (simp; done) | (simp; omega)))) | (with_reducible refine RowG.alloc ?_))
      rfl
    first | (refine have_it (Row X N2.heap.size 26 (ptA gp)) ?_ fun tX => ?_; (focus (rw [HX.out]; refine Row.of ?_; (repeat (first | (with_reducible refine RowG.base nB ?_) | (with_reducible refine RowG.drew ?_) | (with_reducible refine RowG.set ?_) | (with_reducible refine RowG.new ?_) | ((with_reducible refine RowG.other ?_ ?_); (focus (first | omega | (simp; done) | (simp; omega)))) | (with_reducible refine RowG.alloc ?_))); rfl; done))) | (refine have_it (Row X N1.heap.size 26 (ptA gp)) ?_ fun tX => ?_; (focus (rw [HX.out]; refine Row.of ?_; (repeat (first | (with_reducible refine RowG.base nB ?_) | (with_reducible refine RowG.drew ?_) | (with_reducible refine RowG.set ?_) | (with_reducible refine RowG.new ?_) | ((with_reducible refine RowG.other ?_ ?_); (focus (first | omega | (simp; done) | (simp; omega)))) | (with_reducible refine RowG.alloc ?_))); rfl; done))) | (refine have_it (Row X W1.heap.size 26 (ptA gp)) ?_ fun tX => ?_; (focus (rw [HX.out]; refine Row.of ?_; (repeat (first | (with_reducible refine RowG.base nB ?_) | (with_reducible refine RowG.drew ?_) | (with_reducible refine RowG.set ?_) | (with_reducible refine RowG.new ?_) | ((with_reducible refine RowG.other ?_ ?_); (focus (first | omega | (simp; done) | (simp; omega)))) | (with_reducible refine RowG.alloc ?_))); rfl; done)))
    obtain ⟨t0, t1, t2⟩ := tX.three
    obtain ⟨r0, r1, r2⟩ := rX.three
    have rf := fun i => rX.frozen i
    clear hb1 hcc hff
    go_wp2
    refine pnt_end rfl _ _ _ (b1 := w.heap.size + 2) rfl rfl rfl ?_ ?_
    · refine Row.of ?_
      repeat (first | (with_reducible refine RowG.base rX ?_) | (with_reducible refine RowG.drew ?_) | (with_reducible refine RowG.set ?_) | ((with_reducible refine RowG.other ?_ ?_); (focus (first | omega | (simp; done) | (simp; omega)))) | (with_reducible refine RowG.alloc ?_))
      rfl
    · repeat (first | (with_reducible exact hBX) | (with_reducible refine Below.drew ?_) | ((with_reducible refine Below.setC ?_ ?_); (focus (first | omega | (simp; done) | (simp; omega)))) | ((with_reducible refine Below.allo ?_ ?_); (focus (first | omega | (simp; done) | (simp; omega)))))
end Go.Proofs.Ytfebkccdcbkdiaa
