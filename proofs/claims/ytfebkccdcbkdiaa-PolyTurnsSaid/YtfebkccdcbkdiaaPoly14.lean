/- The reference's Box. -/
import Derived.Test.YtfebkccdcbkdiaaPoly13
namespace Go.Proofs.Ytfebkccdcbkdiaa
open Go.RowKit

theorem box_endR (n : Int) (l : List Iq) {tmps : Array Value} {w X : World} {b1 b2 : Nat} (lo hi : Pt) (er : Int) (e1 : boxLo n l = lo) (e2 : boxHi n l = hi) (e3 : boxE n l = er)
    (h2 : tmps.getD 2 undef = .pointer (some ⟨b1, 0, none⟩)) (h3 : tmps.getD 3 undef = .pointer (some ⟨b2, 0, none⟩)) (h4 : tmps.getD 4 undef = .int .i64 er)
    (rl : Row X b1 26 (ptA lo)) (rh : Row X b2 26 (ptA hi)) (hB : Below w.heap.size w X) :
    bodyPost Try.prog Try.f26 (BoxRet n l w) .ret { tmps := tmps, defers := [] } X := by
  subst e1; subst e2; subst e3
  exact bodyPost_ret (results_ccs rfl h2 h3 h4 (load_P _ rl.three.1 rl.three.2.1 rl.three.2.2) (load_P _ rh.three.1 rh.three.2.1 rh.three.2.2)) rfl ⟨rfl, hB⟩

theorem owns_above {w : World} {base e size n cap m k : Nat} {s : Option Addr} {xs : List Value} (h : w.ownsRow base e size (.slice s n cap) m xs) (hk : k < base) : ∀ b o, s = some ⟨b, o, none⟩ → k < b := by
  intro b o hs
  subst hs
  rcases h.2 with ⟨h0, _⟩ | ⟨g, c, cur, h0, hb, _⟩
  · simp at h0
  · simp at h0; omega
theorem exit_world {K : Act → World → Prop} {Q : Exit → Act → World → Prop} {e : Exit} {a : Act} {w : World} (h : ∀ W, Hid (W = w) → Exit.then K Q e a W) : Exit.then K Q e a w := h w rfl
theorem Chg.drew {p : Nat → Prop} {A W : World} (h : Chg p A W) : Chg p A W.drew := ⟨h.os, h.tape, h.output, h.size, h.block, ⟨h.size, h.others.same⟩⟩
theorem Chg.alloc {p : Nat → Prop} {A W : World} (h : Chg p A W) (o : Obj) : Chg p A (W.alloc o) := h.trans (Chg.of_below ((Below.refl _ _).alloc (Nat.le_refl _) o))
theorem Chg.pt {p : Nat → Prop} {W W' : World} (h : Chg p W W') {s : Option Addr} {l : List Pt} (hp : ∀ b o, s = some ⟨b, o, none⟩ → ¬ p b) (c : PtS W s l) : PtS W' s l := by
  rcases c with c | ⟨b, off, rfl, hb, c⟩
  · exact .inl c
  · exact .inr ⟨b, off, rfl, Nat.lt_of_lt_of_le hb h.size, fun i hi => ⟨h.cell (hp _ _ rfl) (c i hi).1, h.cell (hp _ _ rfl) (c i hi).2.1, h.cell (hp _ _ rfl) (c i hi).2.2⟩⟩
/-- The least (greatest) coordinates of the first k points, of the first one if k is 0. -/
def lowM (L : List Pt) (k : Nat) : Pt := lowL (L.take (max k 1))
def highM (L : List Pt) (k : Nat) : Pt := highL (L.take (max k 1))
theorem take_one (L : List Pt) (h : 0 < L.length) : L.take 1 = [L[0]] := by
  cases L with
  | nil => cases h
  | cons a l => rfl
theorem lowM_zero (L : List Pt) (h : 0 < L.length) : lowM L 0 = L[0] := by
  unfold lowM; rw [show max 0 1 = 1 from rfl, take_one L h]; rfl
theorem highM_zero (L : List Pt) (h : 0 < L.length) : highM L 0 = L[0] := by
  unfold highM; rw [show max 0 1 = 1 from rfl, take_one L h]; rfl
theorem lowM_succ (L : List Pt) (k : Nat) (hk : k < L.length) : lowM L (k + 1) = mnP (lowM L k) L[k] := by
  rcases Nat.eq_zero_or_pos k with rfl | hp
  · rw [lowM_zero L hk]; unfold lowM; rw [show max (0 + 1) 1 = 1 from rfl, take_one L hk]; simp [lowL, mnP]
  · unfold lowM
    rw [Nat.max_eq_left (by omega : 1 ≤ k + 1), Nat.max_eq_left hp, List.take_succ_eq_append_getElem hk, lowL_snoc, if_pos]
    unfold someL; simp; constructor
    · omega
    · intro h; subst h; cases hk
theorem highM_succ (L : List Pt) (k : Nat) (hk : k < L.length) : highM L (k + 1) = mxP (highM L k) L[k] := by
  rcases Nat.eq_zero_or_pos k with rfl | hp
  · rw [highM_zero L hk]; unfold highM; rw [show max (0 + 1) 1 = 1 from rfl, take_one L hk]; simp [highL, mxP]
  · unfold highM
    rw [Nat.max_eq_left (by omega : 1 ≤ k + 1), Nat.max_eq_left hp, List.take_succ_eq_append_getElem hk, highL_snoc, if_pos]
    unfold someL; simp; constructor
    · omega
    · intro h; subst h; cases hk
theorem lowM_all (L : List Pt) (h : 0 < L.length) : lowM L L.length = lowL L := by
  unfold lowM; rw [Nat.max_eq_left h, List.take_of_length_le (Nat.le_refl _)]
theorem highM_all (L : List Pt) (h : 0 < L.length) : highM L L.length = highL L := by
  unfold highM; rw [Nat.max_eq_left h, List.take_of_length_le (Nat.le_refl _)]

set_option maxRecDepth 100000 in
set_option maxHeartbeats 2000000 in
theorem rBox_c (n : Int) (s : Option Addr) (cap : Nat) (l : List Iq) (w : World) (h : Dom w s l) :
    Calls Try.prog 26 #[.agg #[.int .i64 n, .slice s l.length cap]] w (BoxRet n l w) := by
  have hlen := pts_len n l
  cases h1 : validB n l
  · go_enter Try.func26, Try.ntmps26
    go_upto_region 1 with (fail)
    refine wp_world fun W HW => ?_
    have hB : Below w.heap.size w W := by rw [HW.out]; (repeat (first | exact Below.refl _ _ | refine Below.alloc ?_ (by simp; try omega) _ | refine Below.setCell ?_ (by simp) _ | refine Below.drew ?_))
    have d0 : W.cell? ⟨w.heap.size, 0, none⟩ = some (.int .i64 n) := by rw [HW.out]; simp [go_sem]
    have d1 : W.cell? ⟨w.heap.size, 1, none⟩ = some (.slice s l.length cap) := by rw [HW.out]; simp [go_sem]
    have dl : w.heap.size < W.heap.size := World.block_lt_of_cell? W _ d0
    have xB : Row W (w.heap.size + 1) 26 #[.int .i64 0, .int .i64 0, .int .i64 0] := (by rw [HW.out]; (repeat (first | (refine blk_new ?_; simp; done) | refine blk_old ?_ _)) : W.heap[w.heap.size + 1]? = some (.cells #[.int .i64 0, .int .i64 0, .int .i64 0] 26 (0, 0)))
    have x0 : W.cell? ⟨w.heap.size + 1, 0, none⟩ = some (.int .i64 0) := by rw [HW.out]; simp [go_sem]
    have x1 : W.cell? ⟨w.heap.size + 1, 1, none⟩ = some (.int .i64 0) := by rw [HW.out]; simp [go_sem]
    have x2 : W.cell? ⟨w.heap.size + 1, 2, none⟩ = some (.int .i64 0) := by rw [HW.out]; simp [go_sem]
    have xl : w.heap.size + 1 < W.heap.size := World.block_lt_of_cell? W _ x0
    have yB : Row W (w.heap.size + 2) 26 #[.int .i64 0, .int .i64 0, .int .i64 0] := (by rw [HW.out]; (repeat (first | (refine blk_new ?_; simp; done) | refine blk_old ?_ _)) : W.heap[w.heap.size + 2]? = some (.cells #[.int .i64 0, .int .i64 0, .int .i64 0] 26 (0, 0)))
    have y0 : W.cell? ⟨w.heap.size + 2, 0, none⟩ = some (.int .i64 0) := by rw [HW.out]; simp [go_sem]
    have y1 : W.cell? ⟨w.heap.size + 2, 1, none⟩ = some (.int .i64 0) := by rw [HW.out]; simp [go_sem]
    have y2 : W.cell? ⟨w.heap.size + 2, 2, none⟩ = some (.int .i64 0) := by rw [HW.out]; simp [go_sem]
    have yl : w.heap.size + 2 < W.heap.size := World.block_lt_of_cell? W _ y0
    try replace h := up_of hB h
    go_upto_region 2 with (first | (go_at_call 18; refine (rValid_t _ _ _ _ _ h).mono ?_; rintro e W1 ⟨rfl, hb⟩; (try replace h := up_of hb h); (try replace hB := up_of hb hB); (try replace d0 := up_of hb d0); (try replace d1 := up_of hb d1); (try replace dl := up_of hb dl); (try replace xB := up_of hb xB); (try replace x0 := up_of hb x0); (try replace x1 := up_of hb x1); (try replace x2 := up_of hb x2); (try replace xl := up_of hb xl); (try replace yB := up_of hb yB); (try replace y0 := up_of hb y0); (try replace y1 := up_of hb y1); (try replace y2 := up_of hb y2); (try replace yl := up_of hb yl)))
    have xf := fun i => Row.frozen xB i
    have yf := fun i => Row.frozen yB i
    go_wp2
    refine box_endR n l (b1 := w.heap.size + 1) (b2 := w.heap.size + 2) ⟨0, 0, 0⟩ ⟨0, 0, 0⟩ 10 (by simp [boxLo, h1]) (by simp [boxHi, h1]) (by simp [boxE, h1]) rfl rfl rfl ?_ ?_ ?_
    · refine Row.of ?_
      repeat (first | (with_reducible refine RowG.base xB ?_) | (with_reducible refine RowG.drew ?_) | (with_reducible refine RowG.set ?_) | ((with_reducible refine RowG.other ?_ ?_); (focus (first | omega | (simp; done) | (simp; omega)))) | (with_reducible refine RowG.alloc ?_))
      rfl
    · refine Row.of ?_
      repeat (first | (with_reducible refine RowG.base yB ?_) | (with_reducible refine RowG.drew ?_) | (with_reducible refine RowG.set ?_) | ((with_reducible refine RowG.other ?_ ?_); (focus (first | omega | (simp; done) | (simp; omega)))) | (with_reducible refine RowG.alloc ?_))
      rfl
    · repeat (first | (with_reducible exact hB) | (with_reducible refine Below.drew ?_) | ((with_reducible refine Below.setC ?_ ?_); (focus (first | omega | (simp; done) | (simp; omega)))) | ((with_reducible refine Below.allo ?_ ?_); (focus (first | omega | (simp; done) | (simp; omega)))))
  · have hn := validB_n h1
    obtain ⟨L, hL, e1, e2, e3⟩ : ∃ L, pts n l = L ∧ Hid (boxLo n l = lowL L) ∧ Hid (boxHi n l = highL L) ∧ Hid (boxE n l = if someL L then 0 else 5) :=
      ⟨pts n l, rfl, Lib.hid (by simp [boxLo, h1]), Lib.hid (by simp [boxHi, h1]), Lib.hid (by simp [boxE, h1])⟩
    rw [hL] at hlen
    replace hL := Lib.hid hL
    go_enter Try.func26, Try.ntmps26
    go_upto_region 1 with (fail)
    refine wp_world fun W HW => ?_
    have hB : Below w.heap.size w W := by rw [HW.out]; (repeat (first | exact Below.refl _ _ | refine Below.alloc ?_ (by simp; try omega) _ | refine Below.setCell ?_ (by simp) _ | refine Below.drew ?_))
    have d0 : W.cell? ⟨w.heap.size, 0, none⟩ = some (.int .i64 n) := by rw [HW.out]; simp [go_sem]
    have d1 : W.cell? ⟨w.heap.size, 1, none⟩ = some (.slice s l.length cap) := by rw [HW.out]; simp [go_sem]
    have dl : w.heap.size < W.heap.size := World.block_lt_of_cell? W _ d0
    have xB : Row W (w.heap.size + 1) 26 #[.int .i64 0, .int .i64 0, .int .i64 0] := (by rw [HW.out]; (repeat (first | (refine blk_new ?_; simp; done) | refine blk_old ?_ _)) : W.heap[w.heap.size + 1]? = some (.cells #[.int .i64 0, .int .i64 0, .int .i64 0] 26 (0, 0)))
    have x0 : W.cell? ⟨w.heap.size + 1, 0, none⟩ = some (.int .i64 0) := by rw [HW.out]; simp [go_sem]
    have x1 : W.cell? ⟨w.heap.size + 1, 1, none⟩ = some (.int .i64 0) := by rw [HW.out]; simp [go_sem]
    have x2 : W.cell? ⟨w.heap.size + 1, 2, none⟩ = some (.int .i64 0) := by rw [HW.out]; simp [go_sem]
    have xl : w.heap.size + 1 < W.heap.size := World.block_lt_of_cell? W _ x0
    have yB : Row W (w.heap.size + 2) 26 #[.int .i64 0, .int .i64 0, .int .i64 0] := (by rw [HW.out]; (repeat (first | (refine blk_new ?_; simp; done) | refine blk_old ?_ _)) : W.heap[w.heap.size + 2]? = some (.cells #[.int .i64 0, .int .i64 0, .int .i64 0] 26 (0, 0)))
    have y0 : W.cell? ⟨w.heap.size + 2, 0, none⟩ = some (.int .i64 0) := by rw [HW.out]; simp [go_sem]
    have y1 : W.cell? ⟨w.heap.size + 2, 1, none⟩ = some (.int .i64 0) := by rw [HW.out]; simp [go_sem]
    have y2 : W.cell? ⟨w.heap.size + 2, 2, none⟩ = some (.int .i64 0) := by rw [HW.out]; simp [go_sem]
    have yl : w.heap.size + 2 < W.heap.size := World.block_lt_of_cell? W _ y0
    try replace h := up_of hB h
    go_upto_region 4 with (first | (go_at_call 55; refine (All_c _ _ _ _ _ hn h.iq h.len h.wf).mono ?_; rw [hL.out]; rintro e W1 ⟨s1, c1, rfl, hown, hb⟩; have hab := owns_above hown yl; (try replace h := up_of hb h); (try replace hB := up_of hb hB); (try replace d0 := up_of hb d0); (try replace d1 := up_of hb d1); (try replace dl := up_of hb dl); (try replace xB := up_of hb xB); (try replace x0 := up_of hb x0); (try replace x1 := up_of hb x1); (try replace x2 := up_of hb x2); (try replace xl := up_of hb xl); (try replace yB := up_of hb yB); (try replace y0 := up_of hb y0); (try replace y1 := up_of hb y1); (try replace y2 := up_of hb y2); (try replace yl := up_of hb yl)) | (go_at_call 18; refine (rValid_t _ _ _ _ _ h).mono ?_; rintro e W1 ⟨rfl, hb⟩; (try replace h := up_of hb h); (try replace hB := up_of hb hB); (try replace d0 := up_of hb d0); (try replace d1 := up_of hb d1); (try replace dl := up_of hb dl); (try replace xB := up_of hb xB); (try replace x0 := up_of hb x0); (try replace x1 := up_of hb x1); (try replace x2 := up_of hb x2); (try replace xl := up_of hb xl); (try replace yB := up_of hb yB); (try replace y0 := up_of hb y0); (try replace y1 := up_of hb y1); (try replace y2 := up_of hb y2); (try replace yl := up_of hb yl)))
    have hpt := owns_pt hown
    clear hown hb
    have xf := fun i => Row.frozen xB i
    have yf := fun i => Row.frozen yB i
    by_cases hz : L = []
    · subst hz
      go_wp2
      refine box_endR n l (b1 := w.heap.size + 1) (b2 := w.heap.size + 2) ⟨0, 0, 0⟩ ⟨0, 0, 0⟩ 5 e1.out e2.out e3.out rfl rfl rfl ?_ ?_ ?_
      · refine Row.of ?_
        repeat (first | (with_reducible refine RowG.base xB ?_) | (with_reducible refine RowG.drew ?_) | (with_reducible refine RowG.set ?_) | ((with_reducible refine RowG.other ?_ ?_); (focus (first | omega | (simp; done) | (simp; omega)))) | (with_reducible refine RowG.alloc ?_))
        rfl
      · refine Row.of ?_
        repeat (first | (with_reducible refine RowG.base yB ?_) | (with_reducible refine RowG.drew ?_) | (with_reducible refine RowG.set ?_) | ((with_reducible refine RowG.other ?_ ?_); (focus (first | omega | (simp; done) | (simp; omega)))) | (with_reducible refine RowG.alloc ?_))
        rfl
      · repeat (first | (with_reducible exact hB) | (with_reducible refine Below.drew ?_) | ((with_reducible refine Below.setC ?_ ?_); (focus (first | omega | (simp; done) | (simp; omega)))) | ((with_reducible refine Below.allo ?_ ?_); (focus (first | omega | (simp; done) | (simp; omega)))))
    · have hpos : 0 < L.length := List.length_pos_iff.2 hz
      have hpos' : ((L.length : Int) == 0) = false := by simp; omega
      obtain ⟨b1, o1, rfl, hb1, a0, a1, a2⟩ := hpt.at hpos
      simp only [Nat.zero_mul, Nat.add_zero] at a0 a1 a2
      have hbb := hab b1 o1 rfl
      have n1 : ¬ b1 = w.heap.size + 1 := by omega
      have n2 : ¬ b1 = w.heap.size + 2 := by omega
      go_upto_region 6 with (fail)
      go_region
      refine exit_world fun X HX => ?_
      have rl : Row X (w.heap.size + 1) 26 (ptA (lowM L 0)) := by
        rw [HX.out, lowM_zero L hpos]
        refine Row.of ?_
        repeat (first | (with_reducible refine RowG.base xB ?_) | (with_reducible refine RowG.drew ?_) | (with_reducible refine RowG.set ?_) | ((with_reducible refine RowG.other ?_ ?_); (focus (first | omega | (simp; done) | (simp; omega)))) | (with_reducible refine RowG.alloc ?_))
        rfl
      have rh : Row X (w.heap.size + 2) 26 (ptA (highM L 0)) := by
        rw [HX.out, highM_zero L hpos]
        refine Row.of ?_
        repeat (first | (with_reducible refine RowG.base yB ?_) | (with_reducible refine RowG.drew ?_) | (with_reducible refine RowG.set ?_) | ((with_reducible refine RowG.other ?_ ?_); (focus (first | omega | (simp; done) | (simp; omega)))) | (with_reducible refine RowG.alloc ?_))
        rfl
      have hC : Chg (fun k => k = w.heap.size + 1 ∨ k = w.heap.size + 2) W1 X := by
        rw [HX.out]
        repeat (first | (with_reducible exact Chg.refl _ _) | (with_reducible refine Chg.drew ?_) | (with_reducible refine Chg.setCell ?_ (by simp) _))
      have hnb : ∀ b o, (some (⟨b1, o1, none⟩ : Addr)) = some ⟨b, o, none⟩ → ¬ (b = w.heap.size + 1 ∨ b = w.heap.size + 2) := by
        rintro b o h; cases h; omega
      replace hpt := hC.pt hnb hpt
      replace hB := hC.below (n := w.heap.size) (fun k hk => by omega) hB.size hB
      have hsz := hC.size
      clear hC a0 a1 a2 xf yf xB yB x0 x1 x2 y0 y1 y2 d0 d1 hab
      replace hnb := Lib.hid hnb
      have hXl := hB.size
      have hyl : w.heap.size + 2 < X.heap.size := by omega
      go_wp2
      go_loopw [29] (fun i wr => ∃ k : Nat, k ≤ L.length ∧ i = .int .i64 k ∧ Row wr (w.heap.size + 1) 26 (ptA (lowM L k)) ∧ Row wr (w.heap.size + 2) 26 (ptA (highM L k)) ∧ Chg (fun k => k = w.heap.size + 1 ∨ k = w.heap.size + 2) X wr) (fun i _ => L.length - (intOf i).toNat)
      case atStart => exact ⟨0, by omega, rfl, rl, rh, Chg.refl _ _⟩
      case round =>
        clear rl rh
        obtain ⟨k, hk, rfl, rl, rh, hC⟩ := hrel
        have hWs := hC.size
        by_cases hlt : k < L.length
        · have e4 := Lib.hid (lowM_succ L k hlt)
          have e5 := Lib.hid (highM_succ L k hlt)
          obtain ⟨lo, hlo⟩ : ∃ lo, lowM L k = lo := ⟨_, rfl⟩
          obtain ⟨hi, hhi⟩ : ∃ hi, highM L k = hi := ⟨_, rfl⟩
          rw [hlo] at rl e4
          rw [hhi] at rh e5
          clear hlo hhi
          obtain ⟨b2, o2, ho, hb2, p0, p1, p2⟩ := (hC.pt hnb.out hpt).at hlt
          cases ho
          have g1 : (0 : Int) ≤ (k : Int) := by omega
          have g2 : (k : Int) < (L.length : Int) := by omega
          go_upto_region 10 with (fail)
          refine wp_world fun Y HY => ?_
          have hY : Below wr.heap.size wr Y := by rw [HY.out]; exact (Below.refl _ _).alloc (Nat.le_refl _) _
          have hp : Row Y wr.heap.size 26 #[.int .i64 L[k].x, .int .i64 L[k].y, .int .i64 L[k].z] := (by rw [HY.out]; exact blk_new rfl : Y.heap[wr.heap.size]? = some (.cells #[.int .i64 L[k].x, .int .i64 L[k].y, .int .i64 L[k].z] 26 (0, 0)))
          replace rl := up_of hY rl
          replace rh := up_of hY rh
          replace hC := up_of hY hC
          have hYs := hY.size
          clear p0 p1 p2
          go_wp2
          go_loopw [33] (fun i wr => ((i = .int .i64 0 ∧ Row wr (w.heap.size + 1) 26 #[.int .i64 lo.x, .int .i64 lo.y, .int .i64 lo.z] ∧ Row wr (w.heap.size + 2) 26 #[.int .i64 hi.x, .int .i64 hi.y, .int .i64 hi.z]) ∨
              (i = .int .i64 1 ∧ Row wr (w.heap.size + 1) 26 #[.int .i64 (min lo.x L[k].x), .int .i64 lo.y, .int .i64 lo.z] ∧ Row wr (w.heap.size + 2) 26 #[.int .i64 (max hi.x L[k].x), .int .i64 hi.y, .int .i64 hi.z]) ∨
              (i = .int .i64 2 ∧ Row wr (w.heap.size + 1) 26 #[.int .i64 (min lo.x L[k].x), .int .i64 (min lo.y L[k].y), .int .i64 lo.z] ∧ Row wr (w.heap.size + 2) 26 #[.int .i64 (max hi.x L[k].x), .int .i64 (max hi.y L[k].y), .int .i64 hi.z]) ∨
              (i = .int .i64 3 ∧ Row wr (w.heap.size + 1) 26 #[.int .i64 (min lo.x L[k].x), .int .i64 (min lo.y L[k].y), .int .i64 (min lo.z L[k].z)] ∧ Row wr (w.heap.size + 2) 26 #[.int .i64 (max hi.x L[k].x), .int .i64 (max hi.y L[k].y), .int .i64 (max hi.z L[k].z)])) ∧
              Chg (fun k => k = w.heap.size + 1 ∨ k = w.heap.size + 2) Y wr) (fun i _ => 3 - (intOf i).toNat)
          case atStart => exact ⟨.inl ⟨rfl, rl, rh⟩, Chg.refl _ _⟩
          case round =>
            obtain ⟨hrel, hD⟩ := hrel
            clear rl rh
            have hDs := hD.size
            replace hp := hD.row (by omega) hp
            obtain ⟨p0, p1, p2⟩ := hp.three
            have nb1 : ¬ wr.heap.size = w.heap.size + 1 := by omega
            have nb2 : ¬ wr.heap.size = w.heap.size + 2 := by omega
            rcases hrel with ⟨rfl, rl, rh⟩ | ⟨rfl, rl, rh⟩ | ⟨rfl, rl, rh⟩ | ⟨rfl, rl, rh⟩
            · obtain ⟨l0, l1, l2⟩ := rl.three
              obtain ⟨g0, g1, g2⟩ := rh.three
              have lf := rl.frozen 0
              have gf := rh.frozen 0
              go_upto_region 13 with (fail)
              go_region
              all_goals
                go_wp2
                go_roundw
                case rel =>
                  refine ⟨.inr (.inl ⟨rfl, ?_, ?_⟩), ?_⟩
                  · refine Row.of ?_
                    repeat (first | (with_reducible refine RowG.base rl ?_) | (with_reducible refine RowG.drew ?_) | (with_reducible refine RowG.set ?_) | ((with_reducible refine RowG.other ?_ ?_); (focus (first | omega | (simp; done) | (simp; omega)))) | (with_reducible refine RowG.alloc ?_))
                    (first | rfl | (simp; split <;> omega))
                  · refine Row.of ?_
                    repeat (first | (with_reducible refine RowG.base rh ?_) | (with_reducible refine RowG.drew ?_) | (with_reducible refine RowG.set ?_) | ((with_reducible refine RowG.other ?_ ?_); (focus (first | omega | (simp; done) | (simp; omega)))) | (with_reducible refine RowG.alloc ?_))
                    (first | rfl | (simp; split <;> omega))
                  · repeat (first | (with_reducible exact hD) | (with_reducible refine Chg.drew ?_) | (with_reducible refine Chg.setCell ?_ (by simp) _))
                case measure => simp [intOf]
            · obtain ⟨l0, l1, l2⟩ := rl.three
              obtain ⟨g0, g1, g2⟩ := rh.three
              have lf := rl.frozen 1
              have gf := rh.frozen 1
              go_upto_region 13 with (fail)
              go_region
              all_goals
                go_wp2
                go_roundw
                case rel =>
                  refine ⟨.inr (.inr (.inl ⟨rfl, ?_, ?_⟩)), ?_⟩
                  · refine Row.of ?_
                    repeat (first | (with_reducible refine RowG.base rl ?_) | (with_reducible refine RowG.drew ?_) | (with_reducible refine RowG.set ?_) | ((with_reducible refine RowG.other ?_ ?_); (focus (first | omega | (simp; done) | (simp; omega)))) | (with_reducible refine RowG.alloc ?_))
                    (first | rfl | (simp; split <;> omega))
                  · refine Row.of ?_
                    repeat (first | (with_reducible refine RowG.base rh ?_) | (with_reducible refine RowG.drew ?_) | (with_reducible refine RowG.set ?_) | ((with_reducible refine RowG.other ?_ ?_); (focus (first | omega | (simp; done) | (simp; omega)))) | (with_reducible refine RowG.alloc ?_))
                    (first | rfl | (simp; split <;> omega))
                  · repeat (first | (with_reducible exact hD) | (with_reducible refine Chg.drew ?_) | (with_reducible refine Chg.setCell ?_ (by simp) _))
                case measure => simp [intOf]
            · obtain ⟨l0, l1, l2⟩ := rl.three
              obtain ⟨g0, g1, g2⟩ := rh.three
              have lf := rl.frozen 2
              have gf := rh.frozen 2
              go_upto_region 13 with (fail)
              go_region
              all_goals
                go_wp2
                go_roundw
                case rel =>
                  refine ⟨.inr (.inr (.inr ⟨rfl, ?_, ?_⟩)), ?_⟩
                  · refine Row.of ?_
                    repeat (first | (with_reducible refine RowG.base rl ?_) | (with_reducible refine RowG.drew ?_) | (with_reducible refine RowG.set ?_) | ((with_reducible refine RowG.other ?_ ?_); (focus (first | omega | (simp; done) | (simp; omega)))) | (with_reducible refine RowG.alloc ?_))
                    (first | rfl | (simp; split <;> omega))
                  · refine Row.of ?_
                    repeat (first | (with_reducible refine RowG.base rh ?_) | (with_reducible refine RowG.drew ?_) | (with_reducible refine RowG.set ?_) | ((with_reducible refine RowG.other ?_ ?_); (focus (first | omega | (simp; done) | (simp; omega)))) | (with_reducible refine RowG.alloc ?_))
                    (first | rfl | (simp; split <;> omega))
                  · repeat (first | (with_reducible exact hD) | (with_reducible refine Chg.drew ?_) | (with_reducible refine Chg.setCell ?_ (by simp) _))
                case measure => simp [intOf]
            · go_wp2
              go_roundw
              case rel => exact ⟨k + 1, by omega, rfl, by rw [e4.out]; exact rl, by rw [e5.out]; exact rh, hC.trans hD⟩
              case measure => exact meas hlt
        · obtain rfl : k = L.length := by omega
          replace hB := hC.below (n := w.heap.size) (fun k hk => by omega) hB.size hB
          rw [lowM_all L hpos] at rl
          rw [highM_all L hpos] at rh
          have hsm : someL L = true := by unfold someL; cases L with
            | nil => exact absurd rfl hz
            | cons a l => rfl
          rw [hsm] at e3
          obtain ⟨l0, l1, l2⟩ := rl.three
          obtain ⟨g0, g1, g2⟩ := rh.three
          have lf := fun i => rl.frozen i
          have gf := fun i => rh.frozen i
          go_upto_region 16 with (fail)
          go_region
          all_goals
            go_wp2
            refine box_endR n l (b1 := w.heap.size + 1) (b2 := w.heap.size + 2) (lowL L) (highL L) 0 e1.out e2.out e3.out rfl rfl rfl ?_ ?_ ?_
            · refine Row.of ?_
              repeat (first | (with_reducible refine RowG.base rl ?_) | (with_reducible refine RowG.drew ?_) | (with_reducible refine RowG.set ?_) | ((with_reducible refine RowG.other ?_ ?_); (focus (first | omega | (simp; done) | (simp; omega)))) | (with_reducible refine RowG.alloc ?_))
              rfl
            · refine Row.of ?_
              repeat (first | (with_reducible refine RowG.base rh ?_) | (with_reducible refine RowG.drew ?_) | (with_reducible refine RowG.set ?_) | ((with_reducible refine RowG.other ?_ ?_); (focus (first | omega | (simp; done) | (simp; omega)))) | (with_reducible refine RowG.alloc ?_))
              rfl
            · repeat (first | (with_reducible exact hB) | (with_reducible refine Below.drew ?_) | ((with_reducible refine Below.setC ?_ ?_); (focus (first | omega | (simp; done) | (simp; omega)))) | ((with_reducible refine Below.allo ?_ ?_); (focus (first | omega | (simp; done) | (simp; omega)))))
end Go.Proofs.Ytfebkccdcbkdiaa
