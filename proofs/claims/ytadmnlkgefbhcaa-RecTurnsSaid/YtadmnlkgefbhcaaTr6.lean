/- The domain that is turned: the reference. -/
import Derived.Test.YtadmnlkgefbhcaaTr5
import Derived.Test.YtadmnlkgefbhcaaB1
namespace Go.Proofs.Ytadmnlkgefbhcaa
open Go.RowKit

theorem TurnPoint_e (n : Int) (a p : Pt) (w : World) (hn : 0 ≤ n ∧ n ≤ 3) (hp : ∀ i : Nat, (i : Int) < n → 0 ≤ p.get i ∧ p.get i < 3) {q : Pt} (hq : turnP n p a = q) :
    Calls Try.prog 41 #[.agg #[.int .i64 a.x, .int .i64 a.y, .int .i64 a.z], .agg #[.int .i64 p.x, .int .i64 p.y, .int .i64 p.z], .int .i64 n] w fun e w' => e = .returned (.agg #[.int .i64 q.x, .int .i64 q.y, .int .i64 q.z]) ∧ Below w.heap.size w w' := by
  subst hq; exact TurnPoint_c n a p w hn hp
theorem turn_take (n : Int) (p : Pt) (l : List Iq) {k : Nat} (hk : k < l.length) : iqCells ((turnL n p l).take (k + 1)) = iqCells ((turnL n p l).take k) ++ [.int .i64 (turnP n p l[k].a).x, .int .i64 (turnP n p l[k].a).y, .int .i64 (turnP n p l[k].a).z, .int .i64 l[k].b] := by
  have hk2 : k < (turnL n p l).length := by rw [turn_len]; exact hk
  rw [List.take_succ_eq_append_getElem hk2]
  simp [iqCells, turnL, turnQ, Iq.cells]

set_option maxRecDepth 100000 in
set_option maxHeartbeats 4000000 in
theorem rTurned_c (n : Int) (s : Option Addr) (cs : Nat) (l : List Iq) (p : Pt) (w : World) (h : Dom w s l) :
    Calls Try.prog 53 #[.agg #[.int .i64 n, .slice s l.length cs], .agg #[.int .i64 p.x, .int .i64 p.y, .int .i64 p.z]] w (DomRet (turnN n l p) (turnR n l p) (turnE n l p) w) := by
  have hlen := h.len
  cases h1 : validB n l
  · rw [show turnN n l p = 0 by simp [turnN, turnE, h1], show turnR n l p = [] by simp [turnR, turnE, h1], show turnE n l p = 10 by simp [turnE, h1]]
    go_enter Try.func53, Try.ntmps53
    go_upto_region 1 with (fail)
    refine wp_world fun W HW => ?_
    have hB : Below w.heap.size w W := by rw [HW.out]; (repeat (first | exact Below.refl _ _ | refine Below.alloc ?_ (by simp; try omega) _ | refine Below.setCell ?_ (by simp) _ | refine Below.drew ?_))
    have d0 : W.cell? ⟨w.heap.size, 0, none⟩ = some (.int .i64 n) := by rw [HW.out]; simp [go_sem]
    have d1 : W.cell? ⟨w.heap.size, 1, none⟩ = some (.slice s l.length cs) := by rw [HW.out]; simp [go_sem]
    have dl : w.heap.size < W.heap.size := World.block_lt_of_cell? W _ d0
    have o0 : W.cell? ⟨w.heap.size + 1, 0, none⟩ = some (.int .i64 p.x) := by rw [HW.out]; simp [go_sem]
    have o1 : W.cell? ⟨w.heap.size + 1, 1, none⟩ = some (.int .i64 p.y) := by rw [HW.out]; simp [go_sem]
    have o2 : W.cell? ⟨w.heap.size + 1, 2, none⟩ = some (.int .i64 p.z) := by rw [HW.out]; simp [go_sem]
    have ol : w.heap.size + 1 < W.heap.size := World.block_lt_of_cell? W _ o0
    have rB : Row W (w.heap.size + 2) 24 #[.int .i64 0, .slice none 0 0] := (by rw [HW.out]; (repeat (first | (refine blk_new ?_; simp; done) | refine blk_old ?_ _)) : W.heap[w.heap.size + 2]? = some (.cells #[.int .i64 0, .slice none 0 0] 24 (0, 0)))
    have r0 : W.cell? ⟨w.heap.size + 2, 0, none⟩ = some (.int .i64 0) := by rw [HW.out]; simp [go_sem]
    have r1 : W.cell? ⟨w.heap.size + 2, 1, none⟩ = some (.slice none 0 0) := by rw [HW.out]; simp [go_sem]
    have rl : w.heap.size + 2 < W.heap.size := World.block_lt_of_cell? W _ r0
    try replace h := up_of hB h
    go_upto_region 2 with (first | (go_at_call 47; refine (rValid_t _ _ _ _ _ h).mono ?_; rintro e W1 ⟨rfl, hb⟩; (try replace h := up_of hb h); (try replace hB := up_of hb hB); (try replace d0 := up_of hb d0); (try replace d1 := up_of hb d1); (try replace dl := up_of hb dl); (try replace o0 := up_of hb o0); (try replace o1 := up_of hb o1); (try replace o2 := up_of hb o2); (try replace ol := up_of hb ol); (try replace rB := up_of hb rB); (try replace r0 := up_of hb r0); (try replace r1 := up_of hb r1); (try replace rl := up_of hb rl)))
    have rf := fun i => Row.frozen rB i
    go_wp2
    refine dom_end rfl none 0 (b1 := w.heap.size + 2) rfl rfl ?_ (World.ownsRow_nil _ _ _ _) ?_
    · refine Row.of ?_
      repeat (first | (with_reducible refine RowG.base rB ?_) | (with_reducible refine RowG.drew ?_) | (with_reducible refine RowG.set ?_) | ((with_reducible refine RowG.other ?_ ?_); (focus (first | omega | (simp; done) | (simp; omega)))) | (with_reducible refine RowG.alloc ?_))
      rfl
    · repeat (first | (with_reducible exact hB) | (with_reducible refine Below.drew ?_) | ((with_reducible refine Below.setC ?_ ?_); (focus (first | omega | (simp; done) | (simp; omega)))) | ((with_reducible refine Below.allo ?_ ?_); (focus (first | omega | (simp; done) | (simp; omega)))))
  have hn : 1 ≤ n ∧ n ≤ 3 := by simp only [validB, Bool.and_eq_true, bw_iff] at h1; exact h1.1
  have hl6 : l.length ≤ 6 := by simp only [validB, Bool.and_eq_true, decide_eq_true_eq] at h1; exact h1.2.1
  cases hord : isOrd n p
  · rw [show turnN n l p = 0 by simp [turnN, turnE, h1, hord], show turnR n l p = [] by simp [turnR, turnE, h1, hord], show turnE n l p = 2 by simp [turnE, h1, hord]]
    go_enter Try.func53, Try.ntmps53
    go_upto_region 1 with (fail)
    refine wp_world fun W HW => ?_
    have hB : Below w.heap.size w W := by rw [HW.out]; (repeat (first | exact Below.refl _ _ | refine Below.alloc ?_ (by simp; try omega) _ | refine Below.setCell ?_ (by simp) _ | refine Below.drew ?_))
    have d0 : W.cell? ⟨w.heap.size, 0, none⟩ = some (.int .i64 n) := by rw [HW.out]; simp [go_sem]
    have d1 : W.cell? ⟨w.heap.size, 1, none⟩ = some (.slice s l.length cs) := by rw [HW.out]; simp [go_sem]
    have dl : w.heap.size < W.heap.size := World.block_lt_of_cell? W _ d0
    have o0 : W.cell? ⟨w.heap.size + 1, 0, none⟩ = some (.int .i64 p.x) := by rw [HW.out]; simp [go_sem]
    have o1 : W.cell? ⟨w.heap.size + 1, 1, none⟩ = some (.int .i64 p.y) := by rw [HW.out]; simp [go_sem]
    have o2 : W.cell? ⟨w.heap.size + 1, 2, none⟩ = some (.int .i64 p.z) := by rw [HW.out]; simp [go_sem]
    have ol : w.heap.size + 1 < W.heap.size := World.block_lt_of_cell? W _ o0
    have rB : Row W (w.heap.size + 2) 24 #[.int .i64 0, .slice none 0 0] := (by rw [HW.out]; (repeat (first | (refine blk_new ?_; simp; done) | refine blk_old ?_ _)) : W.heap[w.heap.size + 2]? = some (.cells #[.int .i64 0, .slice none 0 0] 24 (0, 0)))
    have r0 : W.cell? ⟨w.heap.size + 2, 0, none⟩ = some (.int .i64 0) := by rw [HW.out]; simp [go_sem]
    have r1 : W.cell? ⟨w.heap.size + 2, 1, none⟩ = some (.slice none 0 0) := by rw [HW.out]; simp [go_sem]
    have rl : w.heap.size + 2 < W.heap.size := World.block_lt_of_cell? W _ r0
    try replace h := up_of hB h
    go_upto_region 4 with (first | (go_at_call 47; refine (rValid_t _ _ _ _ _ h).mono ?_; rintro e W1 ⟨rfl, hb⟩; (try replace h := up_of hb h); (try replace hB := up_of hb hB); (try replace d0 := up_of hb d0); (try replace d1 := up_of hb d1); (try replace dl := up_of hb dl); (try replace o0 := up_of hb o0); (try replace o1 := up_of hb o1); (try replace o2 := up_of hb o2); (try replace ol := up_of hb ol); (try replace rB := up_of hb rB); (try replace r0 := up_of hb r0); (try replace r1 := up_of hb r1); (try replace rl := up_of hb rl)) | (go_at_call 38; refine (IsOrder_c _ _ _ hn).mono ?_; rintro e W1 ⟨rfl, hb⟩; (try replace h := up_of hb h); (try replace hB := up_of hb hB); (try replace d0 := up_of hb d0); (try replace d1 := up_of hb d1); (try replace dl := up_of hb dl); (try replace o0 := up_of hb o0); (try replace o1 := up_of hb o1); (try replace o2 := up_of hb o2); (try replace ol := up_of hb ol); (try replace rB := up_of hb rB); (try replace r0 := up_of hb r0); (try replace r1 := up_of hb r1); (try replace rl := up_of hb rl)))
    have rf := fun i => Row.frozen rB i
    go_wp2
    refine dom_end rfl none 0 (b1 := w.heap.size + 2) rfl rfl ?_ (World.ownsRow_nil _ _ _ _) ?_
    · refine Row.of ?_
      repeat (first | (with_reducible refine RowG.base rB ?_) | (with_reducible refine RowG.drew ?_) | (with_reducible refine RowG.set ?_) | ((with_reducible refine RowG.other ?_ ?_); (focus (first | omega | (simp; done) | (simp; omega)))) | (with_reducible refine RowG.alloc ?_))
      rfl
    · repeat (first | (with_reducible exact hB) | (with_reducible refine Below.drew ?_) | ((with_reducible refine Below.setC ?_ ?_); (focus (first | omega | (simp; done) | (simp; omega)))) | ((with_reducible refine Below.allo ?_ ?_); (focus (first | omega | (simp; done) | (simp; omega)))))
  rw [show turnN n l p = n by simp [turnN, turnE, h1, hord], show turnR n l p = turnL n p l by simp [turnR, turnE, h1, hord], show turnE n l p = 0 by simp [turnE, h1, hord]]
  have hog : ∀ i : Nat, (i : Int) < n → 0 ≤ p.get i ∧ p.get i < 3 := fun i hi => by have := ord_get hn hord hi; omega
  have hn3 : 0 ≤ n ∧ n ≤ 3 := by omega
  obtain ⟨tR, hTR⟩ : ∃ x, turnL n p l = x := ⟨_, rfl⟩
  have htk := fun k (hk : k < l.length) => turn_take n p l hk
  have hlR := turn_len n p l
  rw [hTR] at htk hlR ⊢
  replace hTR := Lib.hid hTR; replace htk := Lib.hid htk; replace hlR := Lib.hid hlR; replace hog := Lib.hid hog; replace hl6 := Lib.hid hl6
  have h0 := Lib.hid h
  obtain ⟨i0, hi, hz0, hz1, hz2⟩ := info_parts info_iq
  go_enter Try.func53, Try.ntmps53
  go_upto_region 1 with (fail)
  refine wp_world fun W HW => ?_
  have hB : Below w.heap.size w W := by rw [HW.out]; (repeat (first | exact Below.refl _ _ | refine Below.alloc ?_ (by simp; try omega) _ | refine Below.setCell ?_ (by simp) _ | refine Below.drew ?_))
  have dB : Row W (w.heap.size) 24 #[.int .i64 n, .slice s l.length cs] := (by rw [HW.out]; (repeat (first | (refine blk_new ?_; simp; done) | refine blk_old ?_ _)) : W.heap[w.heap.size]? = some (.cells #[.int .i64 n, .slice s l.length cs] 24 (0, 0)))
  have d0 : W.cell? ⟨w.heap.size, 0, none⟩ = some (.int .i64 n) := by rw [HW.out]; simp [go_sem]
  have d1 : W.cell? ⟨w.heap.size, 1, none⟩ = some (.slice s l.length cs) := by rw [HW.out]; simp [go_sem]
  have dl : w.heap.size < W.heap.size := World.block_lt_of_cell? W _ d0
  have oB : Row W (w.heap.size + 1) 29 #[.int .i64 p.x, .int .i64 p.y, .int .i64 p.z] := (by rw [HW.out]; (repeat (first | (refine blk_new ?_; simp; done) | refine blk_old ?_ _)) : W.heap[w.heap.size + 1]? = some (.cells #[.int .i64 p.x, .int .i64 p.y, .int .i64 p.z] 29 (0, 0)))
  have o0 : W.cell? ⟨w.heap.size + 1, 0, none⟩ = some (.int .i64 p.x) := by rw [HW.out]; simp [go_sem]
  have o1 : W.cell? ⟨w.heap.size + 1, 1, none⟩ = some (.int .i64 p.y) := by rw [HW.out]; simp [go_sem]
  have o2 : W.cell? ⟨w.heap.size + 1, 2, none⟩ = some (.int .i64 p.z) := by rw [HW.out]; simp [go_sem]
  have ol : w.heap.size + 1 < W.heap.size := World.block_lt_of_cell? W _ o0
  have rB : Row W (w.heap.size + 2) 24 #[.int .i64 0, .slice none 0 0] := (by rw [HW.out]; (repeat (first | (refine blk_new ?_; simp; done) | refine blk_old ?_ _)) : W.heap[w.heap.size + 2]? = some (.cells #[.int .i64 0, .slice none 0 0] 24 (0, 0)))
  have r0 : W.cell? ⟨w.heap.size + 2, 0, none⟩ = some (.int .i64 0) := by rw [HW.out]; simp [go_sem]
  have r1 : W.cell? ⟨w.heap.size + 2, 1, none⟩ = some (.slice none 0 0) := by rw [HW.out]; simp [go_sem]
  have rl : w.heap.size + 2 < W.heap.size := World.block_lt_of_cell? W _ r0
  try replace h := up_of hB h
  go_upto_region 6 with (first | (go_at_call 47; refine (rValid_t _ _ _ _ _ h).mono ?_; rintro e W1 ⟨rfl, hb⟩; (try replace h := up_of hb h); (try replace hB := up_of hb hB); (try replace dB := up_of hb dB); (try replace d0 := up_of hb d0); (try replace d1 := up_of hb d1); (try replace dl := up_of hb dl); (try replace oB := up_of hb oB); (try replace o0 := up_of hb o0); (try replace o1 := up_of hb o1); (try replace o2 := up_of hb o2); (try replace ol := up_of hb ol); (try replace rB := up_of hb rB); (try replace r0 := up_of hb r0); (try replace r1 := up_of hb r1); (try replace rl := up_of hb rl)) | (go_at_call 38; refine (IsOrder_c _ _ _ hn).mono ?_; rintro e W2 ⟨rfl, hb⟩; (try replace h := up_of hb h); (try replace hB := up_of hb hB); (try replace dB := up_of hb dB); (try replace d0 := up_of hb d0); (try replace d1 := up_of hb d1); (try replace dl := up_of hb dl); (try replace oB := up_of hb oB); (try replace o0 := up_of hb o0); (try replace o1 := up_of hb o1); (try replace o2 := up_of hb o2); (try replace ol := up_of hb ol); (try replace rB := up_of hb rB); (try replace r0 := up_of hb r0); (try replace r1 := up_of hb r1); (try replace rl := up_of hb rl)))
  have hW2 := rl
  refine wp_world fun M HM => ?_
  have hM : Below W2.heap.size W2 M := by rw [HM.out]; (repeat (first | exact Below.refl _ _ | refine Below.alloc ?_ (by simp; try omega) _ | refine Below.setCell ?_ (by simp) _ | refine Below.drew ?_))
  have uB : Row M (W2.heap.size) 24 #[.int .i64 n, .slice none 0 0] := (by rw [HM.out]; (repeat (first | (refine blk_new ?_; simp; done) | refine blk_old ?_ _)) : M.heap[W2.heap.size]? = some (.cells #[.int .i64 n, .slice none 0 0] 24 (0, 0)))
  have u0 : M.cell? ⟨W2.heap.size, 0, none⟩ = some (.int .i64 n) := by rw [HM.out]; simp [go_sem]
  have u1 : M.cell? ⟨W2.heap.size, 1, none⟩ = some (.slice none 0 0) := by rw [HM.out]; simp [go_sem]
  have ul : W2.heap.size < M.heap.size := World.block_lt_of_cell? M _ u0
  try replace h := up_of hM h
  try replace hB := up_of hM hB
  try replace dB := up_of hM dB
  try replace d0 := up_of hM d0
  try replace d1 := up_of hM d1
  try replace dl := up_of hM dl
  try replace oB := up_of hM oB
  try replace o0 := up_of hM o0
  try replace o1 := up_of hM o1
  try replace o2 := up_of hM o2
  try replace ol := up_of hM ol
  try replace rB := up_of hM rB
  try replace r0 := up_of hM r0
  try replace r1 := up_of hM r1
  try replace rl := up_of hM rl
  go_wp2
  go_loopw [25] (fun i V => ∃ k : Nat, k ≤ l.length ∧ i = .int .i64 k ∧ ∃ v, Row V W2.heap.size 24 #[.int .i64 n, v] ∧ V.ownsRow (W2.heap.size + 1) 127 4 v k (iqCells (tR.take k)) ∧ Below w.heap.size w V ∧
    Row V w.heap.size 24 #[.int .i64 n, .slice s l.length cs] ∧ Row V (w.heap.size + 1) 29 #[.int .i64 p.x, .int .i64 p.y, .int .i64 p.z] ∧ Row V (w.heap.size + 2) 24 #[.int .i64 0, .slice none 0 0]) (fun i _ => l.length - (intOf i).toNat)
  case atStart => exact ⟨0, by omega, rfl, _, uB, World.ownsRow_nil _ _ _ _, hB, dB, oB, rB⟩
  case round =>
    clear hB dB oB rB uB d0 d1 o0 o1 o2 r0 r1 u0 u1
    obtain ⟨k, hk, rfl, v, uB, hown, hB, dB, oB, rB⟩ := hrel
    obtain ⟨d0, d1⟩ := dB.two
    obtain ⟨o0, o1, o2⟩ := oB.three
    obtain ⟨r0, r1⟩ := rB.two
    obtain ⟨u0, u1⟩ := uB.two
    obtain ⟨s3, c3, rfl, _⟩ := owns_shape hown
    have hus := uB.lt
    by_cases hlt : k < l.length
    · obtain ⟨b1, of1, rfl, hb1, q0, q1, q2, q3⟩ := (Up.iq hB h0.out.iq).at hlt
      have g1 : (0 : Int) ≤ (k : Int) := by omega
      have g2 : (k : Int) < (l.length : Int) := by omega
      have e1 := htk.out k hlt
      obtain ⟨ta, hta⟩ : ∃ ta, turnP n p l[k].a = ta := ⟨_, rfl⟩
      rw [hta] at e1
      replace e1 := Lib.hid e1; replace hta := Lib.hid hta
      have hk6 : k < 6 := by have := hl6.out; omega
      have hown0 := hown
      go_upto_region 9 with (fail)
      refine wp_world fun Y HY => ?_
      have hY : Below wr.heap.size wr Y := by rw [HY.out]; (repeat (first | exact Below.refl _ _ | refine Below.alloc ?_ (by simp; try omega) _ | refine Below.setCell ?_ (by simp) _ | refine Below.drew ?_))
      have qB : Row Y (wr.heap.size) 127 #[.int .i64 l[k].a.x, .int .i64 l[k].a.y, .int .i64 l[k].a.z, .int .i64 l[k].b] := (by rw [HY.out]; (repeat (first | (refine blk_new ?_; simp; done) | refine blk_old ?_ _)) : Y.heap[wr.heap.size]? = some (.cells #[.int .i64 l[k].a.x, .int .i64 l[k].a.y, .int .i64 l[k].a.z, .int .i64 l[k].b] 127 (0, 0)))
      have q0 : Y.cell? ⟨wr.heap.size, 0, none⟩ = some (.int .i64 l[k].a.x) := by rw [HY.out]; simp [go_sem]
      have q1 : Y.cell? ⟨wr.heap.size, 1, none⟩ = some (.int .i64 l[k].a.y) := by rw [HY.out]; simp [go_sem]
      have q2 : Y.cell? ⟨wr.heap.size, 2, none⟩ = some (.int .i64 l[k].a.z) := by rw [HY.out]; simp [go_sem]
      have q3 : Y.cell? ⟨wr.heap.size, 3, none⟩ = some (.int .i64 l[k].b) := by rw [HY.out]; simp [go_sem]
      have ql : wr.heap.size < Y.heap.size := World.block_lt_of_cell? Y _ q0
      try replace hown := up_of hY hown
      try replace hB := up_of hY hB
      try replace dB := up_of hY dB
      try replace oB := up_of hY oB
      try replace rB := up_of hY rB
      try replace uB := up_of hY uB
      try replace d0 := up_of hY d0
      try replace d1 := up_of hY d1
      try replace o0 := up_of hY o0
      try replace o1 := up_of hY o1
      try replace o2 := up_of hY o2
      try replace r0 := up_of hY r0
      try replace r1 := up_of hY r1
      try replace u0 := up_of hY u0
      try replace u1 := up_of hY u1
      have hYs := hY.size
      have hvb : ∀ j, Value.ownBlock (.slice s3 k c3) = some j → j < wr.heap.size := fun j e => (hown0.lt j e).2
      refine wpL.region (m := 14) (S := fun V => V.cell? ⟨W2.heap.size, 1, none⟩ = some (.slice s3 k c3) ∧ V.cell? ⟨wr.heap.size, 0, none⟩ = some (.int .i64 l[k].a.x) ∧ V.cell? ⟨wr.heap.size, 1, none⟩ = some (.int .i64 l[k].a.y) ∧ V.cell? ⟨wr.heap.size, 2, none⟩ = some (.int .i64 l[k].a.z) ∧ V.cell? ⟨w.heap.size + 1, 0, none⟩ = some (.int .i64 p.x) ∧ V.cell? ⟨w.heap.size + 1, 1, none⟩ = some (.int .i64 p.y) ∧ V.cell? ⟨w.heap.size + 1, 2, none⟩ = some (.int .i64 p.z) ∧ V.cell? ⟨w.heap.size, 0, none⟩ = some (.int .i64 n) ∧ V.cell? ⟨wr.heap.size, 3, none⟩ = some (.int .i64 l[k].b)) (by kernel_rfl) ?_ (fun hHeld => ?_)
      (focus ((first | exact ⟨u1, q0, q1, q2, o0, o1, o2, d0, q3⟩ | ((first | (with_reducible exact ⟨u1, q0, q1, q2, o0, o1, o2, d0, q3⟩) | ((try dsimp only); (repeat' apply And.intro) <;> (repeat (first | (with_reducible assumption) | (with_reducible refine cell_set (by simp; try omega) ?_) | (with_reducible refine cell_drew ?_) | (with_reducible refine cell_alloc ?_ _))))))); done))
      refine wpL.take' (i := 0) rfl (by kernel_rfl) (by kernel_rfl) (by kernel_rfl) (by kernel_rfl) (by decide) (by kernel_rfl) (by assumption) ?_
      apply Exists.intro; refine ⟨fun _ _ _ h => h, Or.inl ⟨by rfl, fun V hV => ?_⟩, ?_⟩
      (focus ((try dsimp only at hV); go_simp; (try (with_reducible rfl)); done))
      try simp only [Act.put, List.setIfInBounds_toArray, List.set_cons_zero, List.set_cons_succ]
      refine wpL.take' (i := 1) rfl (by kernel_rfl) (by kernel_rfl) (by kernel_rfl) (by kernel_rfl) (by decide) (by kernel_rfl) (by assumption) ?_
      apply Exists.intro; refine ⟨fun _ _ _ h => h, Or.inl ⟨by rfl, fun V hV => ?_⟩, ?_⟩
      (focus ((try dsimp only at hV); go_simp; (try (with_reducible rfl)); done))
      try simp only [Act.put, List.setIfInBounds_toArray, List.set_cons_zero, List.set_cons_succ]
      refine wpL.take' (i := 2) rfl (by kernel_rfl) (by kernel_rfl) (by kernel_rfl) (by kernel_rfl) (by decide) (by kernel_rfl) (by assumption) ?_
      apply Exists.intro; refine ⟨fun _ _ _ h => h, Or.inl ⟨by rfl, fun V hV => ?_⟩, ?_⟩
      (focus ((try dsimp only at hV); go_simp; (try (with_reducible rfl)); done))
      try simp only [Act.put, List.setIfInBounds_toArray, List.set_cons_zero, List.set_cons_succ]
      refine wpL.take' (i := 3) rfl (by kernel_rfl) (by kernel_rfl) (by kernel_rfl) (by kernel_rfl) (by decide) (by kernel_rfl) (by assumption) ?_
      apply Exists.intro; refine ⟨fun _ _ _ h => h, Or.inl ⟨by rfl, fun V hV => ?_⟩, ?_⟩
      (focus ((try dsimp only at hV); go_simp; (try (with_reducible rfl)); done))
      try simp only [Act.put, List.setIfInBounds_toArray, List.set_cons_zero, List.set_cons_succ]
      refine wpL.take' (i := 4) rfl (by kernel_rfl) (by kernel_rfl) (by kernel_rfl) (by kernel_rfl) (by decide) (by kernel_rfl) (by assumption) ?_
      apply Exists.intro; refine ⟨fun _ _ _ h => h, Or.inl ⟨by rfl, fun V hV => ?_⟩, ?_⟩
      (focus ((try dsimp only at hV); go_simp; (try (with_reducible rfl)); done))
      try simp only [Act.put, List.setIfInBounds_toArray, List.set_cons_zero, List.set_cons_succ]
      refine wpL.take' (i := 5) rfl (by kernel_rfl) (by kernel_rfl) (by kernel_rfl) (by kernel_rfl) (by decide) (by kernel_rfl) (by assumption) ?_
      apply Exists.intro; refine ⟨fun _ _ _ h => h, Or.inl ⟨by rfl, fun V hV => ?_⟩, ?_⟩
      (focus ((try dsimp only at hV); go_simp; (try (with_reducible rfl)); done))
      try simp only [Act.put, List.setIfInBounds_toArray, List.set_cons_zero, List.set_cons_succ]
      refine wpL.take' (i := 6) rfl (by kernel_rfl) (by kernel_rfl) (by kernel_rfl) (by kernel_rfl) (by decide) (by kernel_rfl) (by assumption) ?_
      apply Exists.intro; refine ⟨fun _ _ _ h => h, Or.inl ⟨by rfl, fun V hV => ?_⟩, ?_⟩
      (focus ((try dsimp only at hV); go_simp; (try (with_reducible rfl)); done))
      try simp only [Act.put, List.setIfInBounds_toArray, List.set_cons_zero, List.set_cons_succ]
      refine wpL.take' (i := 8) rfl (by kernel_rfl) (by kernel_rfl) (by kernel_rfl) (by kernel_rfl) (by decide) (by kernel_rfl) (by assumption) ?_
      apply Exists.intro; refine ⟨fun _ _ _ h => h, Or.inl ⟨by rfl, fun V hV => ?_⟩, ?_⟩
      (focus ((try dsimp only at hV); go_simp; (try (with_reducible rfl)); done))
      try simp only [Act.put, List.setIfInBounds_toArray, List.set_cons_zero, List.set_cons_succ]
      refine wpL.take' (i := 9) rfl (by kernel_rfl) (by kernel_rfl) (by kernel_rfl) (by kernel_rfl) (by decide) (by kernel_rfl) (by assumption) ?_
      apply Exists.intro; refine ⟨fun _ _ _ h => h, Or.inl ⟨by rfl, fun V hV => ?_⟩, ?_⟩
      (focus ((try dsimp only at hV); go_simp; (try (with_reducible rfl)); done))
      try simp only [Act.put, List.setIfInBounds_toArray, List.set_cons_zero, List.set_cons_succ]
      refine wpL.one (i := 7) (by kernel_rfl) rfl fun K hK => ?_
      rw [if_pos (by rfl)]
      go_simp
      ((first | (go_at_call 41; refine calls_below (W0 := Y) ?_ fun hpre => ?_; (repeat (first | exact Below.refl _ _ | refine Below.alloc ?_ (by simp; try omega) _ | refine Below.drew ?_)); refine (TurnPoint_e n l[k].a p _ hn3 hog.out hta.out).mono ?_; rintro e N1 ⟨rfl, hb1⟩; have hb := Up.trans hpre hb1; clear hpre; (first | have hs_N1 := below_alloc_lt hb1 | have hs_N1 := below_alloc_lt (drewB hb1) | skip); have ql_N1 := ql; (try replace hown := up_of hb hown); (try replace hB := up_of hb hB); (try replace dB := up_of hb dB); (try replace oB := up_of hb oB); (try replace rB := up_of hb rB); (try replace uB := up_of hb uB); (try replace d0 := up_of hb d0); (try replace d1 := up_of hb d1); (try replace o0 := up_of hb o0); (try replace o1 := up_of hb o1); (try replace o2 := up_of hb o2); (try replace r0 := up_of hb r0); (try replace r1 := up_of hb r1); (try replace u0 := up_of hb u0); (try replace u1 := up_of hb u1); (try replace hY := up_of hb hY); (try replace qB := up_of hb qB); (try replace q0 := up_of hb q0); (try replace q1 := up_of hb q1); (try replace q2 := up_of hb q2); (try replace q3 := up_of hb q3); (try replace ql := up_of hb ql); (first | have nB := new_up hb1 | have nB := new_up (drewB hb1) | (try replace nB := up_of hb nB))) | (refine step_append_lies _ (by rfl) _ _ 22 (by rfl) (W2.heap.size + 1) 127 i0 (.agg #[.int .i64 0, .int .i64 0, .int .i64 0, .int .i64 0]) 4 32 Try.underlying22 hi hz0 hz1 hz2 rfl (by decide) _ _ _ (by rfl) (hown.alloc _) ⟨N1.heap.size, 0, none⟩ 1 1 [.int .i64 ta.x, .int .i64 ta.y, .int .i64 ta.z, .int .i64 l[k].b] (by rfl) (by rfl) (news_new _ _ _) (by simp [Value.oneCell']) (by decide) (by unfold maxLen; omega) (by omega) (by simp; omega) (N1.heap.size + 1) (by simp) ?_; intro gg cap w1 hown1 hgrow hat hlt2; replace uB := grown_row hgrow hown (by omega) uB; replace dB := grown_row hgrow hown (by omega) dB; replace oB := grown_row hgrow hown (by omega) oB; replace rB := grown_row hgrow hown (by omega) rB; obtain ⟨u0, u1⟩ := uB.two; obtain ⟨d0, d1⟩ := dB.two; obtain ⟨o0, o1, o2⟩ := oB.three; have uf := uB.frozen 1; replace q0 := grown_keep hgrow hvb (Nat.le_refl _) q0; replace q1 := grown_keep hgrow hvb (Nat.le_refl _) q1; replace q2 := grown_keep hgrow hvb (Nat.le_refl _) q2; replace q3 := grown_keep hgrow hvb (Nat.le_refl _) q3)))
      try clear hHeld
      refine hK.out _ _ ?_ (fun hHeld => ?_)
      (focus ((first | exact ⟨u1, q0, q1, q2, o0, o1, o2, d0, q3⟩ | ((first | (with_reducible exact ⟨u1, q0, q1, q2, o0, o1, o2, d0, q3⟩) | ((try dsimp only); (repeat' apply And.intro) <;> (repeat (first | (with_reducible assumption) | (with_reducible refine cell_set (by simp; try omega) ?_) | (with_reducible refine cell_drew ?_) | (with_reducible refine cell_alloc ?_ _))))))); done))
      clear hK K
      try simp only [Act.put, List.setIfInBounds_toArray, List.set_cons_zero, List.set_cons_succ]
      refine wpL.take' (i := 10) rfl (by kernel_rfl) (by kernel_rfl) (by kernel_rfl) (by kernel_rfl) (by decide) (by kernel_rfl) (by assumption) ?_
      apply Exists.intro; refine ⟨fun _ _ _ h => h, Or.inl ⟨by rfl, fun V hV => ?_⟩, ?_⟩
      (focus ((try dsimp only at hV); go_simp; (try (with_reducible rfl)); done))
      try simp only [Act.put, List.setIfInBounds_toArray, List.set_cons_zero, List.set_cons_succ]
      refine wpL.one (i := 11) (by kernel_rfl) rfl fun K hK => ?_
      rw [if_pos (by rfl)]
      go_simp
      try clear hHeld
      refine hK.out _ _ ?_ (fun hHeld => ?_)
      (focus ((first | exact ⟨u1, q0, q1, q2, o0, o1, o2, d0, q3⟩ | ((first | (with_reducible exact ⟨u1, q0, q1, q2, o0, o1, o2, d0, q3⟩) | ((try dsimp only); (repeat' apply And.intro) <;> (repeat (first | (with_reducible assumption) | (with_reducible refine cell_set (by simp; try omega) ?_) | (with_reducible refine cell_drew ?_) | (with_reducible refine cell_alloc ?_ _))))))); done))
      clear hK K
      try simp only [Act.put, List.setIfInBounds_toArray, List.set_cons_zero, List.set_cons_succ]
      refine wpL.one (i := 12) (by kernel_rfl) rfl fun K hK => ?_
      ((first | (go_at_call 41; refine calls_below (W0 := Y) ?_ fun hpre => ?_; (repeat (first | exact Below.refl _ _ | refine Below.alloc ?_ (by simp; try omega) _ | refine Below.drew ?_)); refine (TurnPoint_e n l[k].a p _ hn3 hog.out hta.out).mono ?_; rintro e N1 ⟨rfl, hb1⟩; have hb := Up.trans hpre hb1; clear hpre; (first | have hs_N1 := below_alloc_lt hb1 | have hs_N1 := below_alloc_lt (drewB hb1) | skip); have ql_N1 := ql; (try replace hown := up_of hb hown); (try replace hB := up_of hb hB); (try replace dB := up_of hb dB); (try replace oB := up_of hb oB); (try replace rB := up_of hb rB); (try replace uB := up_of hb uB); (try replace d0 := up_of hb d0); (try replace d1 := up_of hb d1); (try replace o0 := up_of hb o0); (try replace o1 := up_of hb o1); (try replace o2 := up_of hb o2); (try replace r0 := up_of hb r0); (try replace r1 := up_of hb r1); (try replace u0 := up_of hb u0); (try replace u1 := up_of hb u1); (try replace hY := up_of hb hY); (try replace qB := up_of hb qB); (try replace q0 := up_of hb q0); (try replace q1 := up_of hb q1); (try replace q2 := up_of hb q2); (try replace q3 := up_of hb q3); (try replace ql := up_of hb ql); (first | have nB := new_up hb1 | have nB := new_up (drewB hb1) | (try replace nB := up_of hb nB))) | (refine step_append_lies _ (by rfl) _ _ 22 (by rfl) (W2.heap.size + 1) 127 i0 (.agg #[.int .i64 0, .int .i64 0, .int .i64 0, .int .i64 0]) 4 32 Try.underlying22 hi hz0 hz1 hz2 rfl (by decide) _ _ _ (by rfl) (hown.alloc _) ⟨N1.heap.size, 0, none⟩ 1 1 [.int .i64 ta.x, .int .i64 ta.y, .int .i64 ta.z, .int .i64 l[k].b] (by rfl) (by rfl) (news_new _ _ _) (by simp [Value.oneCell']) (by decide) (by unfold maxLen; omega) (by omega) (by simp; omega) (N1.heap.size + 1) (by simp) ?_; intro gg cap w1 hown1 hgrow hat hlt2; replace uB := grown_row hgrow hown (by omega) uB; replace dB := grown_row hgrow hown (by omega) dB; replace oB := grown_row hgrow hown (by omega) oB; replace rB := grown_row hgrow hown (by omega) rB; obtain ⟨u0, u1⟩ := uB.two; obtain ⟨d0, d1⟩ := dB.two; obtain ⟨o0, o1, o2⟩ := oB.three; have uf := uB.frozen 1; replace q0 := grown_keep hgrow hvb (Nat.le_refl _) q0; replace q1 := grown_keep hgrow hvb (Nat.le_refl _) q1; replace q2 := grown_keep hgrow hvb (Nat.le_refl _) q2; replace q3 := grown_keep hgrow hvb (Nat.le_refl _) q3)))
      try clear hHeld
      refine hK.out _ _ ?_ (fun hHeld => ?_)
      (focus ((first | exact ⟨u1, q0, q1, q2, o0, o1, o2, d0, q3⟩ | ((first | (with_reducible exact ⟨u1, q0, q1, q2, o0, o1, o2, d0, q3⟩) | ((try dsimp only); (repeat' apply And.intro) <;> (repeat (first | (with_reducible assumption) | (with_reducible refine cell_set (by simp; try omega) ?_) | (with_reducible refine cell_drew ?_) | (with_reducible refine cell_alloc ?_ _))))))); done))
      clear hK K
      try simp only [Act.put, List.setIfInBounds_toArray, List.set_cons_zero, List.set_cons_succ]
      refine wpL.take' (i := 13) rfl (by kernel_rfl) (by kernel_rfl) (by kernel_rfl) (by kernel_rfl) (by decide) (by kernel_rfl) (by assumption) ?_
      apply Exists.intro; refine ⟨fun _ _ _ h => h, Or.inl ⟨by rfl, fun V hV => ?_⟩, ?_⟩
      (focus ((try dsimp only at hV); go_simp; (try (with_reducible rfl)); done))
      try simp only [Act.put, List.setIfInBounds_toArray, List.set_cons_zero, List.set_cons_succ]
      refine wpL.last (by kernel_rfl) (by kernel_rfl) rfl fun K hK => ?_
      rw [if_pos (by rfl)]
      go_simp
      refine hK.out _ _ (wpL.fin (by kernel_rfl) ?_ _)
      clear hK K
      try simp only [Act.put, List.setIfInBounds_toArray, List.set_cons_zero, List.set_cons_succ]
      all_goals
        go_wp2
        go_roundw
        case rel =>
          refine ⟨k + 1, by omega, rfl, .slice (some ⟨gg, 0, none⟩) (k + 1) cap, ?_, ?_, ?_, ?_, ?_, ?_⟩
          · refine Row.of ?_
            repeat (first | (with_reducible refine RowG.base uB ?_) | (with_reducible refine RowG.drew ?_) | (with_reducible refine RowG.set ?_) | ((with_reducible refine RowG.other ?_ ?_); (focus (first | omega | (simp; done) | (simp; omega)))) | (with_reducible refine RowG.alloc ?_))
            rfl
          · rw [e1.out]
            refine own_chg (p := fun j => j = W2.heap.size) ?_ (fun j hj e => by omega) hown1
            repeat (first | (with_reducible exact Chg.refl _ _) | (with_reducible refine Chg.setCell ?_ (by simp) _) | (with_reducible refine Chg.drew ?_) | (with_reducible refine Chg.alloc ?_ _))
          · have hB1 := hB.trans (((Below.refl _ _).alloc hB.size _).grown hgrow (by simp; omega) (fun j e => by have := (hown.lt j e).1; omega))
            repeat (first | (with_reducible exact hB1) | (with_reducible refine Below.drew ?_) | ((with_reducible refine Below.setC ?_ ?_); (focus (first | omega | (simp; done) | (simp; omega)))) | ((with_reducible refine Below.allo ?_ ?_); (focus (first | omega | (simp; done) | (simp; omega)))))
          · refine Row.of ?_
            repeat (first | (with_reducible refine RowG.base dB ?_) | (with_reducible refine RowG.drew ?_) | (with_reducible refine RowG.set ?_) | ((with_reducible refine RowG.other ?_ ?_); (focus (first | omega | (simp; done) | (simp; omega)))) | (with_reducible refine RowG.alloc ?_))
            rfl
          · refine Row.of ?_
            repeat (first | (with_reducible refine RowG.base oB ?_) | (with_reducible refine RowG.drew ?_) | (with_reducible refine RowG.set ?_) | ((with_reducible refine RowG.other ?_ ?_); (focus (first | omega | (simp; done) | (simp; omega)))) | (with_reducible refine RowG.alloc ?_))
            rfl
          · refine Row.of ?_
            repeat (first | (with_reducible refine RowG.base rB ?_) | (with_reducible refine RowG.drew ?_) | (with_reducible refine RowG.set ?_) | ((with_reducible refine RowG.other ?_ ?_); (focus (first | omega | (simp; done) | (simp; omega)))) | (with_reducible refine RowG.alloc ?_))
            rfl
        case measure => exact meas hlt
    · obtain rfl : k = l.length := by omega
      have hlR2 := hlR.out
      rw [← hlR2, List.take_of_length_le (Nat.le_refl _)] at hown
      rw [← hlR2] at uB u1
      have rf := fun i => Row.frozen rB i
      clear hlR2
      go_wp2
      refine dom_end rfl s3 c3 (b1 := w.heap.size + 2) rfl rfl ?_ ?_ ?_
      · refine Row.of ?_
        repeat (first | (with_reducible refine RowG.base rB ?_) | (with_reducible refine RowG.drew ?_) | (with_reducible refine RowG.set ?_) | ((with_reducible refine RowG.other ?_ ?_); (focus (first | omega | (simp; done) | (simp; omega)))) | (with_reducible refine RowG.alloc ?_))
        rfl
      · refine owns_mono (own_chg (p := fun j => j = w.heap.size + 2) ?_ (fun j hj e => by omega) hown) (by omega)
        repeat (first | (with_reducible exact Chg.refl _ _) | (with_reducible refine Chg.setCell ?_ (by simp) _) | (with_reducible refine Chg.drew ?_) | (with_reducible refine Chg.alloc ?_ _))
      · repeat (first | (with_reducible exact hB) | (with_reducible refine Below.drew ?_) | ((with_reducible refine Below.setC ?_ ?_); (focus (first | omega | (simp; done) | (simp; omega)))) | ((with_reducible refine Below.allo ?_ ?_); (focus (first | omega | (simp; done) | (simp; omega)))))
end Go.Proofs.Ytadmnlkgefbhcaa
