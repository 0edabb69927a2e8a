/- The time of an element: the program and the reference. -/
import Derived.Test.YtbpdgoedglkefaaSch3
import Derived.Test.YtbpdgoedglkefaaHeld
namespace Go.Proofs.Ytbpdgoedglkefaa
open Go.RowKit

theorem sd_new (W : World) (q : Sd) (t : TypeId) : SlS sdE (W.alloc (.cells #[.int .i64 q.f.x, .int .i64 q.f.y, .int .i64 q.f.z, .slice q.s q.off.length q.cap] t)) (some ⟨W.heap.size, 0, none⟩) [q] := by
  refine .inr ⟨W.heap.size, 0, rfl, by simp, fun j u hj => ?_⟩
  have e : sdE.all [q] = [.int .i64 q.f.x, .int .i64 q.f.y, .int .i64 q.f.z, .slice q.s q.off.length q.cap] := by simp [Elt.all, sdE, Sd.cells]
  rw [e] at hj
  match j, hj with
  | 0, hj => simp at hj; subst hj; simp [go_sem]
  | 1, hj => simp at hj; subst hj; simp [go_sem]
  | 2, hj => simp at hj; subst hj; simp [go_sem]
  | 3, hj => simp at hj; subst hj; simp [go_sem]
  | k + 4, hj => simp at hj
/-- checked of one schedule, handed over in a new slice. -/
theorem checkedN_c (n : Int) (s : Option Addr) (cap : Nat) (l : List Iq) (s2 : Option Addr) (cq : Nat) (K : List Vv) (q : Sd) (t : TypeId) (V : World) (hr : RecM V s l s2 cq K) (hq : SdM V q) :
    Calls Try.prog 57 #[.agg #[.int .i64 n, .slice s l.length cap, .slice s2 K.length cq], .slice (some ⟨V.heap.size, 0, none⟩) 1 1] (V.alloc (.cells #[.int .i64 q.f.x, .int .i64 q.f.y, .int .i64 q.f.z, .slice q.s q.off.length q.cap] t)) fun e w' => e = .returned (.int .i64 (chkE n l K [q])) ∧ Below V.heap.size V w' := by
  have hA : Below V.heap.size V (V.alloc (.cells #[.int .i64 q.f.x, .int .i64 q.f.y, .int .i64 q.f.z, .slice q.s q.off.length q.cap] t)) := (Below.refl _ V).alloc (Nat.le_refl _) _
  refine (checked_c n s cap l s2 cq K _ 1 [q] _ (hr.up hA) (sd_new V q t) (by simp) (fun x hx => by simp at hx; subst hx; exact hq.up hA)).mono ?_
  rintro e w' ⟨rfl, hb⟩
  exact ⟨rfl, Up.to hA hb hA.size⟩
def timeW (q : Sd) (v : Nat) (p : Pt) : Int := IntKind.i64.wrap (wrap64 (dotZ q.f p) + q.off.getD v 0)
def timeR (n : Int) (l : List Iq) (K : List Vv) (q : Sd) (v : Int) (p : Pt) : Value :=
  if chkE n l K [q] ≠ 0 then .tuple #[.int .i64 0, .int .i64 (chkE n l K [q])]
  else if hasB n l p && bw 0 v (K.length - 1) then .tuple #[.int .i64 (timeW q v.toNat p), .int .i64 0] else .tuple #[.int .i64 0, .int .i64 2]
theorem chk_ok {n : Int} {l : List Iq} {K : List Vv} {q : Sd} (h : chkE n l K [q] = 0) : recB n l K = true ∧ validB n l = true ∧ 1 ≤ K.length ∧ K.length ≤ 4 ∧ (1 ≤ n ∧ n ≤ 3) ∧ (pts n l).length ≤ 1000 ∧ flatB q.f n 9 = true ∧ q.off.length = K.length ∧ offB q.off = true := by
  unfold chkE at h
  by_cases hr : recB n l K = true
  · rw [if_pos hr] at h
    by_cases hf : ([q].all (Sd.fit n K.length)) = true
    · simp [Sd.fit, fitB] at hf
      have h1 := hr
      rw [recB_eq, Bool.and_eq_true, Bool.and_eq_true, Bool.and_eq_true] at h1
      have h2 := bw_iff.1 h1.2.2.1
      exact ⟨hr, h1.1, by omega, by omega, valid_n h1.1, of_decide_eq_true h1.2.1, hf.1, hf.2.1, hf.2.2⟩
    · rw [if_neg hf] at h; cases h
  · rw [if_neg hr] at h; cases h
set_option maxRecDepth 100000 in
set_option maxHeartbeats 2000000 in
theorem Time_c (n : Int) (s : Option Addr) (cap : Nat) (l : List Iq) (s2 : Option Addr) (cq : Nat) (K : List Vv) (q : Sd) (v : Int) (p : Pt) (w : World) (hr : RecM w s l s2 cq K) (hq : SdM w q) :
    Calls Try.prog 19 #[.agg #[.int .i64 n, .slice s l.length cap, .slice s2 K.length cq], .agg #[.int .i64 q.f.x, .int .i64 q.f.y, .int .i64 q.f.z, .slice q.s q.off.length q.cap], .agg #[.int .i64 v, .int .i64 p.x, .int .i64 p.y, .int .i64 p.z]] w fun e w' => e = .returned (timeR n l K q v p) ∧ Below w.heap.size w w' := by
  have hck := fun V t (h : RecM V s l s2 cq K) (h2 : SdM V q) => checkedN_c n s cap l s2 cq K q t V h h2
  have hhs := fun V (h : RecM V s l s2 cq K) => Has_t n s cap l p V h.dom
  have hbt := fun V => schBetween_c 0 v (K.length - 1) V
  have hok := chk_ok (n := n) (l := l) (K := K) (q := q)
  have hkl := hr.len
  have hve : validB n l = true → vE n l = 0 := fun h => by unfold vE; rw [if_pos h]
  have w1 : IntKind.i64.wrap ((K.length : Int) - 1) = (K.length : Int) - 1 := i64_small (by omega)
  unfold timeR
  obtain ⟨ck, hck0⟩ : ∃ x, chkE n l K [q] = x := ⟨_, rfl⟩
  simp only [hck0] at hck hok ⊢
  clear hck0
  replace hck := Lib.hid hck
  by_cases h0 : ck ≠ 0
  · rw [if_pos h0]
    have k1 : (ck != 0) = true := bne_iff_ne.2 h0
    clear hok hhs hbt hve
    go_enter Try.func19, Try.ntmps19
    go_upto_region 1 with (fail)
    refine wp_world fun W HW => ?_
    have hB : Below w.heap.size w W := by rw [HW.out]; (repeat (first | exact Below.refl _ _ | refine Below.alloc ?_ (by simp; try omega) _ | refine Below.setCell ?_ (by simp) _ | refine Below.drew ?_))
    have d0 : W.cell? ⟨w.heap.size, 0, none⟩ = some (.int .i64 n) := by rw [HW.out]; simp [go_sem]
    have d1 : W.cell? ⟨w.heap.size, 1, none⟩ = some (.slice s l.length cap) := by rw [HW.out]; simp [go_sem]
    have d2 : W.cell? ⟨w.heap.size, 2, none⟩ = some (.slice s2 K.length cq) := by rw [HW.out]; simp [go_sem]
    have dl : w.heap.size < W.heap.size := World.block_lt_of_cell? W _ d0
    have g0 : W.cell? ⟨w.heap.size + 1, 0, none⟩ = some (.int .i64 q.f.x) := by rw [HW.out]; simp [go_sem]
    have g1 : W.cell? ⟨w.heap.size + 1, 1, none⟩ = some (.int .i64 q.f.y) := by rw [HW.out]; simp [go_sem]
    have g2 : W.cell? ⟨w.heap.size + 1, 2, none⟩ = some (.int .i64 q.f.z) := by rw [HW.out]; simp [go_sem]
    have g3 : W.cell? ⟨w.heap.size + 1, 3, none⟩ = some (.slice q.s q.off.length q.cap) := by rw [HW.out]; simp [go_sem]
    have gl : w.heap.size + 1 < W.heap.size := World.block_lt_of_cell? W _ g0
    have x0 : W.cell? ⟨w.heap.size + 2, 0, none⟩ = some (.int .i64 v) := by rw [HW.out]; simp [go_sem]
    have x1 : W.cell? ⟨w.heap.size + 2, 1, none⟩ = some (.int .i64 p.x) := by rw [HW.out]; simp [go_sem]
    have x2 : W.cell? ⟨w.heap.size + 2, 2, none⟩ = some (.int .i64 p.y) := by rw [HW.out]; simp [go_sem]
    have x3 : W.cell? ⟨w.heap.size + 2, 3, none⟩ = some (.int .i64 p.z) := by rw [HW.out]; simp [go_sem]
    have xl : w.heap.size + 2 < W.heap.size := World.block_lt_of_cell? W _ x0
    try replace hr := up_of hB hr
    try replace hq := up_of hB hq
    go_wp2_with (first | (go_at_call 57; refine (hck.out _ _ hr hq).mono ?_; rintro e W1 ⟨rfl, hb⟩; (try replace hr := up_of hb hr); (try replace hq := up_of hb hq); (try replace hB := up_of hb hB); (try replace d0 := up_of hb d0); (try replace d1 := up_of hb d1); (try replace d2 := up_of hb d2); (try replace dl := up_of hb dl); (try replace g0 := up_of hb g0); (try replace g1 := up_of hb g1); (try replace g2 := up_of hb g2); (try replace g3 := up_of hb g3); (try replace gl := up_of hb gl); (try replace x0 := up_of hb x0); (try replace x1 := up_of hb x1); (try replace x2 := up_of hb x2); (try replace x3 := up_of hb x3); (try replace xl := up_of hb xl)))
    go_ret2
    exact ⟨rfl, hB⟩
  obtain rfl : ck = 0 := by omega
  rw [if_neg h0]
  clear h0
  obtain ⟨-, hvd, hk1, hk4, hn3, -, -, hol, -⟩ := hok rfl
  rw [hvd, hve hvd] at hhs
  simp only [Bool.true_and] at hhs
  clear hok hve
  replace hol := Lib.hid hol; replace hk1 := Lib.hid hk1; replace hk4 := Lib.hid hk4; replace hn3 := Lib.hid hn3
  obtain ⟨hb1, hh0⟩ : ∃ x, hasB n l p = x := ⟨_, rfl⟩
  obtain ⟨bb1, hh1⟩ : ∃ x, bw 0 v (K.length - 1) = x := ⟨_, rfl⟩
  simp only [hh0] at hhs ⊢
  simp only [hh1] at hbt ⊢
  replace hhs := Lib.hid hhs; replace hbt := Lib.hid hbt; replace hh1 := Lib.hid hh1
  clear hh0
  cases hb1
  · clear hh1
    go_enter Try.func19, Try.ntmps19
    go_upto_region 1 with (fail)
    refine wp_world fun W HW => ?_
    have hB : Below w.heap.size w W := by rw [HW.out]; (repeat (first | exact Below.refl _ _ | refine Below.alloc ?_ (by simp; try omega) _ | refine Below.setCell ?_ (by simp) _ | refine Below.drew ?_))
    have d0 : W.cell? ⟨w.heap.size, 0, none⟩ = some (.int .i64 n) := by rw [HW.out]; simp [go_sem]
    have d1 : W.cell? ⟨w.heap.size, 1, none⟩ = some (.slice s l.length cap) := by rw [HW.out]; simp [go_sem]
    have d2 : W.cell? ⟨w.heap.size, 2, none⟩ = some (.slice s2 K.length cq) := by rw [HW.out]; simp [go_sem]
    have dl : w.heap.size < W.heap.size := World.block_lt_of_cell? W _ d0
    have g0 : W.cell? ⟨w.heap.size + 1, 0, none⟩ = some (.int .i64 q.f.x) := by rw [HW.out]; simp [go_sem]
    have g1 : W.cell? ⟨w.heap.size + 1, 1, none⟩ = some (.int .i64 q.f.y) := by rw [HW.out]; simp [go_sem]
    have g2 : W.cell? ⟨w.heap.size + 1, 2, none⟩ = some (.int .i64 q.f.z) := by rw [HW.out]; simp [go_sem]
    have g3 : W.cell? ⟨w.heap.size + 1, 3, none⟩ = some (.slice q.s q.off.length q.cap) := by rw [HW.out]; simp [go_sem]
    have gl : w.heap.size + 1 < W.heap.size := World.block_lt_of_cell? W _ g0
    have x0 : W.cell? ⟨w.heap.size + 2, 0, none⟩ = some (.int .i64 v) := by rw [HW.out]; simp [go_sem]
    have x1 : W.cell? ⟨w.heap.size + 2, 1, none⟩ = some (.int .i64 p.x) := by rw [HW.out]; simp [go_sem]
    have x2 : W.cell? ⟨w.heap.size + 2, 2, none⟩ = some (.int .i64 p.y) := by rw [HW.out]; simp [go_sem]
    have x3 : W.cell? ⟨w.heap.size + 2, 3, none⟩ = some (.int .i64 p.z) := by rw [HW.out]; simp [go_sem]
    have xl : w.heap.size + 2 < W.heap.size := World.block_lt_of_cell? W _ x0
    try replace hr := up_of hB hr
    try replace hq := up_of hB hq
    go_wp2_with (first | (go_at_call 57; refine (hck.out _ _ hr hq).mono ?_; rintro e W1 ⟨rfl, hb⟩; (try replace hr := up_of hb hr); (try replace hq := up_of hb hq); (try replace hB := up_of hb hB); (try replace d0 := up_of hb d0); (try replace d1 := up_of hb d1); (try replace d2 := up_of hb d2); (try replace dl := up_of hb dl); (try replace g0 := up_of hb g0); (try replace g1 := up_of hb g1); (try replace g2 := up_of hb g2); (try replace g3 := up_of hb g3); (try replace gl := up_of hb gl); (try replace x0 := up_of hb x0); (try replace x1 := up_of hb x1); (try replace x2 := up_of hb x2); (try replace x3 := up_of hb x3); (try replace xl := up_of hb xl)) | (go_at_call 58; refine (hhs.out _ hr).mono ?_; rintro e W1 ⟨rfl, hb⟩; (try replace hr := up_of hb hr); (try replace hq := up_of hb hq); (try replace hB := up_of hb hB); (try replace d0 := up_of hb d0); (try replace d1 := up_of hb d1); (try replace d2 := up_of hb d2); (try replace dl := up_of hb dl); (try replace g0 := up_of hb g0); (try replace g1 := up_of hb g1); (try replace g2 := up_of hb g2); (try replace g3 := up_of hb g3); (try replace gl := up_of hb gl); (try replace x0 := up_of hb x0); (try replace x1 := up_of hb x1); (try replace x2 := up_of hb x2); (try replace x3 := up_of hb x3); (try replace xl := up_of hb xl)) | (go_at_call 59; refine (hbt.out _).mono ?_; rintro e w' ⟨rfl, rfl⟩))
    go_ret2
    exact ⟨rfl, hB⟩
  cases bb1
  · clear hh1
    go_enter Try.func19, Try.ntmps19
    go_upto_region 1 with (fail)
    refine wp_world fun W HW => ?_
    have hB : Below w.heap.size w W := by rw [HW.out]; (repeat (first | exact Below.refl _ _ | refine Below.alloc ?_ (by simp; try omega) _ | refine Below.setCell ?_ (by simp) _ | refine Below.drew ?_))
    have d0 : W.cell? ⟨w.heap.size, 0, none⟩ = some (.int .i64 n) := by rw [HW.out]; simp [go_sem]
    have d1 : W.cell? ⟨w.heap.size, 1, none⟩ = some (.slice s l.length cap) := by rw [HW.out]; simp [go_sem]
    have d2 : W.cell? ⟨w.heap.size, 2, none⟩ = some (.slice s2 K.length cq) := by rw [HW.out]; simp [go_sem]
    have dl : w.heap.size < W.heap.size := World.block_lt_of_cell? W _ d0
    have g0 : W.cell? ⟨w.heap.size + 1, 0, none⟩ = some (.int .i64 q.f.x) := by rw [HW.out]; simp [go_sem]
    have g1 : W.cell? ⟨w.heap.size + 1, 1, none⟩ = some (.int .i64 q.f.y) := by rw [HW.out]; simp [go_sem]
    have g2 : W.cell? ⟨w.heap.size + 1, 2, none⟩ = some (.int .i64 q.f.z) := by rw [HW.out]; simp [go_sem]
    have g3 : W.cell? ⟨w.heap.size + 1, 3, none⟩ = some (.slice q.s q.off.length q.cap) := by rw [HW.out]; simp [go_sem]
    have gl : w.heap.size + 1 < W.heap.size := World.block_lt_of_cell? W _ g0
    have x0 : W.cell? ⟨w.heap.size + 2, 0, none⟩ = some (.int .i64 v) := by rw [HW.out]; simp [go_sem]
    have x1 : W.cell? ⟨w.heap.size + 2, 1, none⟩ = some (.int .i64 p.x) := by rw [HW.out]; simp [go_sem]
    have x2 : W.cell? ⟨w.heap.size + 2, 2, none⟩ = some (.int .i64 p.y) := by rw [HW.out]; simp [go_sem]
    have x3 : W.cell? ⟨w.heap.size + 2, 3, none⟩ = some (.int .i64 p.z) := by rw [HW.out]; simp [go_sem]
    have xl : w.heap.size + 2 < W.heap.size := World.block_lt_of_cell? W _ x0
    try replace hr := up_of hB hr
    try replace hq := up_of hB hq
    go_wp2_with (first | (go_at_call 57; refine (hck.out _ _ hr hq).mono ?_; rintro e W1 ⟨rfl, hb⟩; (try replace hr := up_of hb hr); (try replace hq := up_of hb hq); (try replace hB := up_of hb hB); (try replace d0 := up_of hb d0); (try replace d1 := up_of hb d1); (try replace d2 := up_of hb d2); (try replace dl := up_of hb dl); (try replace g0 := up_of hb g0); (try replace g1 := up_of hb g1); (try replace g2 := up_of hb g2); (try replace g3 := up_of hb g3); (try replace gl := up_of hb gl); (try replace x0 := up_of hb x0); (try replace x1 := up_of hb x1); (try replace x2 := up_of hb x2); (try replace x3 := up_of hb x3); (try replace xl := up_of hb xl)) | (go_at_call 58; refine (hhs.out _ hr).mono ?_; rintro e W1 ⟨rfl, hb⟩; (try replace hr := up_of hb hr); (try replace hq := up_of hb hq); (try replace hB := up_of hb hB); (try replace d0 := up_of hb d0); (try replace d1 := up_of hb d1); (try replace d2 := up_of hb d2); (try replace dl := up_of hb dl); (try replace g0 := up_of hb g0); (try replace g1 := up_of hb g1); (try replace g2 := up_of hb g2); (try replace g3 := up_of hb g3); (try replace gl := up_of hb gl); (try replace x0 := up_of hb x0); (try replace x1 := up_of hb x1); (try replace x2 := up_of hb x2); (try replace x3 := up_of hb x3); (try replace xl := up_of hb xl)) | (go_at_call 59; refine (hbt.out _).mono ?_; rintro e w' ⟨rfl, rfl⟩))
    go_ret2
    exact ⟨rfl, hB⟩
  have hvr := bw_iff.1 hh1.out
  obtain ⟨vi, rfl⟩ : ∃ k : Nat, v = k := ⟨v.toNat, by omega⟩
  have hvo : vi < q.off.length := by have := hol.out; omega
  have htm := fun V => schTimes_c q.f p V
  have htw : timeW q (vi : Int).toNat p = IntKind.i64.wrap (wrap64 (dotZ q.f p) + q.off[vi]) := by
    unfold timeW; rw [Int.toNat_natCast, List.getD_eq_getElem?_getD, List.getElem?_eq_getElem hvo]; rfl
  obtain ⟨ov, hov⟩ : ∃ x, q.off[vi] = x := ⟨_, rfl⟩
  rw [hov] at htw
  simp only [htw]
  replace hov := Lib.hid hov
  obtain ⟨td, htd⟩ : ∃ x, wrap64 (dotZ q.f p) = x := ⟨_, rfl⟩
  simp only [htd] at htm ⊢
  replace htm := Lib.hid htm
  have v1 : (0 : Int) ≤ (vi : Int) := by omega
  have v2 : (vi : Int) < (q.off.length : Int) := by omega
  clear htd htw hh1 hvr
  go_enter Try.func19, Try.ntmps19
  go_upto_region 1 with (fail)
  refine wp_world fun W HW => ?_
  have hB : Below w.heap.size w W := by rw [HW.out]; (repeat (first | exact Below.refl _ _ | refine Below.alloc ?_ (by simp; try omega) _ | refine Below.setCell ?_ (by simp) _ | refine Below.drew ?_))
  have d0 : W.cell? ⟨w.heap.size, 0, none⟩ = some (.int .i64 n) := by rw [HW.out]; simp [go_sem]
  have d1 : W.cell? ⟨w.heap.size, 1, none⟩ = some (.slice s l.length cap) := by rw [HW.out]; simp [go_sem]
  have d2 : W.cell? ⟨w.heap.size, 2, none⟩ = some (.slice s2 K.length cq) := by rw [HW.out]; simp [go_sem]
  have dl : w.heap.size < W.heap.size := World.block_lt_of_cell? W _ d0
  have g0 : W.cell? ⟨w.heap.size + 1, 0, none⟩ = some (.int .i64 q.f.x) := by rw [HW.out]; simp [go_sem]
  have g1 : W.cell? ⟨w.heap.size + 1, 1, none⟩ = some (.int .i64 q.f.y) := by rw [HW.out]; simp [go_sem]
  have g2 : W.cell? ⟨w.heap.size + 1, 2, none⟩ = some (.int .i64 q.f.z) := by rw [HW.out]; simp [go_sem]
  have g3 : W.cell? ⟨w.heap.size + 1, 3, none⟩ = some (.slice q.s q.off.length q.cap) := by rw [HW.out]; simp [go_sem]
  have gl : w.heap.size + 1 < W.heap.size := World.block_lt_of_cell? W _ g0
  have x0 : W.cell? ⟨w.heap.size + 2, 0, none⟩ = some (.int .i64 vi) := by rw [HW.out]; simp [go_sem]
  have x1 : W.cell? ⟨w.heap.size + 2, 1, none⟩ = some (.int .i64 p.x) := by rw [HW.out]; simp [go_sem]
  have x2 : W.cell? ⟨w.heap.size + 2, 2, none⟩ = some (.int .i64 p.y) := by rw [HW.out]; simp [go_sem]
  have x3 : W.cell? ⟨w.heap.size + 2, 3, none⟩ = some (.int .i64 p.z) := by rw [HW.out]; simp [go_sem]
  have xl : w.heap.size + 2 < W.heap.size := World.block_lt_of_cell? W _ x0
  try replace hr := up_of hB hr
  try replace hq := up_of hB hq
  go_upto_region 7 with (first | (go_at_call 57; refine (hck.out _ _ hr hq).mono ?_; rintro e W1 ⟨rfl, hb⟩; (try replace hr := up_of hb hr); (try replace hq := up_of hb hq); (try replace hB := up_of hb hB); (try replace d0 := up_of hb d0); (try replace d1 := up_of hb d1); (try replace d2 := up_of hb d2); (try replace dl := up_of hb dl); (try replace g0 := up_of hb g0); (try replace g1 := up_of hb g1); (try replace g2 := up_of hb g2); (try replace g3 := up_of hb g3); (try replace gl := up_of hb gl); (try replace x0 := up_of hb x0); (try replace x1 := up_of hb x1); (try replace x2 := up_of hb x2); (try replace x3 := up_of hb x3); (try replace xl := up_of hb xl)) | (go_at_call 58; refine (hhs.out _ hr).mono ?_; rintro e W1 ⟨rfl, hb⟩; (try replace hr := up_of hb hr); (try replace hq := up_of hb hq); (try replace hB := up_of hb hB); (try replace d0 := up_of hb d0); (try replace d1 := up_of hb d1); (try replace d2 := up_of hb d2); (try replace dl := up_of hb dl); (try replace g0 := up_of hb g0); (try replace g1 := up_of hb g1); (try replace g2 := up_of hb g2); (try replace g3 := up_of hb g3); (try replace gl := up_of hb gl); (try replace x0 := up_of hb x0); (try replace x1 := up_of hb x1); (try replace x2 := up_of hb x2); (try replace x3 := up_of hb x3); (try replace xl := up_of hb xl)) | (go_at_call 59; refine (hbt.out _).mono ?_; rintro e w' ⟨rfl, rfl⟩))
  obtain ⟨b, off, e1, hb', q0⟩ := hq.off.int_at hvo
  rw [hov.out] at q0
  clear hov
  have hqo := hq.off
  rw [e1] at hqo
  obtain ⟨qs, hqs⟩ : ∃ x, q.s = x := ⟨_, rfl⟩
  simp only [hqs] at *
  subst e1
  go_region_held3 (fun V => V.cell? ⟨w.heap.size + 1, 0, none⟩ = some (.int .i64 q.f.x) ∧ V.cell? ⟨w.heap.size + 1, 1, none⟩ = some (.int .i64 q.f.y) ∧ V.cell? ⟨w.heap.size + 1, 2, none⟩ = some (.int .i64 q.f.z) ∧ V.cell? ⟨w.heap.size + 1, 3, none⟩ = some (.slice (some ⟨b, off, none⟩) q.off.length q.cap) ∧ V.cell? ⟨w.heap.size + 2, 0, none⟩ = some (.int .i64 vi) ∧ V.cell? ⟨w.heap.size + 2, 1, none⟩ = some (.int .i64 p.x) ∧ V.cell? ⟨w.heap.size + 2, 2, none⟩ = some (.int .i64 p.y) ∧ V.cell? ⟨w.heap.size + 2, 3, none⟩ = some (.int .i64 p.z) ∧ V.cell? ⟨b, off + vi, none⟩ = some (.int .i64 ov)) ((first | (with_reducible exact ⟨g0, g1, g2, g3, x0, x1, x2, x3, q0⟩) | ((try dsimp only); (repeat' apply And.intro) <;> (repeat (first | (with_reducible assumption) | (with_reducible refine cell_set (by simp; try omega) ?_) | (with_reducible refine cell_drew ?_) | (with_reducible refine cell_alloc ?_ _)))))) ((first | (go_at_call 60; refine calls_below (W0 := W1) ?_ fun hpre => ?_; (repeat (first | exact Below.refl _ _ | refine Below.alloc ?_ (by simp; try omega) _ | refine Below.drew ?_)); refine (htm.out _).mono ?_; rintro e N1 ⟨rfl, hb1⟩; have hb := Up.trans hpre hb1; clear hpre; (first | have hs_N1 := below_alloc_lt hb1 | have hs_N1 := below_alloc_lt (drewB hb1) | skip); have dl_N1 := dl; have gl_N1 := gl; have xl_N1 := xl; (try replace hr := up_of hb hr); (try replace hq := up_of hb hq); (try replace hB := up_of hb hB); (try replace d0 := up_of hb d0); (try replace d1 := up_of hb d1); (try replace d2 := up_of hb d2); (try replace dl := up_of hb dl); (try replace g0 := up_of hb g0); (try replace g1 := up_of hb g1); (try replace g2 := up_of hb g2); (try replace g3 := up_of hb g3); (try replace gl := up_of hb gl); (try replace x0 := up_of hb x0); (try replace x1 := up_of hb x1); (try replace x2 := up_of hb x2); (try replace x3 := up_of hb x3); (try replace xl := up_of hb xl); (try replace q0 := up_of hb q0); (first | have nB := new_up hb1 | have nB := new_up (drewB hb1) | (try replace nB := up_of hb nB)))))
  all_goals
    go_wp2
    go_ret2
    refine ⟨rfl, ?_⟩
    repeat (first | (with_reducible exact hB) | (with_reducible refine Below.drew ?_) | ((with_reducible refine Below.setC ?_ ?_); (focus (first | omega | (simp; done) | (simp; omega)))) | ((with_reducible refine Below.allo ?_ ?_); (focus (first | omega | (simp; done) | (simp; omega)))))
set_option maxRecDepth 100000 in
set_option maxHeartbeats 2000000 in
theorem timeOf_c (q : Sd) (v : Nat) (p : Pt) (w : World) (hq : SdM w q) (hv : v < q.off.length) :
    Calls Try.prog 63 #[.agg #[.int .i64 q.f.x, .int .i64 q.f.y, .int .i64 q.f.z, .slice q.s q.off.length q.cap], .agg #[.int .i64 v, .int .i64 p.x, .int .i64 p.y, .int .i64 p.z]] w fun e w' => e = .returned (.int .i64 (timeW q v p)) ∧ Below w.heap.size w w' := by
  have htm := fun V => Dot_c q.f p V
  have htw : timeW q v p = IntKind.i64.wrap (wrap64 (dotZ q.f p) + q.off[v]) := by
    unfold timeW; rw [List.getD_eq_getElem?_getD, List.getElem?_eq_getElem hv]; rfl
  have hql := hq.len
  obtain ⟨ov, hov⟩ : ∃ x, q.off[v] = x := ⟨_, rfl⟩
  rw [hov] at htw
  simp only [htw]
  replace hov := Lib.hid hov
  obtain ⟨td, htd⟩ : ∃ x, wrap64 (dotZ q.f p) = x := ⟨_, rfl⟩
  simp only [htd] at htm ⊢
  replace htm := Lib.hid htm
  have v1 : (0 : Int) ≤ (v : Int) := by omega
  have v2 : (v : Int) < (q.off.length : Int) := by omega
  clear htd htw
  go_enter Try.func63, Try.ntmps63
  go_upto_region 1 with (fail)
  refine wp_world fun W HW => ?_
  have hB : Below w.heap.size w W := by rw [HW.out]; (repeat (first | exact Below.refl _ _ | refine Below.alloc ?_ (by simp; try omega) _ | refine Below.setCell ?_ (by simp) _ | refine Below.drew ?_))
  have g0 : W.cell? ⟨w.heap.size, 0, none⟩ = some (.int .i64 q.f.x) := by rw [HW.out]; simp [go_sem]
  have g1 : W.cell? ⟨w.heap.size, 1, none⟩ = some (.int .i64 q.f.y) := by rw [HW.out]; simp [go_sem]
  have g2 : W.cell? ⟨w.heap.size, 2, none⟩ = some (.int .i64 q.f.z) := by rw [HW.out]; simp [go_sem]
  have g3 : W.cell? ⟨w.heap.size, 3, none⟩ = some (.slice q.s q.off.length q.cap) := by rw [HW.out]; simp [go_sem]
  have gl : w.heap.size < W.heap.size := World.block_lt_of_cell? W _ g0
  have x0 : W.cell? ⟨w.heap.size + 1, 0, none⟩ = some (.int .i64 v) := by rw [HW.out]; simp [go_sem]
  have x1 : W.cell? ⟨w.heap.size + 1, 1, none⟩ = some (.int .i64 p.x) := by rw [HW.out]; simp [go_sem]
  have x2 : W.cell? ⟨w.heap.size + 1, 2, none⟩ = some (.int .i64 p.y) := by rw [HW.out]; simp [go_sem]
  have x3 : W.cell? ⟨w.heap.size + 1, 3, none⟩ = some (.int .i64 p.z) := by rw [HW.out]; simp [go_sem]
  have xl : w.heap.size + 1 < W.heap.size := World.block_lt_of_cell? W _ x0
  try replace hq := up_of hB hq
  obtain ⟨b, off, e1, hb', q0⟩ := hq.off.int_at hv
  rw [hov.out] at q0
  clear hov
  obtain ⟨qs, hqs⟩ : ∃ x, q.s = x := ⟨_, rfl⟩
  simp only [hqs] at *
  subst e1
  go_region_held3 (fun V => V.cell? ⟨w.heap.size, 0, none⟩ = some (.int .i64 q.f.x) ∧ V.cell? ⟨w.heap.size, 1, none⟩ = some (.int .i64 q.f.y) ∧ V.cell? ⟨w.heap.size, 2, none⟩ = some (.int .i64 q.f.z) ∧ V.cell? ⟨w.heap.size, 3, none⟩ = some (.slice (some ⟨b, off, none⟩) q.off.length q.cap) ∧ V.cell? ⟨w.heap.size + 1, 0, none⟩ = some (.int .i64 v) ∧ V.cell? ⟨w.heap.size + 1, 1, none⟩ = some (.int .i64 p.x) ∧ V.cell? ⟨w.heap.size + 1, 2, none⟩ = some (.int .i64 p.y) ∧ V.cell? ⟨w.heap.size + 1, 3, none⟩ = some (.int .i64 p.z) ∧ V.cell? ⟨b, off + v, none⟩ = some (.int .i64 ov)) ((first | (with_reducible exact ⟨g0, g1, g2, g3, x0, x1, x2, x3, q0⟩) | ((try dsimp only); (repeat' apply And.intro) <;> (repeat (first | (with_reducible assumption) | (with_reducible refine cell_set (by simp; try omega) ?_) | (with_reducible refine cell_drew ?_) | (with_reducible refine cell_alloc ?_ _)))))) ((first | (go_at_call 78; refine calls_below (W0 := W) ?_ fun hpre => ?_; (repeat (first | exact Below.refl _ _ | refine Below.alloc ?_ (by simp; try omega) _ | refine Below.drew ?_)); refine (htm.out _).mono ?_; rintro e N1 ⟨rfl, hb1⟩; have hb := Up.trans hpre hb1; clear hpre; (first | have hs_N1 := below_alloc_lt hb1 | have hs_N1 := below_alloc_lt (drewB hb1) | skip); have gl_N1 := gl; have xl_N1 := xl; (try replace hq := up_of hb hq); (try replace hB := up_of hb hB); (try replace g0 := up_of hb g0); (try replace g1 := up_of hb g1); (try replace g2 := up_of hb g2); (try replace g3 := up_of hb g3); (try replace gl := up_of hb gl); (try replace x0 := up_of hb x0); (try replace x1 := up_of hb x1); (try replace x2 := up_of hb x2); (try replace x3 := up_of hb x3); (try replace xl := up_of hb xl); (try replace q0 := up_of hb q0); (first | have nB := new_up hb1 | have nB := new_up (drewB hb1) | (try replace nB := up_of hb nB)))))
  all_goals
    go_wp2
    go_ret
    refine ⟨rfl, ?_⟩
    repeat (first | (with_reducible exact hB) | (with_reducible refine Below.drew ?_) | ((with_reducible refine Below.setC ?_ ?_); (focus (first | omega | (simp; done) | (simp; omega)))) | ((with_reducible refine Below.allo ?_ ?_); (focus (first | omega | (simp; done) | (simp; omega)))))
set_option maxRecDepth 100000 in
set_option maxHeartbeats 2000000 in
theorem rTime_c (n : Int) (s : Option Addr) (cap : Nat) (l : List Iq) (s2 : Option Addr) (cq : Nat) (K : List Vv) (q : Sd) (v : Int) (p : Pt) (w : World) (hr : RecM w s l s2 cq K) (hq : SdM w q) :
    Calls Try.prog 20 #[.agg #[.int .i64 n, .slice s l.length cap, .slice s2 K.length cq], .agg #[.int .i64 q.f.x, .int .i64 q.f.y, .int .i64 q.f.z, .slice q.s q.off.length q.cap], .agg #[.int .i64 v, .int .i64 p.x, .int .i64 p.y, .int .i64 p.z]] w fun e w' => e = .returned (timeR n l K q v p) ∧ Below w.heap.size w w' := by
  have hck := fun V (h : RecM V s l s2 cq K) (h2 : SdM V q) => Asked_c n s cap l s2 cq K q V h h2
  have hhs := fun V (h : RecM V s l s2 cq K) => rHas_t n s cap l p V h.dom
  have hok := chk_ok (n := n) (l := l) (K := K) (q := q)
  have hkl := hr.len
  have hve : validB n l = true → vE n l = 0 := fun h => by unfold vE; rw [if_pos h]
  unfold timeR
  obtain ⟨ck, hck0⟩ : ∃ x, chkE n l K [q] = x := ⟨_, rfl⟩
  simp only [hck0] at hck hok ⊢
  clear hck0
  replace hck := Lib.hid hck
  by_cases h0 : ck ≠ 0
  · rw [if_pos h0]
    have k1 : (ck != 0) = true := bne_iff_ne.2 h0
    clear hok hhs hve
    go_enter Try.func20, Try.ntmps20
    go_upto_region 1 with (fail)
    refine wp_world fun W HW => ?_
    have hB : Below w.heap.size w W := by rw [HW.out]; (repeat (first | exact Below.refl _ _ | refine Below.alloc ?_ (by simp; try omega) _ | refine Below.setCell ?_ (by simp) _ | refine Below.drew ?_))
    have d0 : W.cell? ⟨w.heap.size, 0, none⟩ = some (.int .i64 n) := by rw [HW.out]; simp [go_sem]
    have d1 : W.cell? ⟨w.heap.size, 1, none⟩ = some (.slice s l.length cap) := by rw [HW.out]; simp [go_sem]
    have d2 : W.cell? ⟨w.heap.size, 2, none⟩ = some (.slice s2 K.length cq) := by rw [HW.out]; simp [go_sem]
    have dl : w.heap.size < W.heap.size := World.block_lt_of_cell? W _ d0
    have g0 : W.cell? ⟨w.heap.size + 1, 0, none⟩ = some (.int .i64 q.f.x) := by rw [HW.out]; simp [go_sem]
    have g1 : W.cell? ⟨w.heap.size + 1, 1, none⟩ = some (.int .i64 q.f.y) := by rw [HW.out]; simp [go_sem]
    have g2 : W.cell? ⟨w.heap.size + 1, 2, none⟩ = some (.int .i64 q.f.z) := by rw [HW.out]; simp [go_sem]
    have g3 : W.cell? ⟨w.heap.size + 1, 3, none⟩ = some (.slice q.s q.off.length q.cap) := by rw [HW.out]; simp [go_sem]
    have gl : w.heap.size + 1 < W.heap.size := World.block_lt_of_cell? W _ g0
    have x0 : W.cell? ⟨w.heap.size + 2, 0, none⟩ = some (.int .i64 v) := by rw [HW.out]; simp [go_sem]
    have x1 : W.cell? ⟨w.heap.size + 2, 1, none⟩ = some (.int .i64 p.x) := by rw [HW.out]; simp [go_sem]
    have x2 : W.cell? ⟨w.heap.size + 2, 2, none⟩ = some (.int .i64 p.y) := by rw [HW.out]; simp [go_sem]
    have x3 : W.cell? ⟨w.heap.size + 2, 3, none⟩ = some (.int .i64 p.z) := by rw [HW.out]; simp [go_sem]
    have xl : w.heap.size + 2 < W.heap.size := World.block_lt_of_cell? W _ x0
    try replace hr := up_of hB hr
    try replace hq := up_of hB hq
    go_wp2_with (first | (go_at_call 61; refine (hck.out _ hr hq).mono ?_; rintro e W1 ⟨rfl, hb⟩; (try replace hr := up_of hb hr); (try replace hq := up_of hb hq); (try replace hB := up_of hb hB); (try replace d0 := up_of hb d0); (try replace d1 := up_of hb d1); (try replace d2 := up_of hb d2); (try replace dl := up_of hb dl); (try replace g0 := up_of hb g0); (try replace g1 := up_of hb g1); (try replace g2 := up_of hb g2); (try replace g3 := up_of hb g3); (try replace gl := up_of hb gl); (try replace x0 := up_of hb x0); (try replace x1 := up_of hb x1); (try replace x2 := up_of hb x2); (try replace x3 := up_of hb x3); (try replace xl := up_of hb xl)))
    go_ret2
    exact ⟨rfl, hB⟩
  obtain rfl : ck = 0 := by omega
  rw [if_neg h0]
  clear h0
  obtain ⟨-, hvd, hk1, hk4, hn3, -, -, hol, -⟩ := hok rfl
  rw [hvd, hve hvd] at hhs
  simp only [Bool.true_and] at hhs
  clear hok hve
  replace hol := Lib.hid hol; replace hk1 := Lib.hid hk1; replace hk4 := Lib.hid hk4; replace hn3 := Lib.hid hn3
  obtain ⟨hb1, hh0⟩ : ∃ x, hasB n l p = x := ⟨_, rfl⟩
  simp only [hh0] at hhs ⊢
  replace hhs := Lib.hid hhs
  clear hh0
  cases hb1
  · go_enter Try.func20, Try.ntmps20
    go_upto_region 1 with (fail)
    refine wp_world fun W HW => ?_
    have hB : Below w.heap.size w W := by rw [HW.out]; (repeat (first | exact Below.refl _ _ | refine Below.alloc ?_ (by simp; try omega) _ | refine Below.setCell ?_ (by simp) _ | refine Below.drew ?_))
    have d0 : W.cell? ⟨w.heap.size, 0, none⟩ = some (.int .i64 n) := by rw [HW.out]; simp [go_sem]
    have d1 : W.cell? ⟨w.heap.size, 1, none⟩ = some (.slice s l.length cap) := by rw [HW.out]; simp [go_sem]
    have d2 : W.cell? ⟨w.heap.size, 2, none⟩ = some (.slice s2 K.length cq) := by rw [HW.out]; simp [go_sem]
    have dl : w.heap.size < W.heap.size := World.block_lt_of_cell? W _ d0
    have g0 : W.cell? ⟨w.heap.size + 1, 0, none⟩ = some (.int .i64 q.f.x) := by rw [HW.out]; simp [go_sem]
    have g1 : W.cell? ⟨w.heap.size + 1, 1, none⟩ = some (.int .i64 q.f.y) := by rw [HW.out]; simp [go_sem]
    have g2 : W.cell? ⟨w.heap.size + 1, 2, none⟩ = some (.int .i64 q.f.z) := by rw [HW.out]; simp [go_sem]
    have g3 : W.cell? ⟨w.heap.size + 1, 3, none⟩ = some (.slice q.s q.off.length q.cap) := by rw [HW.out]; simp [go_sem]
    have gl : w.heap.size + 1 < W.heap.size := World.block_lt_of_cell? W _ g0
    have x0 : W.cell? ⟨w.heap.size + 2, 0, none⟩ = some (.int .i64 v) := by rw [HW.out]; simp [go_sem]
    have x1 : W.cell? ⟨w.heap.size + 2, 1, none⟩ = some (.int .i64 p.x) := by rw [HW.out]; simp [go_sem]
    have x2 : W.cell? ⟨w.heap.size + 2, 2, none⟩ = some (.int .i64 p.y) := by rw [HW.out]; simp [go_sem]
    have x3 : W.cell? ⟨w.heap.size + 2, 3, none⟩ = some (.int .i64 p.z) := by rw [HW.out]; simp [go_sem]
    have xl : w.heap.size + 2 < W.heap.size := World.block_lt_of_cell? W _ x0
    try replace hr := up_of hB hr
    try replace hq := up_of hB hq
    go_wp2_with (first | (go_at_call 61; refine (hck.out _ hr hq).mono ?_; rintro e W1 ⟨rfl, hb⟩; (try replace hr := up_of hb hr); (try replace hq := up_of hb hq); (try replace hB := up_of hb hB); (try replace d0 := up_of hb d0); (try replace d1 := up_of hb d1); (try replace d2 := up_of hb d2); (try replace dl := up_of hb dl); (try replace g0 := up_of hb g0); (try replace g1 := up_of hb g1); (try replace g2 := up_of hb g2); (try replace g3 := up_of hb g3); (try replace gl := up_of hb gl); (try replace x0 := up_of hb x0); (try replace x1 := up_of hb x1); (try replace x2 := up_of hb x2); (try replace x3 := up_of hb x3); (try replace xl := up_of hb xl)) | (go_at_call 62; refine (hhs.out _ hr).mono ?_; rintro e W1 ⟨rfl, hb⟩; (try replace hr := up_of hb hr); (try replace hq := up_of hb hq); (try replace hB := up_of hb hB); (try replace d0 := up_of hb d0); (try replace d1 := up_of hb d1); (try replace d2 := up_of hb d2); (try replace dl := up_of hb dl); (try replace g0 := up_of hb g0); (try replace g1 := up_of hb g1); (try replace g2 := up_of hb g2); (try replace g3 := up_of hb g3); (try replace gl := up_of hb gl); (try replace x0 := up_of hb x0); (try replace x1 := up_of hb x1); (try replace x2 := up_of hb x2); (try replace x3 := up_of hb x3); (try replace xl := up_of hb xl)))
    go_ret2
    exact ⟨rfl, hB⟩
  by_cases hv0 : v < 0
  · rw [show bw 0 v (K.length - 1) = false by simp [bw]; omega]
    go_enter Try.func20, Try.ntmps20
    go_upto_region 1 with (fail)
    refine wp_world fun W HW => ?_
    have hB : Below w.heap.size w W := by rw [HW.out]; (repeat (first | exact Below.refl _ _ | refine Below.alloc ?_ (by simp; try omega) _ | refine Below.setCell ?_ (by simp) _ | refine Below.drew ?_))
    have d0 : W.cell? ⟨w.heap.size, 0, none⟩ = some (.int .i64 n) := by rw [HW.out]; simp [go_sem]
    have d1 : W.cell? ⟨w.heap.size, 1, none⟩ = some (.slice s l.length cap) := by rw [HW.out]; simp [go_sem]
    have d2 : W.cell? ⟨w.heap.size, 2, none⟩ = some (.slice s2 K.length cq) := by rw [HW.out]; simp [go_sem]
    have dl : w.heap.size < W.heap.size := World.block_lt_of_cell? W _ d0
    have g0 : W.cell? ⟨w.heap.size + 1, 0, none⟩ = some (.int .i64 q.f.x) := by rw [HW.out]; simp [go_sem]
    have g1 : W.cell? ⟨w.heap.size + 1, 1, none⟩ = some (.int .i64 q.f.y) := by rw [HW.out]; simp [go_sem]
    have g2 : W.cell? ⟨w.heap.size + 1, 2, none⟩ = some (.int .i64 q.f.z) := by rw [HW.out]; simp [go_sem]
    have g3 : W.cell? ⟨w.heap.size + 1, 3, none⟩ = some (.slice q.s q.off.length q.cap) := by rw [HW.out]; simp [go_sem]
    have gl : w.heap.size + 1 < W.heap.size := World.block_lt_of_cell? W _ g0
    have x0 : W.cell? ⟨w.heap.size + 2, 0, none⟩ = some (.int .i64 v) := by rw [HW.out]; simp [go_sem]
    have x1 : W.cell? ⟨w.heap.size + 2, 1, none⟩ = some (.int .i64 p.x) := by rw [HW.out]; simp [go_sem]
    have x2 : W.cell? ⟨w.heap.size + 2, 2, none⟩ = some (.int .i64 p.y) := by rw [HW.out]; simp [go_sem]
    have x3 : W.cell? ⟨w.heap.size + 2, 3, none⟩ = some (.int .i64 p.z) := by rw [HW.out]; simp [go_sem]
    have xl : w.heap.size + 2 < W.heap.size := World.block_lt_of_cell? W _ x0
    try replace hr := up_of hB hr
    try replace hq := up_of hB hq
    go_wp2_with (first | (go_at_call 61; refine (hck.out _ hr hq).mono ?_; rintro e W1 ⟨rfl, hb⟩; (try replace hr := up_of hb hr); (try replace hq := up_of hb hq); (try replace hB := up_of hb hB); (try replace d0 := up_of hb d0); (try replace d1 := up_of hb d1); (try replace d2 := up_of hb d2); (try replace dl := up_of hb dl); (try replace g0 := up_of hb g0); (try replace g1 := up_of hb g1); (try replace g2 := up_of hb g2); (try replace g3 := up_of hb g3); (try replace gl := up_of hb gl); (try replace x0 := up_of hb x0); (try replace x1 := up_of hb x1); (try replace x2 := up_of hb x2); (try replace x3 := up_of hb x3); (try replace xl := up_of hb xl)) | (go_at_call 62; refine (hhs.out _ hr).mono ?_; rintro e W1 ⟨rfl, hb⟩; (try replace hr := up_of hb hr); (try replace hq := up_of hb hq); (try replace hB := up_of hb hB); (try replace d0 := up_of hb d0); (try replace d1 := up_of hb d1); (try replace d2 := up_of hb d2); (try replace dl := up_of hb dl); (try replace g0 := up_of hb g0); (try replace g1 := up_of hb g1); (try replace g2 := up_of hb g2); (try replace g3 := up_of hb g3); (try replace gl := up_of hb gl); (try replace x0 := up_of hb x0); (try replace x1 := up_of hb x1); (try replace x2 := up_of hb x2); (try replace x3 := up_of hb x3); (try replace xl := up_of hb xl)))
    go_ret2
    exact ⟨rfl, hB⟩
  by_cases hv1 : (K.length : Int) ≤ v
  · rw [show bw 0 v (K.length - 1) = false by simp [bw]; omega]
    go_enter Try.func20, Try.ntmps20
    go_upto_region 1 with (fail)
    refine wp_world fun W HW => ?_
    have hB : Below w.heap.size w W := by rw [HW.out]; (repeat (first | exact Below.refl _ _ | refine Below.alloc ?_ (by simp; try omega) _ | refine Below.setCell ?_ (by simp) _ | refine Below.drew ?_))
    have d0 : W.cell? ⟨w.heap.size, 0, none⟩ = some (.int .i64 n) := by rw [HW.out]; simp [go_sem]
    have d1 : W.cell? ⟨w.heap.size, 1, none⟩ = some (.slice s l.length cap) := by rw [HW.out]; simp [go_sem]
    have d2 : W.cell? ⟨w.heap.size, 2, none⟩ = some (.slice s2 K.length cq) := by rw [HW.out]; simp [go_sem]
    have dl : w.heap.size < W.heap.size := World.block_lt_of_cell? W _ d0
    have g0 : W.cell? ⟨w.heap.size + 1, 0, none⟩ = some (.int .i64 q.f.x) := by rw [HW.out]; simp [go_sem]
    have g1 : W.cell? ⟨w.heap.size + 1, 1, none⟩ = some (.int .i64 q.f.y) := by rw [HW.out]; simp [go_sem]
    have g2 : W.cell? ⟨w.heap.size + 1, 2, none⟩ = some (.int .i64 q.f.z) := by rw [HW.out]; simp [go_sem]
    have g3 : W.cell? ⟨w.heap.size + 1, 3, none⟩ = some (.slice q.s q.off.length q.cap) := by rw [HW.out]; simp [go_sem]
    have gl : w.heap.size + 1 < W.heap.size := World.block_lt_of_cell? W _ g0
    have x0 : W.cell? ⟨w.heap.size + 2, 0, none⟩ = some (.int .i64 v) := by rw [HW.out]; simp [go_sem]
    have x1 : W.cell? ⟨w.heap.size + 2, 1, none⟩ = some (.int .i64 p.x) := by rw [HW.out]; simp [go_sem]
    have x2 : W.cell? ⟨w.heap.size + 2, 2, none⟩ = some (.int .i64 p.y) := by rw [HW.out]; simp [go_sem]
    have x3 : W.cell? ⟨w.heap.size + 2, 3, none⟩ = some (.int .i64 p.z) := by rw [HW.out]; simp [go_sem]
    have xl : w.heap.size + 2 < W.heap.size := World.block_lt_of_cell? W _ x0
    try replace hr := up_of hB hr
    try replace hq := up_of hB hq
    go_wp2_with (first | (go_at_call 61; refine (hck.out _ hr hq).mono ?_; rintro e W1 ⟨rfl, hb⟩; (try replace hr := up_of hb hr); (try replace hq := up_of hb hq); (try replace hB := up_of hb hB); (try replace d0 := up_of hb d0); (try replace d1 := up_of hb d1); (try replace d2 := up_of hb d2); (try replace dl := up_of hb dl); (try replace g0 := up_of hb g0); (try replace g1 := up_of hb g1); (try replace g2 := up_of hb g2); (try replace g3 := up_of hb g3); (try replace gl := up_of hb gl); (try replace x0 := up_of hb x0); (try replace x1 := up_of hb x1); (try replace x2 := up_of hb x2); (try replace x3 := up_of hb x3); (try replace xl := up_of hb xl)) | (go_at_call 62; refine (hhs.out _ hr).mono ?_; rintro e W1 ⟨rfl, hb⟩; (try replace hr := up_of hb hr); (try replace hq := up_of hb hq); (try replace hB := up_of hb hB); (try replace d0 := up_of hb d0); (try replace d1 := up_of hb d1); (try replace d2 := up_of hb d2); (try replace dl := up_of hb dl); (try replace g0 := up_of hb g0); (try replace g1 := up_of hb g1); (try replace g2 := up_of hb g2); (try replace g3 := up_of hb g3); (try replace gl := up_of hb gl); (try replace x0 := up_of hb x0); (try replace x1 := up_of hb x1); (try replace x2 := up_of hb x2); (try replace x3 := up_of hb x3); (try replace xl := up_of hb xl)))
    go_ret2
    exact ⟨rfl, hB⟩
  rw [show bw 0 v (K.length - 1) = true by rw [bw_iff]; omega]
  obtain ⟨vi, rfl⟩ : ∃ k : Nat, v = k := ⟨v.toNat, by omega⟩
  have hvo : vi < q.off.length := by have := hol.out; omega
  have hto := fun V (h : SdM V q) => timeOf_c q vi p V h hvo
  simp only [Int.toNat_natCast]
  obtain ⟨tw, htw⟩ : ∃ x, timeW q vi p = x := ⟨_, rfl⟩
  simp only [htw] at hto ⊢
  replace hto := Lib.hid hto
  clear htw
  go_enter Try.func20, Try.ntmps20
  go_upto_region 1 with (fail)
  refine wp_world fun W HW => ?_
  have hB : Below w.heap.size w W := by rw [HW.out]; (repeat (first | exact Below.refl _ _ | refine Below.alloc ?_ (by simp; try omega) _ | refine Below.setCell ?_ (by simp) _ | refine Below.drew ?_))
  have d0 : W.cell? ⟨w.heap.size, 0, none⟩ = some (.int .i64 n) := by rw [HW.out]; simp [go_sem]
  have d1 : W.cell? ⟨w.heap.size, 1, none⟩ = some (.slice s l.length cap) := by rw [HW.out]; simp [go_sem]
  have d2 : W.cell? ⟨w.heap.size, 2, none⟩ = some (.slice s2 K.length cq) := by rw [HW.out]; simp [go_sem]
  have dl : w.heap.size < W.heap.size := World.block_lt_of_cell? W _ d0
  have g0 : W.cell? ⟨w.heap.size + 1, 0, none⟩ = some (.int .i64 q.f.x) := by rw [HW.out]; simp [go_sem]
  have g1 : W.cell? ⟨w.heap.size + 1, 1, none⟩ = some (.int .i64 q.f.y) := by rw [HW.out]; simp [go_sem]
  have g2 : W.cell? ⟨w.heap.size + 1, 2, none⟩ = some (.int .i64 q.f.z) := by rw [HW.out]; simp [go_sem]
  have g3 : W.cell? ⟨w.heap.size + 1, 3, none⟩ = some (.slice q.s q.off.length q.cap) := by rw [HW.out]; simp [go_sem]
  have gl : w.heap.size + 1 < W.heap.size := World.block_lt_of_cell? W _ g0
  have x0 : W.cell? ⟨w.heap.size + 2, 0, none⟩ = some (.int .i64 vi) := by rw [HW.out]; simp [go_sem]
  have x1 : W.cell? ⟨w.heap.size + 2, 1, none⟩ = some (.int .i64 p.x) := by rw [HW.out]; simp [go_sem]
  have x2 : W.cell? ⟨w.heap.size + 2, 2, none⟩ = some (.int .i64 p.y) := by rw [HW.out]; simp [go_sem]
  have x3 : W.cell? ⟨w.heap.size + 2, 3, none⟩ = some (.int .i64 p.z) := by rw [HW.out]; simp [go_sem]
  have xl : w.heap.size + 2 < W.heap.size := World.block_lt_of_cell? W _ x0
  try replace hr := up_of hB hr
  try replace hq := up_of hB hq
  go_wp2_with (first | (go_at_call 61; refine (hck.out _ hr hq).mono ?_; rintro e W1 ⟨rfl, hb⟩; (try replace hr := up_of hb hr); (try replace hq := up_of hb hq); (try replace hB := up_of hb hB); (try replace d0 := up_of hb d0); (try replace d1 := up_of hb d1); (try replace d2 := up_of hb d2); (try replace dl := up_of hb dl); (try replace g0 := up_of hb g0); (try replace g1 := up_of hb g1); (try replace g2 := up_of hb g2); (try replace g3 := up_of hb g3); (try replace gl := up_of hb gl); (try replace x0 := up_of hb x0); (try replace x1 := up_of hb x1); (try replace x2 := up_of hb x2); (try replace x3 := up_of hb x3); (try replace xl := up_of hb xl)) | (go_at_call 62; refine (hhs.out _ hr).mono ?_; rintro e W1 ⟨rfl, hb⟩; (try replace hr := up_of hb hr); (try replace hq := up_of hb hq); (try replace hB := up_of hb hB); (try replace d0 := up_of hb d0); (try replace d1 := up_of hb d1); (try replace d2 := up_of hb d2); (try replace dl := up_of hb dl); (try replace g0 := up_of hb g0); (try replace g1 := up_of hb g1); (try replace g2 := up_of hb g2); (try replace g3 := up_of hb g3); (try replace gl := up_of hb gl); (try replace x0 := up_of hb x0); (try replace x1 := up_of hb x1); (try replace x2 := up_of hb x2); (try replace x3 := up_of hb x3); (try replace xl := up_of hb xl)) | (go_at_call 63; refine (hto.out _ hq).mono ?_; rintro e W1 ⟨rfl, hb⟩; (try replace hr := up_of hb hr); (try replace hq := up_of hb hq); (try replace hB := up_of hb hB); (try replace d0 := up_of hb d0); (try replace d1 := up_of hb d1); (try replace d2 := up_of hb d2); (try replace dl := up_of hb dl); (try replace g0 := up_of hb g0); (try replace g1 := up_of hb g1); (try replace g2 := up_of hb g2); (try replace g3 := up_of hb g3); (try replace gl := up_of hb gl); (try replace x0 := up_of hb x0); (try replace x1 := up_of hb x1); (try replace x2 := up_of hb x2); (try replace x3 := up_of hb x3); (try replace xl := up_of hb xl)))
  go_ret2
  exact ⟨rfl, hB⟩
end Go.Proofs.Ytbpdgoedglkefaa
