/- Legal schedules and delays, as exported; lists and tables that are the same. -/
import Derived.Test.YtbpdgoedglkefaaSch15
namespace Go.Proofs.Ytbpdgoedglkefaa
open Go.RowKit

def legR (n : Int) (l : List Iq) (K : List Vv) (q : Sd) : Bool := decide (chkE n l K [q] = 0) && legB K q
def delD (n : Int) (l : List Iq) (K : List Vv) (q : Sd) : List (List Int) := if chkE n l K [q] = 0 then delT K q else []
theorem delD_bd (n : Int) (l : List Iq) (K : List Vv) (q : Sd) : (delD n l K q).length ≤ 4 ∧ ∀ r ∈ delD n l K q, r.length ≤ 3 := by
  unfold delD
  split
  · rename_i h
    obtain ⟨hrb, -, -, hk4, -⟩ := chk_ok h
    exact ⟨by rw [delT_len]; exact hk4, delT_bd hrb q⟩
  · simp
set_option maxRecDepth 100000 in
set_option maxHeartbeats 2000000 in
theorem Legal_c (n : Int) (s : Option Addr) (cap : Nat) (l : List Iq) (s2 : Option Addr) (cq : Nat) (K : List Vv) (q : Sd) (w : World) (hr : RecM w s l s2 cq K) (hq : SdM w q) :
    Calls Try.prog 25 #[.agg #[.int .i64 n, .slice s l.length cap, .slice s2 K.length cq], .agg #[.int .i64 q.f.x, .int .i64 q.f.y, .int .i64 q.f.z, .slice q.s q.off.length q.cap]] w fun e w' => e = .returned (.tuple #[.bool (legR n l K q), .int .i64 (chkE n l K [q])]) ∧ Below w.heap.size w w' := by
  have hck := fun V t (h : RecM V s l s2 cq K) (h2 : SdM V q) => checkedN_c n s cap l s2 cq K q t V h h2
  have hleg := fun V (h : RecM V s l s2 cq K) (h2 : SdM V q) g0 g1 g2 => legal_c n s cap l s2 cq K q V h h2 g0 g1 g2
  have hok := chk_ok (n := n) (l := l) (K := K) (q := q)
  unfold legR
  obtain ⟨B, hB0⟩ : ∃ x, legB K q = x := ⟨_, rfl⟩
  obtain ⟨ck, hck0⟩ : ∃ x, chkE n l K [q] = x := ⟨_, rfl⟩
  simp only [hck0, hB0] at hck hok hleg ⊢
  clear hck0 hB0
  replace hck := Lib.hid hck
  by_cases h0 : ck = 0
  · subst h0
    obtain ⟨hrb, -, -, hk4, -, -, -, hol, -⟩ := hok rfl
    have hl2 := fun V (h : RecM V s l s2 cq K) (h2 : SdM V q) => hleg V h h2 hrb hol hk4
    rw [decide_eq_true rfl, Bool.true_and]
    replace hl2 := Lib.hid hl2
    clear hok hleg hrb hk4 hol
    go_enter Try.func25, Try.ntmps25
    go_upto_region 1 with (fail)
    refine wp_world fun W HW => ?_
    have hB : Below w.heap.size w W := by rw [HW.out]; (repeat (first | exact Below.refl _ _ | refine Below.alloc ?_ (by simp; try omega) _ | refine Below.setCell ?_ (by simp) _ | refine Below.drew ?_))
    have d0 : W.cell? ⟨w.heap.size, 0, none⟩ = some (.int .i64 n) := by rw [HW.out]; simp [go_sem]
    have d1 : W.cell? ⟨w.heap.size, 1, none⟩ = some (.slice s l.length cap) := by rw [HW.out]; simp [go_sem]
    have d2 : W.cell? ⟨w.heap.size, 2, none⟩ = some (.slice s2 K.length cq) := by rw [HW.out]; simp [go_sem]
    have dl : w.heap.size < W.heap.size := World.block_lt_of_cell? W _ d0
    have g0 : W.cell? ⟨w.heap.size + 1, 0, none⟩ = some (.int .i64 q.f.x) := by rw [HW.out]; simp [go_sem]
    have g1 : W.cell? ⟨w.heap.size + 1, 1, none⟩ = some (.int .i64 q.f.y) := by rw [HW.out]; simp [go_sem]
    have g2 : W.cell? ⟨w.heap.size + 1, 2, none⟩ = some (.int .i64 q.f.z) := by rw [HW.out]; simp [go_sem]
    have g3 : W.cell? ⟨w.heap.size + 1, 3, none⟩ = some (.slice q.s q.off.length q.cap) := by rw [HW.out]; simp [go_sem]
    have gl : w.heap.size + 1 < W.heap.size := World.block_lt_of_cell? W _ g0
    try replace hr := up_of hB hr
    try replace hq := up_of hB hq
    go_upto_region 4 with (first | (go_at_call 57; refine (hck.out _ _ hr hq).mono ?_; rintro e W1 ⟨rfl, hb⟩; (try replace hr := up_of hb hr); (try replace hq := up_of hb hq); (try replace hB := up_of hb hB); (try replace d0 := up_of hb d0); (try replace d1 := up_of hb d1); (try replace d2 := up_of hb d2); (try replace dl := up_of hb dl); (try replace g0 := up_of hb g0); (try replace g1 := up_of hb g1); (try replace g2 := up_of hb g2); (try replace g3 := up_of hb g3); (try replace gl := up_of hb gl)))
    go_wp2_with (first | (go_at_call 67; refine (hl2.out _ hr hq).mono ?_; rintro e W1 ⟨rfl, hb⟩; (try replace hr := up_of hb hr); (try replace hq := up_of hb hq); (try replace hB := up_of hb hB); (try replace d0 := up_of hb d0); (try replace d1 := up_of hb d1); (try replace d2 := up_of hb d2); (try replace dl := up_of hb dl); (try replace g0 := up_of hb g0); (try replace g1 := up_of hb g1); (try replace g2 := up_of hb g2); (try replace g3 := up_of hb g3); (try replace gl := up_of hb gl)))
    go_ret2
    exact ⟨rfl, hB⟩
  · rw [decide_eq_false h0, Bool.false_and]
    have k1 : (ck != 0) = true := bne_iff_ne.2 h0
    clear hok hleg
    go_enter Try.func25, Try.ntmps25
    go_upto_region 1 with (fail)
    refine wp_world fun W HW => ?_
    have hB : Below w.heap.size w W := by rw [HW.out]; (repeat (first | exact Below.refl _ _ | refine Below.alloc ?_ (by simp; try omega) _ | refine Below.setCell ?_ (by simp) _ | refine Below.drew ?_))
    have d0 : W.cell? ⟨w.heap.size, 0, none⟩ = some (.int .i64 n) := by rw [HW.out]; simp [go_sem]
    have d1 : W.cell? ⟨w.heap.size, 1, none⟩ = some (.slice s l.length cap) := by rw [HW.out]; simp [go_sem]
    have d2 : W.cell? ⟨w.heap.size, 2, none⟩ = some (.slice s2 K.length cq) := by rw [HW.out]; simp [go_sem]
    have dl : w.heap.size < W.heap.size := World.block_lt_of_cell? W _ d0
    have g0 : W.cell? ⟨w.heap.size + 1, 0, none⟩ = some (.int .i64 q.f.x) := by rw [HW.out]; simp [go_sem]
    have g1 : W.cell? ⟨w.heap.size + 1, 1, none⟩ = some (.int .i64 q.f.y) := by rw [HW.out]; simp [go_sem]
    have g2 : W.cell? ⟨w.heap.size + 1, 2, none⟩ = some (.int .i64 q.f.z) := by rw [HW.out]; simp [go_sem]
    have g3 : W.cell? ⟨w.heap.size + 1, 3, none⟩ = some (.slice q.s q.off.length q.cap) := by rw [HW.out]; simp [go_sem]
    have gl : w.heap.size + 1 < W.heap.size := World.block_lt_of_cell? W _ g0
    try replace hr := up_of hB hr
    try replace hq := up_of hB hq
    go_wp2_with (first | (go_at_call 57; refine (hck.out _ _ hr hq).mono ?_; rintro e W1 ⟨rfl, hb⟩; (try replace hr := up_of hb hr); (try replace hq := up_of hb hq); (try replace hB := up_of hb hB); (try replace d0 := up_of hb d0); (try replace d1 := up_of hb d1); (try replace d2 := up_of hb d2); (try replace dl := up_of hb dl); (try replace g0 := up_of hb g0); (try replace g1 := up_of hb g1); (try replace g2 := up_of hb g2); (try replace g3 := up_of hb g3); (try replace gl := up_of hb gl)))
    go_ret2
    exact ⟨rfl, hB⟩
set_option maxRecDepth 100000 in
set_option maxHeartbeats 2000000 in
theorem Delays_c (n : Int) (s : Option Addr) (cap : Nat) (l : List Iq) (s2 : Option Addr) (cq : Nat) (K : List Vv) (q : Sd) (w : World) (hr : RecM w s l s2 cq K) (hq : SdM w q) :
    Calls Try.prog 27 #[.agg #[.int .i64 n, .slice s l.length cap, .slice s2 K.length cq], .agg #[.int .i64 q.f.x, .int .i64 q.f.y, .int .i64 q.f.z, .slice q.s q.off.length q.cap]] w fun e w' => (∃ s' c', e = .returned (.tuple #[.slice s' (delD n l K q).length c', .int .i64 (chkE n l K [q])]) ∧ SlSS intE w' s' (delD n l K q)) ∧ Below w.heap.size w w' := by
  have hck := fun V t (h : RecM V s l s2 cq K) (h2 : SdM V q) => checkedN_c n s cap l s2 cq K q t V h h2
  have hdl := fun V (h : RecM V s l s2 cq K) (h2 : SdM V q) g0 g1 g2 => delays_c n s cap l s2 cq K q V h h2 g0 g1 g2
  have hok := chk_ok (n := n) (l := l) (K := K) (q := q)
  unfold delD
  obtain ⟨T, hT⟩ : ∃ x, delT K q = x := ⟨_, rfl⟩
  obtain ⟨ck, hck0⟩ : ∃ x, chkE n l K [q] = x := ⟨_, rfl⟩
  simp only [hck0, hT] at hck hok hdl ⊢
  clear hck0 hT
  replace hck := Lib.hid hck
  by_cases h0 : ck = 0
  · subst h0
    obtain ⟨hrb, -, -, hk4, -, -, -, hol, -⟩ := hok rfl
    have hl2 := fun V (h : RecM V s l s2 cq K) (h2 : SdM V q) => hdl V h h2 hol hk4 (rec_args hrb)
    rw [if_pos rfl]
    replace hl2 := Lib.hid hl2
    clear hok hdl hrb hk4 hol
    go_enter Try.func27, Try.ntmps27
    go_upto_region 1 with (fail)
    refine wp_world fun W HW => ?_
    have hB : Below w.heap.size w W := by rw [HW.out]; (repeat (first | exact Below.refl _ _ | refine Below.alloc ?_ (by simp; try omega) _ | refine Below.setCell ?_ (by simp) _ | refine Below.drew ?_))
    have d0 : W.cell? ⟨w.heap.size, 0, none⟩ = some (.int .i64 n) := by rw [HW.out]; simp [go_sem]
    have d1 : W.cell? ⟨w.heap.size, 1, none⟩ = some (.slice s l.length cap) := by rw [HW.out]; simp [go_sem]
    have d2 : W.cell? ⟨w.heap.size, 2, none⟩ = some (.slice s2 K.length cq) := by rw [HW.out]; simp [go_sem]
    have dl : w.heap.size < W.heap.size := World.block_lt_of_cell? W _ d0
    have g0 : W.cell? ⟨w.heap.size + 1, 0, none⟩ = some (.int .i64 q.f.x) := by rw [HW.out]; simp [go_sem]
    have g1 : W.cell? ⟨w.heap.size + 1, 1, none⟩ = some (.int .i64 q.f.y) := by rw [HW.out]; simp [go_sem]
    have g2 : W.cell? ⟨w.heap.size + 1, 2, none⟩ = some (.int .i64 q.f.z) := by rw [HW.out]; simp [go_sem]
    have g3 : W.cell? ⟨w.heap.size + 1, 3, none⟩ = some (.slice q.s q.off.length q.cap) := by rw [HW.out]; simp [go_sem]
    have gl : w.heap.size + 1 < W.heap.size := World.block_lt_of_cell? W _ g0
    try replace hr := up_of hB hr
    try replace hq := up_of hB hq
    go_upto_region 4 with (first | (go_at_call 57; refine (hck.out _ _ hr hq).mono ?_; rintro e W1 ⟨rfl, hb⟩; (try replace hr := up_of hb hr); (try replace hq := up_of hb hq); (try replace hB := up_of hb hB); (try replace d0 := up_of hb d0); (try replace d1 := up_of hb d1); (try replace d2 := up_of hb d2); (try replace dl := up_of hb dl); (try replace g0 := up_of hb g0); (try replace g1 := up_of hb g1); (try replace g2 := up_of hb g2); (try replace g3 := up_of hb g3); (try replace gl := up_of hb gl)))
    go_wp2_with (first | (go_at_call 69; refine (hl2.out _ hr hq).mono ?_; rintro e A1 ⟨⟨s1, k1, rfl, hv⟩, hb⟩; (try replace hr := up_of hb hr); (try replace hq := up_of hb hq); (try replace hB := up_of hb hB); (try replace d0 := up_of hb d0); (try replace d1 := up_of hb d1); (try replace d2 := up_of hb d2); (try replace dl := up_of hb dl); (try replace g0 := up_of hb g0); (try replace g1 := up_of hb g1); (try replace g2 := up_of hb g2); (try replace g3 := up_of hb g3); (try replace gl := up_of hb gl)))
    go_ret2
    exact ⟨⟨s1, k1, rfl, hv⟩, hB⟩
  · rw [if_neg h0]
    have k1 : (ck != 0) = true := bne_iff_ne.2 h0
    clear hok hdl
    go_enter Try.func27, Try.ntmps27
    go_upto_region 1 with (fail)
    refine wp_world fun W HW => ?_
    have hB : Below w.heap.size w W := by rw [HW.out]; (repeat (first | exact Below.refl _ _ | refine Below.alloc ?_ (by simp; try omega) _ | refine Below.setCell ?_ (by simp) _ | refine Below.drew ?_))
    have d0 : W.cell? ⟨w.heap.size, 0, none⟩ = some (.int .i64 n) := by rw [HW.out]; simp [go_sem]
    have d1 : W.cell? ⟨w.heap.size, 1, none⟩ = some (.slice s l.length cap) := by rw [HW.out]; simp [go_sem]
    have d2 : W.cell? ⟨w.heap.size, 2, none⟩ = some (.slice s2 K.length cq) := by rw [HW.out]; simp [go_sem]
    have dl : w.heap.size < W.heap.size := World.block_lt_of_cell? W _ d0
    have g0 : W.cell? ⟨w.heap.size + 1, 0, none⟩ = some (.int .i64 q.f.x) := by rw [HW.out]; simp [go_sem]
    have g1 : W.cell? ⟨w.heap.size + 1, 1, none⟩ = some (.int .i64 q.f.y) := by rw [HW.out]; simp [go_sem]
    have g2 : W.cell? ⟨w.heap.size + 1, 2, none⟩ = some (.int .i64 q.f.z) := by rw [HW.out]; simp [go_sem]
    have g3 : W.cell? ⟨w.heap.size + 1, 3, none⟩ = some (.slice q.s q.off.length q.cap) := by rw [HW.out]; simp [go_sem]
    have gl : w.heap.size + 1 < W.heap.size := World.block_lt_of_cell? W _ g0
    try replace hr := up_of hB hr
    try replace hq := up_of hB hq
    go_wp2_with (first | (go_at_call 57; refine (hck.out _ _ hr hq).mono ?_; rintro e W1 ⟨rfl, hb⟩; (try replace hr := up_of hb hr); (try replace hq := up_of hb hq); (try replace hB := up_of hb hB); (try replace d0 := up_of hb d0); (try replace d1 := up_of hb d1); (try replace d2 := up_of hb d2); (try replace dl := up_of hb dl); (try replace g0 := up_of hb g0); (try replace g1 := up_of hb g1); (try replace g2 := up_of hb g2); (try replace g3 := up_of hb g3); (try replace gl := up_of hb gl)))
    go_ret2
    exact ⟨⟨none, 0, rfl, SlSS.nil⟩, hB⟩

set_option maxRecDepth 100000 in
set_option maxHeartbeats 2000000 in
theorem rLegal_c (n : Int) (s : Option Addr) (cap : Nat) (l : List Iq) (s2 : Option Addr) (cq : Nat) (K : List Vv) (q : Sd) (w : World) (hr : RecM w s l s2 cq K) (hq : SdM w q) :
    Calls Try.prog 26 #[.agg #[.int .i64 n, .slice s l.length cap, .slice s2 K.length cq], .agg #[.int .i64 q.f.x, .int .i64 q.f.y, .int .i64 q.f.z, .slice q.s q.off.length q.cap]] w fun e w' => e = .returned (.tuple #[.bool (legR n l K q), .int .i64 (chkE n l K [q])]) ∧ Below w.heap.size w w' := by
  have hck := fun V  (h : RecM V s l s2 cq K) (h2 : SdM V q) => Asked_c n s cap l s2 cq K q  V h h2
  have hleg := fun V (h : RecM V s l s2 cq K) (h2 : SdM V q) g0 g1 g2 => IsLegal_c n s cap l s2 cq K q V h h2 g0 g1 g2
  have hok := chk_ok (n := n) (l := l) (K := K) (q := q)
  unfold legR
  obtain ⟨B, hB0⟩ : ∃ x, legB K q = x := ⟨_, rfl⟩
  obtain ⟨ck, hck0⟩ : ∃ x, chkE n l K [q] = x := ⟨_, rfl⟩
  simp only [hck0, hB0] at hck hok hleg ⊢
  clear hck0 hB0
  replace hck := Lib.hid hck
  by_cases h0 : ck = 0
  · subst h0
    obtain ⟨hrb, -, -, hk4, -, -, -, hol, -⟩ := hok rfl
    have hl2 := fun V (h : RecM V s l s2 cq K) (h2 : SdM V q) => hleg V h h2 hrb hol hk4
    rw [decide_eq_true rfl, Bool.true_and]
    replace hl2 := Lib.hid hl2
    clear hok hleg hrb hk4 hol
    go_enter Try.func26, Try.ntmps26
    go_upto_region 1 with (fail)
    refine wp_world fun W HW => ?_
    have hB : Below w.heap.size w W := by rw [HW.out]; (repeat (first | exact Below.refl _ _ | refine Below.alloc ?_ (by simp; try omega) _ | refine Below.setCell ?_ (by simp) _ | refine Below.drew ?_))
    have d0 : W.cell? ⟨w.heap.size, 0, none⟩ = some (.int .i64 n) := by rw [HW.out]; simp [go_sem]
    have d1 : W.cell? ⟨w.heap.size, 1, none⟩ = some (.slice s l.length cap) := by rw [HW.out]; simp [go_sem]
    have d2 : W.cell? ⟨w.heap.size, 2, none⟩ = some (.slice s2 K.length cq) := by rw [HW.out]; simp [go_sem]
    have dl : w.heap.size < W.heap.size := World.block_lt_of_cell? W _ d0
    have g0 : W.cell? ⟨w.heap.size + 1, 0, none⟩ = some (.int .i64 q.f.x) := by rw [HW.out]; simp [go_sem]
    have g1 : W.cell? ⟨w.heap.size + 1, 1, none⟩ = some (.int .i64 q.f.y) := by rw [HW.out]; simp [go_sem]
    have g2 : W.cell? ⟨w.heap.size + 1, 2, none⟩ = some (.int .i64 q.f.z) := by rw [HW.out]; simp [go_sem]
    have g3 : W.cell? ⟨w.heap.size + 1, 3, none⟩ = some (.slice q.s q.off.length q.cap) := by rw [HW.out]; simp [go_sem]
    have gl : w.heap.size + 1 < W.heap.size := World.block_lt_of_cell? W _ g0
    try replace hr := up_of hB hr
    try replace hq := up_of hB hq
    go_upto_region 4 with (first | (go_at_call 61; refine (hck.out _  hr hq).mono ?_; rintro e W1 ⟨rfl, hb⟩; (try replace hr := up_of hb hr); (try replace hq := up_of hb hq); (try replace hB := up_of hb hB); (try replace d0 := up_of hb d0); (try replace d1 := up_of hb d1); (try replace d2 := up_of hb d2); (try replace dl := up_of hb dl); (try replace g0 := up_of hb g0); (try replace g1 := up_of hb g1); (try replace g2 := up_of hb g2); (try replace g3 := up_of hb g3); (try replace gl := up_of hb gl)))
    go_wp2_with (first | (go_at_call 68; refine (hl2.out _ hr hq).mono ?_; rintro e W1 ⟨rfl, hb⟩; (try replace hr := up_of hb hr); (try replace hq := up_of hb hq); (try replace hB := up_of hb hB); (try replace d0 := up_of hb d0); (try replace d1 := up_of hb d1); (try replace d2 := up_of hb d2); (try replace dl := up_of hb dl); (try replace g0 := up_of hb g0); (try replace g1 := up_of hb g1); (try replace g2 := up_of hb g2); (try replace g3 := up_of hb g3); (try replace gl := up_of hb gl)))
    go_ret2
    exact ⟨rfl, hB⟩
  · rw [decide_eq_false h0, Bool.false_and]
    have k1 : (ck != 0) = true := bne_iff_ne.2 h0
    clear hok hleg
    go_enter Try.func26, Try.ntmps26
    go_upto_region 1 with (fail)
    refine wp_world fun W HW => ?_
    have hB : Below w.heap.size w W := by rw [HW.out]; (repeat (first | exact Below.refl _ _ | refine Below.alloc ?_ (by simp; try omega) _ | refine Below.setCell ?_ (by simp) _ | refine Below.drew ?_))
    have d0 : W.cell? ⟨w.heap.size, 0, none⟩ = some (.int .i64 n) := by rw [HW.out]; simp [go_sem]
    have d1 : W.cell? ⟨w.heap.size, 1, none⟩ = some (.slice s l.length cap) := by rw [HW.out]; simp [go_sem]
    have d2 : W.cell? ⟨w.heap.size, 2, none⟩ = some (.slice s2 K.length cq) := by rw [HW.out]; simp [go_sem]
    have dl : w.heap.size < W.heap.size := World.block_lt_of_cell? W _ d0
    have g0 : W.cell? ⟨w.heap.size + 1, 0, none⟩ = some (.int .i64 q.f.x) := by rw [HW.out]; simp [go_sem]
    have g1 : W.cell? ⟨w.heap.size + 1, 1, none⟩ = some (.int .i64 q.f.y) := by rw [HW.out]; simp [go_sem]
    have g2 : W.cell? ⟨w.heap.size + 1, 2, none⟩ = some (.int .i64 q.f.z) := by rw [HW.out]; simp [go_sem]
    have g3 : W.cell? ⟨w.heap.size + 1, 3, none⟩ = some (.slice q.s q.off.length q.cap) := by rw [HW.out]; simp [go_sem]
    have gl : w.heap.size + 1 < W.heap.size := World.block_lt_of_cell? W _ g0
    try replace hr := up_of hB hr
    try replace hq := up_of hB hq
    go_wp2_with (first | (go_at_call 61; refine (hck.out _  hr hq).mono ?_; rintro e W1 ⟨rfl, hb⟩; (try replace hr := up_of hb hr); (try replace hq := up_of hb hq); (try replace hB := up_of hb hB); (try replace d0 := up_of hb d0); (try replace d1 := up_of hb d1); (try replace d2 := up_of hb d2); (try replace dl := up_of hb dl); (try replace g0 := up_of hb g0); (try replace g1 := up_of hb g1); (try replace g2 := up_of hb g2); (try replace g3 := up_of hb g3); (try replace gl := up_of hb gl)))
    go_ret2
    exact ⟨rfl, hB⟩
set_option maxRecDepth 100000 in
set_option maxHeartbeats 2000000 in
theorem rDelaysX_c (n : Int) (s : Option Addr) (cap : Nat) (l : List Iq) (s2 : Option Addr) (cq : Nat) (K : List Vv) (q : Sd) (w : World) (hr : RecM w s l s2 cq K) (hq : SdM w q) :
    Calls Try.prog 28 #[.agg #[.int .i64 n, .slice s l.length cap, .slice s2 K.length cq], .agg #[.int .i64 q.f.x, .int .i64 q.f.y, .int .i64 q.f.z, .slice q.s q.off.length q.cap]] w fun e w' => (∃ s' c', e = .returned (.tuple #[.slice s' (delD n l K q).length c', .int .i64 (chkE n l K [q])]) ∧ SlSS intE w' s' (delD n l K q)) ∧ Below w.heap.size w w' := by
  have hck := fun V  (h : RecM V s l s2 cq K) (h2 : SdM V q) => Asked_c n s cap l s2 cq K q  V h h2
  have hdl := fun V (h : RecM V s l s2 cq K) (h2 : SdM V q) g0 g1 g2 => rDelays_c n s cap l s2 cq K q V h h2 g0 g1 g2
  have hok := chk_ok (n := n) (l := l) (K := K) (q := q)
  unfold delD
  obtain ⟨T, hT⟩ : ∃ x, delT K q = x := ⟨_, rfl⟩
  obtain ⟨ck, hck0⟩ : ∃ x, chkE n l K [q] = x := ⟨_, rfl⟩
  simp only [hck0, hT] at hck hok hdl ⊢
  clear hck0 hT
  replace hck := Lib.hid hck
  by_cases h0 : ck = 0
  · subst h0
    obtain ⟨hrb, -, -, hk4, -, -, -, hol, -⟩ := hok rfl
    have hl2 := fun V (h : RecM V s l s2 cq K) (h2 : SdM V q) => hdl V h h2 hol hk4 (rec_args hrb)
    rw [if_pos rfl]
    replace hl2 := Lib.hid hl2
    clear hok hdl hrb hk4 hol
    go_enter Try.func28, Try.ntmps28
    go_upto_region 1 with (fail)
    refine wp_world fun W HW => ?_
    have hB : Below w.heap.size w W := by rw [HW.out]; (repeat (first | exact Below.refl _ _ | refine Below.alloc ?_ (by simp; try omega) _ | refine Below.setCell ?_ (by simp) _ | refine Below.drew ?_))
    have d0 : W.cell? ⟨w.heap.size, 0, none⟩ = some (.int .i64 n) := by rw [HW.out]; simp [go_sem]
    have d1 : W.cell? ⟨w.heap.size, 1, none⟩ = some (.slice s l.length cap) := by rw [HW.out]; simp [go_sem]
    have d2 : W.cell? ⟨w.heap.size, 2, none⟩ = some (.slice s2 K.length cq) := by rw [HW.out]; simp [go_sem]
    have dl : w.heap.size < W.heap.size := World.block_lt_of_cell? W _ d0
    have g0 : W.cell? ⟨w.heap.size + 1, 0, none⟩ = some (.int .i64 q.f.x) := by rw [HW.out]; simp [go_sem]
    have g1 : W.cell? ⟨w.heap.size + 1, 1, none⟩ = some (.int .i64 q.f.y) := by rw [HW.out]; simp [go_sem]
    have g2 : W.cell? ⟨w.heap.size + 1, 2, none⟩ = some (.int .i64 q.f.z) := by rw [HW.out]; simp [go_sem]
    have g3 : W.cell? ⟨w.heap.size + 1, 3, none⟩ = some (.slice q.s q.off.length q.cap) := by rw [HW.out]; simp [go_sem]
    have gl : w.heap.size + 1 < W.heap.size := World.block_lt_of_cell? W _ g0
    try replace hr := up_of hB hr
    try replace hq := up_of hB hq
    go_upto_region 4 with (first | (go_at_call 61; refine (hck.out _  hr hq).mono ?_; rintro e W1 ⟨rfl, hb⟩; (try replace hr := up_of hb hr); (try replace hq := up_of hb hq); (try replace hB := up_of hb hB); (try replace d0 := up_of hb d0); (try replace d1 := up_of hb d1); (try replace d2 := up_of hb d2); (try replace dl := up_of hb dl); (try replace g0 := up_of hb g0); (try replace g1 := up_of hb g1); (try replace g2 := up_of hb g2); (try replace g3 := up_of hb g3); (try replace gl := up_of hb gl)))
    go_wp2_with (first | (go_at_call 70; refine (hl2.out _ hr hq).mono ?_; rintro e A1 ⟨⟨s1, k1, rfl, hv⟩, hb⟩; (try replace hr := up_of hb hr); (try replace hq := up_of hb hq); (try replace hB := up_of hb hB); (try replace d0 := up_of hb d0); (try replace d1 := up_of hb d1); (try replace d2 := up_of hb d2); (try replace dl := up_of hb dl); (try replace g0 := up_of hb g0); (try replace g1 := up_of hb g1); (try replace g2 := up_of hb g2); (try replace g3 := up_of hb g3); (try replace gl := up_of hb gl)))
    go_ret2
    exact ⟨⟨s1, k1, rfl, hv⟩, hB⟩
  · rw [if_neg h0]
    have k1 : (ck != 0) = true := bne_iff_ne.2 h0
    clear hok hdl
    go_enter Try.func28, Try.ntmps28
    go_upto_region 1 with (fail)
    refine wp_world fun W HW => ?_
    have hB : Below w.heap.size w W := by rw [HW.out]; (repeat (first | exact Below.refl _ _ | refine Below.alloc ?_ (by simp; try omega) _ | refine Below.setCell ?_ (by simp) _ | refine Below.drew ?_))
    have d0 : W.cell? ⟨w.heap.size, 0, none⟩ = some (.int .i64 n) := by rw [HW.out]; simp [go_sem]
    have d1 : W.cell? ⟨w.heap.size, 1, none⟩ = some (.slice s l.length cap) := by rw [HW.out]; simp [go_sem]
    have d2 : W.cell? ⟨w.heap.size, 2, none⟩ = some (.slice s2 K.length cq) := by rw [HW.out]; simp [go_sem]
    have dl : w.heap.size < W.heap.size := World.block_lt_of_cell? W _ d0
    have g0 : W.cell? ⟨w.heap.size + 1, 0, none⟩ = some (.int .i64 q.f.x) := by rw [HW.out]; simp [go_sem]
    have g1 : W.cell? ⟨w.heap.size + 1, 1, none⟩ = some (.int .i64 q.f.y) := by rw [HW.out]; simp [go_sem]
    have g2 : W.cell? ⟨w.heap.size + 1, 2, none⟩ = some (.int .i64 q.f.z) := by rw [HW.out]; simp [go_sem]
    have g3 : W.cell? ⟨w.heap.size + 1, 3, none⟩ = some (.slice q.s q.off.length q.cap) := by rw [HW.out]; simp [go_sem]
    have gl : w.heap.size + 1 < W.heap.size := World.block_lt_of_cell? W _ g0
    try replace hr := up_of hB hr
    try replace hq := up_of hB hq
    go_wp2_with (first | (go_at_call 61; refine (hck.out _  hr hq).mono ?_; rintro e W1 ⟨rfl, hb⟩; (try replace hr := up_of hb hr); (try replace hq := up_of hb hq); (try replace hB := up_of hb hB); (try replace d0 := up_of hb d0); (try replace d1 := up_of hb d1); (try replace d2 := up_of hb d2); (try replace dl := up_of hb dl); (try replace g0 := up_of hb g0); (try replace g1 := up_of hb g1); (try replace g2 := up_of hb g2); (try replace g3 := up_of hb g3); (try replace gl := up_of hb gl)))
    go_ret2
    exact ⟨⟨none, 0, rfl, SlSS.nil⟩, hB⟩

set_option maxRecDepth 100000 in
theorem SameInts_eq (s1 s2 : Option Addr) (c1 c2 : Nat) (l : List Int) (w : World) (h1 : SlS intE w s1 l) (h2 : SlS intE w s2 l) (hl : l.length ≤ 9223372036854775807) :
    Calls Try.prog 45 #[.slice s1 l.length c1, .slice s2 l.length c2] w fun e w' => e = .returned (.bool true) ∧ Below w.heap.size w w' := by
  have hb : ((l.length : Int) != l.length) = false := by simp
  replace h1 := Lib.hid h1; replace h2 := Lib.hid h2
  go_enter Try.func45, Try.ntmps45
  go_wp2
  go_loopw [13] (fun i wr => ∃ k : Nat, k ≤ l.length ∧ i = .int .i64 k ∧ Below w.heap.size w wr) (fun i _ => l.length - (intOf i).toNat)
  case atStart => exact ⟨0, by omega, rfl, Below.refl _ _⟩
  case round =>
    obtain ⟨k, hk, rfl, hR⟩ := hrel
    by_cases hlt : k < l.length
    · obtain ⟨b1, o1, rfl, hb1, p0⟩ := (up_of hR h1).out.int_at hlt
      obtain ⟨b2, o2, rfl, hb2, q0⟩ := (up_of hR h2).out.int_at hlt
      have g1 : (0 : Int) ≤ (k : Int) := by omega
      have g2 : (k : Int) < (l.length : Int) := by omega
      have he : (l[k] != l[k]) = false := by simp
      go_upto_region 6 with (fail)
      try have ld_p0 := World.block_lt_of_cell? _ _ p0
      try have ld_q0 := World.block_lt_of_cell? _ _ q0
      refine region_q (by kernel_rfl) (by kernel_rfl) ?_
      dsimp only [List.toList_toArray]
      repeat (first
       | go_big_quiet_skip
       | (go_big_quiet_want
          first
          | (refine qq_det ?_
             apply Exists.intro; refine ⟨fun W' hW' => ?_, ?_⟩
             (· have hk := cellB hW'; go_simp; try (first | rfl | rw [if_pos (by omega)]))
             simp only [Act.put, List.setIfInBounds_toArray, List.set_cons_zero, List.set_cons_succ]; go_big_quiet_on)))
      refine wpQuiet_nil ?_
      intro W1 hb
      try replace hR := up_of hb hR
      try replace p0 := up_of hb p0
      try replace q0 := up_of hb q0
      go_wp2
      go_roundw
      case rel => exact ⟨k + 1, by omega, rfl, hR⟩
      case measure => exact meas hlt
    · obtain rfl : k = l.length := by omega
      go_wp2
      go_ret
      exact ⟨rfl, hR⟩

set_option maxRecDepth 100000 in
set_option maxHeartbeats 1000000 in
theorem SameTables_eq (s1 s2 : Option Addr) (c1 c2 : Nat) (T : List (List Int)) (w : World) (h1 : SlSS intE w s1 T) (h2 : SlSS intE w s2 T) (hl : T.length ≤ 9223372036854775807) (hr : ∀ r ∈ T, r.length ≤ 9223372036854775807) :
    Calls Try.prog 31 #[.slice s1 T.length c1, .slice s2 T.length c2] w fun e w' => e = .returned (.bool true) ∧ Below w.heap.size w w' := by
  have hb : ((T.length : Int) != T.length) = false := by simp
  replace h1 := Lib.hid h1; replace h2 := Lib.hid h2; replace hr := Lib.hid hr
  go_enter Try.func31, Try.ntmps31
  go_wp2
  go_loopw [13] (fun i wr => ∃ k : Nat, k ≤ T.length ∧ i = .int .i64 k ∧ Below w.heap.size w wr) (fun i _ => T.length - (intOf i).toNat)
  case atStart => exact ⟨0, by omega, rfl, Below.refl _ _⟩
  case round =>
    obtain ⟨k, hk, rfl, hR⟩ := hrel
    by_cases hlt : k < T.length
    · obtain ⟨b1, o1, ta1, tc1, rfl, hb1, p0, hs1, -, -⟩ := (up_of hR h1).out.at hlt
      obtain ⟨b2, o2, ta2, tc2, rfl, hb2, q0, hs2, -, -⟩ := (up_of hR h2).out.at hlt
      have hrl := hr.out _ (List.getElem_mem hlt)
      obtain ⟨c, hc⟩ : ∃ x, T[k] = x := ⟨_, rfl⟩
      rw [hc] at p0 q0 hs1 hs2 hrl
      have hse := fun V (h1 : SlS intE V ta1 c) (h2 : SlS intE V ta2 c) => SameInts_eq ta1 ta2 tc1 tc2 c V h1 h2 hrl
      replace hc := Lib.hid hc; replace hse := Lib.hid hse
      have g1 : (0 : Int) ≤ (k : Int) := by omega
      have g2 : (k : Int) < (T.length : Int) := by omega
      go_upto_region 6 with (fail)
      try have ld_p0 := World.block_lt_of_cell? _ _ p0
      try have ld_q0 := World.block_lt_of_cell? _ _ q0
      refine region_q (by kernel_rfl) (by kernel_rfl) ?_
      dsimp only [List.toList_toArray]
      repeat (first
       | go_big_quiet_skip
       | (go_big_quiet_want
          first
          | (refine qq_det ?_
             apply Exists.intro; refine ⟨fun W' hW' => ?_, ?_⟩
             (· have hk := cellB hW'; go_simp; try (first | rfl | rw [if_pos (by omega)]))
             simp only [Act.put, List.setIfInBounds_toArray, List.set_cons_zero, List.set_cons_succ]; go_big_quiet_on)
          | (refine qq_call ?_
             apply Exists.intro; apply Exists.intro; refine ⟨fun W' hW' => ?_, ?_⟩
             (· have hk := cellB hW'; go_simp; exact ⟨rfl, rfl⟩)
             apply Exists.intro; refine ⟨fun W' hW' => ?_, ?_⟩
             (· first | (go_at_call 45; exact qc hW' (hse.out _ (up_of hW' hs1) (up_of hW' hs2))))
             simp only [Act.put, List.setIfInBounds_toArray, List.set_cons_zero, List.set_cons_succ]; go_big_quiet_on)))
      refine wpQuiet_nil ?_
      intro W1 hb
      try replace hR := up_of hb hR
      try replace p0 := up_of hb p0
      try replace q0 := up_of hb q0
      try replace hs1 := up_of hb hs1
      try replace hs2 := up_of hb hs2
      go_wp2
      go_roundw
      case rel => exact ⟨k + 1, by omega, rfl, hR⟩
      case measure => exact meas hlt
    · obtain rfl : k = T.length := by omega
      go_wp2
      go_ret
      exact ⟨rfl, hR⟩
end Go.Proofs.Ytbpdgoedglkefaa
