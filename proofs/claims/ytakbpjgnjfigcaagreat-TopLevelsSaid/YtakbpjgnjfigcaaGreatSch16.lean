/- Legal schedules and delays, as exported; lists and tables that are the same. -/
import Derived.Test.YtakbpjgnjfigcaaGreatC1
namespace Go.Proofs.YtakbpjgnjfigcaaGreat
open Go.RowKit

def legR (n : Int) (l : List Iq) (K : List Vv) (q : Sd) : Bool := decide (chkE n l K [q] = 0) && legB K q
def delD (n : Int) (l : List Iq) (K : List Vv) (q : Sd) : List (List Int) := if chkE n l K [q] = 0 then delT K q else []
theorem delD_bd (n : Int) (l : List Iq) (K : List Vv) (q : Sd) : (delD n l K q).length ≤ 4 ∧ ∀ r ∈ delD n l K q, r.length ≤ 3 := by
  unfold delD
  split
  · rename_i h
    obtain ⟨hrb, -, -, hk4, -⟩ := chk_ok h
    exact ⟨by rw [delT_len]; exact hk4, delT_bd hrb q⟩
  · simp
set_option maxRecDepth 100000 in
set_option maxHeartbeats 2000000 in
theorem Legal_c (n : Int) (s : Option Addr) (cap : Nat) (l : List Iq) (s2 : Option Addr) (cq : Nat) (K : List Vv) (q : Sd) (w : World) (hr : RecM w s l s2 cq K) (hq : SdM w q) :
    Calls Tryz.prog 9 #[.agg #[.int .i64 n, .slice s l.length cap, .slice s2 K.length cq], .agg #[.int .i64 q.f.x, .int .i64 q.f.y, .int .i64 q.f.z, .slice q.s q.off.length q.cap]] w fun e w' => e = .returned (.tuple #[.bool (legR n l K q), .int .i64 (chkE n l K [q])]) ∧ Below w.heap.size w w' := by
  have hck := fun V t (h : RecM V s l s2 cq K) (h2 : SdM V q) => checkedN_c n s cap l s2 cq K q t V h h2
  have hleg := fun V (h : RecM V s l s2 cq K) (h2 : SdM V q) g0 g1 g2 => legal_c n s cap l s2 cq K q V h h2 g0 g1 g2
  have hok := chk_ok (n := n) (l := l) (K := K) (q := q)
  unfold legR
  obtain ⟨B, hB0⟩ : ∃ x, legB K q = x := ⟨_, rfl⟩
  obtain ⟨ck, hck0⟩ : ∃ x, chkE n l K [q] = x := ⟨_, rfl⟩
  simp only [hck0, hB0] at hck hok hleg ⊢
  clear hck0 hB0
  replace hck := Lib.hid hck
  by_cases h0 : ck = 0
  · subst h0
    obtain ⟨hrb, -, -, hk4, -, -, -, hol, -⟩ := hok rfl
    have hl2 := fun V (h : RecM V s l s2 cq K) (h2 : SdM V q) => hleg V h h2 hrb hol hk4
    rw [decide_eq_true rfl, Bool.true_and]
    replace hl2 := Lib.hid hl2
    clear hok hleg hrb hk4 hol
    go_enter Tryz.func9, Tryz.ntmps9
    go_upto_region 1 with (fail)
    refine wp_world fun W HW => ?_
    have hB : Below w.heap.size w W := by rw [HW.out]; (repeat (first | exact Below.refl _ _ | refine Below.alloc ?_ (by simp; try omega) _ | refine Below.setCell ?_ (by simp) _ | refine Below.drew ?_))
    have d0 : W.cell? ⟨w.heap.size, 0, none⟩ = some (.int .i64 n) := by rw [HW.out]; simp [go_sem]
    have d1 : W.cell? ⟨w.heap.size, 1, none⟩ = some (.slice s l.length cap) := by rw [HW.out]; simp [go_sem]
    have d2 : W.cell? ⟨w.heap.size, 2, none⟩ = some (.slice s2 K.length cq) := by rw [HW.out]; simp [go_sem]
    have dl : w.heap.size < W.heap.size := World.block_lt_of_cell? W _ d0
    have g0 : W.cell? ⟨w.heap.size + 1, 0, none⟩ = some (.int .i64 q.f.x) := by rw [HW.out]; simp [go_sem]
    have g1 : W.cell? ⟨w.heap.size + 1, 1, none⟩ = some (.int .i64 q.f.y) := by rw [HW.out]; simp [go_sem]
    have g2 : W.cell? ⟨w.heap.size + 1, 2, none⟩ = some (.int .i64 q.f.z) := by rw [HW.out]; simp [go_sem]
    have g3 : W.cell? ⟨w.heap.size + 1, 3, none⟩ = some (.slice q.s q.off.length q.cap) := by rw [HW.out]; simp [go_sem]
    have gl : w.heap.size + 1 < W.heap.size := World.block_lt_of_cell? W _ g0
    try replace hr := up_of hB hr
    try replace hq := up_of hB hq
    go_upto_region 4 with (first | (go_at_call 34; refine (hck.out _ _ hr hq).mono ?_; rintro e W1 ⟨rfl, hb⟩; (try replace hr := up_of hb hr); (try replace hq := up_of hb hq); (try replace hB := up_of hb hB); (try replace d0 := up_of hb d0); (try replace d1 := up_of hb d1); (try replace d2 := up_of hb d2); (try replace dl := up_of hb dl); (try replace g0 := up_of hb g0); (try replace g1 := up_of hb g1); (try replace g2 := up_of hb g2); (try replace g3 := up_of hb g3); (try replace gl := up_of hb gl)))
    go_wp2_with (first | (go_at_call 35; refine (hl2.out _ hr hq).mono ?_; rintro e W1 ⟨rfl, hb⟩; (try replace hr := up_of hb hr); (try replace hq := up_of hb hq); (try replace hB := up_of hb hB); (try replace d0 := up_of hb d0); (try replace d1 := up_of hb d1); (try replace d2 := up_of hb d2); (try replace dl := up_of hb dl); (try replace g0 := up_of hb g0); (try replace g1 := up_of hb g1); (try replace g2 := up_of hb g2); (try replace g3 := up_of hb g3); (try replace gl := up_of hb gl)))
    go_ret2
    exact ⟨rfl, hB⟩
  · rw [decide_eq_false h0, Bool.false_and]
    have k1 : (ck != 0) = true := bne_iff_ne.2 h0
    clear hok hleg
    go_enter Tryz.func9, Tryz.ntmps9
    go_upto_region 1 with (fail)
    refine wp_world fun W HW => ?_
    have hB : Below w.heap.size w W := by rw [HW.out]; (repeat (first | exact Below.refl _ _ | refine Below.alloc ?_ (by simp; try omega) _ | refine Below.setCell ?_ (by simp) _ | refine Below.drew ?_))
    have d0 : W.cell? ⟨w.heap.size, 0, none⟩ = some (.int .i64 n) := by rw [HW.out]; simp [go_sem]
    have d1 : W.cell? ⟨w.heap.size, 1, none⟩ = some (.slice s l.length cap) := by rw [HW.out]; simp [go_sem]
    have d2 : W.cell? ⟨w.heap.size, 2, none⟩ = some (.slice s2 K.length cq) := by rw [HW.out]; simp [go_sem]
    have dl : w.heap.size < W.heap.size := World.block_lt_of_cell? W _ d0
    have g0 : W.cell? ⟨w.heap.size + 1, 0, none⟩ = some (.int .i64 q.f.x) := by rw [HW.out]; simp [go_sem]
    have g1 : W.cell? ⟨w.heap.size + 1, 1, none⟩ = some (.int .i64 q.f.y) := by rw [HW.out]; simp [go_sem]
    have g2 : W.cell? ⟨w.heap.size + 1, 2, none⟩ = some (.int .i64 q.f.z) := by rw [HW.out]; simp [go_sem]
    have g3 : W.cell? ⟨w.heap.size + 1, 3, none⟩ = some (.slice q.s q.off.length q.cap) := by rw [HW.out]; simp [go_sem]
    have gl : w.heap.size + 1 < W.heap.size := World.block_lt_of_cell? W _ g0
    try replace hr := up_of hB hr
    try replace hq := up_of hB hq
    go_wp2_with (first | (go_at_call 34; refine (hck.out _ _ hr hq).mono ?_; rintro e W1 ⟨rfl, hb⟩; (try replace hr := up_of hb hr); (try replace hq := up_of hb hq); (try replace hB := up_of hb hB); (try replace d0 := up_of hb d0); (try replace d1 := up_of hb d1); (try replace d2 := up_of hb d2); (try replace dl := up_of hb dl); (try replace g0 := up_of hb g0); (try replace g1 := up_of hb g1); (try replace g2 := up_of hb g2); (try replace g3 := up_of hb g3); (try replace gl := up_of hb gl)))
    go_ret2
    exact ⟨rfl, hB⟩
end Go.Proofs.YtakbpjgnjfigcaaGreat
