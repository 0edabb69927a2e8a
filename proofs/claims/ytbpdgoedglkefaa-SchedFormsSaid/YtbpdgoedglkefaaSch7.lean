/- Spans and latencies: the program. -/
import Derived.Test.YtbpdgoedglkefaaSch6
namespace Go.Proofs.Ytbpdgoedglkefaa
open Go.RowKit

def spLo (q : Sd) (L : List Pt) : Int := IntKind.i64.wrap (loL (L.map (tmP q.f)) + loL q.off)
def spHi (q : Sd) (L : List Pt) : Int := IntKind.i64.wrap (hiL (L.map (tmP q.f)) + hiL q.off)
def spanE (n : Int) (l : List Iq) (K : List Vv) (q : Sd) : Int := if chkE n l K [q] ≠ 0 then chkE n l K [q] else if (pts n l).length = 0 then 5 else 0
def spanL (n : Int) (l : List Iq) (K : List Vv) (q : Sd) : Int := if spanE n l K q = 0 then spLo q (pts n l) else 0
def spanH (n : Int) (l : List Iq) (K : List Vv) (q : Sd) : Int := if spanE n l K q = 0 then spHi q (pts n l) else 0
def spanR (n : Int) (l : List Iq) (K : List Vv) (q : Sd) : Value := .tuple #[.int .i64 (spanL n l K q), .int .i64 (spanH n l K q), .int .i64 (spanE n l K q)]
theorem span_ways (n : Int) (l : List Iq) (K : List Vv) (q : Sd) : (chkE n l K [q] ≠ 0 ∧ spanR n l K q = .tuple #[.int .i64 0, .int .i64 0, .int .i64 (chkE n l K [q])]) ∨
    (chkE n l K [q] = 0 ∧ (pts n l).length = 0 ∧ spanR n l K q = .tuple #[.int .i64 0, .int .i64 0, .int .i64 5]) ∨
    (chkE n l K [q] = 0 ∧ 1 ≤ (pts n l).length ∧ spanR n l K q = .tuple #[.int .i64 (spLo q (pts n l)), .int .i64 (spHi q (pts n l)), .int .i64 0]) := by
  by_cases h : chkE n l K [q] = 0
  · by_cases h2 : (pts n l).length = 0
    · exact .inr (.inl ⟨h, h2, by simp [spanR, spanL, spanH, spanE, h, h2]⟩)
    · exact .inr (.inr ⟨h, by omega, by unfold spanR spanL spanH spanE; simp only [h, h2, ne_eq, not_true_eq_false, if_false, if_true]⟩)
  · exact .inl ⟨h, by unfold spanR spanL spanH spanE; simp only [h, ne_eq, not_false_eq_true, if_true, if_false]⟩
set_option maxRecDepth 100000 in
set_option maxHeartbeats 2000000 in
theorem Span_c (n : Int) (s : Option Addr) (cap : Nat) (l : List Iq) (s2 : Option Addr) (cq : Nat) (K : List Vv) (q : Sd) (w : World) (hr : RecM w s l s2 cq K) (hq : SdM w q) :
    Calls Try.prog 21 #[.agg #[.int .i64 n, .slice s l.length cap, .slice s2 K.length cq], .agg #[.int .i64 q.f.x, .int .i64 q.f.y, .int .i64 q.f.z, .slice q.s q.off.length q.cap]] w fun e w' => e = .returned (spanR n l K q) ∧ Below w.heap.size w w' := by
  have hck := fun V t (h : RecM V s l s2 cq K) (h2 : SdM V q) => checkedN_c n s cap l s2 cq K q t V h h2
  have hpt := fun V (h : RecM V s l s2 cq K) => (Points_c n s cap l V h.dom.iq h.dom.len).mono fun e w' => PtsRet.mono
  have hok := chk_ok (n := n) (l := l) (K := K) (q := q)
  have hpl := pts_len n l
  have hw := span_ways n l K q
  have hsp := fun V sp cp (h : PtS V sp (pts n l)) (h1 : 1 ≤ (pts n l).length) (h2 : SdM V q) (h3 : 1 ≤ q.off.length) => span_c sp cp (pts n l) q V h h1 (by omega) h2 h3
  have hp1 : validB n l = true → (pts n l).length ≤ 1000 → ptsL n l = pts n l := fun h h2 => by unfold ptsL; rw [if_pos (by rw [h, decide_eq_true h2]; rfl)]
  have hp2 : validB n l = true → (pts n l).length ≤ 1000 → ptsE n l = 0 := fun h h2 => by unfold ptsE; rw [if_pos h, if_pos h2]
  change ∀ V sp cp, PtS V sp (pts n l) → 1 ≤ (pts n l).length → SdM V q → 1 ≤ q.off.length → Calls Try.prog 65 #[.slice sp (pts n l).length cp, .agg #[.int .i64 q.f.x, .int .i64 q.f.y, .int .i64 q.f.z, .slice q.s q.off.length q.cap]] V fun e w' => e = .returned (.tuple #[.int .i64 (spLo q (pts n l)), .int .i64 (spHi q (pts n l))]) ∧ Below V.heap.size V w' at hsp
  obtain ⟨R, hR⟩ : ∃ x, spanR n l K q = x := ⟨_, rfl⟩
  obtain ⟨ck, hck0⟩ : ∃ x, chkE n l K [q] = x := ⟨_, rfl⟩
  obtain ⟨P, hP⟩ : ∃ x, pts n l = x := ⟨_, rfl⟩
  obtain ⟨lo1, hlo1⟩ : ∃ x, spLo q P = x := ⟨_, rfl⟩
  obtain ⟨hi1, hhi1⟩ : ∃ x, spHi q P = x := ⟨_, rfl⟩
  simp only [hR, hck0, hP, hlo1, hhi1] at hck hok hw hpl hp1 hp2 hsp ⊢
  clear hR hck0 hP hlo1 hhi1
  replace hck := Lib.hid hck
  rcases hw with ⟨h0, rfl⟩ | ⟨rfl, h2, rfl⟩ | ⟨rfl, h2, rfl⟩
  · have k1 : (ck != 0) = true := bne_iff_ne.2 h0
    clear hok hpt hpl hsp hp1 hp2
    go_enter Try.func21, Try.ntmps21
    go_upto_region 1 with (fail)
    refine wp_world fun W HW => ?_
    have hB : Below w.heap.size w W := by rw [HW.out]; (repeat (first | exact Below.refl _ _ | refine Below.alloc ?_ (by simp; try omega) _ | refine Below.setCell ?_ (by simp) _ | refine Below.drew ?_))
    have d0 : W.cell? ⟨w.heap.size, 0, none⟩ = some (.int .i64 n) := by rw [HW.out]; simp [go_sem]
    have d1 : W.cell? ⟨w.heap.size, 1, none⟩ = some (.slice s l.length cap) := by rw [HW.out]; simp [go_sem]
    have d2 : W.cell? ⟨w.heap.size, 2, none⟩ = some (.slice s2 K.length cq) := by rw [HW.out]; simp [go_sem]
    have dl : w.heap.size < W.heap.size := World.block_lt_of_cell? W _ d0
    have g0 : W.cell? ⟨w.heap.size + 1, 0, none⟩ = some (.int .i64 q.f.x) := by rw [HW.out]; simp [go_sem]
    have g1 : W.cell? ⟨w.heap.size + 1, 1, none⟩ = some (.int .i64 q.f.y) := by rw [HW.out]; simp [go_sem]
    have g2 : W.cell? ⟨w.heap.size + 1, 2, none⟩ = some (.int .i64 q.f.z) := by rw [HW.out]; simp [go_sem]
    have g3 : W.cell? ⟨w.heap.size + 1, 3, none⟩ = some (.slice q.s q.off.length q.cap) := by rw [HW.out]; simp [go_sem]
    have gl : w.heap.size + 1 < W.heap.size := World.block_lt_of_cell? W _ g0
    try replace hr := up_of hB hr
    try replace hq := up_of hB hq
    go_wp2_with (first | (go_at_call 57; refine (hck.out _ _ hr hq).mono ?_; rintro e W1 ⟨rfl, hb⟩; (try replace hr := up_of hb hr); (try replace hq := up_of hb hq); (try replace hB := up_of hb hB); (try replace d0 := up_of hb d0); (try replace d1 := up_of hb d1); (try replace d2 := up_of hb d2); (try replace dl := up_of hb dl); (try replace g0 := up_of hb g0); (try replace g1 := up_of hb g1); (try replace g2 := up_of hb g2); (try replace g3 := up_of hb g3); (try replace gl := up_of hb gl)))
    go_ret3
    exact ⟨rfl, hB⟩
  · obtain ⟨-, hvd, -, -, -, hp9, -⟩ := hok rfl
    rw [hp1 hvd hp9, hp2 hvd hp9] at hpt
    have k2 : ((P.length : Int) == 0) = true := by rw [h2]; rfl
    replace hpt := Lib.hid hpt; replace h2 := Lib.hid h2
    clear hok hpl hsp hp1 hp2 hvd hp9
    go_enter Try.func21, Try.ntmps21
    go_upto_region 1 with (fail)
    refine wp_world fun W HW => ?_
    have hB : Below w.heap.size w W := by rw [HW.out]; (repeat (first | exact Below.refl _ _ | refine Below.alloc ?_ (by simp; try omega) _ | refine Below.setCell ?_ (by simp) _ | refine Below.drew ?_))
    have d0 : W.cell? ⟨w.heap.size, 0, none⟩ = some (.int .i64 n) := by rw [HW.out]; simp [go_sem]
    have d1 : W.cell? ⟨w.heap.size, 1, none⟩ = some (.slice s l.length cap) := by rw [HW.out]; simp [go_sem]
    have d2 : W.cell? ⟨w.heap.size, 2, none⟩ = some (.slice s2 K.length cq) := by rw [HW.out]; simp [go_sem]
    have dl : w.heap.size < W.heap.size := World.block_lt_of_cell? W _ d0
    have g0 : W.cell? ⟨w.heap.size + 1, 0, none⟩ = some (.int .i64 q.f.x) := by rw [HW.out]; simp [go_sem]
    have g1 : W.cell? ⟨w.heap.size + 1, 1, none⟩ = some (.int .i64 q.f.y) := by rw [HW.out]; simp [go_sem]
    have g2 : W.cell? ⟨w.heap.size + 1, 2, none⟩ = some (.int .i64 q.f.z) := by rw [HW.out]; simp [go_sem]
    have g3 : W.cell? ⟨w.heap.size + 1, 3, none⟩ = some (.slice q.s q.off.length q.cap) := by rw [HW.out]; simp [go_sem]
    have gl : w.heap.size + 1 < W.heap.size := World.block_lt_of_cell? W _ g0
    try replace hr := up_of hB hr
    try replace hq := up_of hB hq
    go_upto_region 4 with (first | (go_at_call 57; refine (hck.out _ _ hr hq).mono ?_; rintro e W1 ⟨rfl, hb⟩; (try replace hr := up_of hb hr); (try replace hq := up_of hb hq); (try replace hB := up_of hb hB); (try replace d0 := up_of hb d0); (try replace d1 := up_of hb d1); (try replace d2 := up_of hb d2); (try replace dl := up_of hb dl); (try replace g0 := up_of hb g0); (try replace g1 := up_of hb g1); (try replace g2 := up_of hb g2); (try replace g3 := up_of hb g3); (try replace gl := up_of hb gl)))
    go_wp2_with (first | (go_at_call 64; refine (hpt.out _ hr).mono ?_; rintro e W5 ⟨sp, cp, rfl, hps, hb⟩; (try replace hr := up_of hb hr); (try replace hq := up_of hb hq); (try replace hB := up_of hb hB); (try replace d0 := up_of hb d0); (try replace d1 := up_of hb d1); (try replace d2 := up_of hb d2); (try replace dl := up_of hb dl); (try replace g0 := up_of hb g0); (try replace g1 := up_of hb g1); (try replace g2 := up_of hb g2); (try replace g3 := up_of hb g3); (try replace gl := up_of hb gl)))
    go_ret3
    exact ⟨rfl, hB⟩
  · obtain ⟨-, hvd, hk1, -, -, hp9, -, hol, -⟩ := hok rfl
    rw [hp1 hvd hp9, hp2 hvd hp9] at hpt
    have k2 : ((P.length : Int) == 0) = false := by simp; intro h; rw [h] at h2; simp at h2
    have ho1 : 1 ≤ q.off.length := by omega
    have hsp2 := fun V sp cp (h : PtS V sp P) (h3 : SdM V q) => hsp V sp cp h h2 h3 ho1
    replace hpt := Lib.hid hpt; replace h2 := Lib.hid h2; replace hsp2 := Lib.hid hsp2
    clear hok hpl hsp hp1 hp2 hvd hp9 hk1 hol ho1
    go_enter Try.func21, Try.ntmps21
    go_upto_region 1 with (fail)
    refine wp_world fun W HW => ?_
    have hB : Below w.heap.size w W := by rw [HW.out]; (repeat (first | exact Below.refl _ _ | refine Below.alloc ?_ (by simp; try omega) _ | refine Below.setCell ?_ (by simp) _ | refine Below.drew ?_))
    have d0 : W.cell? ⟨w.heap.size, 0, none⟩ = some (.int .i64 n) := by rw [HW.out]; simp [go_sem]
    have d1 : W.cell? ⟨w.heap.size, 1, none⟩ = some (.slice s l.length cap) := by rw [HW.out]; simp [go_sem]
    have d2 : W.cell? ⟨w.heap.size, 2, none⟩ = some (.slice s2 K.length cq) := by rw [HW.out]; simp [go_sem]
    have dl : w.heap.size < W.heap.size := World.block_lt_of_cell? W _ d0
    have g0 : W.cell? ⟨w.heap.size + 1, 0, none⟩ = some (.int .i64 q.f.x) := by rw [HW.out]; simp [go_sem]
    have g1 : W.cell? ⟨w.heap.size + 1, 1, none⟩ = some (.int .i64 q.f.y) := by rw [HW.out]; simp [go_sem]
    have g2 : W.cell? ⟨w.heap.size + 1, 2, none⟩ = some (.int .i64 q.f.z) := by rw [HW.out]; simp [go_sem]
    have g3 : W.cell? ⟨w.heap.size + 1, 3, none⟩ = some (.slice q.s q.off.length q.cap) := by rw [HW.out]; simp [go_sem]
    have gl : w.heap.size + 1 < W.heap.size := World.block_lt_of_cell? W _ g0
    try replace hr := up_of hB hr
    try replace hq := up_of hB hq
    go_upto_region 4 with (first | (go_at_call 57; refine (hck.out _ _ hr hq).mono ?_; rintro e W1 ⟨rfl, hb⟩; (try replace hr := up_of hb hr); (try replace hq := up_of hb hq); (try replace hB := up_of hb hB); (try replace d0 := up_of hb d0); (try replace d1 := up_of hb d1); (try replace d2 := up_of hb d2); (try replace dl := up_of hb dl); (try replace g0 := up_of hb g0); (try replace g1 := up_of hb g1); (try replace g2 := up_of hb g2); (try replace g3 := up_of hb g3); (try replace gl := up_of hb gl)))
    go_wp2_with (first | (go_at_call 65; refine (hsp2.out _ _ _ hps hq).mono ?_; rintro e W1 ⟨rfl, hb⟩; (try replace hr := up_of hb hr); (try replace hq := up_of hb hq); (try replace hB := up_of hb hB); (try replace d0 := up_of hb d0); (try replace d1 := up_of hb d1); (try replace d2 := up_of hb d2); (try replace dl := up_of hb dl); (try replace g0 := up_of hb g0); (try replace g1 := up_of hb g1); (try replace g2 := up_of hb g2); (try replace g3 := up_of hb g3); (try replace gl := up_of hb gl)) | (go_at_call 64; refine (hpt.out _ hr).mono ?_; rintro e W5 ⟨sp, cp, rfl, hps, hb⟩; (try replace hr := up_of hb hr); (try replace hq := up_of hb hq); (try replace hB := up_of hb hB); (try replace d0 := up_of hb d0); (try replace d1 := up_of hb d1); (try replace d2 := up_of hb d2); (try replace dl := up_of hb dl); (try replace g0 := up_of hb g0); (try replace g1 := up_of hb g1); (try replace g2 := up_of hb g2); (try replace g3 := up_of hb g3); (try replace gl := up_of hb gl)))
    go_ret3
    exact ⟨rfl, hB⟩
end Go.Proofs.Ytbpdgoedglkefaa
