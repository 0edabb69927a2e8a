/- A schedule that is slower: the program. -/
import Derived.Test.YtbpdgoedglkefaaSch23
namespace Go.Proofs.Ytbpdgoedglkefaa
open Go.RowKit

def slowE (n : Int) (l : List Iq) (K : List Vv) (q : Sd) (k : Int) : Int := if chkE n l K [q] ≠ 0 then chkE n l K [q] else if bw 1 k 9 then (if legB K q then (if fitB n K.length (mulP k q.f) (mulO K.length k q.off) then 0 else 4) else 31) else 2
/-- A point, its first k coordinates another's. -/
def pm (p P : Pt) (k : Nat) : Pt := ⟨if 0 < k then P.x else p.x, if 1 < k then P.y else p.y, if 2 < k then P.z else p.z⟩
theorem pm_get (p P : Pt) {k : Nat} (hk : k < 3) : (pm p P k).get k = p.get k := by
  have h : k = 0 ∨ k = 1 ∨ k = 2 := by omega
  rcases h with rfl | rfl | rfl <;> rfl
theorem pm_set (p P : Pt) {k : Nat} (hk : k < 3) (u : Value) : (#[.int .i64 (pm p P k).x, .int .i64 (pm p P k).y, .int .i64 (pm p P k).z, u] : Array Value).setIfInBounds k (.int .i64 (P.get k)) = #[.int .i64 (pm p P (k + 1)).x, .int .i64 (pm p P (k + 1)).y, .int .i64 (pm p P (k + 1)).z, u] := by
  have h : k = 0 ∨ k = 1 ∨ k = 2 := by omega
  rcases h with rfl | rfl | rfl <;> rfl
theorem mul_get {p : Pt} {kk : Int} {m : Nat} (h : p.x.natAbs ≤ m ∧ p.y.natAbs ≤ m ∧ p.z.natAbs ≤ m) (hk : 1 ≤ kk ∧ kk ≤ 9) {k : Nat} (h3 : k < 3) : p.get k * kk = (mulP kk p).get k ∧ -(m * 9 : Nat) ≤ (mulP kk p).get k ∧ (mulP kk p).get k ≤ (m * 9 : Nat) := by
  have e : (mulP kk p).get k = p.get k * kk := by
    have h : k = 0 ∨ k = 1 ∨ k = 2 := by omega
    rcases h with rfl | rfl | rfl <;> exact Int.mul_comm _ _
  have h1 := mul_bd (a := p.get k) (b := kk) (get_abs h k) (B := 9) (by omega)
  rw [e]
  generalize p.get k * kk = z at *
  refine ⟨rfl, by omega, by omega⟩
set_option maxRecDepth 100000 in
set_option maxHeartbeats 4000000 in
theorem Slow_c (n : Int) (s : Option Addr) (cap : Nat) (l : List Iq) (s2 : Option Addr) (cq : Nat) (K : List Vv) (q : Sd) (kk : Int) (w : World) (hr : RecM w s l s2 cq K) (hq : SdM w q) :
    Calls Try.prog 40 #[.agg #[.int .i64 n, .slice s l.length cap, .slice s2 K.length cq], .agg #[.int .i64 q.f.x, .int .i64 q.f.y, .int .i64 q.f.z, .slice q.s q.off.length q.cap], .int .i64 kk] w
      (SdRet (if slowE n l K q kk = 0 then mulP kk q.f else ⟨0, 0, 0⟩) (if slowE n l K q kk = 0 then mulO K.length kk q.off else []) (slowE n l K q kk) w) := by
  have hal := fun V t (h : RecM V s l s2 cq K) (h1 : SdM V q) => checkedN_c n s cap l s2 cq K q t V h h1
  have hse : slowE n l K q kk = if chkE n l K [q] ≠ 0 then chkE n l K [q] else if bw 1 kk 9 then (if legB K q then (if fitB n K.length (mulP kk q.f) (mulO K.length kk q.off) then 0 else 4) else 31) else 2 := rfl
  have hbt := fun V => schBetween_c 1 kk 9 V
  by_cases h0 : chkE n l K [q] = 0
  case neg =>
    rw [if_pos h0] at hse
    obtain ⟨E, hE⟩ : ∃ x, chkE n l K [q] = x := ⟨_, rfl⟩
    simp only [hse, hE] at hal h0 ⊢
    rw [if_neg h0, if_neg h0]
    have k1 : (E != 0) = true := bne_iff_ne.2 h0
    replace hal := Lib.hid hal
    clear hE hse hbt
    go_enter Try.func40, Try.ntmps40
    go_upto_region 1 with (fail)
    refine wp_world fun W HW => ?_
    have hB : Below w.heap.size w W := by rw [HW.out]; (repeat (first | exact Below.refl _ _ | refine Below.alloc ?_ (by simp; try omega) _ | refine Below.setCell ?_ (by simp) _ | refine Below.drew ?_))
    have d0 : W.cell? ⟨w.heap.size, 0, none⟩ = some (.int .i64 n) := by rw [HW.out]; simp [go_sem]
    have d1 : W.cell? ⟨w.heap.size, 1, none⟩ = some (.slice s l.length cap) := by rw [HW.out]; simp [go_sem]
    have d2 : W.cell? ⟨w.heap.size, 2, none⟩ = some (.slice s2 K.length cq) := by rw [HW.out]; simp [go_sem]
    have dl : w.heap.size < W.heap.size := World.block_lt_of_cell? W _ d0
    have g0 : W.cell? ⟨w.heap.size + 1, 0, none⟩ = some (.int .i64 q.f.x) := by rw [HW.out]; simp [go_sem]
    have g1 : W.cell? ⟨w.heap.size + 1, 1, none⟩ = some (.int .i64 q.f.y) := by rw [HW.out]; simp [go_sem]
    have g2 : W.cell? ⟨w.heap.size + 1, 2, none⟩ = some (.int .i64 q.f.z) := by rw [HW.out]; simp [go_sem]
    have g3 : W.cell? ⟨w.heap.size + 1, 3, none⟩ = some (.slice q.s q.off.length q.cap) := by rw [HW.out]; simp [go_sem]
    have gl : w.heap.size + 1 < W.heap.size := World.block_lt_of_cell? W _ g0
    have oB : Row W (w.heap.size + 2) 32 #[.int .i64 0, .int .i64 0, .int .i64 0, .slice none 0 0] := (by rw [HW.out]; (repeat (first | (refine blk_new ?_; simp; done) | refine blk_old ?_ _)) : W.heap[w.heap.size + 2]? = some (.cells #[.int .i64 0, .int .i64 0, .int .i64 0, .slice none 0 0] 32 (0, 0)))
    have o0 : W.cell? ⟨w.heap.size + 2, 0, none⟩ = some (.int .i64 0) := by rw [HW.out]; simp [go_sem]
    have o1 : W.cell? ⟨w.heap.size + 2, 1, none⟩ = some (.int .i64 0) := by rw [HW.out]; simp [go_sem]
    have o2 : W.cell? ⟨w.heap.size + 2, 2, none⟩ = some (.int .i64 0) := by rw [HW.out]; simp [go_sem]
    have o3 : W.cell? ⟨w.heap.size + 2, 3, none⟩ = some (.slice none 0 0) := by rw [HW.out]; simp [go_sem]
    have ol : w.heap.size + 2 < W.heap.size := World.block_lt_of_cell? W _ o0
    try replace hr := up_of hB hr
    try replace hq := up_of hB hq
    go_upto_region 3 with (first | (go_at_call 57; refine (hal.out _ _ hr hq).mono ?_; rintro e W1 ⟨rfl, hb⟩; (try replace hr := up_of hb hr); (try replace hq := up_of hb hq); (try replace hB := up_of hb hB); (try replace d0 := up_of hb d0); (try replace d1 := up_of hb d1); (try replace d2 := up_of hb d2); (try replace dl := up_of hb dl); (try replace g0 := up_of hb g0); (try replace g1 := up_of hb g1); (try replace g2 := up_of hb g2); (try replace g3 := up_of hb g3); (try replace gl := up_of hb gl); (try replace oB := up_of hb oB); (try replace o0 := up_of hb o0); (try replace o1 := up_of hb o1); (try replace o2 := up_of hb o2); (try replace o3 := up_of hb o3); (try replace ol := up_of hb ol)))
    have rf := fun i => Row.frozen oB i
    go_wp2
    refine sd_end rfl none 0 (b1 := w.heap.size + 2) rfl rfl ?_ SlS.nil ?_
    · refine Row.of ?_
      repeat (first | (with_reducible refine RowG.base oB ?_) | (with_reducible refine RowG.drew ?_) | (with_reducible refine RowG.set ?_) | ((with_reducible refine RowG.other ?_ ?_); (focus (first | omega | (simp; done) | (simp; omega)))) | (with_reducible refine RowG.alloc ?_))
      rfl
    · repeat (first | (with_reducible exact hB) | (with_reducible refine Below.drew ?_) | ((with_reducible refine Below.setC ?_ ?_); (focus (first | omega | (simp; done) | (simp; omega)))) | ((with_reducible refine Below.allo ?_ ?_); (focus (first | omega | (simp; done) | (simp; omega)))))
  rw [if_neg (fun h => h h0)] at hse
  rw [h0] at hal
  obtain ⟨hrb, -, hk1, hk4, -, -, qf, ql, qo⟩ := chk_ok h0
  cases hbk : bw 1 kk 9
  case false =>
    rw [hbk] at hbt hse
    simp only [Bool.false_eq_true, if_false] at hse
    simp only [hse]
    replace hal := Lib.hid hal; replace hbt := Lib.hid hbt; replace ql := Lib.hid ql
    clear hse hbk h0
    go_enter Try.func40, Try.ntmps40
    go_upto_region 1 with (fail)
    refine wp_world fun W HW => ?_
    have hB : Below w.heap.size w W := by rw [HW.out]; (repeat (first | exact Below.refl _ _ | refine Below.alloc ?_ (by simp; try omega) _ | refine Below.setCell ?_ (by simp) _ | refine Below.drew ?_))
    have d0 : W.cell? ⟨w.heap.size, 0, none⟩ = some (.int .i64 n) := by rw [HW.out]; simp [go_sem]
    have d1 : W.cell? ⟨w.heap.size, 1, none⟩ = some (.slice s l.length cap) := by rw [HW.out]; simp [go_sem]
    have d2 : W.cell? ⟨w.heap.size, 2, none⟩ = some (.slice s2 K.length cq) := by rw [HW.out]; simp [go_sem]
    have dl : w.heap.size < W.heap.size := World.block_lt_of_cell? W _ d0
    have g0 : W.cell? ⟨w.heap.size + 1, 0, none⟩ = some (.int .i64 q.f.x) := by rw [HW.out]; simp [go_sem]
    have g1 : W.cell? ⟨w.heap.size + 1, 1, none⟩ = some (.int .i64 q.f.y) := by rw [HW.out]; simp [go_sem]
    have g2 : W.cell? ⟨w.heap.size + 1, 2, none⟩ = some (.int .i64 q.f.z) := by rw [HW.out]; simp [go_sem]
    have g3 : W.cell? ⟨w.heap.size + 1, 3, none⟩ = some (.slice q.s q.off.length q.cap) := by rw [HW.out]; simp [go_sem]
    have gl : w.heap.size + 1 < W.heap.size := World.block_lt_of_cell? W _ g0
    have oB : Row W (w.heap.size + 2) 32 #[.int .i64 0, .int .i64 0, .int .i64 0, .slice none 0 0] := (by rw [HW.out]; (repeat (first | (refine blk_new ?_; simp; done) | refine blk_old ?_ _)) : W.heap[w.heap.size + 2]? = some (.cells #[.int .i64 0, .int .i64 0, .int .i64 0, .slice none 0 0] 32 (0, 0)))
    have o0 : W.cell? ⟨w.heap.size + 2, 0, none⟩ = some (.int .i64 0) := by rw [HW.out]; simp [go_sem]
    have o1 : W.cell? ⟨w.heap.size + 2, 1, none⟩ = some (.int .i64 0) := by rw [HW.out]; simp [go_sem]
    have o2 : W.cell? ⟨w.heap.size + 2, 2, none⟩ = some (.int .i64 0) := by rw [HW.out]; simp [go_sem]
    have o3 : W.cell? ⟨w.heap.size + 2, 3, none⟩ = some (.slice none 0 0) := by rw [HW.out]; simp [go_sem]
    have ol : w.heap.size + 2 < W.heap.size := World.block_lt_of_cell? W _ o0
    try replace hr := up_of hB hr
    try replace hq := up_of hB hq
    go_upto_region 5 with (first | (go_at_call 57; refine (hal.out _ _ hr hq).mono ?_; rintro e W1 ⟨rfl, hb⟩; (try replace hr := up_of hb hr); (try replace hq := up_of hb hq); (try replace hB := up_of hb hB); (try replace d0 := up_of hb d0); (try replace d1 := up_of hb d1); (try replace d2 := up_of hb d2); (try replace dl := up_of hb dl); (try replace g0 := up_of hb g0); (try replace g1 := up_of hb g1); (try replace g2 := up_of hb g2); (try replace g3 := up_of hb g3); (try replace gl := up_of hb gl); (try replace oB := up_of hb oB); (try replace o0 := up_of hb o0); (try replace o1 := up_of hb o1); (try replace o2 := up_of hb o2); (try replace o3 := up_of hb o3); (try replace ol := up_of hb ol)) | (go_at_call 59; refine (hbt.out _).mono ?_; rintro e w' ⟨rfl, rfl⟩))
    have rf := fun i => Row.frozen oB i
    go_wp2
    refine sd_end rfl none 0 (b1 := w.heap.size + 2) rfl rfl ?_ SlS.nil ?_
    · refine Row.of ?_
      repeat (first | (with_reducible refine RowG.base oB ?_) | (with_reducible refine RowG.drew ?_) | (with_reducible refine RowG.set ?_) | ((with_reducible refine RowG.other ?_ ?_); (focus (first | omega | (simp; done) | (simp; omega)))) | (with_reducible refine RowG.alloc ?_))
      rfl
    · repeat (first | (with_reducible exact hB) | (with_reducible refine Below.drew ?_) | ((with_reducible refine Below.setC ?_ ?_); (focus (first | omega | (simp; done) | (simp; omega)))) | ((with_reducible refine Below.allo ?_ ?_); (focus (first | omega | (simp; done) | (simp; omega)))))
  rw [hbk] at hbt hse
  have hkk := bw_iff.1 hbk
  have hlg := fun V (h : RecM V s l s2 cq K) (h1 : SdM V q) => legal_c n s cap l s2 cq K q V h h1 hrb ql hk4
  cases hlb : legB K q
  case false =>
    rw [hlb] at hlg hse
    simp only [Bool.false_eq_true, if_false, if_true] at hse
    simp only [hse]
    replace hal := Lib.hid hal; replace hbt := Lib.hid hbt; replace ql := Lib.hid ql; replace hlg := Lib.hid hlg
    clear hse hbk h0 hlb
    go_enter Try.func40, Try.ntmps40
    go_upto_region 1 with (fail)
    refine wp_world fun W HW => ?_
    have hB : Below w.heap.size w W := by rw [HW.out]; (repeat (first | exact Below.refl _ _ | refine Below.alloc ?_ (by simp; try omega) _ | refine Below.setCell ?_ (by simp) _ | refine Below.drew ?_))
    have d0 : W.cell? ⟨w.heap.size, 0, none⟩ = some (.int .i64 n) := by rw [HW.out]; simp [go_sem]
    have d1 : W.cell? ⟨w.heap.size, 1, none⟩ = some (.slice s l.length cap) := by rw [HW.out]; simp [go_sem]
    have d2 : W.cell? ⟨w.heap.size, 2, none⟩ = some (.slice s2 K.length cq) := by rw [HW.out]; simp [go_sem]
    have dl : w.heap.size < W.heap.size := World.block_lt_of_cell? W _ d0
    have g0 : W.cell? ⟨w.heap.size + 1, 0, none⟩ = some (.int .i64 q.f.x) := by rw [HW.out]; simp [go_sem]
    have g1 : W.cell? ⟨w.heap.size + 1, 1, none⟩ = some (.int .i64 q.f.y) := by rw [HW.out]; simp [go_sem]
    have g2 : W.cell? ⟨w.heap.size + 1, 2, none⟩ = some (.int .i64 q.f.z) := by rw [HW.out]; simp [go_sem]
    have g3 : W.cell? ⟨w.heap.size + 1, 3, none⟩ = some (.slice q.s q.off.length q.cap) := by rw [HW.out]; simp [go_sem]
    have gl : w.heap.size + 1 < W.heap.size := World.block_lt_of_cell? W _ g0
    have oB : Row W (w.heap.size + 2) 32 #[.int .i64 0, .int .i64 0, .int .i64 0, .slice none 0 0] := (by rw [HW.out]; (repeat (first | (refine blk_new ?_; simp; done) | refine blk_old ?_ _)) : W.heap[w.heap.size + 2]? = some (.cells #[.int .i64 0, .int .i64 0, .int .i64 0, .slice none 0 0] 32 (0, 0)))
    have o0 : W.cell? ⟨w.heap.size + 2, 0, none⟩ = some (.int .i64 0) := by rw [HW.out]; simp [go_sem]
    have o1 : W.cell? ⟨w.heap.size + 2, 1, none⟩ = some (.int .i64 0) := by rw [HW.out]; simp [go_sem]
    have o2 : W.cell? ⟨w.heap.size + 2, 2, none⟩ = some (.int .i64 0) := by rw [HW.out]; simp [go_sem]
    have o3 : W.cell? ⟨w.heap.size + 2, 3, none⟩ = some (.slice none 0 0) := by rw [HW.out]; simp [go_sem]
    have ol : w.heap.size + 2 < W.heap.size := World.block_lt_of_cell? W _ o0
    try replace hr := up_of hB hr
    try replace hq := up_of hB hq
    go_upto_region 7 with (first | (go_at_call 57; refine (hal.out _ _ hr hq).mono ?_; rintro e W1 ⟨rfl, hb⟩; (try replace hr := up_of hb hr); (try replace hq := up_of hb hq); (try replace hB := up_of hb hB); (try replace d0 := up_of hb d0); (try replace d1 := up_of hb d1); (try replace d2 := up_of hb d2); (try replace dl := up_of hb dl); (try replace g0 := up_of hb g0); (try replace g1 := up_of hb g1); (try replace g2 := up_of hb g2); (try replace g3 := up_of hb g3); (try replace gl := up_of hb gl); (try replace oB := up_of hb oB); (try replace o0 := up_of hb o0); (try replace o1 := up_of hb o1); (try replace o2 := up_of hb o2); (try replace o3 := up_of hb o3); (try replace ol := up_of hb ol)) | (go_at_call 59; refine (hbt.out _).mono ?_; rintro e w' ⟨rfl, rfl⟩) | (go_at_call 67; refine (hlg.out _ hr hq).mono ?_; rintro e W1 ⟨rfl, hb⟩; (try replace hr := up_of hb hr); (try replace hq := up_of hb hq); (try replace hB := up_of hb hB); (try replace d0 := up_of hb d0); (try replace d1 := up_of hb d1); (try replace d2 := up_of hb d2); (try replace dl := up_of hb dl); (try replace g0 := up_of hb g0); (try replace g1 := up_of hb g1); (try replace g2 := up_of hb g2); (try replace g3 := up_of hb g3); (try replace gl := up_of hb gl); (try replace oB := up_of hb oB); (try replace o0 := up_of hb o0); (try replace o1 := up_of hb o1); (try replace o2 := up_of hb o2); (try replace o3 := up_of hb o3); (try replace ol := up_of hb ol)))
    have rf := fun i => Row.frozen oB i
    go_wp2
    refine sd_end rfl none 0 (b1 := w.heap.size + 2) rfl rfl ?_ SlS.nil ?_
    · refine Row.of ?_
      repeat (first | (with_reducible refine RowG.base oB ?_) | (with_reducible refine RowG.drew ?_) | (with_reducible refine RowG.set ?_) | ((with_reducible refine RowG.other ?_ ?_); (focus (first | omega | (simp; done) | (simp; omega)))) | (with_reducible refine RowG.alloc ?_))
      rfl
    · repeat (first | (with_reducible exact hB) | (with_reducible refine Below.drew ?_) | ((with_reducible refine Below.setC ?_ ?_); (focus (first | omega | (simp; done) | (simp; omega)))) | ((with_reducible refine Below.allo ?_ ?_); (focus (first | omega | (simp; done) | (simp; omega)))))
  rw [hlb] at hlg hse
  simp only [if_true] at hse
  have qf9 := flat_abs qf
  have hcl := fun V (h : SdM V q) => int_clone2 q.s q.cap q.off V h.off (by omega) (by omega)
  obtain ⟨B, hBe⟩ : ∃ x, fitB n K.length (mulP kk q.f) (mulO K.length kk q.off) = x := ⟨_, rfl⟩
  rw [hBe] at hse
  have hres := fun V g c (h : RecM V s l s2 cq K) (h1 : SlS intE V g (mulO K.length kk q.off)) (h2 : (mulO K.length kk q.off).length ≤ 9223372036854775807) => result_r n s cap l s2 cq K (mulP kk q.f) (mulO K.length kk q.off) g c V h h1 h2 hBe
  rw [show (if slowE n l K q kk = 0 then mulP kk q.f else ⟨0, 0, 0⟩) = if B then mulP kk q.f else ⟨0, 0, 0⟩ by rw [hse]; cases B <;> rfl, show (if slowE n l K q kk = 0 then mulO K.length kk q.off else []) = if B then mulO K.length kk q.off else [] by rw [hse]; cases B <;> rfl, hse]
  obtain ⟨RF, hRF⟩ : ∃ x, (if B then mulP kk q.f else ⟨0, 0, 0⟩) = x := ⟨_, rfl⟩
  obtain ⟨RO, hRO⟩ : ∃ x, (if B then mulO K.length kk q.off else []) = x := ⟨_, rfl⟩
  obtain ⟨RE, hRE⟩ : ∃ x, (if B then (0 : Int) else 4) = x := ⟨_, rfl⟩
  have hall : setAll (fun v => kk * q.off.getD v 0) q.off q.off.length = mulO K.length kk q.off := by rw [setAll_all, ql]; rfl
  simp only [hRF, hRO, hRE] at hres ⊢
  have hol2 : (mulO K.length kk q.off).length = q.off.length := by unfold mulO; rw [List.length_map, List.length_range, ql]
  obtain ⟨AO, hAO⟩ : ∃ x, mulO K.length kk q.off = x := ⟨_, rfl⟩
  obtain ⟨fO, hfO, hfb⟩ : ∃ fO : Nat → Int, (fun v => kk * q.off.getD v 0) = fO ∧ ∀ v (h1 : v < q.off.length), q.off[v] * kk = fO v ∧ -9000 ≤ fO v ∧ fO v ≤ 9000 := ⟨_, rfl, fun v h1 => by
    have b1 := off_bd qo (List.getElem_mem h1)
    have h2 := mul_bd (a := q.off[v]) (b := kk) (A := 1000) (B := 9) (by omega) (by omega)
    have e : kk * q.off.getD v 0 = q.off[v] * kk := by rw [List.getD_eq_getElem?_getD, List.getElem?_eq_getElem h1, Int.mul_comm]; rfl
    show q.off[v] * kk = kk * q.off.getD v 0 ∧ -9000 ≤ kk * q.off.getD v 0 ∧ kk * q.off.getD v 0 ≤ 9000
    rw [e]
    generalize q.off[v] * kk = z at *
    refine ⟨rfl, by omega, by omega⟩⟩
  rw [hAO] at hall hol2
  rw [hfO] at hall
  simp only [hAO] at hres
  have hq4 : q.off.length ≤ 4 := by omega
  obtain ⟨PF, hPF, hpb⟩ : ∃ P, mulP kk q.f = P ∧ ∀ k, k < 3 → q.f.get k * kk = P.get k ∧ -81 ≤ P.get k ∧ P.get k ≤ 81 := ⟨_, rfl, fun k hk => mul_get qf9 hkk hk⟩
  simp only [hPF] at hres
  clear hRF hRO hRE hse hBe h0 hAO hfO qf qo qf9 hrb hbk hlb hPF
  replace hal := Lib.hid hal; replace hcl := Lib.hid hcl; replace hres := Lib.hid hres; replace hall := Lib.hid hall; replace hol2 := Lib.hid hol2; replace hfb := Lib.hid hfb; replace hpb := Lib.hid hpb; replace ql := Lib.hid ql; replace hk1 := Lib.hid hk1; replace hlg := Lib.hid hlg; replace hbt := Lib.hid hbt
  have hr0 := Lib.hid hr
  go_enter Try.func40, Try.ntmps40
  go_upto_region 1 with (fail)
  refine wp_world fun W HW => ?_
  have hB : Below w.heap.size w W := by rw [HW.out]; (repeat (first | exact Below.refl _ _ | refine Below.alloc ?_ (by simp; try omega) _ | refine Below.setCell ?_ (by simp) _ | refine Below.drew ?_))
  have dB : Row W (w.heap.size) 27 #[.int .i64 n, .slice s l.length cap, .slice s2 K.length cq] := (by rw [HW.out]; (repeat (first | (refine blk_new ?_; simp; done) | refine blk_old ?_ _)) : W.heap[w.heap.size]? = some (.cells #[.int .i64 n, .slice s l.length cap, .slice s2 K.length cq] 27 (0, 0)))
  have d0 : W.cell? ⟨w.heap.size, 0, none⟩ = some (.int .i64 n) := by rw [HW.out]; simp [go_sem]
  have d1 : W.cell? ⟨w.heap.size, 1, none⟩ = some (.slice s l.length cap) := by rw [HW.out]; simp [go_sem]
  have d2 : W.cell? ⟨w.heap.size, 2, none⟩ = some (.slice s2 K.length cq) := by rw [HW.out]; simp [go_sem]
  have dl : w.heap.size < W.heap.size := World.block_lt_of_cell? W _ d0
  have g0 : W.cell? ⟨w.heap.size + 1, 0, none⟩ = some (.int .i64 q.f.x) := by rw [HW.out]; simp [go_sem]
  have g1 : W.cell? ⟨w.heap.size + 1, 1, none⟩ = some (.int .i64 q.f.y) := by rw [HW.out]; simp [go_sem]
  have g2 : W.cell? ⟨w.heap.size + 1, 2, none⟩ = some (.int .i64 q.f.z) := by rw [HW.out]; simp [go_sem]
  have g3 : W.cell? ⟨w.heap.size + 1, 3, none⟩ = some (.slice q.s q.off.length q.cap) := by rw [HW.out]; simp [go_sem]
  have gl : w.heap.size + 1 < W.heap.size := World.block_lt_of_cell? W _ g0
  have oB : Row W (w.heap.size + 2) 32 #[.int .i64 0, .int .i64 0, .int .i64 0, .slice none 0 0] := (by rw [HW.out]; (repeat (first | (refine blk_new ?_; simp; done) | refine blk_old ?_ _)) : W.heap[w.heap.size + 2]? = some (.cells #[.int .i64 0, .int .i64 0, .int .i64 0, .slice none 0 0] 32 (0, 0)))
  have o0 : W.cell? ⟨w.heap.size + 2, 0, none⟩ = some (.int .i64 0) := by rw [HW.out]; simp [go_sem]
  have o1 : W.cell? ⟨w.heap.size + 2, 1, none⟩ = some (.int .i64 0) := by rw [HW.out]; simp [go_sem]
  have o2 : W.cell? ⟨w.heap.size + 2, 2, none⟩ = some (.int .i64 0) := by rw [HW.out]; simp [go_sem]
  have o3 : W.cell? ⟨w.heap.size + 2, 3, none⟩ = some (.slice none 0 0) := by rw [HW.out]; simp [go_sem]
  have ol : w.heap.size + 2 < W.heap.size := World.block_lt_of_cell? W _ o0
  try replace hr := up_of hB hr
  try replace hq := up_of hB hq
  go_upto_region 6 with (first | (go_at_call 57; refine (hal.out _ _ hr hq).mono ?_; rintro e W1 ⟨rfl, hb⟩; (try replace hr := up_of hb hr); (try replace hq := up_of hb hq); (try replace hB := up_of hb hB); (try replace dB := up_of hb dB); (try replace d0 := up_of hb d0); (try replace d1 := up_of hb d1); (try replace d2 := up_of hb d2); (try replace dl := up_of hb dl); (try replace g0 := up_of hb g0); (try replace g1 := up_of hb g1); (try replace g2 := up_of hb g2); (try replace g3 := up_of hb g3); (try replace gl := up_of hb gl); (try replace oB := up_of hb oB); (try replace o0 := up_of hb o0); (try replace o1 := up_of hb o1); (try replace o2 := up_of hb o2); (try replace o3 := up_of hb o3); (try replace ol := up_of hb ol)) | (go_at_call 59; refine (hbt.out _).mono ?_; rintro e w' ⟨rfl, rfl⟩))
  go_upto_region 8 with (first | (go_at_call 67; refine (hlg.out _ hr hq).mono ?_; rintro e W4 ⟨rfl, hb⟩; (try replace hr := up_of hb hr); (try replace hq := up_of hb hq); (try replace hB := up_of hb hB); (try replace dB := up_of hb dB); (try replace d0 := up_of hb d0); (try replace d1 := up_of hb d1); (try replace d2 := up_of hb d2); (try replace dl := up_of hb dl); (try replace g0 := up_of hb g0); (try replace g1 := up_of hb g1); (try replace g2 := up_of hb g2); (try replace g3 := up_of hb g3); (try replace gl := up_of hb gl); (try replace oB := up_of hb oB); (try replace o0 := up_of hb o0); (try replace o1 := up_of hb o1); (try replace o2 := up_of hb o2); (try replace o3 := up_of hb o3); (try replace ol := up_of hb ol)))
  have hol4 := ol
  go_region_held3 (fun V => V.cell? ⟨w.heap.size + 1, 0, none⟩ = some (.int .i64 q.f.x) ∧ V.cell? ⟨w.heap.size + 1, 1, none⟩ = some (.int .i64 q.f.y) ∧ V.cell? ⟨w.heap.size + 1, 2, none⟩ = some (.int .i64 q.f.z) ∧ V.cell? ⟨w.heap.size + 1, 3, none⟩ = some (.slice q.s q.off.length q.cap)) ((first | (with_reducible exact ⟨g0, g1, g2, g3⟩) | ((try dsimp only); (repeat' apply And.intro) <;> (repeat (first | (with_reducible assumption) | (with_reducible refine cell_set (by simp; try omega) ?_) | (with_reducible refine cell_drew ?_) | (with_reducible refine cell_alloc ?_ _)))))) ((first | (go_at_call 85; refine calls_below (W0 := W4) ?_ fun hpre => ?_; (repeat (first | exact Below.refl _ _ | refine Below.alloc ?_ (by simp; try omega) _ | refine Below.drew ?_)); refine (hcl.out _ (up_of hpre hq)).mono ?_; rintro e N1 ⟨⟨s3, c3, rfl, hown⟩, hb1⟩; have hcc := cellB hb1; have hff := frozB hb1; have hb := Up.trans hpre hb1; clear hpre; (first | have hs_N1 := below_alloc_lt hb1 | have hs_N1 := below_alloc_lt (drewB hb1) | skip); have dl_N1 := dl; have gl_N1 := gl; have ol_N1 := ol; (try replace hr := up_of hb hr); (try replace hq := up_of hb hq); (try replace hB := up_of hb hB); (try replace dB := up_of hb dB); (try replace d0 := up_of hb d0); (try replace d1 := up_of hb d1); (try replace d2 := up_of hb d2); (try replace dl := up_of hb dl); (try replace g0 := up_of hb g0); (try replace g1 := up_of hb g1); (try replace g2 := up_of hb g2); (try replace g3 := up_of hb g3); (try replace gl := up_of hb gl); (try replace oB := up_of hb oB); (try replace o0 := up_of hb o0); (try replace o1 := up_of hb o1); (try replace o2 := up_of hb o2); (try replace o3 := up_of hb o3); (try replace ol := up_of hb ol); (first | have nB := new_up hb1 | have nB := new_up (drewB hb1) | (try replace nB := up_of hb nB)))))
  · skip
    have hN1s := hb.size
    have hw4 := hB.size
    refine exit_world fun X HX => ?_
    have hBX : Below w.heap.size w X := by
      rw [HX.out]
      repeat (first | (with_reducible exact hB) | (with_reducible refine Below.drew ?_) | ((with_reducible refine Below.setC ?_ ?_); (focus (first | omega | (simp; done) | (simp; omega)))) | ((with_reducible refine Below.allo ?_ ?_); (focus (first | omega | (simp; done) | (simp; omega)))))
    first | (refine have_it (Row X N1.heap.size 32 #[.int .i64 q.f.x, .int .i64 q.f.y, .int .i64 q.f.z, .slice s3 q.off.length c3]) ?_ fun tX => ?_; (focus (rw [HX.out]; refine Row.of ?_; (repeat (first | (with_reducible refine RowG.base nB ?_) | (with_reducible refine RowG.drew ?_) | (with_reducible refine RowG.set ?_) | (with_reducible refine RowG.new ?_) | ((with_reducible refine RowG.other ?_ ?_); (focus (first | omega | (simp; done) | (simp; omega)))) | (with_reducible refine RowG.alloc ?_))); rfl; done)))
    obtain ⟨gg, eg, -, -⟩ := own_ex hown (by have := hk1.out; have := ql.out; omega)
    cases eg
    have hol := hown.lt gg rfl
    have hoX : X.ownsRow w.heap.size 3 1 (.slice (some ⟨gg, 0, none⟩) q.off.length c3) q.off.length (intE.all (setAll fO q.off 0)) := by
      rw [HX.out]
      refine owns_mono (own_chgB (p := fun j => j = N1.heap.size) ?_ hown (fun j hj e => by have := hown.lt j hj; omega)) (by first | omega | (simp; omega))
      repeat (first | (with_reducible exact Chg.refl _ _) | ((with_reducible refine Chg.setC ?_ ?_); (focus rfl)) | (with_reducible refine Chg.drew ?_) | (with_reducible refine Chg.alloc ?_ _))
    have dX : Row X w.heap.size 27 #[.int .i64 n, .slice s l.length cap, .slice s2 K.length cq] := by
      rw [HX.out]
      refine Row.of ?_
      repeat (first | (with_reducible refine RowG.base dB ?_) | (with_reducible refine RowG.drew ?_) | (with_reducible refine RowG.set ?_) | ((with_reducible refine RowG.other ?_ ?_); (focus (first | omega | (simp; done) | (simp; omega)))) | (with_reducible refine RowG.alloc ?_))
      rfl
    have oX : Row X (w.heap.size + 2) 32 #[.int .i64 0, .int .i64 0, .int .i64 0, .slice none 0 0] := by
      rw [HX.out]
      refine Row.of ?_
      repeat (first | (with_reducible refine RowG.base oB ?_) | (with_reducible refine RowG.drew ?_) | (with_reducible refine RowG.set ?_) | ((with_reducible refine RowG.other ?_ ?_); (focus (first | omega | (simp; done) | (simp; omega)))) | (with_reducible refine RowG.alloc ?_))
      rfl
    clear HX d0 d1 d2 o0 o1 o2 o3 dB oB hown
    have hob : w.heap.size + 2 < N1.heap.size := by omega
    have hgg : w.heap.size + 2 ≠ gg := by first | omega | (have := hol.1; simp at this; omega)
    have hgg0 : w.heap.size ≠ gg := by first | omega | (have := hol.1; simp at this; omega)
    have hobg : N1.heap.size ≠ gg := by first | omega | (have := hol.1; simp at this; omega)
    go_wp2
    go_loopw [38] (fun ii V => ∃ k : Nat, k ≤ 3 ∧ ii = .int .i64 k ∧ Row V N1.heap.size 32 #[.int .i64 (pm q.f PF k).x, .int .i64 (pm q.f PF k).y, .int .i64 (pm q.f PF k).z, .slice (some ⟨gg, 0, none⟩) q.off.length c3] ∧ V.ownsRow w.heap.size 3 1 (.slice (some ⟨gg, 0, none⟩) q.off.length c3) q.off.length (intE.all (setAll fO q.off 0)) ∧ Row V w.heap.size 27 #[.int .i64 n, .slice s l.length cap, .slice s2 K.length cq] ∧ Row V (w.heap.size + 2) 32 #[.int .i64 0, .int .i64 0, .int .i64 0, .slice none 0 0] ∧ Below w.heap.size w V) (fun ii _ => 3 - (intOf ii).toNat)
    case atStart => exact ⟨0, by omega, rfl, tX, hoX, dX, oX, hBX⟩
    case round =>
      clear tX hoX dX oX hBX
      obtain ⟨k, hk, rfl, hR, hown, dV, oV, hBV⟩ := hrel
      by_cases hlt : k < 3
      · have tc := hR.cell (sd_at hlt)
        have hpg2 : (⟨(pm q.f PF k).x, (pm q.f PF k).y, (pm q.f PF k).z⟩ : Pt).get k = q.f.get k := pm_get q.f PF hlt
        rw [hpg2] at tc
        have hset := pm_set q.f PF hlt (.slice (some ⟨gg, 0, none⟩) q.off.length c3)
        obtain ⟨hpv, b1, b2⟩ := hpb.out k hlt
        obtain ⟨x1, hx1⟩ : ∃ x, q.f.get k = x := ⟨_, rfl⟩
        obtain ⟨y1, hy1⟩ : ∃ x, PF.get k = x := ⟨_, rfl⟩
        rw [hx1] at tc hpv
        rw [hy1] at hset hpv b1 b2
        have ws1 : IntKind.i64.wrap (x1 * kk) = y1 := by rw [hpv, i64_small (by omega)]
        have ws2 : wrap64 (x1 * kk) = y1 := by rw [hpv]; unfold wrap64; omega
        have rf := fun i => Row.frozen hR i
        have rl1 := hR.lt
        have i1 : (0 : Int) ≤ (k : Int) := by omega
        have i2 : (k : Int) < 3 := by omega
        replace hset := Lib.hid hset; replace hx1 := Lib.hid hx1; replace hy1 := Lib.hid hy1; replace hpv := Lib.hid hpv
        clear hpg2
        go_wp2
        go_roundw
        case rel =>
          refine ⟨k + 1, by omega, rfl, ?_, ?_, ?_, ?_, ?_⟩
          · refine Row.of ?_
            repeat (first | (with_reducible refine RowG.base hR ?_) | (with_reducible refine RowG.drew ?_) | (with_reducible refine RowG.set ?_) | ((with_reducible refine RowG.other ?_ ?_); (focus (first | omega | (simp; done) | (simp; omega)))) | (with_reducible refine RowG.alloc ?_))
            exact hset.out
          · exact ownsRow_setCell_other hown (by simp only [Value.ownBlock]; intro e; injection e with e; omega) _
          · refine Row.of ?_
            repeat (first | (with_reducible refine RowG.base dV ?_) | (with_reducible refine RowG.drew ?_) | (with_reducible refine RowG.set ?_) | ((with_reducible refine RowG.other ?_ ?_); (focus (first | omega | (simp; done) | (simp; omega)))) | (with_reducible refine RowG.alloc ?_))
            rfl
          · refine Row.of ?_
            repeat (first | (with_reducible refine RowG.base oV ?_) | (with_reducible refine RowG.drew ?_) | (with_reducible refine RowG.set ?_) | ((with_reducible refine RowG.other ?_ ?_); (focus (first | omega | (simp; done) | (simp; omega)))) | (with_reducible refine RowG.alloc ?_))
            rfl
          · repeat (first | (with_reducible exact hBV) | (with_reducible refine Below.drew ?_) | ((with_reducible refine Below.setC ?_ ?_); (focus (first | omega | (simp; done) | (simp; omega)))) | ((with_reducible refine Below.allo ?_ ?_); (focus (first | omega | (simp; done) | (simp; omega)))))
        case measure => exact meas hlt
      · obtain rfl : k = 3 := by omega
        obtain ⟨d0, d1, d2⟩ := dV.three
        replace hR : Row wr N1.heap.size 32 #[.int .i64 PF.x, .int .i64 PF.y, .int .i64 PF.z, .slice (some ⟨gg, 0, none⟩) q.off.length c3] := hR
        obtain ⟨t0, t1, t2, t3⟩ := hR.four
        go_wp2
        go_loopw [53] (fun ii V => ∃ k : Nat, k ≤ q.off.length ∧ ii = .int .i64 k ∧ Row V N1.heap.size 32 #[.int .i64 PF.x, .int .i64 PF.y, .int .i64 PF.z, .slice (some ⟨gg, 0, none⟩) q.off.length c3] ∧ V.ownsRow w.heap.size 3 1 (.slice (some ⟨gg, 0, none⟩) q.off.length c3) q.off.length (intE.all (setAll fO q.off k)) ∧ Row V w.heap.size 27 #[.int .i64 n, .slice s l.length cap, .slice s2 K.length cq] ∧ Row V (w.heap.size + 2) 32 #[.int .i64 0, .int .i64 0, .int .i64 0, .slice none 0 0] ∧ Below w.heap.size w V) (fun ii _ => q.off.length - (intOf ii).toNat)
        case atStart => exact ⟨0, by omega, rfl, hR, hown, dV, oV, hBV⟩
        case round =>
          clear hR hown dV oV hBV t0 t1 t2 t3 d0 d1 d2
          obtain ⟨k, hk, rfl, hR, hown, dV, oV, hBV⟩ := hrel
          by_cases hlt : k < q.off.length
          · obtain ⟨f1, f2, f3⟩ := hfb.out k hlt
            have hlS : k < (setAll fO q.off k).length := by rw [setAll_len]; exact hlt
            have x0 := owns_cell hown (intE_at _ hlS)
            rw [setAll_here hlt hlS] at x0
            have hst := fun u => World.ownsRow.stored hown k (.int .i64 u)
            simp only [int_set] at hst
            have hnx : (setAll fO q.off k).set k (fO k) = setAll fO q.off (k + 1) := rfl
            obtain ⟨x1, hx1⟩ : ∃ x, q.off[k] = x := ⟨_, rfl⟩
            obtain ⟨y1, hy1⟩ : ∃ x, fO k = x := ⟨_, rfl⟩
            rw [hx1] at x0 f1
            rw [hy1] at f1 f2 f3 hnx
            have ws1 : IntKind.i64.wrap (x1 * kk) = y1 := by rw [f1, i64_small (by omega)]
            have ws2 : wrap64 (x1 * kk) = y1 := by rw [f1]; unfold wrap64; omega
            obtain ⟨t0, t1, t2, t3⟩ := hR.four
            have xf := fun j => World.ownsRow.frozenAt hown j
            have hgl := hown.lt gg rfl
            have i1 : (0 : Int) ≤ (k : Int) := by omega
            have i2 : (k : Int) < (q.off.length : Int) := by omega
            replace hst := Lib.hid hst; replace hnx := Lib.hid hnx; replace f1 := Lib.hid f1; replace hx1 := Lib.hid hx1; replace hy1 := Lib.hid hy1
            go_wp2
            go_roundw
            case rel =>
              refine ⟨k + 1, by omega, rfl, ?_, ?_, ?_, ?_, ?_⟩
              · refine Row.of ?_
                repeat (first | (with_reducible refine RowG.base hR ?_) | (with_reducible refine RowG.drew ?_) | (with_reducible refine RowG.set ?_) | ((with_reducible refine RowG.other ?_ ?_); (focus (first | omega | (simp; done) | (simp; omega)))) | (with_reducible refine RowG.alloc ?_))
                rfl
              · rw [← hnx.out]; exact (hst.out _).1
              · refine Row.of ?_
                repeat (first | (with_reducible refine RowG.base dV ?_) | (with_reducible refine RowG.drew ?_) | (with_reducible refine RowG.set ?_) | ((with_reducible refine RowG.other ?_ ?_); (focus (first | omega | (simp; done) | (simp; omega)))) | (with_reducible refine RowG.alloc ?_))
                rfl
              · refine Row.of ?_
                repeat (first | (with_reducible refine RowG.base oV ?_) | (with_reducible refine RowG.drew ?_) | (with_reducible refine RowG.set ?_) | ((with_reducible refine RowG.other ?_ ?_); (focus (first | omega | (simp; done) | (simp; omega)))) | (with_reducible refine RowG.alloc ?_))
                rfl
              · repeat (first | (with_reducible exact hBV) | (with_reducible refine Below.drew ?_) | ((with_reducible refine Below.setC ?_ ?_); (focus (first | omega | (simp; done) | (simp; omega)))) | ((with_reducible refine Below.allo ?_ ?_); (focus (first | omega | (simp; done) | (simp; omega)))))
            case measure => exact meas hlt
          · obtain rfl : k = q.off.length := by omega
            rw [hall.out] at hown
            rw [← hol2.out] at hR hown
            obtain ⟨t0, t1, t2, t3⟩ := hR.four
            obtain ⟨d0, d1, d2⟩ := dV.three
            obtain ⟨o0, o1, o2, o3⟩ := oV.four
            have ol5 := oV.lt
            have hrV := up_of hBV hr0.out
            have hsd := SlS.of_own (E := intE) hown
            have hsl : AO.length ≤ 9223372036854775807 := by have := hol2.out; have := ql.out; omega
            go_wp2_with (first | (go_at_call 86; refine (hres.out _ _ c3 hrV hsd hsl).mono ?_; rintro e W9 ⟨⟨SS, CC, rfl, hSS⟩, hb9⟩; (try replace oV := up_of hb9 oV); (try replace o0 := up_of hb9 o0); (try replace o1 := up_of hb9 o1); (try replace o2 := up_of hb9 o2); (try replace o3 := up_of hb9 o3); (try replace ol5 := up_of hb9 ol5); (try replace hBV := up_of hb9 hBV); (try replace hown := up_of hb9 hown); have rf := fun i => Row.frozen oV i))
            have hown2 := fun u v x y => ownsRow_setCell_other (ownsRow_setCell_other (ownsRow_setCell_other (ownsRow_setCell_other hown (a := ⟨w.heap.size + 2, 0, none⟩) (by simp only [Value.ownBlock]; intro e; injection e with e; omega) u) (a := ⟨w.heap.size + 2, 1, none⟩) (by simp only [Value.ownBlock]; intro e; injection e with e; omega) v) (a := ⟨w.heap.size + 2, 2, none⟩) (by simp only [Value.ownBlock]; intro e; injection e with e; omega) x) (a := ⟨w.heap.size + 2, 3, none⟩) (by simp only [Value.ownBlock]; intro e; injection e with e; omega) y
            refine sd_end rfl SS CC (b1 := w.heap.size + 2) rfl rfl ?_ ?_ ?_
            · refine Row.of ?_
              repeat (first | (with_reducible refine RowG.base oV ?_) | (with_reducible refine RowG.drew ?_) | (with_reducible refine RowG.set ?_) | ((with_reducible refine RowG.other ?_ ?_); (focus (first | omega | (simp; done) | (simp; omega)))) | (with_reducible refine RowG.alloc ?_))
              rfl
            · exact hSS _ (SlS.of_own (E := intE) (hown2 _ _ _ _))
            · repeat (first | (with_reducible exact hBV) | (with_reducible refine Below.drew ?_) | ((with_reducible refine Below.setC ?_ ?_); (focus (first | omega | (simp; done) | (simp; omega)))) | ((with_reducible refine Below.allo ?_ ?_); (focus (first | omega | (simp; done) | (simp; omega)))))

  · skip
    have hN1s := hb.size
    have hw4 := hB.size
    refine exit_world fun X HX => ?_
    have hBX : Below w.heap.size w X := by
      rw [HX.out]
      repeat (first | (with_reducible exact hB) | (with_reducible refine Below.drew ?_) | ((with_reducible refine Below.setC ?_ ?_); (focus (first | omega | (simp; done) | (simp; omega)))) | ((with_reducible refine Below.allo ?_ ?_); (focus (first | omega | (simp; done) | (simp; omega)))))
    first | (refine have_it (Row X W4.heap.size 32 #[.int .i64 q.f.x, .int .i64 q.f.y, .int .i64 q.f.z, .slice s3 q.off.length c3]) ?_ fun tX => ?_; (focus (rw [HX.out]; refine Row.of ?_; (repeat (first | (with_reducible refine RowG.base nB ?_) | (with_reducible refine RowG.drew ?_) | (with_reducible refine RowG.set ?_) | (with_reducible refine RowG.new ?_) | ((with_reducible refine RowG.other ?_ ?_); (focus (first | omega | (simp; done) | (simp; omega)))) | (with_reducible refine RowG.alloc ?_))); rfl; done)))
    obtain ⟨gg, eg, -, -⟩ := own_ex hown (by have := hk1.out; have := ql.out; omega)
    cases eg
    have hol := hown.lt gg rfl
    have hoX : X.ownsRow w.heap.size 3 1 (.slice (some ⟨gg, 0, none⟩) q.off.length c3) q.off.length (intE.all (setAll fO q.off 0)) := by
      rw [HX.out]
      refine owns_mono (own_chgB (p := fun j => j = W4.heap.size) ?_ hown (fun j hj e => by have := (hown.lt j hj).1; simp at this; omega)) (by first | omega | (simp; omega))
      repeat (first | (with_reducible exact Chg.refl _ _) | ((with_reducible refine Chg.setC ?_ ?_); (focus rfl)) | (with_reducible refine Chg.drew ?_) | (with_reducible refine Chg.alloc ?_ _))
    have dX : Row X w.heap.size 27 #[.int .i64 n, .slice s l.length cap, .slice s2 K.length cq] := by
      rw [HX.out]
      refine Row.of ?_
      repeat (first | (with_reducible refine RowG.base dB ?_) | (with_reducible refine RowG.drew ?_) | (with_reducible refine RowG.set ?_) | ((with_reducible refine RowG.other ?_ ?_); (focus (first | omega | (simp; done) | (simp; omega)))) | (with_reducible refine RowG.alloc ?_))
      rfl
    have oX : Row X (w.heap.size + 2) 32 #[.int .i64 0, .int .i64 0, .int .i64 0, .slice none 0 0] := by
      rw [HX.out]
      refine Row.of ?_
      repeat (first | (with_reducible refine RowG.base oB ?_) | (with_reducible refine RowG.drew ?_) | (with_reducible refine RowG.set ?_) | ((with_reducible refine RowG.other ?_ ?_); (focus (first | omega | (simp; done) | (simp; omega)))) | (with_reducible refine RowG.alloc ?_))
      rfl
    clear HX d0 d1 d2 o0 o1 o2 o3 dB oB hown
    have hob : w.heap.size + 2 < W4.heap.size := by omega
    have hgg : w.heap.size + 2 ≠ gg := by first | omega | (have := hol.1; simp at this; omega)
    have hgg0 : w.heap.size ≠ gg := by first | omega | (have := hol.1; simp at this; omega)
    have hobg : W4.heap.size ≠ gg := by first | omega | (have := hol.1; simp at this; omega)
    go_wp2
    go_loopw [38] (fun ii V => ∃ k : Nat, k ≤ 3 ∧ ii = .int .i64 k ∧ Row V W4.heap.size 32 #[.int .i64 (pm q.f PF k).x, .int .i64 (pm q.f PF k).y, .int .i64 (pm q.f PF k).z, .slice (some ⟨gg, 0, none⟩) q.off.length c3] ∧ V.ownsRow w.heap.size 3 1 (.slice (some ⟨gg, 0, none⟩) q.off.length c3) q.off.length (intE.all (setAll fO q.off 0)) ∧ Row V w.heap.size 27 #[.int .i64 n, .slice s l.length cap, .slice s2 K.length cq] ∧ Row V (w.heap.size + 2) 32 #[.int .i64 0, .int .i64 0, .int .i64 0, .slice none 0 0] ∧ Below w.heap.size w V) (fun ii _ => 3 - (intOf ii).toNat)
    case atStart => exact ⟨0, by omega, rfl, tX, hoX, dX, oX, hBX⟩
    case round =>
      clear tX hoX dX oX hBX
      obtain ⟨k, hk, rfl, hR, hown, dV, oV, hBV⟩ := hrel
      by_cases hlt : k < 3
      · have tc := hR.cell (sd_at hlt)
        have hpg2 : (⟨(pm q.f PF k).x, (pm q.f PF k).y, (pm q.f PF k).z⟩ : Pt).get k = q.f.get k := pm_get q.f PF hlt
        rw [hpg2] at tc
        have hset := pm_set q.f PF hlt (.slice (some ⟨gg, 0, none⟩) q.off.length c3)
        obtain ⟨hpv, b1, b2⟩ := hpb.out k hlt
        obtain ⟨x1, hx1⟩ : ∃ x, q.f.get k = x := ⟨_, rfl⟩
        obtain ⟨y1, hy1⟩ : ∃ x, PF.get k = x := ⟨_, rfl⟩
        rw [hx1] at tc hpv
        rw [hy1] at hset hpv b1 b2
        have ws1 : IntKind.i64.wrap (x1 * kk) = y1 := by rw [hpv, i64_small (by omega)]
        have ws2 : wrap64 (x1 * kk) = y1 := by rw [hpv]; unfold wrap64; omega
        have rf := fun i => Row.frozen hR i
        have rl1 := hR.lt
        have i1 : (0 : Int) ≤ (k : Int) := by omega
        have i2 : (k : Int) < 3 := by omega
        replace hset := Lib.hid hset; replace hx1 := Lib.hid hx1; replace hy1 := Lib.hid hy1; replace hpv := Lib.hid hpv
        clear hpg2
        go_wp2
        go_roundw
        case rel =>
          refine ⟨k + 1, by omega, rfl, ?_, ?_, ?_, ?_, ?_⟩
          · refine Row.of ?_
            repeat (first | (with_reducible refine RowG.base hR ?_) | (with_reducible refine RowG.drew ?_) | (with_reducible refine RowG.set ?_) | ((with_reducible refine RowG.other ?_ ?_); (focus (first | omega | (simp; done) | (simp; omega)))) | (with_reducible refine RowG.alloc ?_))
            exact hset.out
          · exact ownsRow_setCell_other hown (by simp only [Value.ownBlock]; intro e; injection e with e; omega) _
          · refine Row.of ?_
            repeat (first | (with_reducible refine RowG.base dV ?_) | (with_reducible refine RowG.drew ?_) | (with_reducible refine RowG.set ?_) | ((with_reducible refine RowG.other ?_ ?_); (focus (first | omega | (simp; done) | (simp; omega)))) | (with_reducible refine RowG.alloc ?_))
            rfl
          · refine Row.of ?_
            repeat (first | (with_reducible refine RowG.base oV ?_) | (with_reducible refine RowG.drew ?_) | (with_reducible refine RowG.set ?_) | ((with_reducible refine RowG.other ?_ ?_); (focus (first | omega | (simp; done) | (simp; omega)))) | (with_reducible refine RowG.alloc ?_))
            rfl
          · repeat (first | (with_reducible exact hBV) | (with_reducible refine Below.drew ?_) | ((with_reducible refine Below.setC ?_ ?_); (focus (first | omega | (simp; done) | (simp; omega)))) | ((with_reducible refine Below.allo ?_ ?_); (focus (first | omega | (simp; done) | (simp; omega)))))
        case measure => exact meas hlt
      · obtain rfl : k = 3 := by omega
        obtain ⟨d0, d1, d2⟩ := dV.three
        replace hR : Row wr W4.heap.size 32 #[.int .i64 PF.x, .int .i64 PF.y, .int .i64 PF.z, .slice (some ⟨gg, 0, none⟩) q.off.length c3] := hR
        obtain ⟨t0, t1, t2, t3⟩ := hR.four
        go_wp2
        go_loopw [53] (fun ii V => ∃ k : Nat, k ≤ q.off.length ∧ ii = .int .i64 k ∧ Row V W4.heap.size 32 #[.int .i64 PF.x, .int .i64 PF.y, .int .i64 PF.z, .slice (some ⟨gg, 0, none⟩) q.off.length c3] ∧ V.ownsRow w.heap.size 3 1 (.slice (some ⟨gg, 0, none⟩) q.off.length c3) q.off.length (intE.all (setAll fO q.off k)) ∧ Row V w.heap.size 27 #[.int .i64 n, .slice s l.length cap, .slice s2 K.length cq] ∧ Row V (w.heap.size + 2) 32 #[.int .i64 0, .int .i64 0, .int .i64 0, .slice none 0 0] ∧ Below w.heap.size w V) (fun ii _ => q.off.length - (intOf ii).toNat)
        case atStart => exact ⟨0, by omega, rfl, hR, hown, dV, oV, hBV⟩
        case round =>
          clear hR hown dV oV hBV t0 t1 t2 t3 d0 d1 d2
          obtain ⟨k, hk, rfl, hR, hown, dV, oV, hBV⟩ := hrel
          by_cases hlt : k < q.off.length
          · obtain ⟨f1, f2, f3⟩ := hfb.out k hlt
            have hlS : k < (setAll fO q.off k).length := by rw [setAll_len]; exact hlt
            have x0 := owns_cell hown (intE_at _ hlS)
            rw [setAll_here hlt hlS] at x0
            have hst := fun u => World.ownsRow.stored hown k (.int .i64 u)
            simp only [int_set] at hst
            have hnx : (setAll fO q.off k).set k (fO k) = setAll fO q.off (k + 1) := rfl
            obtain ⟨x1, hx1⟩ : ∃ x, q.off[k] = x := ⟨_, rfl⟩
            obtain ⟨y1, hy1⟩ : ∃ x, fO k = x := ⟨_, rfl⟩
            rw [hx1] at x0 f1
            rw [hy1] at f1 f2 f3 hnx
            have ws1 : IntKind.i64.wrap (x1 * kk) = y1 := by rw [f1, i64_small (by omega)]
            have ws2 : wrap64 (x1 * kk) = y1 := by rw [f1]; unfold wrap64; omega
            obtain ⟨t0, t1, t2, t3⟩ := hR.four
            have xf := fun j => World.ownsRow.frozenAt hown j
            have hgl := hown.lt gg rfl
            have i1 : (0 : Int) ≤ (k : Int) := by omega
            have i2 : (k : Int) < (q.off.length : Int) := by omega
            replace hst := Lib.hid hst; replace hnx := Lib.hid hnx; replace f1 := Lib.hid f1; replace hx1 := Lib.hid hx1; replace hy1 := Lib.hid hy1
            go_wp2
            go_roundw
            case rel =>
              refine ⟨k + 1, by omega, rfl, ?_, ?_, ?_, ?_, ?_⟩
              · refine Row.of ?_
                repeat (first | (with_reducible refine RowG.base hR ?_) | (with_reducible refine RowG.drew ?_) | (with_reducible refine RowG.set ?_) | ((with_reducible refine RowG.other ?_ ?_); (focus (first | omega | (simp; done) | (simp; omega)))) | (with_reducible refine RowG.alloc ?_))
                rfl
              · rw [← hnx.out]; exact (hst.out _).1
              · refine Row.of ?_
                repeat (first | (with_reducible refine RowG.base dV ?_) | (with_reducible refine RowG.drew ?_) | (with_reducible refine RowG.set ?_) | ((with_reducible refine RowG.other ?_ ?_); (focus (first | omega | (simp; done) | (simp; omega)))) | (with_reducible refine RowG.alloc ?_))
                rfl
              · refine Row.of ?_
                repeat (first | (with_reducible refine RowG.base oV ?_) | (with_reducible refine RowG.drew ?_) | (with_reducible refine RowG.set ?_) | ((with_reducible refine RowG.other ?_ ?_); (focus (first | omega | (simp; done) | (simp; omega)))) | (with_reducible refine RowG.alloc ?_))
                rfl
              · repeat (first | (with_reducible exact hBV) | (with_reducible refine Below.drew ?_) | ((with_reducible refine Below.setC ?_ ?_); (focus (first | omega | (simp; done) | (simp; omega)))) | ((with_reducible refine Below.allo ?_ ?_); (focus (first | omega | (simp; done) | (simp; omega)))))
            case measure => exact meas hlt
          · obtain rfl : k = q.off.length := by omega
            rw [hall.out] at hown
            rw [← hol2.out] at hR hown
            obtain ⟨t0, t1, t2, t3⟩ := hR.four
            obtain ⟨d0, d1, d2⟩ := dV.three
            obtain ⟨o0, o1, o2, o3⟩ := oV.four
            have ol5 := oV.lt
            have hrV := up_of hBV hr0.out
            have hsd := SlS.of_own (E := intE) hown
            have hsl : AO.length ≤ 9223372036854775807 := by have := hol2.out; have := ql.out; omega
            go_wp2_with (first | (go_at_call 86; refine (hres.out _ _ c3 hrV hsd hsl).mono ?_; rintro e W9 ⟨⟨SS, CC, rfl, hSS⟩, hb9⟩; (try replace oV := up_of hb9 oV); (try replace o0 := up_of hb9 o0); (try replace o1 := up_of hb9 o1); (try replace o2 := up_of hb9 o2); (try replace o3 := up_of hb9 o3); (try replace ol5 := up_of hb9 ol5); (try replace hBV := up_of hb9 hBV); (try replace hown := up_of hb9 hown); have rf := fun i => Row.frozen oV i))
            have hown2 := fun u v x y => ownsRow_setCell_other (ownsRow_setCell_other (ownsRow_setCell_other (ownsRow_setCell_other hown (a := ⟨w.heap.size + 2, 0, none⟩) (by simp only [Value.ownBlock]; intro e; injection e with e; omega) u) (a := ⟨w.heap.size + 2, 1, none⟩) (by simp only [Value.ownBlock]; intro e; injection e with e; omega) v) (a := ⟨w.heap.size + 2, 2, none⟩) (by simp only [Value.ownBlock]; intro e; injection e with e; omega) x) (a := ⟨w.heap.size + 2, 3, none⟩) (by simp only [Value.ownBlock]; intro e; injection e with e; omega) y
            refine sd_end rfl SS CC (b1 := w.heap.size + 2) rfl rfl ?_ ?_ ?_
            · refine Row.of ?_
              repeat (first | (with_reducible refine RowG.base oV ?_) | (with_reducible refine RowG.drew ?_) | (with_reducible refine RowG.set ?_) | ((with_reducible refine RowG.other ?_ ?_); (focus (first | omega | (simp; done) | (simp; omega)))) | (with_reducible refine RowG.alloc ?_))
              rfl
            · exact hSS _ (SlS.of_own (E := intE) (hown2 _ _ _ _))
            · repeat (first | (with_reducible exact hBV) | (with_reducible refine Below.drew ?_) | ((with_reducible refine Below.setC ?_ ?_); (focus (first | omega | (simp; done) | (simp; omega)))) | ((with_reducible refine Below.allo ?_ ?_); (focus (first | omega | (simp; done) | (simp; omega)))))

end Go.Proofs.Ytbpdgoedglkefaa
