/- SchedProofs returns true. -/
import Derived.Test.YtbpdgoedglkefaaSch33
import Derived.Test.YtbpdgoedglkefaaSchPrf
import Derived.Test.YtbpdgoedglkefaaSch16
import Derived.Test.YtbpdgoedglkefaaSch11
namespace Go.Proofs.Ytbpdgoedglkefaa
open Go.RowKit

set_option maxRecDepth 100000 in
set_option maxHeartbeats 4000000 in
theorem SchedProofs_w (n : Int) (s : Option Addr) (cap : Nat) (l : List Iq) (s2 : Option Addr) (cq : Nat) (K : List Vv) (q : Sd) (w : World) (hr : RecM w s l s2 cq K) (hq : SdM w q) :
    Calls Try.prog 6 #[.agg #[.int .i64 n, .slice s l.length cap, .slice s2 K.length cq], .agg #[.int .i64 q.f.x, .int .i64 q.f.y, .int .i64 q.f.z, .slice q.s q.off.length q.cap]] w fun e w' => e = .returned (.bool true) ∧ Below w.heap.size w w' := by
  have hwi := fun V (h : RecM V s l s2 cq K) => Wide_c n s cap l s2 cq K V h
  have hlo := fun V (h : SdM V q) => long_c q V h
  have hva := fun V (h : RecM V s l s2 cq K) (h2 : SdM V q) => rSchValid_c n s cap l s2 cq K q V h h2
  have hvc := chk_vld (n := n) (l := l) (K := K) (q := q)
  obtain ⟨WB, hWB⟩ : ∃ x, wideB l K = x := ⟨_, rfl⟩
  obtain ⟨LB, hLB⟩ : ∃ x, decide (20 < q.off.length) = x := ⟨_, rfl⟩
  obtain ⟨VB, hVB⟩ : ∃ x, (recB n l K && q.fit n K.length) = x := ⟨_, rfl⟩
  simp only [hWB] at hwi
  simp only [hLB] at hlo
  simp only [hVB] at hva hvc
  clear hWB hLB hVB
  replace hwi := Lib.hid hwi; replace hlo := Lib.hid hlo; replace hva := Lib.hid hva
  cases WB
  case true =>
    clear hvc
    go_enter Try.func6, Try.ntmps6
    go_upto_region 1 with (fail)
    refine wp_world fun W HW => ?_
    have hB : Below w.heap.size w W := by rw [HW.out]; (repeat (first | exact Below.refl _ _ | refine Below.alloc ?_ (by simp; try omega) _ | refine Below.setCell ?_ (by simp) _ | refine Below.drew ?_))
    have d0 : W.cell? ⟨w.heap.size, 0, none⟩ = some (.int .i64 n) := by rw [HW.out]; simp [go_sem]
    have d1 : W.cell? ⟨w.heap.size, 1, none⟩ = some (.slice s l.length cap) := by rw [HW.out]; simp [go_sem]
    have d2 : W.cell? ⟨w.heap.size, 2, none⟩ = some (.slice s2 K.length cq) := by rw [HW.out]; simp [go_sem]
    have dl : w.heap.size < W.heap.size := World.block_lt_of_cell? W _ d0
    have g0 : W.cell? ⟨w.heap.size + 1, 0, none⟩ = some (.int .i64 q.f.x) := by rw [HW.out]; simp [go_sem]
    have g1 : W.cell? ⟨w.heap.size + 1, 1, none⟩ = some (.int .i64 q.f.y) := by rw [HW.out]; simp [go_sem]
    have g2 : W.cell? ⟨w.heap.size + 1, 2, none⟩ = some (.int .i64 q.f.z) := by rw [HW.out]; simp [go_sem]
    have g3 : W.cell? ⟨w.heap.size + 1, 3, none⟩ = some (.slice q.s q.off.length q.cap) := by rw [HW.out]; simp [go_sem]
    have gl : w.heap.size + 1 < W.heap.size := World.block_lt_of_cell? W _ g0
    try replace hr := up_of hB hr
    try replace hq := up_of hB hq
    go_wp2_with (first | (go_at_call 16; refine (hwi.out _ hr).mono ?_; rintro e W1 ⟨rfl, hb⟩; (try replace hr := up_of hb hr); (try replace hq := up_of hb hq); (try replace hB := up_of hb hB); (try replace d0 := up_of hb d0); (try replace d1 := up_of hb d1); (try replace d2 := up_of hb d2); (try replace dl := up_of hb dl); (try replace g0 := up_of hb g0); (try replace g1 := up_of hb g1); (try replace g2 := up_of hb g2); (try replace g3 := up_of hb g3); (try replace gl := up_of hb gl)) | (go_at_call 18; refine (Awake_c _).mono ?_; rintro e W1 ⟨rfl, hb⟩; (try replace hr := up_of hb hr); (try replace hq := up_of hb hq); (try replace hB := up_of hb hB); (try replace d0 := up_of hb d0); (try replace d1 := up_of hb d1); (try replace d2 := up_of hb d2); (try replace dl := up_of hb dl); (try replace g0 := up_of hb g0); (try replace g1 := up_of hb g1); (try replace g2 := up_of hb g2); (try replace g3 := up_of hb g3); (try replace gl := up_of hb gl)))
    go_ret
    exact ⟨rfl, hB⟩
  cases LB
  case true =>
    clear hvc
    go_enter Try.func6, Try.ntmps6
    go_upto_region 1 with (fail)
    refine wp_world fun W HW => ?_
    have hB : Below w.heap.size w W := by rw [HW.out]; (repeat (first | exact Below.refl _ _ | refine Below.alloc ?_ (by simp; try omega) _ | refine Below.setCell ?_ (by simp) _ | refine Below.drew ?_))
    have d0 : W.cell? ⟨w.heap.size, 0, none⟩ = some (.int .i64 n) := by rw [HW.out]; simp [go_sem]
    have d1 : W.cell? ⟨w.heap.size, 1, none⟩ = some (.slice s l.length cap) := by rw [HW.out]; simp [go_sem]
    have d2 : W.cell? ⟨w.heap.size, 2, none⟩ = some (.slice s2 K.length cq) := by rw [HW.out]; simp [go_sem]
    have dl : w.heap.size < W.heap.size := World.block_lt_of_cell? W _ d0
    have g0 : W.cell? ⟨w.heap.size + 1, 0, none⟩ = some (.int .i64 q.f.x) := by rw [HW.out]; simp [go_sem]
    have g1 : W.cell? ⟨w.heap.size + 1, 1, none⟩ = some (.int .i64 q.f.y) := by rw [HW.out]; simp [go_sem]
    have g2 : W.cell? ⟨w.heap.size + 1, 2, none⟩ = some (.int .i64 q.f.z) := by rw [HW.out]; simp [go_sem]
    have g3 : W.cell? ⟨w.heap.size + 1, 3, none⟩ = some (.slice q.s q.off.length q.cap) := by rw [HW.out]; simp [go_sem]
    have gl : w.heap.size + 1 < W.heap.size := World.block_lt_of_cell? W _ g0
    try replace hr := up_of hB hr
    try replace hq := up_of hB hq
    go_wp2_with (first | (go_at_call 16; refine (hwi.out _ hr).mono ?_; rintro e W1 ⟨rfl, hb⟩; (try replace hr := up_of hb hr); (try replace hq := up_of hb hq); (try replace hB := up_of hb hB); (try replace d0 := up_of hb d0); (try replace d1 := up_of hb d1); (try replace d2 := up_of hb d2); (try replace dl := up_of hb dl); (try replace g0 := up_of hb g0); (try replace g1 := up_of hb g1); (try replace g2 := up_of hb g2); (try replace g3 := up_of hb g3); (try replace gl := up_of hb gl)) | (go_at_call 17; refine (hlo.out _ hq).mono ?_; rintro e W1 ⟨rfl, hb⟩; (try replace hr := up_of hb hr); (try replace hq := up_of hb hq); (try replace hB := up_of hb hB); (try replace d0 := up_of hb d0); (try replace d1 := up_of hb d1); (try replace d2 := up_of hb d2); (try replace dl := up_of hb dl); (try replace g0 := up_of hb g0); (try replace g1 := up_of hb g1); (try replace g2 := up_of hb g2); (try replace g3 := up_of hb g3); (try replace gl := up_of hb gl)) | (go_at_call 18; refine (Awake_c _).mono ?_; rintro e W1 ⟨rfl, hb⟩; (try replace hr := up_of hb hr); (try replace hq := up_of hb hq); (try replace hB := up_of hb hB); (try replace d0 := up_of hb d0); (try replace d1 := up_of hb d1); (try replace d2 := up_of hb d2); (try replace dl := up_of hb dl); (try replace g0 := up_of hb g0); (try replace g1 := up_of hb g1); (try replace g2 := up_of hb g2); (try replace g3 := up_of hb g3); (try replace gl := up_of hb gl)))
    go_ret
    exact ⟨rfl, hB⟩
  cases VB
  case false =>
    clear hvc
    go_enter Try.func6, Try.ntmps6
    go_upto_region 1 with (fail)
    refine wp_world fun W HW => ?_
    have hB : Below w.heap.size w W := by rw [HW.out]; (repeat (first | exact Below.refl _ _ | refine Below.alloc ?_ (by simp; try omega) _ | refine Below.setCell ?_ (by simp) _ | refine Below.drew ?_))
    have d0 : W.cell? ⟨w.heap.size, 0, none⟩ = some (.int .i64 n) := by rw [HW.out]; simp [go_sem]
    have d1 : W.cell? ⟨w.heap.size, 1, none⟩ = some (.slice s l.length cap) := by rw [HW.out]; simp [go_sem]
    have d2 : W.cell? ⟨w.heap.size, 2, none⟩ = some (.slice s2 K.length cq) := by rw [HW.out]; simp [go_sem]
    have dl : w.heap.size < W.heap.size := World.block_lt_of_cell? W _ d0
    have g0 : W.cell? ⟨w.heap.size + 1, 0, none⟩ = some (.int .i64 q.f.x) := by rw [HW.out]; simp [go_sem]
    have g1 : W.cell? ⟨w.heap.size + 1, 1, none⟩ = some (.int .i64 q.f.y) := by rw [HW.out]; simp [go_sem]
    have g2 : W.cell? ⟨w.heap.size + 1, 2, none⟩ = some (.int .i64 q.f.z) := by rw [HW.out]; simp [go_sem]
    have g3 : W.cell? ⟨w.heap.size + 1, 3, none⟩ = some (.slice q.s q.off.length q.cap) := by rw [HW.out]; simp [go_sem]
    have gl : w.heap.size + 1 < W.heap.size := World.block_lt_of_cell? W _ g0
    try replace hr := up_of hB hr
    try replace hq := up_of hB hq
    go_wp2_with (first | (go_at_call 16; refine (hwi.out _ hr).mono ?_; rintro e W1 ⟨rfl, hb⟩; (try replace hr := up_of hb hr); (try replace hq := up_of hb hq); (try replace hB := up_of hb hB); (try replace d0 := up_of hb d0); (try replace d1 := up_of hb d1); (try replace d2 := up_of hb d2); (try replace dl := up_of hb dl); (try replace g0 := up_of hb g0); (try replace g1 := up_of hb g1); (try replace g2 := up_of hb g2); (try replace g3 := up_of hb g3); (try replace gl := up_of hb gl)) | (go_at_call 17; refine (hlo.out _ hq).mono ?_; rintro e W1 ⟨rfl, hb⟩; (try replace hr := up_of hb hr); (try replace hq := up_of hb hq); (try replace hB := up_of hb hB); (try replace d0 := up_of hb d0); (try replace d1 := up_of hb d1); (try replace d2 := up_of hb d2); (try replace dl := up_of hb dl); (try replace g0 := up_of hb g0); (try replace g1 := up_of hb g1); (try replace g2 := up_of hb g2); (try replace g3 := up_of hb g3); (try replace gl := up_of hb gl)) | (go_at_call 30; refine (hva.out _ hr hq).mono ?_; rintro e W1 ⟨rfl, hb⟩; (try replace hr := up_of hb hr); (try replace hq := up_of hb hq); (try replace hB := up_of hb hB); (try replace d0 := up_of hb d0); (try replace d1 := up_of hb d1); (try replace d2 := up_of hb d2); (try replace dl := up_of hb dl); (try replace g0 := up_of hb g0); (try replace g1 := up_of hb g1); (try replace g2 := up_of hb g2); (try replace g3 := up_of hb g3); (try replace gl := up_of hb gl)) | (go_at_call 18; refine (Awake_c _).mono ?_; rintro e W1 ⟨rfl, hb⟩; (try replace hr := up_of hb hr); (try replace hq := up_of hb hq); (try replace hB := up_of hb hB); (try replace d0 := up_of hb d0); (try replace d1 := up_of hb d1); (try replace d2 := up_of hb d2); (try replace dl := up_of hb dl); (try replace g0 := up_of hb g0); (try replace g1 := up_of hb g1); (try replace g2 := up_of hb g2); (try replace g3 := up_of hb g3); (try replace gl := up_of hb gl)))
    go_ret
    exact ⟨rfl, hB⟩
  have hc := hvc rfl
  clear hvc
  have h0 := chk_frm hc
  have hlg := fun V (h : RecM V s l s2 cq K) (h2 : SdM V q) => Legal_c n s cap l s2 cq K q V h h2
  have hlq : legR n l K q = legB K q := by unfold legR; rw [hc]; rfl
  simp only [hlq, hc] at hlg
  cases hb : bfR K q.f with
  | none =>
    have h1 := fun V (h : RecM V s l s2 cq K) => Offsets_none n s cap l s2 cq K q.f V h h0 hb
    simp only [bf_nolegal hc hb] at hlg
    clear hc h0 hlq hb
    replace h1 := Lib.hid h1; replace hlg := Lib.hid hlg
    go_enter Try.func6, Try.ntmps6
    go_upto_region 1 with (fail)
    refine wp_world fun W HW => ?_
    have hB : Below w.heap.size w W := by rw [HW.out]; (repeat (first | exact Below.refl _ _ | refine Below.alloc ?_ (by simp; try omega) _ | refine Below.setCell ?_ (by simp) _ | refine Below.drew ?_))
    have d0 : W.cell? ⟨w.heap.size, 0, none⟩ = some (.int .i64 n) := by rw [HW.out]; simp [go_sem]
    have d1 : W.cell? ⟨w.heap.size, 1, none⟩ = some (.slice s l.length cap) := by rw [HW.out]; simp [go_sem]
    have d2 : W.cell? ⟨w.heap.size, 2, none⟩ = some (.slice s2 K.length cq) := by rw [HW.out]; simp [go_sem]
    have dl : w.heap.size < W.heap.size := World.block_lt_of_cell? W _ d0
    have g0 : W.cell? ⟨w.heap.size + 1, 0, none⟩ = some (.int .i64 q.f.x) := by rw [HW.out]; simp [go_sem]
    have g1 : W.cell? ⟨w.heap.size + 1, 1, none⟩ = some (.int .i64 q.f.y) := by rw [HW.out]; simp [go_sem]
    have g2 : W.cell? ⟨w.heap.size + 1, 2, none⟩ = some (.int .i64 q.f.z) := by rw [HW.out]; simp [go_sem]
    have g3 : W.cell? ⟨w.heap.size + 1, 3, none⟩ = some (.slice q.s q.off.length q.cap) := by rw [HW.out]; simp [go_sem]
    have gl : w.heap.size + 1 < W.heap.size := World.block_lt_of_cell? W _ g0
    try replace hr := up_of hB hr
    try replace hq := up_of hB hq
    go_upto_region 4 with (first | (go_at_call 16; refine (hwi.out _ hr).mono ?_; rintro e W1 ⟨rfl, hb⟩; (try replace hr := up_of hb hr); (try replace hq := up_of hb hq); (try replace hB := up_of hb hB); (try replace d0 := up_of hb d0); (try replace d1 := up_of hb d1); (try replace d2 := up_of hb d2); (try replace dl := up_of hb dl); (try replace g0 := up_of hb g0); (try replace g1 := up_of hb g1); (try replace g2 := up_of hb g2); (try replace g3 := up_of hb g3); (try replace gl := up_of hb gl)) | (go_at_call 17; refine (hlo.out _ hq).mono ?_; rintro e W1 ⟨rfl, hb⟩; (try replace hr := up_of hb hr); (try replace hq := up_of hb hq); (try replace hB := up_of hb hB); (try replace d0 := up_of hb d0); (try replace d1 := up_of hb d1); (try replace d2 := up_of hb d2); (try replace dl := up_of hb dl); (try replace g0 := up_of hb g0); (try replace g1 := up_of hb g1); (try replace g2 := up_of hb g2); (try replace g3 := up_of hb g3); (try replace gl := up_of hb gl)) | (go_at_call 30; refine (hva.out _ hr hq).mono ?_; rintro e W1 ⟨rfl, hb⟩; (try replace hr := up_of hb hr); (try replace hq := up_of hb hq); (try replace hB := up_of hb hB); (try replace d0 := up_of hb d0); (try replace d1 := up_of hb d1); (try replace d2 := up_of hb d2); (try replace dl := up_of hb dl); (try replace g0 := up_of hb g0); (try replace g1 := up_of hb g1); (try replace g2 := up_of hb g2); (try replace g3 := up_of hb g3); (try replace gl := up_of hb gl)) | (go_at_call 34; refine (h1.out _ hr).mono ?_; rintro e W1 ⟨rfl, hb⟩; (try replace hr := up_of hb hr); (try replace hq := up_of hb hq); (try replace hB := up_of hb hB); (try replace d0 := up_of hb d0); (try replace d1 := up_of hb d1); (try replace d2 := up_of hb d2); (try replace dl := up_of hb dl); (try replace g0 := up_of hb g0); (try replace g1 := up_of hb g1); (try replace g2 := up_of hb g2); (try replace g3 := up_of hb g3); (try replace gl := up_of hb gl)))
    go_wp2_with (first | (go_at_call 25; refine (hlg.out _ hr hq).mono ?_; rintro e W1 ⟨rfl, hb⟩; (try replace hr := up_of hb hr); (try replace hq := up_of hb hq); (try replace hB := up_of hb hB); (try replace d0 := up_of hb d0); (try replace d1 := up_of hb d1); (try replace d2 := up_of hb d2); (try replace dl := up_of hb dl); (try replace g0 := up_of hb g0); (try replace g1 := up_of hb g1); (try replace g2 := up_of hb g2); (try replace g3 := up_of hb g3); (try replace gl := up_of hb gl)) | (go_at_call 18; refine (Awake_c _).mono ?_; rintro e W1 ⟨rfl, hb⟩; (try replace hr := up_of hb hr); (try replace hq := up_of hb hq); (try replace hB := up_of hb hB); (try replace d0 := up_of hb d0); (try replace d1 := up_of hb d1); (try replace d2 := up_of hb d2); (try replace dl := up_of hb dl); (try replace g0 := up_of hb g0); (try replace g1 := up_of hb g1); (try replace g2 := up_of hb g2); (try replace g3 := up_of hb g3); (try replace gl := up_of hb gl)))
    go_ret
    exact ⟨rfl, hB⟩
  | some o =>
    have h1 := fun V (h : RecM V s l s2 cq K) => Offsets_some n s cap l s2 cq K q.f V h h0 hb
    obtain ⟨-, -, hol, hql, hk4, hle⟩ := bf_prf hc hb none 0
    have h4 : ∀ s3 k3 V, RecM V s l s2 cq K → SlS intE V s3 o → Calls Try.prog 25 #[.agg #[.int .i64 n, .slice s l.length cap, .slice s2 K.length cq], .agg #[.int .i64 q.f.x, .int .i64 q.f.y, .int .i64 q.f.z, .slice s3 o.length k3]] V fun e w' => e = .returned (.tuple #[.bool true, .int .i64 0]) ∧ Below V.heap.size V w' := fun s3 k3 V h h2 => by
      obtain ⟨c1, c2, -⟩ := bf_prf hc hb s3 k3
      have := Legal_c n s cap l s2 cq K ⟨q.f, o, s3, k3⟩ V h ⟨h2, by show o.length ≤ _; omega⟩
      have hlr : legR n l K ⟨q.f, o, s3, k3⟩ = true := by unfold legR; rw [c1, c2]; rfl
      rw [hlr, c1] at this
      exact this
    obtain ⟨L, hL⟩ : ∃ x, legB K q = x := ⟨_, rfl⟩
    simp only [hL] at hlg hle
    have z1 : ((o.length : Int) != (q.off.length : Int)) = false := by simp; omega
    have hoq : Hid (o.length = q.off.length) := Lib.hid (by omega)
    have ho4 : o.length ≤ 4 := by omega
    obtain ⟨qs, hqs⟩ : ∃ x, q.s = x := ⟨_, rfl⟩
    have hqo := Lib.hid hq.off
    clear hc h0 hlq hb hol hql hk4 hL
    replace h1 := Lib.hid h1; replace hlg := Lib.hid hlg; replace h4 := Lib.hid h4; replace hle := Lib.hid hle; replace hqs := Lib.hid hqs
    have hw0 := hqo.out
    go_enter Try.func6, Try.ntmps6
    go_upto_region 1 with (fail)
    refine wp_world fun W HW => ?_
    have hB : Below w.heap.size w W := by rw [HW.out]; (repeat (first | exact Below.refl _ _ | refine Below.alloc ?_ (by simp; try omega) _ | refine Below.setCell ?_ (by simp) _ | refine Below.drew ?_))
    have d0 : W.cell? ⟨w.heap.size, 0, none⟩ = some (.int .i64 n) := by rw [HW.out]; simp [go_sem]
    have d1 : W.cell? ⟨w.heap.size, 1, none⟩ = some (.slice s l.length cap) := by rw [HW.out]; simp [go_sem]
    have d2 : W.cell? ⟨w.heap.size, 2, none⟩ = some (.slice s2 K.length cq) := by rw [HW.out]; simp [go_sem]
    have dl : w.heap.size < W.heap.size := World.block_lt_of_cell? W _ d0
    have g0 : W.cell? ⟨w.heap.size + 1, 0, none⟩ = some (.int .i64 q.f.x) := by rw [HW.out]; simp [go_sem]
    have g1 : W.cell? ⟨w.heap.size + 1, 1, none⟩ = some (.int .i64 q.f.y) := by rw [HW.out]; simp [go_sem]
    have g2 : W.cell? ⟨w.heap.size + 1, 2, none⟩ = some (.int .i64 q.f.z) := by rw [HW.out]; simp [go_sem]
    have g3 : W.cell? ⟨w.heap.size + 1, 3, none⟩ = some (.slice q.s q.off.length q.cap) := by rw [HW.out]; simp [go_sem]
    have gl : w.heap.size + 1 < W.heap.size := World.block_lt_of_cell? W _ g0
    try replace hr := up_of hB hr
    try replace hq := up_of hB hq
    try replace hw0 := up_of hB hw0
    go_upto_region 4 with (first | (go_at_call 16; refine (hwi.out _ hr).mono ?_; rintro e W1 ⟨rfl, hb⟩; (try replace hr := up_of hb hr); (try replace hq := up_of hb hq); (try replace hw0 := up_of hb hw0); (try replace hB := up_of hb hB); (try replace d0 := up_of hb d0); (try replace d1 := up_of hb d1); (try replace d2 := up_of hb d2); (try replace dl := up_of hb dl); (try replace g0 := up_of hb g0); (try replace g1 := up_of hb g1); (try replace g2 := up_of hb g2); (try replace g3 := up_of hb g3); (try replace gl := up_of hb gl)) | (go_at_call 17; refine (hlo.out _ hq).mono ?_; rintro e W1 ⟨rfl, hb⟩; (try replace hr := up_of hb hr); (try replace hq := up_of hb hq); (try replace hw0 := up_of hb hw0); (try replace hB := up_of hb hB); (try replace d0 := up_of hb d0); (try replace d1 := up_of hb d1); (try replace d2 := up_of hb d2); (try replace dl := up_of hb dl); (try replace g0 := up_of hb g0); (try replace g1 := up_of hb g1); (try replace g2 := up_of hb g2); (try replace g3 := up_of hb g3); (try replace gl := up_of hb gl)) | (go_at_call 30; refine (hva.out _ hr hq).mono ?_; rintro e W1 ⟨rfl, hb⟩; (try replace hr := up_of hb hr); (try replace hq := up_of hb hq); (try replace hw0 := up_of hb hw0); (try replace hB := up_of hb hB); (try replace d0 := up_of hb d0); (try replace d1 := up_of hb d1); (try replace d2 := up_of hb d2); (try replace dl := up_of hb dl); (try replace g0 := up_of hb g0); (try replace g1 := up_of hb g1); (try replace g2 := up_of hb g2); (try replace g3 := up_of hb g3); (try replace gl := up_of hb gl)) | (go_at_call 34; refine (h1.out _ hr).mono ?_; rintro e W1 ⟨⟨s3, k3, rfl, hown⟩, hb⟩; (try replace hr := up_of hb hr); (try replace hq := up_of hb hq); (try replace hw0 := up_of hb hw0); (try replace hB := up_of hb hB); (try replace d0 := up_of hb d0); (try replace d1 := up_of hb d1); (try replace d2 := up_of hb d2); (try replace dl := up_of hb dl); (try replace g0 := up_of hb g0); (try replace g1 := up_of hb g1); (try replace g2 := up_of hb g2); (try replace g3 := up_of hb g3); (try replace gl := up_of hb gl)))
    have hu := SlS.of_own (E := intE) hown
    clear hown
    cases L
    all_goals
      go_upto_region 9 with (first | (go_at_call 25; refine (hlg.out _ hr hq).mono ?_; rintro e A2 ⟨rfl, hb⟩; (try replace hr := up_of hb hr); (try replace hq := up_of hb hq); (try replace hw0 := up_of hb hw0); (try replace hB := up_of hb hB); (try replace d0 := up_of hb d0); (try replace d1 := up_of hb d1); (try replace d2 := up_of hb d2); (try replace dl := up_of hb dl); (try replace g0 := up_of hb g0); (try replace g1 := up_of hb g1); (try replace g2 := up_of hb g2); (try replace g3 := up_of hb g3); (try replace gl := up_of hb gl); (try replace hu := up_of hb hu)))
      go_upto_region 10 with (fail)
      refine wp_world fun B1 HB1 => ?_
      have j1 : Below A2.heap.size A2 B1 := by rw [HB1.out]; (repeat (first | exact Below.refl _ _ | refine Below.alloc ?_ (by simp; try omega) _ | refine Below.setCell ?_ (by simp) _ | refine Below.drew ?_))
      have mB : Row B1 (A2.heap.size) 32 #[.int .i64 q.f.x, .int .i64 q.f.y, .int .i64 q.f.z, .slice s3 o.length k3] := (by rw [HB1.out]; (repeat (first | (refine blk_new ?_; simp; done) | refine blk_old ?_ _)) : B1.heap[A2.heap.size]? = some (.cells #[.int .i64 q.f.x, .int .i64 q.f.y, .int .i64 q.f.z, .slice s3 o.length k3] 32 (0, 0)))
      have m0 : B1.cell? ⟨A2.heap.size, 0, none⟩ = some (.int .i64 q.f.x) := by rw [HB1.out]; simp [go_sem]
      have m1 : B1.cell? ⟨A2.heap.size, 1, none⟩ = some (.int .i64 q.f.y) := by rw [HB1.out]; simp [go_sem]
      have m2 : B1.cell? ⟨A2.heap.size, 2, none⟩ = some (.int .i64 q.f.z) := by rw [HB1.out]; simp [go_sem]
      have m3 : B1.cell? ⟨A2.heap.size, 3, none⟩ = some (.slice s3 o.length k3) := by rw [HB1.out]; simp [go_sem]
      have ml : A2.heap.size < B1.heap.size := World.block_lt_of_cell? B1 _ m0
      try replace hr := up_of j1 hr
      try replace hq := up_of j1 hq
      try replace hw0 := up_of j1 hw0
      try replace hB := up_of j1 hB
      try replace d0 := up_of j1 d0
      try replace d1 := up_of j1 d1
      try replace d2 := up_of j1 d2
      try replace dl := up_of j1 dl
      try replace g0 := up_of j1 g0
      try replace g1 := up_of j1 g1
      try replace g2 := up_of j1 g2
      try replace g3 := up_of j1 g3
      try replace gl := up_of j1 gl
      try replace hu := up_of j1 hu
      go_upto_region 11 with (first | (go_at_call 25; refine (h4.out s3 k3 _ hr hu).mono ?_; rintro e A3 ⟨rfl, hb⟩; (try replace hr := up_of hb hr); (try replace hq := up_of hb hq); (try replace hw0 := up_of hb hw0); (try replace hB := up_of hb hB); (try replace d0 := up_of hb d0); (try replace d1 := up_of hb d1); (try replace d2 := up_of hb d2); (try replace dl := up_of hb dl); (try replace g0 := up_of hb g0); (try replace g1 := up_of hb g1); (try replace g2 := up_of hb g2); (try replace g3 := up_of hb g3); (try replace gl := up_of hb gl); (try replace hu := up_of hb hu); (try replace j1 := up_of hb j1); (try replace mB := up_of hb mB); (try replace m0 := up_of hb m0); (try replace m1 := up_of hb m1); (try replace m2 := up_of hb m2); (try replace m3 := up_of hb m3); (try replace ml := up_of hb ml)))
      go_wp2
      go_loopw [81] (fun ii V => ∃ i : Nat, i ≤ o.length ∧ ii = .int .i64 i ∧ Below A3.heap.size A3 V) (fun ii _ => o.length - (intOf ii).toNat)
      case atStart => exact ⟨0, by omega, rfl, Below.refl _ _⟩
      case round =>
        obtain ⟨i, hi, rfl, hBV⟩ := hrel
        try replace hr := up_of hBV hr
        try replace hq := up_of hBV hq
        try replace hw0 := up_of hBV hw0
        try replace hB := up_of hBV hB
        try replace d0 := up_of hBV d0
        try replace d1 := up_of hBV d1
        try replace d2 := up_of hBV d2
        try replace dl := up_of hBV dl
        try replace g0 := up_of hBV g0
        try replace g1 := up_of hBV g1
        try replace g2 := up_of hBV g2
        try replace g3 := up_of hBV g3
        try replace gl := up_of hBV gl
        try replace hu := up_of hBV hu
        try replace j1 := up_of hBV j1
        try replace mB := up_of hBV mB
        try replace m0 := up_of hBV m0
        try replace m1 := up_of hBV m1
        try replace m2 := up_of hBV m2
        try replace m3 := up_of hBV m3
        try replace ml := up_of hBV ml
        by_cases hlt : i < o.length
        · have hlt2 : i < q.off.length := by have := hoq.out; omega
          obtain ⟨bo, oo, eo, hbo, y0⟩ := hu.int_at hlt
          cases eo
          rw [hqs.out] at hw0 g3
          obtain ⟨bp, op, ep, hbp, z0⟩ := hw0.int_at hlt2
          cases ep
          have hcmp := fun hh => hle.out hh i hlt hlt2
          obtain ⟨x, hx⟩ : ∃ x, o[i] = x := ⟨_, rfl⟩
          obtain ⟨y, hy⟩ : ∃ y, q.off[i] = y := ⟨_, rfl⟩
          rw [hx] at y0 hcmp
          rw [hy] at z0 hcmp
          have gi1 : (0 : Int) ≤ (i : Int) := by omega
          have gi2 : (i : Int) < (o.length : Int) := by omega
          have gi3 : (i : Int) < (q.off.length : Int) := by omega
          try (have hcmp2 : x ≤ y := hcmp (by trivial))
          replace hx := Lib.hid hx; replace hy := Lib.hid hy
          clear hcmp
          go_wp2
          first
          | exact ⟨⟨i + 1, by omega, rfl, hBV⟩, meas hlt⟩
          | (go_roundw
             case rel => exact ⟨i + 1, by omega, rfl, hBV⟩
             case measure => exact meas hlt)
        · obtain rfl : i = o.length := by omega
          go_wp2_with (first | (go_at_call 18; refine (Awake_c _).mono ?_; rintro e W1 ⟨rfl, hb⟩; (try replace hr := up_of hb hr); (try replace hq := up_of hb hq); (try replace hw0 := up_of hb hw0); (try replace hB := up_of hb hB); (try replace d0 := up_of hb d0); (try replace d1 := up_of hb d1); (try replace d2 := up_of hb d2); (try replace dl := up_of hb dl); (try replace g0 := up_of hb g0); (try replace g1 := up_of hb g1); (try replace g2 := up_of hb g2); (try replace g3 := up_of hb g3); (try replace gl := up_of hb gl); (try replace hu := up_of hb hu); (try replace j1 := up_of hb j1); (try replace mB := up_of hb mB); (try replace m0 := up_of hb m0); (try replace m1 := up_of hb m1); (try replace m2 := up_of hb m2); (try replace m3 := up_of hb m3); (try replace ml := up_of hb ml)))
          go_ret
          exact ⟨rfl, hB⟩
end Go.Proofs.Ytbpdgoedglkefaa
