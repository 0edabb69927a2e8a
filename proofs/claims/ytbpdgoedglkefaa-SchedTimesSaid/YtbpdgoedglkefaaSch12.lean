/- SchedTimes: the walk. -/
import Derived.Test.YtbpdgoedglkefaaSch11
import Derived.Test.YtbpdgoedglkefaaRecOpen
namespace Go.Proofs.Ytbpdgoedglkefaa
open Go.RowKit

set_option maxRecDepth 100000 in
set_option maxHeartbeats 4000000 in
theorem SchedTimes_w (n : Int) (s : Option Addr) (cap : Nat) (l : List Iq) (s2 : Option Addr) (cq : Nat) (K : List Vv) (q : Sd) (a : Ar) (w : World) (hr : RecM w s l s2 cq K) (hq : SdM w q) :
    Calls Try.prog 3 #[.agg #[.int .i64 n, .slice s l.length cap, .slice s2 K.length cq], .agg #[.int .i64 q.f.x, .int .i64 q.f.y, .int .i64 q.f.z, .slice q.s q.off.length q.cap], .agg #[.int .i64 a.v, .int .i64 a.p.x, .int .i64 a.p.y, .int .i64 a.p.z]] w fun e w' => e = .returned (.bool true) ∧ Below w.heap.size w w' := by
  have hwi := fun V (h : RecM V s l s2 cq K) => Wide_c n s cap l s2 cq K V h
  have hlo := fun V (h : SdM V q) => long_c q V h
  have ht1 := fun V (h : RecM V s l s2 cq K) (h2 : SdM V q) => Time_c n s cap l s2 cq K q a.v a.p V h h2
  have ht2 := fun V (h : RecM V s l s2 cq K) (h2 : SdM V q) => rTime_c n s cap l s2 cq K q a.v a.p V h h2
  have hs1 := fun V (h : RecM V s l s2 cq K) (h2 : SdM V q) => Span_c n s cap l s2 cq K q V h h2
  have hs2 := fun V (h : RecM V s l s2 cq K) (h2 : SdM V q) => rSpan_c n s cap l s2 cq K q V h h2
  have hl1 := fun V (h : RecM V s l s2 cq K) (h2 : SdM V q) => Latency_c n s cap l s2 cq K q V h h2
  have hl2 := fun V (h : RecM V s l s2 cq K) (h2 : SdM V q) => rLatency_c n s cap l s2 cq K q V h h2
  obtain ⟨A1, A2, hA⟩ : ∃ x y, timeR n l K q a.v a.p = .tuple #[.int .i64 x, .int .i64 y] := by unfold timeR; split; exact ⟨_, _, rfl⟩; split <;> exact ⟨_, _, rfl⟩
  obtain ⟨B1, B2, B3, hB0⟩ : ∃ x y z, spanR n l K q = .tuple #[.int .i64 x, .int .i64 y, .int .i64 z] := ⟨_, _, _, rfl⟩
  obtain ⟨C1, C2, hC⟩ : ∃ x y, latR n l K q = .tuple #[.int .i64 x, .int .i64 y] := by unfold latR; split <;> exact ⟨_, _, rfl⟩
  simp only [hA] at ht1 ht2
  simp only [hB0] at hs1 hs2
  simp only [hC] at hl1 hl2
  obtain ⟨WB, hWB⟩ : ∃ x, wideB l K = x := ⟨_, rfl⟩
  obtain ⟨LB, hLB⟩ : ∃ x, decide (20 < q.off.length) = x := ⟨_, rfl⟩
  simp only [hWB] at hwi
  simp only [hLB] at hlo
  clear hA hB0 hC hWB hLB
  replace hwi := Lib.hid hwi; replace hlo := Lib.hid hlo; replace ht1 := Lib.hid ht1; replace ht2 := Lib.hid ht2; replace hs1 := Lib.hid hs1; replace hs2 := Lib.hid hs2; replace hl1 := Lib.hid hl1; replace hl2 := Lib.hid hl2
  have z1 : ∀ x : Int, (x != x) = false := fun x => by simp
  cases WB
  · cases LB
    · go_enter Try.func3, Try.ntmps3
      go_upto_region 1 with (fail)
      refine wp_world fun W HW => ?_
      have hB : Below w.heap.size w W := by rw [HW.out]; (repeat (first | exact Below.refl _ _ | refine Below.alloc ?_ (by simp; try omega) _ | refine Below.setCell ?_ (by simp) _ | refine Below.drew ?_))
      have d0 : W.cell? ⟨w.heap.size, 0, none⟩ = some (.int .i64 n) := by rw [HW.out]; simp [go_sem]
      have d1 : W.cell? ⟨w.heap.size, 1, none⟩ = some (.slice s l.length cap) := by rw [HW.out]; simp [go_sem]
      have d2 : W.cell? ⟨w.heap.size, 2, none⟩ = some (.slice s2 K.length cq) := by rw [HW.out]; simp [go_sem]
      have dl : w.heap.size < W.heap.size := World.block_lt_of_cell? W _ d0
      have g0 : W.cell? ⟨w.heap.size + 1, 0, none⟩ = some (.int .i64 q.f.x) := by rw [HW.out]; simp [go_sem]
      have g1 : W.cell? ⟨w.heap.size + 1, 1, none⟩ = some (.int .i64 q.f.y) := by rw [HW.out]; simp [go_sem]
      have g2 : W.cell? ⟨w.heap.size + 1, 2, none⟩ = some (.int .i64 q.f.z) := by rw [HW.out]; simp [go_sem]
      have g3 : W.cell? ⟨w.heap.size + 1, 3, none⟩ = some (.slice q.s q.off.length q.cap) := by rw [HW.out]; simp [go_sem]
      have gl : w.heap.size + 1 < W.heap.size := World.block_lt_of_cell? W _ g0
      have x0 : W.cell? ⟨w.heap.size + 2, 0, none⟩ = some (.int .i64 a.v) := by rw [HW.out]; simp [go_sem]
      have x1 : W.cell? ⟨w.heap.size + 2, 1, none⟩ = some (.int .i64 a.p.x) := by rw [HW.out]; simp [go_sem]
      have x2 : W.cell? ⟨w.heap.size + 2, 2, none⟩ = some (.int .i64 a.p.y) := by rw [HW.out]; simp [go_sem]
      have x3 : W.cell? ⟨w.heap.size + 2, 3, none⟩ = some (.int .i64 a.p.z) := by rw [HW.out]; simp [go_sem]
      have xl : w.heap.size + 2 < W.heap.size := World.block_lt_of_cell? W _ x0
      try replace hr := up_of hB hr
      try replace hq := up_of hB hq
      go_upto_region 3 with (first | (go_at_call 16; refine (hwi.out _ hr).mono ?_; rintro e W1 ⟨rfl, hb⟩; (try replace hr := up_of hb hr); (try replace hq := up_of hb hq); (try replace hB := up_of hb hB); (try replace d0 := up_of hb d0); (try replace d1 := up_of hb d1); (try replace d2 := up_of hb d2); (try replace dl := up_of hb dl); (try replace g0 := up_of hb g0); (try replace g1 := up_of hb g1); (try replace g2 := up_of hb g2); (try replace g3 := up_of hb g3); (try replace gl := up_of hb gl); (try replace x0 := up_of hb x0); (try replace x1 := up_of hb x1); (try replace x2 := up_of hb x2); (try replace x3 := up_of hb x3); (try replace xl := up_of hb xl)) | (go_at_call 17; refine (hlo.out _ hq).mono ?_; rintro e W1 ⟨rfl, hb⟩; (try replace hr := up_of hb hr); (try replace hq := up_of hb hq); (try replace hB := up_of hb hB); (try replace d0 := up_of hb d0); (try replace d1 := up_of hb d1); (try replace d2 := up_of hb d2); (try replace dl := up_of hb dl); (try replace g0 := up_of hb g0); (try replace g1 := up_of hb g1); (try replace g2 := up_of hb g2); (try replace g3 := up_of hb g3); (try replace gl := up_of hb gl); (try replace x0 := up_of hb x0); (try replace x1 := up_of hb x1); (try replace x2 := up_of hb x2); (try replace x3 := up_of hb x3); (try replace xl := up_of hb xl)))
      go_upto_region 5 with (first | (go_at_call 19; refine (ht1.out _ hr hq).mono ?_; rintro e W1 ⟨rfl, hb⟩; (try replace hr := up_of hb hr); (try replace hq := up_of hb hq); (try replace hB := up_of hb hB); (try replace d0 := up_of hb d0); (try replace d1 := up_of hb d1); (try replace d2 := up_of hb d2); (try replace dl := up_of hb dl); (try replace g0 := up_of hb g0); (try replace g1 := up_of hb g1); (try replace g2 := up_of hb g2); (try replace g3 := up_of hb g3); (try replace gl := up_of hb gl); (try replace x0 := up_of hb x0); (try replace x1 := up_of hb x1); (try replace x2 := up_of hb x2); (try replace x3 := up_of hb x3); (try replace xl := up_of hb xl)) | (go_at_call 20; refine (ht2.out _ hr hq).mono ?_; rintro e W1 ⟨rfl, hb⟩; (try replace hr := up_of hb hr); (try replace hq := up_of hb hq); (try replace hB := up_of hb hB); (try replace d0 := up_of hb d0); (try replace d1 := up_of hb d1); (try replace d2 := up_of hb d2); (try replace dl := up_of hb dl); (try replace g0 := up_of hb g0); (try replace g1 := up_of hb g1); (try replace g2 := up_of hb g2); (try replace g3 := up_of hb g3); (try replace gl := up_of hb gl); (try replace x0 := up_of hb x0); (try replace x1 := up_of hb x1); (try replace x2 := up_of hb x2); (try replace x3 := up_of hb x3); (try replace xl := up_of hb xl)))
      have zA1 := z1 A1; have zA2 := z1 A2
      go_upto_region 9 with (first | (go_at_call 21; refine (hs1.out _ hr hq).mono ?_; rintro e W1 ⟨rfl, hb⟩; (try replace hr := up_of hb hr); (try replace hq := up_of hb hq); (try replace hB := up_of hb hB); (try replace d0 := up_of hb d0); (try replace d1 := up_of hb d1); (try replace d2 := up_of hb d2); (try replace dl := up_of hb dl); (try replace g0 := up_of hb g0); (try replace g1 := up_of hb g1); (try replace g2 := up_of hb g2); (try replace g3 := up_of hb g3); (try replace gl := up_of hb gl); (try replace x0 := up_of hb x0); (try replace x1 := up_of hb x1); (try replace x2 := up_of hb x2); (try replace x3 := up_of hb x3); (try replace xl := up_of hb xl)) | (go_at_call 22; refine (hs2.out _ hr hq).mono ?_; rintro e W1 ⟨rfl, hb⟩; (try replace hr := up_of hb hr); (try replace hq := up_of hb hq); (try replace hB := up_of hb hB); (try replace d0 := up_of hb d0); (try replace d1 := up_of hb d1); (try replace d2 := up_of hb d2); (try replace dl := up_of hb dl); (try replace g0 := up_of hb g0); (try replace g1 := up_of hb g1); (try replace g2 := up_of hb g2); (try replace g3 := up_of hb g3); (try replace gl := up_of hb gl); (try replace x0 := up_of hb x0); (try replace x1 := up_of hb x1); (try replace x2 := up_of hb x2); (try replace x3 := up_of hb x3); (try replace xl := up_of hb xl)))
      go_upto_region 11 with (first | (go_at_call 23; refine (hl1.out _ hr hq).mono ?_; rintro e W1 ⟨rfl, hb⟩; (try replace hr := up_of hb hr); (try replace hq := up_of hb hq); (try replace hB := up_of hb hB); (try replace d0 := up_of hb d0); (try replace d1 := up_of hb d1); (try replace d2 := up_of hb d2); (try replace dl := up_of hb dl); (try replace g0 := up_of hb g0); (try replace g1 := up_of hb g1); (try replace g2 := up_of hb g2); (try replace g3 := up_of hb g3); (try replace gl := up_of hb gl); (try replace x0 := up_of hb x0); (try replace x1 := up_of hb x1); (try replace x2 := up_of hb x2); (try replace x3 := up_of hb x3); (try replace xl := up_of hb xl)) | (go_at_call 24; refine (hl2.out _ hr hq).mono ?_; rintro e W1 ⟨rfl, hb⟩; (try replace hr := up_of hb hr); (try replace hq := up_of hb hq); (try replace hB := up_of hb hB); (try replace d0 := up_of hb d0); (try replace d1 := up_of hb d1); (try replace d2 := up_of hb d2); (try replace dl := up_of hb dl); (try replace g0 := up_of hb g0); (try replace g1 := up_of hb g1); (try replace g2 := up_of hb g2); (try replace g3 := up_of hb g3); (try replace gl := up_of hb gl); (try replace x0 := up_of hb x0); (try replace x1 := up_of hb x1); (try replace x2 := up_of hb x2); (try replace x3 := up_of hb x3); (try replace xl := up_of hb xl)))
      go_wp2_with (first | (go_at_call 18; refine (Awake_c _).mono ?_; rintro e W1 ⟨rfl, hb⟩; (try replace hr := up_of hb hr); (try replace hq := up_of hb hq); (try replace hB := up_of hb hB); (try replace d0 := up_of hb d0); (try replace d1 := up_of hb d1); (try replace d2 := up_of hb d2); (try replace dl := up_of hb dl); (try replace g0 := up_of hb g0); (try replace g1 := up_of hb g1); (try replace g2 := up_of hb g2); (try replace g3 := up_of hb g3); (try replace gl := up_of hb gl); (try replace x0 := up_of hb x0); (try replace x1 := up_of hb x1); (try replace x2 := up_of hb x2); (try replace x3 := up_of hb x3); (try replace xl := up_of hb xl)))
      go_ret
      exact ⟨rfl, hB⟩
    · go_enter Try.func3, Try.ntmps3
      go_upto_region 1 with (fail)
      refine wp_world fun W HW => ?_
      have hB : Below w.heap.size w W := by rw [HW.out]; (repeat (first | exact Below.refl _ _ | refine Below.alloc ?_ (by simp; try omega) _ | refine Below.setCell ?_ (by simp) _ | refine Below.drew ?_))
      have d0 : W.cell? ⟨w.heap.size, 0, none⟩ = some (.int .i64 n) := by rw [HW.out]; simp [go_sem]
      have d1 : W.cell? ⟨w.heap.size, 1, none⟩ = some (.slice s l.length cap) := by rw [HW.out]; simp [go_sem]
      have d2 : W.cell? ⟨w.heap.size, 2, none⟩ = some (.slice s2 K.length cq) := by rw [HW.out]; simp [go_sem]
      have dl : w.heap.size < W.heap.size := World.block_lt_of_cell? W _ d0
      have g0 : W.cell? ⟨w.heap.size + 1, 0, none⟩ = some (.int .i64 q.f.x) := by rw [HW.out]; simp [go_sem]
      have g1 : W.cell? ⟨w.heap.size + 1, 1, none⟩ = some (.int .i64 q.f.y) := by rw [HW.out]; simp [go_sem]
      have g2 : W.cell? ⟨w.heap.size + 1, 2, none⟩ = some (.int .i64 q.f.z) := by rw [HW.out]; simp [go_sem]
      have g3 : W.cell? ⟨w.heap.size + 1, 3, none⟩ = some (.slice q.s q.off.length q.cap) := by rw [HW.out]; simp [go_sem]
      have gl : w.heap.size + 1 < W.heap.size := World.block_lt_of_cell? W _ g0
      have x0 : W.cell? ⟨w.heap.size + 2, 0, none⟩ = some (.int .i64 a.v) := by rw [HW.out]; simp [go_sem]
      have x1 : W.cell? ⟨w.heap.size + 2, 1, none⟩ = some (.int .i64 a.p.x) := by rw [HW.out]; simp [go_sem]
      have x2 : W.cell? ⟨w.heap.size + 2, 2, none⟩ = some (.int .i64 a.p.y) := by rw [HW.out]; simp [go_sem]
      have x3 : W.cell? ⟨w.heap.size + 2, 3, none⟩ = some (.int .i64 a.p.z) := by rw [HW.out]; simp [go_sem]
      have xl : w.heap.size + 2 < W.heap.size := World.block_lt_of_cell? W _ x0
      try replace hr := up_of hB hr
      try replace hq := up_of hB hq
      go_wp2_with (first | (go_at_call 16; refine (hwi.out _ hr).mono ?_; rintro e W1 ⟨rfl, hb⟩; (try replace hr := up_of hb hr); (try replace hq := up_of hb hq); (try replace hB := up_of hb hB); (try replace d0 := up_of hb d0); (try replace d1 := up_of hb d1); (try replace d2 := up_of hb d2); (try replace dl := up_of hb dl); (try replace g0 := up_of hb g0); (try replace g1 := up_of hb g1); (try replace g2 := up_of hb g2); (try replace g3 := up_of hb g3); (try replace gl := up_of hb gl); (try replace x0 := up_of hb x0); (try replace x1 := up_of hb x1); (try replace x2 := up_of hb x2); (try replace x3 := up_of hb x3); (try replace xl := up_of hb xl)) | (go_at_call 17; refine (hlo.out _ hq).mono ?_; rintro e W1 ⟨rfl, hb⟩; (try replace hr := up_of hb hr); (try replace hq := up_of hb hq); (try replace hB := up_of hb hB); (try replace d0 := up_of hb d0); (try replace d1 := up_of hb d1); (try replace d2 := up_of hb d2); (try replace dl := up_of hb dl); (try replace g0 := up_of hb g0); (try replace g1 := up_of hb g1); (try replace g2 := up_of hb g2); (try replace g3 := up_of hb g3); (try replace gl := up_of hb gl); (try replace x0 := up_of hb x0); (try replace x1 := up_of hb x1); (try replace x2 := up_of hb x2); (try replace x3 := up_of hb x3); (try replace xl := up_of hb xl)) | (go_at_call 18; refine (Awake_c _).mono ?_; rintro e W1 ⟨rfl, hb⟩; (try replace hr := up_of hb hr); (try replace hq := up_of hb hq); (try replace hB := up_of hb hB); (try replace d0 := up_of hb d0); (try replace d1 := up_of hb d1); (try replace d2 := up_of hb d2); (try replace dl := up_of hb dl); (try replace g0 := up_of hb g0); (try replace g1 := up_of hb g1); (try replace g2 := up_of hb g2); (try replace g3 := up_of hb g3); (try replace gl := up_of hb gl); (try replace x0 := up_of hb x0); (try replace x1 := up_of hb x1); (try replace x2 := up_of hb x2); (try replace x3 := up_of hb x3); (try replace xl := up_of hb xl)))
      go_ret
      exact ⟨rfl, hB⟩
  · go_enter Try.func3, Try.ntmps3
    go_upto_region 1 with (fail)
    refine wp_world fun W HW => ?_
    have hB : Below w.heap.size w W := by rw [HW.out]; (repeat (first | exact Below.refl _ _ | refine Below.alloc ?_ (by simp; try omega) _ | refine Below.setCell ?_ (by simp) _ | refine Below.drew ?_))
    have d0 : W.cell? ⟨w.heap.size, 0, none⟩ = some (.int .i64 n) := by rw [HW.out]; simp [go_sem]
    have d1 : W.cell? ⟨w.heap.size, 1, none⟩ = some (.slice s l.length cap) := by rw [HW.out]; simp [go_sem]
    have d2 : W.cell? ⟨w.heap.size, 2, none⟩ = some (.slice s2 K.length cq) := by rw [HW.out]; simp [go_sem]
    have dl : w.heap.size < W.heap.size := World.block_lt_of_cell? W _ d0
    have g0 : W.cell? ⟨w.heap.size + 1, 0, none⟩ = some (.int .i64 q.f.x) := by rw [HW.out]; simp [go_sem]
    have g1 : W.cell? ⟨w.heap.size + 1, 1, none⟩ = some (.int .i64 q.f.y) := by rw [HW.out]; simp [go_sem]
    have g2 : W.cell? ⟨w.heap.size + 1, 2, none⟩ = some (.int .i64 q.f.z) := by rw [HW.out]; simp [go_sem]
    have g3 : W.cell? ⟨w.heap.size + 1, 3, none⟩ = some (.slice q.s q.off.length q.cap) := by rw [HW.out]; simp [go_sem]
    have gl : w.heap.size + 1 < W.heap.size := World.block_lt_of_cell? W _ g0
    have x0 : W.cell? ⟨w.heap.size + 2, 0, none⟩ = some (.int .i64 a.v) := by rw [HW.out]; simp [go_sem]
    have x1 : W.cell? ⟨w.heap.size + 2, 1, none⟩ = some (.int .i64 a.p.x) := by rw [HW.out]; simp [go_sem]
    have x2 : W.cell? ⟨w.heap.size + 2, 2, none⟩ = some (.int .i64 a.p.y) := by rw [HW.out]; simp [go_sem]
    have x3 : W.cell? ⟨w.heap.size + 2, 3, none⟩ = some (.int .i64 a.p.z) := by rw [HW.out]; simp [go_sem]
    have xl : w.heap.size + 2 < W.heap.size := World.block_lt_of_cell? W _ x0
    try replace hr := up_of hB hr
    try replace hq := up_of hB hq
    go_wp2_with (first | (go_at_call 16; refine (hwi.out _ hr).mono ?_; rintro e W1 ⟨rfl, hb⟩; (try replace hr := up_of hb hr); (try replace hq := up_of hb hq); (try replace hB := up_of hb hB); (try replace d0 := up_of hb d0); (try replace d1 := up_of hb d1); (try replace d2 := up_of hb d2); (try replace dl := up_of hb dl); (try replace g0 := up_of hb g0); (try replace g1 := up_of hb g1); (try replace g2 := up_of hb g2); (try replace g3 := up_of hb g3); (try replace gl := up_of hb gl); (try replace x0 := up_of hb x0); (try replace x1 := up_of hb x1); (try replace x2 := up_of hb x2); (try replace x3 := up_of hb x3); (try replace xl := up_of hb xl)) | (go_at_call 18; refine (Awake_c _).mono ?_; rintro e W1 ⟨rfl, hb⟩; (try replace hr := up_of hb hr); (try replace hq := up_of hb hq); (try replace hB := up_of hb hB); (try replace d0 := up_of hb d0); (try replace d1 := up_of hb d1); (try replace d2 := up_of hb d2); (try replace dl := up_of hb dl); (try replace g0 := up_of hb g0); (try replace g1 := up_of hb g1); (try replace g2 := up_of hb g2); (try replace g3 := up_of hb g3); (try replace gl := up_of hb gl); (try replace x0 := up_of hb x0); (try replace x1 := up_of hb x1); (try replace x2 := up_of hb x2); (try replace x3 := up_of hb x3); (try replace xl := up_of hb xl)))
    go_ret
    exact ⟨rfl, hB⟩
end Go.Proofs.Ytbpdgoedglkefaa
