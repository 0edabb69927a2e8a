/- SchedLeast: the walk. -/
import Derived.Test.YtbpdgoedglkefaaSchLst
import Derived.Test.YtbpdgoedglkefaaSch16
import Derived.Test.YtbpdgoedglkefaaSch11
namespace Go.Proofs.Ytbpdgoedglkefaa
open Go.RowKit

set_option maxRecDepth 100000 in
set_option maxHeartbeats 8000000 in
theorem SchedLeast_w (n : Int) (s : Option Addr) (cap : Nat) (l : List Iq) (s2 : Option Addr) (cq : Nat) (K : List Vv) (q : Sd) (m : Nat) (w : World) (hr : RecM w s l s2 cq K) (hq : SdM w q) (hm : m ≤ 255) :
    Calls Try.prog 11 #[.agg #[.int .i64 n, .slice s l.length cap, .slice s2 K.length cq], .agg #[.int .i64 q.f.x, .int .i64 q.f.y, .int .i64 q.f.z, .slice q.s q.off.length q.cap], .int .u8 m] w fun e w' => e = .returned (.bool true) ∧ Below w.heap.size w w' := by
  have hwi := fun V (h : RecM V s l s2 cq K) => Wide_c n s cap l s2 cq K V h
  have hlo := fun V (h : SdM V q) => long_c q V h
  have hlg := fun V (h : RecM V s l s2 cq K) (h2 : SdM V q) => Legal_c n s cap l s2 cq K q V h h2
  have hlt := fun V (h : RecM V s l s2 cq K) (h2 : SdM V q) => Latency_c n s cap l s2 cq K q V h h2
  obtain ⟨j, hj⟩ : ∃ j, m % 4 = j := ⟨_, rfl⟩
  have hj4 : j < 4 := by omega
  have e3 : ((m : Int) % 4) = j := by omega
  have e4 : (m : Int).tmod 4 = j := by rw [Int.tmod_eq_emod_of_nonneg (by omega)]; exact e3
  have e5 : IntKind.u8.wrap (j : Int) = j := by rw [IntKind.wrap_u8]; omega
  have e6 : IntKind.i64.wrap (j : Int) = j := i64_small (by omega)
  have z0 : ¬ (4 : Int) = 0 := by decide
  have hjm : (0 : Int) ≤ j ∧ (j : Int) ≤ 3 := by omega
  have hbs := fun V (h : RecM V s l s2 cq K) => Best_all n s cap l s2 cq K (j : Int) V h
  have hfq := fun V => Flat_c q.f 3 (j : Int) V hjm.1 (by omega)
  obtain ⟨WB, hWB⟩ : ∃ x, wideB l K = x := ⟨_, rfl⟩
  obtain ⟨LB, hLB⟩ : ∃ x, decide (20 < q.off.length) = x := ⟨_, rfl⟩
  simp only [hWB] at hwi
  simp only [hLB] at hlo
  clear hWB hLB
  replace hwi := Lib.hid hwi; replace hlo := Lib.hid hlo; replace hj := Lib.hid hj
  cases WB
  case true =>
    clear hlg hlt hbs hfq
    go_enter Try.func11, Try.ntmps11
    go_upto_region 1 with (fail)
    refine wp_world fun W HW => ?_
    have hB : Below w.heap.size w W := by rw [HW.out]; (repeat (first | exact Below.refl _ _ | refine Below.alloc ?_ (by simp; try omega) _ | refine Below.setCell ?_ (by simp) _ | refine Below.drew ?_))
    have d0 : W.cell? ⟨w.heap.size, 0, none⟩ = some (.int .i64 n) := by rw [HW.out]; simp [go_sem]
    have d1 : W.cell? ⟨w.heap.size, 1, none⟩ = some (.slice s l.length cap) := by rw [HW.out]; simp [go_sem]
    have d2 : W.cell? ⟨w.heap.size, 2, none⟩ = some (.slice s2 K.length cq) := by rw [HW.out]; simp [go_sem]
    have dl : w.heap.size < W.heap.size := World.block_lt_of_cell? W _ d0
    have g0 : W.cell? ⟨w.heap.size + 1, 0, none⟩ = some (.int .i64 q.f.x) := by rw [HW.out]; simp [go_sem]
    have g1 : W.cell? ⟨w.heap.size + 1, 1, none⟩ = some (.int .i64 q.f.y) := by rw [HW.out]; simp [go_sem]
    have g2 : W.cell? ⟨w.heap.size + 1, 2, none⟩ = some (.int .i64 q.f.z) := by rw [HW.out]; simp [go_sem]
    have g3 : W.cell? ⟨w.heap.size + 1, 3, none⟩ = some (.slice q.s q.off.length q.cap) := by rw [HW.out]; simp [go_sem]
    have gl : w.heap.size + 1 < W.heap.size := World.block_lt_of_cell? W _ g0
    try replace hr := up_of hB hr
    try replace hq := up_of hB hq
    go_wp2_with (first | (go_at_call 16; refine (hwi.out _ hr).mono ?_; rintro e W1 ⟨rfl, hb⟩; (try replace hr := up_of hb hr); (try replace hq := up_of hb hq); (try replace hB := up_of hb hB); (try replace d0 := up_of hb d0); (try replace d1 := up_of hb d1); (try replace d2 := up_of hb d2); (try replace dl := up_of hb dl); (try replace g0 := up_of hb g0); (try replace g1 := up_of hb g1); (try replace g2 := up_of hb g2); (try replace g3 := up_of hb g3); (try replace gl := up_of hb gl)) | (go_at_call 18; refine (Awake_c _).mono ?_; rintro e W1 ⟨rfl, hb⟩; (try replace hr := up_of hb hr); (try replace hq := up_of hb hq); (try replace hB := up_of hb hB); (try replace d0 := up_of hb d0); (try replace d1 := up_of hb d1); (try replace d2 := up_of hb d2); (try replace dl := up_of hb dl); (try replace g0 := up_of hb g0); (try replace g1 := up_of hb g1); (try replace g2 := up_of hb g2); (try replace g3 := up_of hb g3); (try replace gl := up_of hb gl)))
    go_ret
    exact ⟨rfl, hB⟩
  cases LB
  case true =>
    clear hlg hlt hbs hfq
    go_enter Try.func11, Try.ntmps11
    go_upto_region 1 with (fail)
    refine wp_world fun W HW => ?_
    have hB : Below w.heap.size w W := by rw [HW.out]; (repeat (first | exact Below.refl _ _ | refine Below.alloc ?_ (by simp; try omega) _ | refine Below.setCell ?_ (by simp) _ | refine Below.drew ?_))
    have d0 : W.cell? ⟨w.heap.size, 0, none⟩ = some (.int .i64 n) := by rw [HW.out]; simp [go_sem]
    have d1 : W.cell? ⟨w.heap.size, 1, none⟩ = some (.slice s l.length cap) := by rw [HW.out]; simp [go_sem]
    have d2 : W.cell? ⟨w.heap.size, 2, none⟩ = some (.slice s2 K.length cq) := by rw [HW.out]; simp [go_sem]
    have dl : w.heap.size < W.heap.size := World.block_lt_of_cell? W _ d0
    have g0 : W.cell? ⟨w.heap.size + 1, 0, none⟩ = some (.int .i64 q.f.x) := by rw [HW.out]; simp [go_sem]
    have g1 : W.cell? ⟨w.heap.size + 1, 1, none⟩ = some (.int .i64 q.f.y) := by rw [HW.out]; simp [go_sem]
    have g2 : W.cell? ⟨w.heap.size + 1, 2, none⟩ = some (.int .i64 q.f.z) := by rw [HW.out]; simp [go_sem]
    have g3 : W.cell? ⟨w.heap.size + 1, 3, none⟩ = some (.slice q.s q.off.length q.cap) := by rw [HW.out]; simp [go_sem]
    have gl : w.heap.size + 1 < W.heap.size := World.block_lt_of_cell? W _ g0
    try replace hr := up_of hB hr
    try replace hq := up_of hB hq
    go_wp2_with (first | (go_at_call 16; refine (hwi.out _ hr).mono ?_; rintro e W1 ⟨rfl, hb⟩; (try replace hr := up_of hb hr); (try replace hq := up_of hb hq); (try replace hB := up_of hb hB); (try replace d0 := up_of hb d0); (try replace d1 := up_of hb d1); (try replace d2 := up_of hb d2); (try replace dl := up_of hb dl); (try replace g0 := up_of hb g0); (try replace g1 := up_of hb g1); (try replace g2 := up_of hb g2); (try replace g3 := up_of hb g3); (try replace gl := up_of hb gl)) | (go_at_call 17; refine (hlo.out _ hq).mono ?_; rintro e W1 ⟨rfl, hb⟩; (try replace hr := up_of hb hr); (try replace hq := up_of hb hq); (try replace hB := up_of hb hB); (try replace d0 := up_of hb d0); (try replace d1 := up_of hb d1); (try replace d2 := up_of hb d2); (try replace dl := up_of hb dl); (try replace g0 := up_of hb g0); (try replace g1 := up_of hb g1); (try replace g2 := up_of hb g2); (try replace g3 := up_of hb g3); (try replace gl := up_of hb gl)) | (go_at_call 18; refine (Awake_c _).mono ?_; rintro e W1 ⟨rfl, hb⟩; (try replace hr := up_of hb hr); (try replace hq := up_of hb hq); (try replace hB := up_of hb hB); (try replace d0 := up_of hb d0); (try replace d1 := up_of hb d1); (try replace d2 := up_of hb d2); (try replace dl := up_of hb dl); (try replace g0 := up_of hb g0); (try replace g1 := up_of hb g1); (try replace g2 := up_of hb g2); (try replace g3 := up_of hb g3); (try replace gl := up_of hb gl)))
    go_ret
    exact ⟨rfl, hB⟩
  cases hb : recB n l K
  · have hc : chkE n l K [q] = 20 := by unfold chkE; rw [hb]; rfl
    have hL : legR n l K q = false := by unfold legR; rw [hc]; rfl
    have hbE : bsF n l K (j : Int) = (⟨0, 0, 0⟩, [], 20) := by unfold bsF; rw [hb]; rfl
    simp only [hc, hL] at hlg
    simp only [hbE, SdRet, List.length_nil] at hbs
    clear hlt hfq hc hL hbE hb
    replace hlg := Lib.hid hlg; replace hbs := Lib.hid hbs
    go_enter Try.func11, Try.ntmps11
    go_upto_region 1 with (fail)
    refine wp_world fun W HW => ?_
    have hB : Below w.heap.size w W := by rw [HW.out]; (repeat (first | exact Below.refl _ _ | refine Below.alloc ?_ (by simp; try omega) _ | refine Below.setCell ?_ (by simp) _ | refine Below.drew ?_))
    have d0 : W.cell? ⟨w.heap.size, 0, none⟩ = some (.int .i64 n) := by rw [HW.out]; simp [go_sem]
    have d1 : W.cell? ⟨w.heap.size, 1, none⟩ = some (.slice s l.length cap) := by rw [HW.out]; simp [go_sem]
    have d2 : W.cell? ⟨w.heap.size, 2, none⟩ = some (.slice s2 K.length cq) := by rw [HW.out]; simp [go_sem]
    have dl : w.heap.size < W.heap.size := World.block_lt_of_cell? W _ d0
    have g0 : W.cell? ⟨w.heap.size + 1, 0, none⟩ = some (.int .i64 q.f.x) := by rw [HW.out]; simp [go_sem]
    have g1 : W.cell? ⟨w.heap.size + 1, 1, none⟩ = some (.int .i64 q.f.y) := by rw [HW.out]; simp [go_sem]
    have g2 : W.cell? ⟨w.heap.size + 1, 2, none⟩ = some (.int .i64 q.f.z) := by rw [HW.out]; simp [go_sem]
    have g3 : W.cell? ⟨w.heap.size + 1, 3, none⟩ = some (.slice q.s q.off.length q.cap) := by rw [HW.out]; simp [go_sem]
    have gl : w.heap.size + 1 < W.heap.size := World.block_lt_of_cell? W _ g0
    try replace hr := up_of hB hr
    try replace hq := up_of hB hq
    go_upto_region 4 with (first | (go_at_call 16; refine (hwi.out _ hr).mono ?_; rintro e W1 ⟨rfl, hb⟩; (try replace hr := up_of hb hr); (try replace hq := up_of hb hq); (try replace hB := up_of hb hB); (try replace d0 := up_of hb d0); (try replace d1 := up_of hb d1); (try replace d2 := up_of hb d2); (try replace dl := up_of hb dl); (try replace g0 := up_of hb g0); (try replace g1 := up_of hb g1); (try replace g2 := up_of hb g2); (try replace g3 := up_of hb g3); (try replace gl := up_of hb gl)) | (go_at_call 17; refine (hlo.out _ hq).mono ?_; rintro e W1 ⟨rfl, hb⟩; (try replace hr := up_of hb hr); (try replace hq := up_of hb hq); (try replace hB := up_of hb hB); (try replace d0 := up_of hb d0); (try replace d1 := up_of hb d1); (try replace d2 := up_of hb d2); (try replace dl := up_of hb dl); (try replace g0 := up_of hb g0); (try replace g1 := up_of hb g1); (try replace g2 := up_of hb g2); (try replace g3 := up_of hb g3); (try replace gl := up_of hb gl)))
    go_upto_region 5 with (first | (go_at_call 35; refine (hbs.out _ hr).mono ?_; rintro e A1 ⟨⟨s3, k3, rfl, hu⟩, hb⟩; (try replace hr := up_of hb hr); (try replace hq := up_of hb hq); (try replace hB := up_of hb hB); (try replace d0 := up_of hb d0); (try replace d1 := up_of hb d1); (try replace d2 := up_of hb d2); (try replace dl := up_of hb dl); (try replace g0 := up_of hb g0); (try replace g1 := up_of hb g1); (try replace g2 := up_of hb g2); (try replace g3 := up_of hb g3); (try replace gl := up_of hb gl)))
    refine wp_world fun B1 HB1 => ?_
    have j1 : Below A1.heap.size A1 B1 := by rw [HB1.out]; (repeat (first | exact Below.refl _ _ | refine Below.alloc ?_ (by simp; try omega) _ | refine Below.setCell ?_ (by simp) _ | refine Below.drew ?_))
    have b0 : B1.cell? ⟨A1.heap.size, 0, none⟩ = some (.int .i64 0) := by rw [HB1.out]; simp [go_sem]
    have b1 : B1.cell? ⟨A1.heap.size, 1, none⟩ = some (.int .i64 0) := by rw [HB1.out]; simp [go_sem]
    have b2 : B1.cell? ⟨A1.heap.size, 2, none⟩ = some (.int .i64 0) := by rw [HB1.out]; simp [go_sem]
    have b3 : B1.cell? ⟨A1.heap.size, 3, none⟩ = some (.slice s3 0 k3) := by rw [HB1.out]; simp [go_sem]
    have bl : A1.heap.size < B1.heap.size := World.block_lt_of_cell? B1 _ b0
    try replace hr := up_of j1 hr
    try replace hq := up_of j1 hq
    try replace hB := up_of j1 hB
    try replace d0 := up_of j1 d0
    try replace d1 := up_of j1 d1
    try replace d2 := up_of j1 d2
    try replace dl := up_of j1 dl
    try replace g0 := up_of j1 g0
    try replace g1 := up_of j1 g1
    try replace g2 := up_of j1 g2
    try replace g3 := up_of j1 g3
    try replace gl := up_of j1 gl
    go_wp2_with (first | (go_at_call 25; refine (hlg.out _ hr hq).mono ?_; rintro e W1 ⟨rfl, hb⟩; (try replace hr := up_of hb hr); (try replace hq := up_of hb hq); (try replace hB := up_of hb hB); (try replace d0 := up_of hb d0); (try replace d1 := up_of hb d1); (try replace d2 := up_of hb d2); (try replace dl := up_of hb dl); (try replace g0 := up_of hb g0); (try replace g1 := up_of hb g1); (try replace g2 := up_of hb g2); (try replace g3 := up_of hb g3); (try replace gl := up_of hb gl); (try replace j1 := up_of hb j1); (try replace b0 := up_of hb b0); (try replace b1 := up_of hb b1); (try replace b2 := up_of hb b2); (try replace b3 := up_of hb b3); (try replace bl := up_of hb bl)) | (go_at_call 18; refine (Awake_c _).mono ?_; rintro e W1 ⟨rfl, hb⟩; (try replace hr := up_of hb hr); (try replace hq := up_of hb hq); (try replace hB := up_of hb hB); (try replace d0 := up_of hb d0); (try replace d1 := up_of hb d1); (try replace d2 := up_of hb d2); (try replace dl := up_of hb dl); (try replace g0 := up_of hb g0); (try replace g1 := up_of hb g1); (try replace g2 := up_of hb g2); (try replace g3 := up_of hb g3); (try replace gl := up_of hb gl); (try replace j1 := up_of hb j1); (try replace b0 := up_of hb b0); (try replace b1 := up_of hb b1); (try replace b2 := up_of hb b2); (try replace b3 := up_of hb b3); (try replace bl := up_of hb bl)))
    go_ret
    exact ⟨rfl, hB⟩
  have hlv : ∃ nq g : Int, latR n l K q = .tuple #[.int .i64 nq, .int .i64 g] ∧ (g = 0 → chkE n l K [q] = 0 ∧ pts n l ≠ [] ∧ nq = latF (pts n l) q.f q.off) := by
    by_cases hc : chkE n l K [q] = 0
    · by_cases hP : pts n l = []
      · exact ⟨0, 5, lat_nil hc hP, fun h => by cases h⟩
      · exact ⟨_, 0, lat_val hc hP, fun _ => ⟨hc, hP, rfl⟩⟩
    · exact ⟨0, _, lat_bad hc, fun h => absurd h hc⟩
  obtain ⟨nq, g, elat, hg0⟩ := hlv
  have hLq : legR n l K q = true → legB K q = true := fun h => by
    unfold legR at h; rw [Bool.and_eq_true] at h; exact h.2
  simp only [elat] at hlt
  cases hbp : bstP K (pts n l) (frm n (j : Int)) with
  | none =>
    have hbE : bsF n l K (j : Int) = (⟨0, 0, 0⟩, [], 5) := by unfold bsF; rw [hb, if_pos rfl, if_pos (bw_iff.2 hjm), hbp]
    simp only [hbE, SdRet, List.length_nil] at hbs
    have hno : ¬ (chkE n l K [q] = 0 ∧ legR n l K q = true ∧ g = 0 ∧ flatB q.f 3 (j : Int) = true) := fun ⟨h1, h2, h3, h4⟩ => by
      obtain ⟨x, u, hx, -⟩ := least_in h1 (hLq h2) (hg0 h3).2.1 h4
      rw [hbp] at hx; cases hx
    obtain ⟨c, hc⟩ : ∃ c, chkE n l K [q] = c := ⟨_, rfl⟩
    obtain ⟨L, hL⟩ : ∃ c, legR n l K q = c := ⟨_, rfl⟩
    obtain ⟨FL, hFL⟩ : ∃ c, flatB q.f 3 (j : Int) = c := ⟨_, rfl⟩
    simp only [hc, hL] at hlg
    simp only [hFL] at hfq
    rw [hc, hL, hFL] at hno
    have hcs : (c ≠ 0) ∨ (c = 0 ∧ L = false) ∨ (c = 0 ∧ L = true ∧ g ≠ 0) ∨ (c = 0 ∧ L = true ∧ g = 0 ∧ FL = false) := by
      by_cases h1 : c = 0
      · cases L
        · exact .inr (.inl ⟨h1, rfl⟩)
        · by_cases h2 : g = 0
          · cases FL
            · exact .inr (.inr (.inr ⟨h1, rfl, h2, rfl⟩))
            · exact absurd ⟨h1, rfl, h2, rfl⟩ hno
          · exact .inr (.inr (.inl ⟨h1, rfl, h2⟩))
      · exact .inl h1
    clear hno hbE hbp hc hL hFL hLq hg0 elat hb
    replace hlg := Lib.hid hlg; replace hbs := Lib.hid hbs; replace hlt := Lib.hid hlt; replace hfq := Lib.hid hfq; replace hcs := Lib.hid hcs
    go_enter Try.func11, Try.ntmps11
    go_upto_region 1 with (fail)
    refine wp_world fun W HW => ?_
    have hB : Below w.heap.size w W := by rw [HW.out]; (repeat (first | exact Below.refl _ _ | refine Below.alloc ?_ (by simp; try omega) _ | refine Below.setCell ?_ (by simp) _ | refine Below.drew ?_))
    have d0 : W.cell? ⟨w.heap.size, 0, none⟩ = some (.int .i64 n) := by rw [HW.out]; simp [go_sem]
    have d1 : W.cell? ⟨w.heap.size, 1, none⟩ = some (.slice s l.length cap) := by rw [HW.out]; simp [go_sem]
    have d2 : W.cell? ⟨w.heap.size, 2, none⟩ = some (.slice s2 K.length cq) := by rw [HW.out]; simp [go_sem]
    have dl : w.heap.size < W.heap.size := World.block_lt_of_cell? W _ d0
    have g0 : W.cell? ⟨w.heap.size + 1, 0, none⟩ = some (.int .i64 q.f.x) := by rw [HW.out]; simp [go_sem]
    have g1 : W.cell? ⟨w.heap.size + 1, 1, none⟩ = some (.int .i64 q.f.y) := by rw [HW.out]; simp [go_sem]
    have g2 : W.cell? ⟨w.heap.size + 1, 2, none⟩ = some (.int .i64 q.f.z) := by rw [HW.out]; simp [go_sem]
    have g3 : W.cell? ⟨w.heap.size + 1, 3, none⟩ = some (.slice q.s q.off.length q.cap) := by rw [HW.out]; simp [go_sem]
    have gl : w.heap.size + 1 < W.heap.size := World.block_lt_of_cell? W _ g0
    try replace hr := up_of hB hr
    try replace hq := up_of hB hq
    go_upto_region 4 with (first | (go_at_call 16; refine (hwi.out _ hr).mono ?_; rintro e W1 ⟨rfl, hb⟩; (try replace hr := up_of hb hr); (try replace hq := up_of hb hq); (try replace hB := up_of hb hB); (try replace d0 := up_of hb d0); (try replace d1 := up_of hb d1); (try replace d2 := up_of hb d2); (try replace dl := up_of hb dl); (try replace g0 := up_of hb g0); (try replace g1 := up_of hb g1); (try replace g2 := up_of hb g2); (try replace g3 := up_of hb g3); (try replace gl := up_of hb gl)) | (go_at_call 17; refine (hlo.out _ hq).mono ?_; rintro e W1 ⟨rfl, hb⟩; (try replace hr := up_of hb hr); (try replace hq := up_of hb hq); (try replace hB := up_of hb hB); (try replace d0 := up_of hb d0); (try replace d1 := up_of hb d1); (try replace d2 := up_of hb d2); (try replace dl := up_of hb dl); (try replace g0 := up_of hb g0); (try replace g1 := up_of hb g1); (try replace g2 := up_of hb g2); (try replace g3 := up_of hb g3); (try replace gl := up_of hb gl)))
    go_upto_region 5 with (first | (go_at_call 35; refine (hbs.out _ hr).mono ?_; rintro e A1 ⟨⟨s3, k3, rfl, hu⟩, hb⟩; (try replace hr := up_of hb hr); (try replace hq := up_of hb hq); (try replace hB := up_of hb hB); (try replace d0 := up_of hb d0); (try replace d1 := up_of hb d1); (try replace d2 := up_of hb d2); (try replace dl := up_of hb dl); (try replace g0 := up_of hb g0); (try replace g1 := up_of hb g1); (try replace g2 := up_of hb g2); (try replace g3 := up_of hb g3); (try replace gl := up_of hb gl)))
    refine wp_world fun B1 HB1 => ?_
    have j1 : Below A1.heap.size A1 B1 := by rw [HB1.out]; (repeat (first | exact Below.refl _ _ | refine Below.alloc ?_ (by simp; try omega) _ | refine Below.setCell ?_ (by simp) _ | refine Below.drew ?_))
    have b0 : B1.cell? ⟨A1.heap.size, 0, none⟩ = some (.int .i64 0) := by rw [HB1.out]; simp [go_sem]
    have b1 : B1.cell? ⟨A1.heap.size, 1, none⟩ = some (.int .i64 0) := by rw [HB1.out]; simp [go_sem]
    have b2 : B1.cell? ⟨A1.heap.size, 2, none⟩ = some (.int .i64 0) := by rw [HB1.out]; simp [go_sem]
    have b3 : B1.cell? ⟨A1.heap.size, 3, none⟩ = some (.slice s3 0 k3) := by rw [HB1.out]; simp [go_sem]
    have bl : A1.heap.size < B1.heap.size := World.block_lt_of_cell? B1 _ b0
    try replace hr := up_of j1 hr
    try replace hq := up_of j1 hq
    try replace hB := up_of j1 hB
    try replace d0 := up_of j1 d0
    try replace d1 := up_of j1 d1
    try replace d2 := up_of j1 d2
    try replace dl := up_of j1 dl
    try replace g0 := up_of j1 g0
    try replace g1 := up_of j1 g1
    try replace g2 := up_of j1 g2
    try replace g3 := up_of j1 g3
    try replace gl := up_of j1 gl
    go_upto_region 6 with (first | (go_at_call 25; refine (hlg.out _ hr hq).mono ?_; rintro e W1 ⟨rfl, hb⟩; (try replace hr := up_of hb hr); (try replace hq := up_of hb hq); (try replace hB := up_of hb hB); (try replace d0 := up_of hb d0); (try replace d1 := up_of hb d1); (try replace d2 := up_of hb d2); (try replace dl := up_of hb dl); (try replace g0 := up_of hb g0); (try replace g1 := up_of hb g1); (try replace g2 := up_of hb g2); (try replace g3 := up_of hb g3); (try replace gl := up_of hb gl); (try replace j1 := up_of hb j1); (try replace b0 := up_of hb b0); (try replace b1 := up_of hb b1); (try replace b2 := up_of hb b2); (try replace b3 := up_of hb b3); (try replace bl := up_of hb bl)))
    go_upto_region 9 with (first | (go_at_call 23; refine (hlt.out _ hr hq).mono ?_; rintro e W1 ⟨rfl, hb⟩; (try replace hr := up_of hb hr); (try replace hq := up_of hb hq); (try replace hB := up_of hb hB); (try replace d0 := up_of hb d0); (try replace d1 := up_of hb d1); (try replace d2 := up_of hb d2); (try replace dl := up_of hb dl); (try replace g0 := up_of hb g0); (try replace g1 := up_of hb g1); (try replace g2 := up_of hb g2); (try replace g3 := up_of hb g3); (try replace gl := up_of hb gl); (try replace j1 := up_of hb j1); (try replace b0 := up_of hb b0); (try replace b1 := up_of hb b1); (try replace b2 := up_of hb b2); (try replace b3 := up_of hb b3); (try replace bl := up_of hb bl)))
    rcases hcs.out with h1 | ⟨rfl, rfl⟩ | ⟨rfl, rfl, h1⟩ | ⟨rfl, rfl, rfl, rfl⟩
    · have hb1 : (c == 0) = false := beq_eq_false_iff_ne.2 h1
      replace h1 := Lib.hid h1
      go_wp2_with (first | (go_at_call 18; refine (Awake_c _).mono ?_; rintro e W1 ⟨rfl, hb⟩; (try replace hr := up_of hb hr); (try replace hq := up_of hb hq); (try replace hB := up_of hb hB); (try replace d0 := up_of hb d0); (try replace d1 := up_of hb d1); (try replace d2 := up_of hb d2); (try replace dl := up_of hb dl); (try replace g0 := up_of hb g0); (try replace g1 := up_of hb g1); (try replace g2 := up_of hb g2); (try replace g3 := up_of hb g3); (try replace gl := up_of hb gl); (try replace j1 := up_of hb j1); (try replace b0 := up_of hb b0); (try replace b1 := up_of hb b1); (try replace b2 := up_of hb b2); (try replace b3 := up_of hb b3); (try replace bl := up_of hb bl)))
      go_ret
      exact ⟨rfl, hB⟩
    · go_wp2_with (first | (go_at_call 18; refine (Awake_c _).mono ?_; rintro e W1 ⟨rfl, hb⟩; (try replace hr := up_of hb hr); (try replace hq := up_of hb hq); (try replace hB := up_of hb hB); (try replace d0 := up_of hb d0); (try replace d1 := up_of hb d1); (try replace d2 := up_of hb d2); (try replace dl := up_of hb dl); (try replace g0 := up_of hb g0); (try replace g1 := up_of hb g1); (try replace g2 := up_of hb g2); (try replace g3 := up_of hb g3); (try replace gl := up_of hb gl); (try replace j1 := up_of hb j1); (try replace b0 := up_of hb b0); (try replace b1 := up_of hb b1); (try replace b2 := up_of hb b2); (try replace b3 := up_of hb b3); (try replace bl := up_of hb bl)))
      go_ret
      exact ⟨rfl, hB⟩
    · have hb1 : (g == 0) = false := beq_eq_false_iff_ne.2 h1
      replace h1 := Lib.hid h1
      go_wp2_with (first | (go_at_call 18; refine (Awake_c _).mono ?_; rintro e W1 ⟨rfl, hb⟩; (try replace hr := up_of hb hr); (try replace hq := up_of hb hq); (try replace hB := up_of hb hB); (try replace d0 := up_of hb d0); (try replace d1 := up_of hb d1); (try replace d2 := up_of hb d2); (try replace dl := up_of hb dl); (try replace g0 := up_of hb g0); (try replace g1 := up_of hb g1); (try replace g2 := up_of hb g2); (try replace g3 := up_of hb g3); (try replace gl := up_of hb gl); (try replace j1 := up_of hb j1); (try replace b0 := up_of hb b0); (try replace b1 := up_of hb b1); (try replace b2 := up_of hb b2); (try replace b3 := up_of hb b3); (try replace bl := up_of hb bl)))
      go_ret
      exact ⟨rfl, hB⟩
    · go_wp2_with (first | (go_at_call 46; refine (hfq.out _).mono ?_; rintro e W1 ⟨rfl, hb⟩; (try replace hr := up_of hb hr); (try replace hq := up_of hb hq); (try replace hB := up_of hb hB); (try replace d0 := up_of hb d0); (try replace d1 := up_of hb d1); (try replace d2 := up_of hb d2); (try replace dl := up_of hb dl); (try replace g0 := up_of hb g0); (try replace g1 := up_of hb g1); (try replace g2 := up_of hb g2); (try replace g3 := up_of hb g3); (try replace gl := up_of hb gl); (try replace j1 := up_of hb j1); (try replace b0 := up_of hb b0); (try replace b1 := up_of hb b1); (try replace b2 := up_of hb b2); (try replace b3 := up_of hb b3); (try replace bl := up_of hb bl)) | (go_at_call 18; refine (Awake_c _).mono ?_; rintro e W1 ⟨rfl, hb⟩; (try replace hr := up_of hb hr); (try replace hq := up_of hb hq); (try replace hB := up_of hb hB); (try replace d0 := up_of hb d0); (try replace d1 := up_of hb d1); (try replace d2 := up_of hb d2); (try replace dl := up_of hb dl); (try replace g0 := up_of hb g0); (try replace g1 := up_of hb g1); (try replace g2 := up_of hb g2); (try replace g3 := up_of hb g3); (try replace gl := up_of hb gl); (try replace j1 := up_of hb j1); (try replace b0 := up_of hb b0); (try replace b1 := up_of hb b1); (try replace b2 := up_of hb b2); (try replace b3 := up_of hb b3); (try replace bl := up_of hb bl)))
      go_ret
      exact ⟨rfl, hB⟩
  | some x =>
    obtain ⟨gg, u⟩ := x
    have hbE : bsF n l K (j : Int) = (gg, u, 0) := by unfold bsF; rw [hb, if_pos rfl, if_pos (bw_iff.2 hjm), hbp]
    simp only [hbE, SdRet] at hbs
    have hin : chkE n l K [q] = 0 → legR n l K q = true → g = 0 → flatB q.f 3 (j : Int) = true → latF (pts n l) gg u ≤ nq := fun h1 h2 h3 h4 => by
      obtain ⟨x, u', hx, hle⟩ := least_in h1 (hLq h2) (hg0 h3).2.1 h4
      rw [hbp] at hx; cases hx
      rw [(hg0 h3).2.2]; exact hle
    have hbl := fun s3 k3 => best_legal hb hjm hbp s3 k3
    have hu4 := (hbl none 0).2.2.2.2
    have hlg2 := fun s3 k3 V (h : RecM V s l s2 cq K) (h2 : SlS intE V s3 u) => (by
      have := Legal_c n s cap l s2 cq K ⟨gg, u, s3, k3⟩ V h ⟨h2, by show u.length ≤ _; omega⟩
      obtain ⟨b1, b2, -⟩ := hbl s3 k3
      have hlr : legR n l K ⟨gg, u, s3, k3⟩ = true := by unfold legR; rw [b1, b2]; rfl
      rw [hlr, b1] at this
      exact this : Calls Try.prog 25 #[.agg #[.int .i64 n, .slice s l.length cap, .slice s2 K.length cq], .agg #[.int .i64 gg.x, .int .i64 gg.y, .int .i64 gg.z, .slice s3 u.length k3]] V fun e w' => e = .returned (.tuple #[.bool true, .int .i64 0]) ∧ Below V.heap.size V w')
    have hlt2 := fun s3 k3 V (h : RecM V s l s2 cq K) (h2 : SlS intE V s3 u) => (by
      have := Latency_c n s cap l s2 cq K ⟨gg, u, s3, k3⟩ V h ⟨h2, by show u.length ≤ _; omega⟩
      obtain ⟨b1, b2, b3, -⟩ := hbl s3 k3
      rw [lat_val b1 b3] at this
      exact this : Calls Try.prog 23 #[.agg #[.int .i64 n, .slice s l.length cap, .slice s2 K.length cq], .agg #[.int .i64 gg.x, .int .i64 gg.y, .int .i64 gg.z, .slice s3 u.length k3]] V fun e w' => e = .returned (.tuple #[.int .i64 (latF (pts n l) gg u), .int .i64 0]) ∧ Below V.heap.size V w')
    have hfg := fun V => Flat_c gg 3 (j : Int) V hjm.1 (by omega)
    rw [(hbl none 0).2.2.2.1] at hfg
    obtain ⟨c, hc⟩ : ∃ c, chkE n l K [q] = c := ⟨_, rfl⟩
    obtain ⟨L, hL⟩ : ∃ c, legR n l K q = c := ⟨_, rfl⟩
    obtain ⟨FL, hFL⟩ : ∃ c, flatB q.f 3 (j : Int) = c := ⟨_, rfl⟩
    obtain ⟨GB, hGB⟩ : ∃ c, latF (pts n l) gg u = c := ⟨_, rfl⟩
    simp only [hc, hL] at hlg
    simp only [hFL] at hfq
    simp only [hc, hL, hFL, hGB] at hin
    simp only [hGB] at hlt2
    have hcs : (c ≠ 0) ∨ (c = 0 ∧ L = false) ∨ (c = 0 ∧ L = true ∧ g ≠ 0) ∨ (c = 0 ∧ L = true ∧ g = 0 ∧ FL = false) ∨ (c = 0 ∧ L = true ∧ g = 0 ∧ FL = true ∧ GB ≤ nq) := by
      by_cases h1 : c = 0
      · cases L
        · exact .inr (.inl ⟨h1, rfl⟩)
        · by_cases h2 : g = 0
          · cases FL
            · exact .inr (.inr (.inr (.inl ⟨h1, rfl, h2, rfl⟩)))
            · exact .inr (.inr (.inr (.inr ⟨h1, rfl, h2, rfl, hin h1 rfl h2 rfl⟩)))
          · exact .inr (.inr (.inl ⟨h1, rfl, h2⟩))
      · exact .inl h1
    clear hbE hbp hc hL hFL hLq hg0 elat hb hbl hin hGB
    replace hlg := Lib.hid hlg; replace hbs := Lib.hid hbs; replace hlt := Lib.hid hlt; replace hfq := Lib.hid hfq; replace hcs := Lib.hid hcs; replace hlg2 := Lib.hid hlg2; replace hlt2 := Lib.hid hlt2; replace hfg := Lib.hid hfg
    go_enter Try.func11, Try.ntmps11
    go_upto_region 1 with (fail)
    refine wp_world fun W HW => ?_
    have hB : Below w.heap.size w W := by rw [HW.out]; (repeat (first | exact Below.refl _ _ | refine Below.alloc ?_ (by simp; try omega) _ | refine Below.setCell ?_ (by simp) _ | refine Below.drew ?_))
    have d0 : W.cell? ⟨w.heap.size, 0, none⟩ = some (.int .i64 n) := by rw [HW.out]; simp [go_sem]
    have d1 : W.cell? ⟨w.heap.size, 1, none⟩ = some (.slice s l.length cap) := by rw [HW.out]; simp [go_sem]
    have d2 : W.cell? ⟨w.heap.size, 2, none⟩ = some (.slice s2 K.length cq) := by rw [HW.out]; simp [go_sem]
    have dl : w.heap.size < W.heap.size := World.block_lt_of_cell? W _ d0
    have g0 : W.cell? ⟨w.heap.size + 1, 0, none⟩ = some (.int .i64 q.f.x) := by rw [HW.out]; simp [go_sem]
    have g1 : W.cell? ⟨w.heap.size + 1, 1, none⟩ = some (.int .i64 q.f.y) := by rw [HW.out]; simp [go_sem]
    have g2 : W.cell? ⟨w.heap.size + 1, 2, none⟩ = some (.int .i64 q.f.z) := by rw [HW.out]; simp [go_sem]
    have g3 : W.cell? ⟨w.heap.size + 1, 3, none⟩ = some (.slice q.s q.off.length q.cap) := by rw [HW.out]; simp [go_sem]
    have gl : w.heap.size + 1 < W.heap.size := World.block_lt_of_cell? W _ g0
    try replace hr := up_of hB hr
    try replace hq := up_of hB hq
    go_upto_region 4 with (first | (go_at_call 16; refine (hwi.out _ hr).mono ?_; rintro e W1 ⟨rfl, hb⟩; (try replace hr := up_of hb hr); (try replace hq := up_of hb hq); (try replace hB := up_of hb hB); (try replace d0 := up_of hb d0); (try replace d1 := up_of hb d1); (try replace d2 := up_of hb d2); (try replace dl := up_of hb dl); (try replace g0 := up_of hb g0); (try replace g1 := up_of hb g1); (try replace g2 := up_of hb g2); (try replace g3 := up_of hb g3); (try replace gl := up_of hb gl)) | (go_at_call 17; refine (hlo.out _ hq).mono ?_; rintro e W1 ⟨rfl, hb⟩; (try replace hr := up_of hb hr); (try replace hq := up_of hb hq); (try replace hB := up_of hb hB); (try replace d0 := up_of hb d0); (try replace d1 := up_of hb d1); (try replace d2 := up_of hb d2); (try replace dl := up_of hb dl); (try replace g0 := up_of hb g0); (try replace g1 := up_of hb g1); (try replace g2 := up_of hb g2); (try replace g3 := up_of hb g3); (try replace gl := up_of hb gl)))
    go_upto_region 5 with (first | (go_at_call 35; refine (hbs.out _ hr).mono ?_; rintro e A1 ⟨⟨s3, k3, rfl, hu⟩, hb⟩; (try replace hr := up_of hb hr); (try replace hq := up_of hb hq); (try replace hB := up_of hb hB); (try replace d0 := up_of hb d0); (try replace d1 := up_of hb d1); (try replace d2 := up_of hb d2); (try replace dl := up_of hb dl); (try replace g0 := up_of hb g0); (try replace g1 := up_of hb g1); (try replace g2 := up_of hb g2); (try replace g3 := up_of hb g3); (try replace gl := up_of hb gl)))
    refine wp_world fun B1 HB1 => ?_
    have j1 : Below A1.heap.size A1 B1 := by rw [HB1.out]; (repeat (first | exact Below.refl _ _ | refine Below.alloc ?_ (by simp; try omega) _ | refine Below.setCell ?_ (by simp) _ | refine Below.drew ?_))
    have b0 : B1.cell? ⟨A1.heap.size, 0, none⟩ = some (.int .i64 gg.x) := by rw [HB1.out]; simp [go_sem]
    have b1 : B1.cell? ⟨A1.heap.size, 1, none⟩ = some (.int .i64 gg.y) := by rw [HB1.out]; simp [go_sem]
    have b2 : B1.cell? ⟨A1.heap.size, 2, none⟩ = some (.int .i64 gg.z) := by rw [HB1.out]; simp [go_sem]
    have b3 : B1.cell? ⟨A1.heap.size, 3, none⟩ = some (.slice s3 u.length k3) := by rw [HB1.out]; simp [go_sem]
    have bl : A1.heap.size < B1.heap.size := World.block_lt_of_cell? B1 _ b0
    try replace hr := up_of j1 hr
    try replace hq := up_of j1 hq
    try replace hB := up_of j1 hB
    try replace d0 := up_of j1 d0
    try replace d1 := up_of j1 d1
    try replace d2 := up_of j1 d2
    try replace dl := up_of j1 dl
    try replace g0 := up_of j1 g0
    try replace g1 := up_of j1 g1
    try replace g2 := up_of j1 g2
    try replace g3 := up_of j1 g3
    try replace gl := up_of j1 gl
    try replace hu := up_of j1 hu
    go_upto_region 6 with (first | (go_at_call 25; refine (hlg.out _ hr hq).mono ?_; rintro e W1 ⟨rfl, hb⟩; (try replace hr := up_of hb hr); (try replace hq := up_of hb hq); (try replace hB := up_of hb hB); (try replace d0 := up_of hb d0); (try replace d1 := up_of hb d1); (try replace d2 := up_of hb d2); (try replace dl := up_of hb dl); (try replace g0 := up_of hb g0); (try replace g1 := up_of hb g1); (try replace g2 := up_of hb g2); (try replace g3 := up_of hb g3); (try replace gl := up_of hb gl); (try replace hu := up_of hb hu); (try replace j1 := up_of hb j1); (try replace b0 := up_of hb b0); (try replace b1 := up_of hb b1); (try replace b2 := up_of hb b2); (try replace b3 := up_of hb b3); (try replace bl := up_of hb bl)))
    go_upto_region 9 with (first | (go_at_call 23; refine (hlt.out _ hr hq).mono ?_; rintro e W1 ⟨rfl, hb⟩; (try replace hr := up_of hb hr); (try replace hq := up_of hb hq); (try replace hB := up_of hb hB); (try replace d0 := up_of hb d0); (try replace d1 := up_of hb d1); (try replace d2 := up_of hb d2); (try replace dl := up_of hb dl); (try replace g0 := up_of hb g0); (try replace g1 := up_of hb g1); (try replace g2 := up_of hb g2); (try replace g3 := up_of hb g3); (try replace gl := up_of hb gl); (try replace hu := up_of hb hu); (try replace j1 := up_of hb j1); (try replace b0 := up_of hb b0); (try replace b1 := up_of hb b1); (try replace b2 := up_of hb b2); (try replace b3 := up_of hb b3); (try replace bl := up_of hb bl)))
    rcases hcs.out with h1 | ⟨rfl, rfl⟩ | ⟨rfl, rfl, h1⟩ | ⟨rfl, rfl, rfl, rfl⟩ | ⟨rfl, rfl, rfl, rfl, hle⟩
    · have hb1 : (c == 0) = false := beq_eq_false_iff_ne.2 h1
      replace h1 := Lib.hid h1
      go_upto_region 13 with (first | (go_at_call 25; refine (hlg2.out _ _ _ hr hu).mono ?_; rintro e W1 ⟨rfl, hb⟩; (try replace hr := up_of hb hr); (try replace hq := up_of hb hq); (try replace hB := up_of hb hB); (try replace d0 := up_of hb d0); (try replace d1 := up_of hb d1); (try replace d2 := up_of hb d2); (try replace dl := up_of hb dl); (try replace g0 := up_of hb g0); (try replace g1 := up_of hb g1); (try replace g2 := up_of hb g2); (try replace g3 := up_of hb g3); (try replace gl := up_of hb gl); (try replace hu := up_of hb hu); (try replace j1 := up_of hb j1); (try replace b0 := up_of hb b0); (try replace b1 := up_of hb b1); (try replace b2 := up_of hb b2); (try replace b3 := up_of hb b3); (try replace bl := up_of hb bl)))
      go_upto_region 14 with (first | (go_at_call 23; refine (hlt2.out _ _ _ hr hu).mono ?_; rintro e W1 ⟨rfl, hb⟩; (try replace hr := up_of hb hr); (try replace hq := up_of hb hq); (try replace hB := up_of hb hB); (try replace d0 := up_of hb d0); (try replace d1 := up_of hb d1); (try replace d2 := up_of hb d2); (try replace dl := up_of hb dl); (try replace g0 := up_of hb g0); (try replace g1 := up_of hb g1); (try replace g2 := up_of hb g2); (try replace g3 := up_of hb g3); (try replace gl := up_of hb gl); (try replace hu := up_of hb hu); (try replace j1 := up_of hb j1); (try replace b0 := up_of hb b0); (try replace b1 := up_of hb b1); (try replace b2 := up_of hb b2); (try replace b3 := up_of hb b3); (try replace bl := up_of hb bl)))
      go_wp2_with (first | (go_at_call 46; refine (hfg.out _).mono ?_; rintro e W1 ⟨rfl, hb⟩; (try replace hr := up_of hb hr); (try replace hq := up_of hb hq); (try replace hB := up_of hb hB); (try replace d0 := up_of hb d0); (try replace d1 := up_of hb d1); (try replace d2 := up_of hb d2); (try replace dl := up_of hb dl); (try replace g0 := up_of hb g0); (try replace g1 := up_of hb g1); (try replace g2 := up_of hb g2); (try replace g3 := up_of hb g3); (try replace gl := up_of hb gl); (try replace hu := up_of hb hu); (try replace j1 := up_of hb j1); (try replace b0 := up_of hb b0); (try replace b1 := up_of hb b1); (try replace b2 := up_of hb b2); (try replace b3 := up_of hb b3); (try replace bl := up_of hb bl)) | (go_at_call 18; refine (Awake_c _).mono ?_; rintro e W1 ⟨rfl, hb⟩; (try replace hr := up_of hb hr); (try replace hq := up_of hb hq); (try replace hB := up_of hb hB); (try replace d0 := up_of hb d0); (try replace d1 := up_of hb d1); (try replace d2 := up_of hb d2); (try replace dl := up_of hb dl); (try replace g0 := up_of hb g0); (try replace g1 := up_of hb g1); (try replace g2 := up_of hb g2); (try replace g3 := up_of hb g3); (try replace gl := up_of hb gl); (try replace hu := up_of hb hu); (try replace j1 := up_of hb j1); (try replace b0 := up_of hb b0); (try replace b1 := up_of hb b1); (try replace b2 := up_of hb b2); (try replace b3 := up_of hb b3); (try replace bl := up_of hb bl)))
      go_ret
      exact ⟨rfl, hB⟩
    · go_upto_region 13 with (first | (go_at_call 25; refine (hlg2.out _ _ _ hr hu).mono ?_; rintro e W1 ⟨rfl, hb⟩; (try replace hr := up_of hb hr); (try replace hq := up_of hb hq); (try replace hB := up_of hb hB); (try replace d0 := up_of hb d0); (try replace d1 := up_of hb d1); (try replace d2 := up_of hb d2); (try replace dl := up_of hb dl); (try replace g0 := up_of hb g0); (try replace g1 := up_of hb g1); (try replace g2 := up_of hb g2); (try replace g3 := up_of hb g3); (try replace gl := up_of hb gl); (try replace hu := up_of hb hu); (try replace j1 := up_of hb j1); (try replace b0 := up_of hb b0); (try replace b1 := up_of hb b1); (try replace b2 := up_of hb b2); (try replace b3 := up_of hb b3); (try replace bl := up_of hb bl)))
      go_upto_region 14 with (first | (go_at_call 23; refine (hlt2.out _ _ _ hr hu).mono ?_; rintro e W1 ⟨rfl, hb⟩; (try replace hr := up_of hb hr); (try replace hq := up_of hb hq); (try replace hB := up_of hb hB); (try replace d0 := up_of hb d0); (try replace d1 := up_of hb d1); (try replace d2 := up_of hb d2); (try replace dl := up_of hb dl); (try replace g0 := up_of hb g0); (try replace g1 := up_of hb g1); (try replace g2 := up_of hb g2); (try replace g3 := up_of hb g3); (try replace gl := up_of hb gl); (try replace hu := up_of hb hu); (try replace j1 := up_of hb j1); (try replace b0 := up_of hb b0); (try replace b1 := up_of hb b1); (try replace b2 := up_of hb b2); (try replace b3 := up_of hb b3); (try replace bl := up_of hb bl)))
      go_wp2_with (first | (go_at_call 46; refine (hfg.out _).mono ?_; rintro e W1 ⟨rfl, hb⟩; (try replace hr := up_of hb hr); (try replace hq := up_of hb hq); (try replace hB := up_of hb hB); (try replace d0 := up_of hb d0); (try replace d1 := up_of hb d1); (try replace d2 := up_of hb d2); (try replace dl := up_of hb dl); (try replace g0 := up_of hb g0); (try replace g1 := up_of hb g1); (try replace g2 := up_of hb g2); (try replace g3 := up_of hb g3); (try replace gl := up_of hb gl); (try replace hu := up_of hb hu); (try replace j1 := up_of hb j1); (try replace b0 := up_of hb b0); (try replace b1 := up_of hb b1); (try replace b2 := up_of hb b2); (try replace b3 := up_of hb b3); (try replace bl := up_of hb bl)) | (go_at_call 18; refine (Awake_c _).mono ?_; rintro e W1 ⟨rfl, hb⟩; (try replace hr := up_of hb hr); (try replace hq := up_of hb hq); (try replace hB := up_of hb hB); (try replace d0 := up_of hb d0); (try replace d1 := up_of hb d1); (try replace d2 := up_of hb d2); (try replace dl := up_of hb dl); (try replace g0 := up_of hb g0); (try replace g1 := up_of hb g1); (try replace g2 := up_of hb g2); (try replace g3 := up_of hb g3); (try replace gl := up_of hb gl); (try replace hu := up_of hb hu); (try replace j1 := up_of hb j1); (try replace b0 := up_of hb b0); (try replace b1 := up_of hb b1); (try replace b2 := up_of hb b2); (try replace b3 := up_of hb b3); (try replace bl := up_of hb bl)))
      go_ret
      exact ⟨rfl, hB⟩
    · have hb1 : (g == 0) = false := beq_eq_false_iff_ne.2 h1
      replace h1 := Lib.hid h1
      go_upto_region 13 with (first | (go_at_call 25; refine (hlg2.out _ _ _ hr hu).mono ?_; rintro e W1 ⟨rfl, hb⟩; (try replace hr := up_of hb hr); (try replace hq := up_of hb hq); (try replace hB := up_of hb hB); (try replace d0 := up_of hb d0); (try replace d1 := up_of hb d1); (try replace d2 := up_of hb d2); (try replace dl := up_of hb dl); (try replace g0 := up_of hb g0); (try replace g1 := up_of hb g1); (try replace g2 := up_of hb g2); (try replace g3 := up_of hb g3); (try replace gl := up_of hb gl); (try replace hu := up_of hb hu); (try replace j1 := up_of hb j1); (try replace b0 := up_of hb b0); (try replace b1 := up_of hb b1); (try replace b2 := up_of hb b2); (try replace b3 := up_of hb b3); (try replace bl := up_of hb bl)))
      go_upto_region 14 with (first | (go_at_call 23; refine (hlt2.out _ _ _ hr hu).mono ?_; rintro e W1 ⟨rfl, hb⟩; (try replace hr := up_of hb hr); (try replace hq := up_of hb hq); (try replace hB := up_of hb hB); (try replace d0 := up_of hb d0); (try replace d1 := up_of hb d1); (try replace d2 := up_of hb d2); (try replace dl := up_of hb dl); (try replace g0 := up_of hb g0); (try replace g1 := up_of hb g1); (try replace g2 := up_of hb g2); (try replace g3 := up_of hb g3); (try replace gl := up_of hb gl); (try replace hu := up_of hb hu); (try replace j1 := up_of hb j1); (try replace b0 := up_of hb b0); (try replace b1 := up_of hb b1); (try replace b2 := up_of hb b2); (try replace b3 := up_of hb b3); (try replace bl := up_of hb bl)))
      go_wp2_with (first | (go_at_call 46; refine (hfg.out _).mono ?_; rintro e W1 ⟨rfl, hb⟩; (try replace hr := up_of hb hr); (try replace hq := up_of hb hq); (try replace hB := up_of hb hB); (try replace d0 := up_of hb d0); (try replace d1 := up_of hb d1); (try replace d2 := up_of hb d2); (try replace dl := up_of hb dl); (try replace g0 := up_of hb g0); (try replace g1 := up_of hb g1); (try replace g2 := up_of hb g2); (try replace g3 := up_of hb g3); (try replace gl := up_of hb gl); (try replace hu := up_of hb hu); (try replace j1 := up_of hb j1); (try replace b0 := up_of hb b0); (try replace b1 := up_of hb b1); (try replace b2 := up_of hb b2); (try replace b3 := up_of hb b3); (try replace bl := up_of hb bl)) | (go_at_call 18; refine (Awake_c _).mono ?_; rintro e W1 ⟨rfl, hb⟩; (try replace hr := up_of hb hr); (try replace hq := up_of hb hq); (try replace hB := up_of hb hB); (try replace d0 := up_of hb d0); (try replace d1 := up_of hb d1); (try replace d2 := up_of hb d2); (try replace dl := up_of hb dl); (try replace g0 := up_of hb g0); (try replace g1 := up_of hb g1); (try replace g2 := up_of hb g2); (try replace g3 := up_of hb g3); (try replace gl := up_of hb gl); (try replace hu := up_of hb hu); (try replace j1 := up_of hb j1); (try replace b0 := up_of hb b0); (try replace b1 := up_of hb b1); (try replace b2 := up_of hb b2); (try replace b3 := up_of hb b3); (try replace bl := up_of hb bl)))
      go_ret
      exact ⟨rfl, hB⟩
    · go_upto_region 10 with (first | (go_at_call 46; refine (hfq.out _).mono ?_; rintro e W1 ⟨rfl, hb⟩; (try replace hr := up_of hb hr); (try replace hq := up_of hb hq); (try replace hB := up_of hb hB); (try replace d0 := up_of hb d0); (try replace d1 := up_of hb d1); (try replace d2 := up_of hb d2); (try replace dl := up_of hb dl); (try replace g0 := up_of hb g0); (try replace g1 := up_of hb g1); (try replace g2 := up_of hb g2); (try replace g3 := up_of hb g3); (try replace gl := up_of hb gl); (try replace hu := up_of hb hu); (try replace j1 := up_of hb j1); (try replace b0 := up_of hb b0); (try replace b1 := up_of hb b1); (try replace b2 := up_of hb b2); (try replace b3 := up_of hb b3); (try replace bl := up_of hb bl)))
      go_upto_region 13 with (first | (go_at_call 25; refine (hlg2.out _ _ _ hr hu).mono ?_; rintro e W1 ⟨rfl, hb⟩; (try replace hr := up_of hb hr); (try replace hq := up_of hb hq); (try replace hB := up_of hb hB); (try replace d0 := up_of hb d0); (try replace d1 := up_of hb d1); (try replace d2 := up_of hb d2); (try replace dl := up_of hb dl); (try replace g0 := up_of hb g0); (try replace g1 := up_of hb g1); (try replace g2 := up_of hb g2); (try replace g3 := up_of hb g3); (try replace gl := up_of hb gl); (try replace hu := up_of hb hu); (try replace j1 := up_of hb j1); (try replace b0 := up_of hb b0); (try replace b1 := up_of hb b1); (try replace b2 := up_of hb b2); (try replace b3 := up_of hb b3); (try replace bl := up_of hb bl)))
      go_upto_region 14 with (first | (go_at_call 23; refine (hlt2.out _ _ _ hr hu).mono ?_; rintro e W1 ⟨rfl, hb⟩; (try replace hr := up_of hb hr); (try replace hq := up_of hb hq); (try replace hB := up_of hb hB); (try replace d0 := up_of hb d0); (try replace d1 := up_of hb d1); (try replace d2 := up_of hb d2); (try replace dl := up_of hb dl); (try replace g0 := up_of hb g0); (try replace g1 := up_of hb g1); (try replace g2 := up_of hb g2); (try replace g3 := up_of hb g3); (try replace gl := up_of hb gl); (try replace hu := up_of hb hu); (try replace j1 := up_of hb j1); (try replace b0 := up_of hb b0); (try replace b1 := up_of hb b1); (try replace b2 := up_of hb b2); (try replace b3 := up_of hb b3); (try replace bl := up_of hb bl)))
      go_wp2_with (first | (go_at_call 46; refine (hfg.out _).mono ?_; rintro e W1 ⟨rfl, hb⟩; (try replace hr := up_of hb hr); (try replace hq := up_of hb hq); (try replace hB := up_of hb hB); (try replace d0 := up_of hb d0); (try replace d1 := up_of hb d1); (try replace d2 := up_of hb d2); (try replace dl := up_of hb dl); (try replace g0 := up_of hb g0); (try replace g1 := up_of hb g1); (try replace g2 := up_of hb g2); (try replace g3 := up_of hb g3); (try replace gl := up_of hb gl); (try replace hu := up_of hb hu); (try replace j1 := up_of hb j1); (try replace b0 := up_of hb b0); (try replace b1 := up_of hb b1); (try replace b2 := up_of hb b2); (try replace b3 := up_of hb b3); (try replace bl := up_of hb bl)) | (go_at_call 18; refine (Awake_c _).mono ?_; rintro e W1 ⟨rfl, hb⟩; (try replace hr := up_of hb hr); (try replace hq := up_of hb hq); (try replace hB := up_of hb hB); (try replace d0 := up_of hb d0); (try replace d1 := up_of hb d1); (try replace d2 := up_of hb d2); (try replace dl := up_of hb dl); (try replace g0 := up_of hb g0); (try replace g1 := up_of hb g1); (try replace g2 := up_of hb g2); (try replace g3 := up_of hb g3); (try replace gl := up_of hb gl); (try replace hu := up_of hb hu); (try replace j1 := up_of hb j1); (try replace b0 := up_of hb b0); (try replace b1 := up_of hb b1); (try replace b2 := up_of hb b2); (try replace b3 := up_of hb b3); (try replace bl := up_of hb bl)))
      go_ret
      exact ⟨rfl, hB⟩
    · go_upto_region 10 with (first | (go_at_call 46; refine (hfq.out _).mono ?_; rintro e W1 ⟨rfl, hb⟩; (try replace hr := up_of hb hr); (try replace hq := up_of hb hq); (try replace hB := up_of hb hB); (try replace d0 := up_of hb d0); (try replace d1 := up_of hb d1); (try replace d2 := up_of hb d2); (try replace dl := up_of hb dl); (try replace g0 := up_of hb g0); (try replace g1 := up_of hb g1); (try replace g2 := up_of hb g2); (try replace g3 := up_of hb g3); (try replace gl := up_of hb gl); (try replace hu := up_of hb hu); (try replace j1 := up_of hb j1); (try replace b0 := up_of hb b0); (try replace b1 := up_of hb b1); (try replace b2 := up_of hb b2); (try replace b3 := up_of hb b3); (try replace bl := up_of hb bl)))
      go_upto_region 13 with (first | (go_at_call 25; refine (hlg2.out _ _ _ hr hu).mono ?_; rintro e W1 ⟨rfl, hb⟩; (try replace hr := up_of hb hr); (try replace hq := up_of hb hq); (try replace hB := up_of hb hB); (try replace d0 := up_of hb d0); (try replace d1 := up_of hb d1); (try replace d2 := up_of hb d2); (try replace dl := up_of hb dl); (try replace g0 := up_of hb g0); (try replace g1 := up_of hb g1); (try replace g2 := up_of hb g2); (try replace g3 := up_of hb g3); (try replace gl := up_of hb gl); (try replace hu := up_of hb hu); (try replace j1 := up_of hb j1); (try replace b0 := up_of hb b0); (try replace b1 := up_of hb b1); (try replace b2 := up_of hb b2); (try replace b3 := up_of hb b3); (try replace bl := up_of hb bl)))
      go_upto_region 14 with (first | (go_at_call 23; refine (hlt2.out _ _ _ hr hu).mono ?_; rintro e W1 ⟨rfl, hb⟩; (try replace hr := up_of hb hr); (try replace hq := up_of hb hq); (try replace hB := up_of hb hB); (try replace d0 := up_of hb d0); (try replace d1 := up_of hb d1); (try replace d2 := up_of hb d2); (try replace dl := up_of hb dl); (try replace g0 := up_of hb g0); (try replace g1 := up_of hb g1); (try replace g2 := up_of hb g2); (try replace g3 := up_of hb g3); (try replace gl := up_of hb gl); (try replace hu := up_of hb hu); (try replace j1 := up_of hb j1); (try replace b0 := up_of hb b0); (try replace b1 := up_of hb b1); (try replace b2 := up_of hb b2); (try replace b3 := up_of hb b3); (try replace bl := up_of hb bl)))
      go_wp2_with (first | (go_at_call 46; refine (hfg.out _).mono ?_; rintro e W1 ⟨rfl, hb⟩; (try replace hr := up_of hb hr); (try replace hq := up_of hb hq); (try replace hB := up_of hb hB); (try replace d0 := up_of hb d0); (try replace d1 := up_of hb d1); (try replace d2 := up_of hb d2); (try replace dl := up_of hb dl); (try replace g0 := up_of hb g0); (try replace g1 := up_of hb g1); (try replace g2 := up_of hb g2); (try replace g3 := up_of hb g3); (try replace gl := up_of hb gl); (try replace hu := up_of hb hu); (try replace j1 := up_of hb j1); (try replace b0 := up_of hb b0); (try replace b1 := up_of hb b1); (try replace b2 := up_of hb b2); (try replace b3 := up_of hb b3); (try replace bl := up_of hb bl)) | (go_at_call 18; refine (Awake_c _).mono ?_; rintro e W1 ⟨rfl, hb⟩; (try replace hr := up_of hb hr); (try replace hq := up_of hb hq); (try replace hB := up_of hb hB); (try replace d0 := up_of hb d0); (try replace d1 := up_of hb d1); (try replace d2 := up_of hb d2); (try replace dl := up_of hb dl); (try replace g0 := up_of hb g0); (try replace g1 := up_of hb g1); (try replace g2 := up_of hb g2); (try replace g3 := up_of hb g3); (try replace gl := up_of hb gl); (try replace hu := up_of hb hu); (try replace j1 := up_of hb j1); (try replace b0 := up_of hb b0); (try replace b1 := up_of hb b1); (try replace b2 := up_of hb b2); (try replace b3 := up_of hb b3); (try replace bl := up_of hb bl)))
      go_ret
      exact ⟨rfl, hB⟩
end Go.Proofs.Ytbpdgoedglkefaa
