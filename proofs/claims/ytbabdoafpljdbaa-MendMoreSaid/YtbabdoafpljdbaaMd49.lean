/- MendMore: the walk. -/
import Derived.Test.YtbabdoafpljdbaaMd48
import Derived.Test.YtbabdoafpljdbaaMdOpen
namespace Go.Proofs.Ytbabdoafpljdbaa
open Go.RowKit

set_option maxRecDepth 100000 in
set_option maxHeartbeats 4000000 in
theorem MendMore_w (wd ht : Int) (s : Option Addr) (cap : Nat) (F : List Cel) (n : Nat) (c : Cel) (w : World) (h : Cels w s cap F) (_ : I64 wd) (_ : I64 ht) (_ : ∀ c ∈ F, I64 c.x ∧ I64 c.y) (hn : n ≤ 255) (_ : I64 c.x) (_ : I64 c.y) :
    Calls Try.prog 3 #[.agg #[.int .i64 wd, .int .i64 ht, .slice s F.length cap], .int .u8 n, .agg #[.int .i64 c.x, .int .i64 c.y]] w fun e w' => e = .returned (.bool true) ∧ Below w.heap.size w w' := by
  have hFl := h.len
  have hwi := fun W => wide_c wd ht s cap F.length W
  by_cases h200 : 200 < F.length
  · simp only [h200, decide_true] at hwi
    replace hwi := Lib.hid hwi
    go_enter Try.func3, Try.ntmps3
    go_upto_region 1 with (fail)
    refine wp_world fun W HW => ?_
    have hB : Below w.heap.size w W := by rw [HW.out]; (repeat (first | exact Below.refl _ _ | refine Below.alloc ?_ (by simp; try omega) _ | refine Below.setCell ?_ (by simp) _ | refine Below.drew ?_))
    have bx0 : W.cell? ⟨w.heap.size, 0, none⟩ = some (.int .i64 wd) := by rw [HW.out]; simp [go_sem]
    have bx1 : W.cell? ⟨w.heap.size, 1, none⟩ = some (.int .i64 ht) := by rw [HW.out]; simp [go_sem]
    have bx2 : W.cell? ⟨w.heap.size, 2, none⟩ = some (.slice s F.length cap) := by rw [HW.out]; simp [go_sem]
    have bxl : w.heap.size < W.heap.size := World.block_lt_of_cell? W _ bx0
    have cx0 : W.cell? ⟨w.heap.size + 1, 0, none⟩ = some (.int .i64 c.x) := by rw [HW.out]; simp [go_sem]
    have cx1 : W.cell? ⟨w.heap.size + 1, 1, none⟩ = some (.int .i64 c.y) := by rw [HW.out]; simp [go_sem]
    have cxl : w.heap.size + 1 < W.heap.size := World.block_lt_of_cell? W _ cx0
    try replace h := up_of hB h
    go_wp2_with (first | (go_at_call 13; refine (hwi.out _).mono ?_; rintro e W1 ⟨rfl, hb⟩; (try replace h := up_of hb h); (try replace hB := up_of hb hB); (try replace bx0 := up_of hb bx0); (try replace bx1 := up_of hb bx1); (try replace bx2 := up_of hb bx2); (try replace bxl := up_of hb bxl); (try replace cx0 := up_of hb cx0); (try replace cx1 := up_of hb cx1); (try replace cxl := up_of hb cxl)) | (go_at_call 15; refine (Awake_c _).mono ?_; rintro e W1 ⟨rfl, hb⟩; (try replace h := up_of hb h); (try replace hB := up_of hb hB); (try replace bx0 := up_of hb bx0); (try replace bx1 := up_of hb bx1); (try replace bx2 := up_of hb bx2); (try replace bxl := up_of hb bxl); (try replace cx0 := up_of hb cx0); (try replace cx1 := up_of hb cx1); (try replace cxl := up_of hb cxl)))
    go_ret
    exact ⟨rfl, hB⟩
  simp only [h200, decide_false] at hwi
  have hva := fun V (h : Cels V s cap F) => rValid_c wd ht s cap F V h
  cases hv : gvB wd ht F
  case false =>
    rw [hv] at hva
    replace hwi := Lib.hid hwi; replace hva := Lib.hid hva
    clear hv
    go_enter Try.func3, Try.ntmps3
    go_upto_region 1 with (fail)
    refine wp_world fun W HW => ?_
    have hB : Below w.heap.size w W := by rw [HW.out]; (repeat (first | exact Below.refl _ _ | refine Below.alloc ?_ (by simp; try omega) _ | refine Below.setCell ?_ (by simp) _ | refine Below.drew ?_))
    have bx0 : W.cell? ⟨w.heap.size, 0, none⟩ = some (.int .i64 wd) := by rw [HW.out]; simp [go_sem]
    have bx1 : W.cell? ⟨w.heap.size, 1, none⟩ = some (.int .i64 ht) := by rw [HW.out]; simp [go_sem]
    have bx2 : W.cell? ⟨w.heap.size, 2, none⟩ = some (.slice s F.length cap) := by rw [HW.out]; simp [go_sem]
    have bxl : w.heap.size < W.heap.size := World.block_lt_of_cell? W _ bx0
    have cx0 : W.cell? ⟨w.heap.size + 1, 0, none⟩ = some (.int .i64 c.x) := by rw [HW.out]; simp [go_sem]
    have cx1 : W.cell? ⟨w.heap.size + 1, 1, none⟩ = some (.int .i64 c.y) := by rw [HW.out]; simp [go_sem]
    have cxl : w.heap.size + 1 < W.heap.size := World.block_lt_of_cell? W _ cx0
    try replace h := up_of hB h
    go_wp2_with (first | (go_at_call 13; refine (hwi.out _).mono ?_; rintro e W1 ⟨rfl, hb⟩; (try replace h := up_of hb h); (try replace hB := up_of hb hB); (try replace bx0 := up_of hb bx0); (try replace bx1 := up_of hb bx1); (try replace bx2 := up_of hb bx2); (try replace bxl := up_of hb bxl); (try replace cx0 := up_of hb cx0); (try replace cx1 := up_of hb cx1); (try replace cxl := up_of hb cxl)) | (go_at_call 14; refine (hva.out _ h).mono ?_; rintro e W1 ⟨rfl, hb⟩; (try replace h := up_of hb h); (try replace hB := up_of hb hB); (try replace bx0 := up_of hb bx0); (try replace bx1 := up_of hb bx1); (try replace bx2 := up_of hb bx2); (try replace bxl := up_of hb bxl); (try replace cx0 := up_of hb cx0); (try replace cx1 := up_of hb cx1); (try replace cxl := up_of hb cxl)) | (go_at_call 15; refine (Awake_c _).mono ?_; rintro e W1 ⟨rfl, hb⟩; (try replace h := up_of hb h); (try replace hB := up_of hb hB); (try replace bx0 := up_of hb bx0); (try replace bx1 := up_of hb bx1); (try replace bx2 := up_of hb bx2); (try replace bxl := up_of hb bxl); (try replace cx0 := up_of hb cx0); (try replace cx1 := up_of hb cx1); (try replace cxl := up_of hb cxl)))
    go_ret
    exact ⟨rfl, hB⟩
  rw [hv] at hva
  obtain ⟨r, hr⟩ : ∃ r, n % 3 = r := ⟨_, rfl⟩
  have hr2 : r ≤ 2 := by omega
  have hw12 := gv_facts hv
  obtain ⟨g1, g2, -⟩ := gv_nat hv
  have hop : ∀ q : Nat, q ≤ 3 → opE wd ht F q = 0 := fun q hq => by unfold opE; rw [if_pos hv, if_pos (bw_iff.2 (by omega))]
  have c1 := fun V (h : Cels V s cap F) => Most_c wd ht r s cap F V h
  have c2 := fun V (h : Cels V s cap F) => Most_c wd ht ((r + 1 : Nat) : Int) s cap F V h
  have c3 := fun V (h : Cels V s cap F) => Most_c wd ht ((0 : Nat) : Int) s cap F V h
  rw [hop r (by omega)] at c1
  rw [hop (r + 1) (by omega)] at c2
  rw [hop 0 (by omega)] at c3
  have l1 := more_reach hv (r := r) (r' := r + 1) (by omega) (by omega)
  have l2 := more_reach hv (r := 0) (r' := r) (by omega) (by omega)
  have l3 := whole_eq hv
  have c4 := fun V (h : Cels V s cap F) => whole_c wd.toNat ht s cap F V h (by omega) hw12.2.2.1
  rw [g1] at c4
  have c5 := fun V (h : Cels V s cap F) => Worse_c wd ht s cap F c V h
  unfold GrRet at c5
  have l4 := fun hh => worse_law (wd := wd) (ht := ht) (F := F) (c := c) hh (r := r) (by omega)
  have l5 : wsE wd ht F c = 0 ∨ (wsE wd ht F c = 2 ∧ wsF wd ht F c = []) := by
    by_cases h0 : wsE wd ht F c = 0
    · exact .inl h0
    · refine .inr ⟨?_, (ws_err rfl h0).2.2⟩
      unfold wsE at h0 ⊢
      rw [if_pos hv] at h0 ⊢
      split
      · rename_i h2; rw [if_pos h2] at h0; exact absurd rfl h0
      · rfl
  have l6 := fun hh => ws_ok (wd := wd) (ht := ht) (F := F) (c := c) hh
  obtain ⟨A, hA⟩ : ∃ x, (clR wd ht F r).length = x := ⟨_, rfl⟩
  obtain ⟨B, hB0⟩ : ∃ x, (clR wd ht F ((r + 1 : Nat) : Int)).length = x := ⟨_, rfl⟩
  obtain ⟨C, hC⟩ : ∃ x, (clR wd ht F ((0 : Nat) : Int)).length = x := ⟨_, rfl⟩
  rw [hA] at c1 l1 l2
  rw [hB0] at c2 l1
  rw [hC] at c3 l2
  have l3 : C = wholeN wd.toNat F := by rw [← hC]; exact l3
  rw [← l3] at c4
  simp only [hA] at l4
  have e3 : ((n : Int) % 3) = r := by omega
  have e4 : (n : Int).tmod 3 = r := by rw [Int.tmod_eq_emod_of_nonneg (by omega)]; exact e3
  have e5 : IntKind.u8.wrap (r : Int) = r := by rw [IntKind.wrap_u8]; omega
  have e6 : IntKind.i64.wrap (r : Int) = r := i64_small (by omega)
  have e7 : IntKind.i64.wrap ((r : Int) + 1) = ((r + 1 : Nat) : Int) := by rw [i64_small (by omega)]; rfl
  have e8 : (n : Int) % 3 = (r : Int) := e3
  have z0 : ¬ (3 : Int) = 0 := by decide
  have n1 : ¬ (B : Int) < (A : Int) ∧ ¬ B < A := by omega
  have n2 : ¬ (A : Int) < (C : Int) ∧ ¬ A < C := by omega
  have n3 : ((C : Int) != (C : Int)) = false := by simp
  have hA13 : A ≤ 13 := by
    obtain ⟨f1, f2, f3⟩ := fld_facts hv
    have h9 : (colsM (r : Int) 13 (fld wd.toNat ht.toNat F)).length ≤ 13 := by
      obtain ⟨fs, q1, -⟩ := greedy_std (r := r) 13 f2 f1.1
      have := live_bound f2 q1 (y := 0) (by omega)
      have h8 := livN_le (fld wd.toNat ht.toNat F)[0]
      have h7 := f2 _ (List.getElem_mem (show 0 < (fld wd.toNat ht.toNat F).length by omega))
      omega
    rw [← hA]; unfold clR; rw [if_pos (hop r (by omega))]; exact h9
  obtain ⟨n1, n1'⟩ := n1
  obtain ⟨n2, n2'⟩ := n2
  replace hwi := Lib.hid hwi; replace hva := Lib.hid hva; replace c1 := Lib.hid c1; replace c2 := Lib.hid c2; replace c3 := Lib.hid c3; replace c4 := Lib.hid c4; replace hA := Lib.hid hA; replace hB0 := Lib.hid hB0; replace hC := Lib.hid hC; replace l3 := Lib.hid l3; replace hr := Lib.hid hr
  clear l1 l2 h200 hw12 g1 g2
  rcases l5 with l5 | ⟨l5, l7⟩
  · obtain ⟨y1, y2, y3⟩ := l6 l5
    obtain ⟨l8, l9, l10⟩ := l4 l5
    have hop2 : opE wd ht (F ++ [c]) (r : Int) = 0 := by unfold opE; rw [if_pos l8, if_pos (bw_iff.2 (by omega))]
    have c6 := fun V sw kw (h : Cels V sw kw (F ++ [c])) => Most_c wd ht r sw kw (F ++ [c]) V h
    rw [hop2] at c6
    rw [y1, y2, y3, l5] at c5
    obtain ⟨D, hD⟩ : ∃ x, (clR wd ht (F ++ [c]) r).length = x := ⟨_, rfl⟩
    rw [hD] at c6 l9 l10
    have hKl : (F ++ [c]).length ≤ 9223372036854775807 := by have := (gv_facts l8).2.2.1; omega
    obtain ⟨K, hK⟩ : ∃ x, F ++ [c] = x := ⟨_, rfl⟩
    simp only [hK] at c5 c6 hKl
    have w8 : IntKind.i64.wrap ((A : Int) - 1) = (A : Int) - 1 := i64_small (by omega)
    have n4 : ((D : Int) ≤ (A : Int)) ∧ D ≤ A := by omega
    have n5 : (A : Int) - 1 ≤ (D : Int) := by omega
    obtain ⟨n4, n4'⟩ := n4
    replace c5 := Lib.hid c5; replace c6 := Lib.hid c6; replace hD := Lib.hid hD; replace hK := Lib.hid hK
    clear l4 l6 y1 y2 y3 l5 l8 hop hop2 l9 l10 hv
    go_enter Try.func3, Try.ntmps3
    go_upto_region 1 with (fail)
    refine wp_world fun W HW => ?_
    have hB : Below w.heap.size w W := by rw [HW.out]; (repeat (first | exact Below.refl _ _ | refine Below.alloc ?_ (by simp; try omega) _ | refine Below.setCell ?_ (by simp) _ | refine Below.drew ?_))
    have bx0 : W.cell? ⟨w.heap.size, 0, none⟩ = some (.int .i64 wd) := by rw [HW.out]; simp [go_sem]
    have bx1 : W.cell? ⟨w.heap.size, 1, none⟩ = some (.int .i64 ht) := by rw [HW.out]; simp [go_sem]
    have bx2 : W.cell? ⟨w.heap.size, 2, none⟩ = some (.slice s F.length cap) := by rw [HW.out]; simp [go_sem]
    have bxl : w.heap.size < W.heap.size := World.block_lt_of_cell? W _ bx0
    have cx0 : W.cell? ⟨w.heap.size + 1, 0, none⟩ = some (.int .i64 c.x) := by rw [HW.out]; simp [go_sem]
    have cx1 : W.cell? ⟨w.heap.size + 1, 1, none⟩ = some (.int .i64 c.y) := by rw [HW.out]; simp [go_sem]
    have cxl : w.heap.size + 1 < W.heap.size := World.block_lt_of_cell? W _ cx0
    try replace h := up_of hB h
    go_upto_region 4 with (first | (go_at_call 13; refine (hwi.out _).mono ?_; rintro e W1 ⟨rfl, hb⟩; (try replace h := up_of hb h); (try replace hB := up_of hb hB); (try replace bx0 := up_of hb bx0); (try replace bx1 := up_of hb bx1); (try replace bx2 := up_of hb bx2); (try replace bxl := up_of hb bxl); (try replace cx0 := up_of hb cx0); (try replace cx1 := up_of hb cx1); (try replace cxl := up_of hb cxl)) | (go_at_call 14; refine (hva.out _ h).mono ?_; rintro e W1 ⟨rfl, hb⟩; (try replace h := up_of hb h); (try replace hB := up_of hb hB); (try replace bx0 := up_of hb bx0); (try replace bx1 := up_of hb bx1); (try replace bx2 := up_of hb bx2); (try replace bxl := up_of hb bxl); (try replace cx0 := up_of hb cx0); (try replace cx1 := up_of hb cx1); (try replace cxl := up_of hb cxl)))
    go_upto_region 5 with (first | (go_at_call 16; refine (c1.out _ h).mono ?_; rintro e W1 ⟨rfl, hb⟩; (try replace h := up_of hb h); (try replace hB := up_of hb hB); (try replace bx0 := up_of hb bx0); (try replace bx1 := up_of hb bx1); (try replace bx2 := up_of hb bx2); (try replace bxl := up_of hb bxl); (try replace cx0 := up_of hb cx0); (try replace cx1 := up_of hb cx1); (try replace cxl := up_of hb cxl)))
    go_upto_region 6 with (first | (go_at_call 16; refine (c2.out _ h).mono ?_; rintro e W1 ⟨rfl, hb⟩; (try replace h := up_of hb h); (try replace hB := up_of hb hB); (try replace bx0 := up_of hb bx0); (try replace bx1 := up_of hb bx1); (try replace bx2 := up_of hb bx2); (try replace bxl := up_of hb bxl); (try replace cx0 := up_of hb cx0); (try replace cx1 := up_of hb cx1); (try replace cxl := up_of hb cxl)))
    go_upto_region 7 with (first | (go_at_call 16; refine (c3.out _ h).mono ?_; rintro e W1 ⟨rfl, hb⟩; (try replace h := up_of hb h); (try replace hB := up_of hb hB); (try replace bx0 := up_of hb bx0); (try replace bx1 := up_of hb bx1); (try replace bx2 := up_of hb bx2); (try replace bxl := up_of hb bxl); (try replace cx0 := up_of hb cx0); (try replace cx1 := up_of hb cx1); (try replace cxl := up_of hb cxl)))
    go_upto_region 9 with (first | (go_at_call 17; refine (c4.out _ h).mono ?_; rintro e W1 ⟨rfl, hb⟩; (try replace h := up_of hb h); (try replace hB := up_of hb hB); (try replace bx0 := up_of hb bx0); (try replace bx1 := up_of hb bx1); (try replace bx2 := up_of hb bx2); (try replace bxl := up_of hb bxl); (try replace cx0 := up_of hb cx0); (try replace cx1 := up_of hb cx1); (try replace cxl := up_of hb cxl)))
    go_upto_region 10 with (first | (go_at_call 18; refine (c5.out _ h).mono ?_; rintro e A1 ⟨⟨s1, k1, rfl, ho1⟩, hb⟩; (try replace h := up_of hb h); (try replace hB := up_of hb hB); (try replace bx0 := up_of hb bx0); (try replace bx1 := up_of hb bx1); (try replace bx2 := up_of hb bx2); (try replace bxl := up_of hb bxl); (try replace cx0 := up_of hb cx0); (try replace cx1 := up_of hb cx1); (try replace cxl := up_of hb cxl)))
    have hc1 : Cels A1 s1 k1 K := ⟨SlS.of_own (E := celE) ho1, hKl, (own_cap ho1).2, (own_cap ho1).1⟩
    clear ho1 hb
    refine wp_world fun A2 HA2 => ?_
    have h2 : Below A1.heap.size A1 A2 := by rw [HA2.out]; (repeat (first | exact Below.refl _ _ | refine Below.alloc ?_ (by simp; try omega) _ | refine Below.setCell ?_ (by simp) _ | refine Below.drew ?_))
    have dx0 : A2.cell? ⟨A1.heap.size, 0, none⟩ = some (.int .i64 wd) := by rw [HA2.out]; simp [go_sem]
    have dx1 : A2.cell? ⟨A1.heap.size, 1, none⟩ = some (.int .i64 ht) := by rw [HA2.out]; simp [go_sem]
    have dx2 : A2.cell? ⟨A1.heap.size, 2, none⟩ = some (.slice s1 K.length k1) := by rw [HA2.out]; simp [go_sem]
    have dxl : A1.heap.size < A2.heap.size := World.block_lt_of_cell? A2 _ dx0
    try replace h := up_of h2 h
    try replace hB := up_of h2 hB
    try replace bx0 := up_of h2 bx0
    try replace bx1 := up_of h2 bx1
    try replace bx2 := up_of h2 bx2
    try replace bxl := up_of h2 bxl
    try replace cx0 := up_of h2 cx0
    try replace cx1 := up_of h2 cx1
    try replace cxl := up_of h2 cxl
    try replace hc1 := up_of h2 hc1
    go_upto_region 13 with (first | (go_at_call 16; refine (c6.out _ s1 k1 hc1).mono ?_; rintro e W1 ⟨rfl, hb⟩; (try replace h := up_of hb h); (try replace hB := up_of hb hB); (try replace bx0 := up_of hb bx0); (try replace bx1 := up_of hb bx1); (try replace bx2 := up_of hb bx2); (try replace bxl := up_of hb bxl); (try replace cx0 := up_of hb cx0); (try replace cx1 := up_of hb cx1); (try replace cxl := up_of hb cxl); (try replace hc1 := up_of hb hc1); (try replace h2 := up_of hb h2); (try replace dx0 := up_of hb dx0); (try replace dx1 := up_of hb dx1); (try replace dx2 := up_of hb dx2); (try replace dxl := up_of hb dxl)))
    go_wp2_with (first | (go_at_call 15; refine (Awake_c _).mono ?_; rintro e W1 ⟨rfl, hb⟩; (try replace h := up_of hb h); (try replace hB := up_of hb hB); (try replace bx0 := up_of hb bx0); (try replace bx1 := up_of hb bx1); (try replace bx2 := up_of hb bx2); (try replace bxl := up_of hb bxl); (try replace cx0 := up_of hb cx0); (try replace cx1 := up_of hb cx1); (try replace cxl := up_of hb cxl); (try replace hc1 := up_of hb hc1); (try replace h2 := up_of hb h2); (try replace dx0 := up_of hb dx0); (try replace dx1 := up_of hb dx1); (try replace dx2 := up_of hb dx2); (try replace dxl := up_of hb dxl)))
    go_ret
    exact ⟨rfl, hB⟩
  · obtain ⟨X, hX⟩ : ∃ x, wsW wd ht F c = x := ⟨_, rfl⟩
    obtain ⟨Y, hY⟩ : ∃ x, wsH wd ht F c = x := ⟨_, rfl⟩
    rw [hX, hY, l5, l7] at c5
    replace c5 := Lib.hid c5
    clear l4 l6 l5 l7 hop hX hY hv
    go_enter Try.func3, Try.ntmps3
    go_upto_region 1 with (fail)
    refine wp_world fun W HW => ?_
    have hB : Below w.heap.size w W := by rw [HW.out]; (repeat (first | exact Below.refl _ _ | refine Below.alloc ?_ (by simp; try omega) _ | refine Below.setCell ?_ (by simp) _ | refine Below.drew ?_))
    have bx0 : W.cell? ⟨w.heap.size, 0, none⟩ = some (.int .i64 wd) := by rw [HW.out]; simp [go_sem]
    have bx1 : W.cell? ⟨w.heap.size, 1, none⟩ = some (.int .i64 ht) := by rw [HW.out]; simp [go_sem]
    have bx2 : W.cell? ⟨w.heap.size, 2, none⟩ = some (.slice s F.length cap) := by rw [HW.out]; simp [go_sem]
    have bxl : w.heap.size < W.heap.size := World.block_lt_of_cell? W _ bx0
    have cx0 : W.cell? ⟨w.heap.size + 1, 0, none⟩ = some (.int .i64 c.x) := by rw [HW.out]; simp [go_sem]
    have cx1 : W.cell? ⟨w.heap.size + 1, 1, none⟩ = some (.int .i64 c.y) := by rw [HW.out]; simp [go_sem]
    have cxl : w.heap.size + 1 < W.heap.size := World.block_lt_of_cell? W _ cx0
    try replace h := up_of hB h
    go_upto_region 4 with (first | (go_at_call 13; refine (hwi.out _).mono ?_; rintro e W1 ⟨rfl, hb⟩; (try replace h := up_of hb h); (try replace hB := up_of hb hB); (try replace bx0 := up_of hb bx0); (try replace bx1 := up_of hb bx1); (try replace bx2 := up_of hb bx2); (try replace bxl := up_of hb bxl); (try replace cx0 := up_of hb cx0); (try replace cx1 := up_of hb cx1); (try replace cxl := up_of hb cxl)) | (go_at_call 14; refine (hva.out _ h).mono ?_; rintro e W1 ⟨rfl, hb⟩; (try replace h := up_of hb h); (try replace hB := up_of hb hB); (try replace bx0 := up_of hb bx0); (try replace bx1 := up_of hb bx1); (try replace bx2 := up_of hb bx2); (try replace bxl := up_of hb bxl); (try replace cx0 := up_of hb cx0); (try replace cx1 := up_of hb cx1); (try replace cxl := up_of hb cxl)))
    go_upto_region 5 with (first | (go_at_call 16; refine (c1.out _ h).mono ?_; rintro e W1 ⟨rfl, hb⟩; (try replace h := up_of hb h); (try replace hB := up_of hb hB); (try replace bx0 := up_of hb bx0); (try replace bx1 := up_of hb bx1); (try replace bx2 := up_of hb bx2); (try replace bxl := up_of hb bxl); (try replace cx0 := up_of hb cx0); (try replace cx1 := up_of hb cx1); (try replace cxl := up_of hb cxl)))
    go_upto_region 6 with (first | (go_at_call 16; refine (c2.out _ h).mono ?_; rintro e W1 ⟨rfl, hb⟩; (try replace h := up_of hb h); (try replace hB := up_of hb hB); (try replace bx0 := up_of hb bx0); (try replace bx1 := up_of hb bx1); (try replace bx2 := up_of hb bx2); (try replace bxl := up_of hb bxl); (try replace cx0 := up_of hb cx0); (try replace cx1 := up_of hb cx1); (try replace cxl := up_of hb cxl)))
    go_upto_region 7 with (first | (go_at_call 16; refine (c3.out _ h).mono ?_; rintro e W1 ⟨rfl, hb⟩; (try replace h := up_of hb h); (try replace hB := up_of hb hB); (try replace bx0 := up_of hb bx0); (try replace bx1 := up_of hb bx1); (try replace bx2 := up_of hb bx2); (try replace bxl := up_of hb bxl); (try replace cx0 := up_of hb cx0); (try replace cx1 := up_of hb cx1); (try replace cxl := up_of hb cxl)))
    go_upto_region 9 with (first | (go_at_call 17; refine (c4.out _ h).mono ?_; rintro e W1 ⟨rfl, hb⟩; (try replace h := up_of hb h); (try replace hB := up_of hb hB); (try replace bx0 := up_of hb bx0); (try replace bx1 := up_of hb bx1); (try replace bx2 := up_of hb bx2); (try replace bxl := up_of hb bxl); (try replace cx0 := up_of hb cx0); (try replace cx1 := up_of hb cx1); (try replace cxl := up_of hb cxl)))
    go_upto_region 10 with (first | (go_at_call 18; refine (c5.out _ h).mono ?_; rintro e A1 ⟨⟨s1, k1, rfl, ho1⟩, hb⟩; (try replace h := up_of hb h); (try replace hB := up_of hb hB); (try replace bx0 := up_of hb bx0); (try replace bx1 := up_of hb bx1); (try replace bx2 := up_of hb bx2); (try replace bxl := up_of hb bxl); (try replace cx0 := up_of hb cx0); (try replace cx1 := up_of hb cx1); (try replace cxl := up_of hb cxl)))
    clear ho1 hb
    refine wp_world fun A2 HA2 => ?_
    have h2 : Below A1.heap.size A1 A2 := by rw [HA2.out]; (repeat (first | exact Below.refl _ _ | refine Below.alloc ?_ (by simp; try omega) _ | refine Below.setCell ?_ (by simp) _ | refine Below.drew ?_))
    have dx0 : A2.cell? ⟨A1.heap.size, 0, none⟩ = some (.int .i64 X) := by rw [HA2.out]; simp [go_sem]
    have dx1 : A2.cell? ⟨A1.heap.size, 1, none⟩ = some (.int .i64 Y) := by rw [HA2.out]; simp [go_sem]
    have dx2 : A2.cell? ⟨A1.heap.size, 2, none⟩ = some (.slice s1 ([] : List Cel).length k1) := by rw [HA2.out]; simp [go_sem]
    have dxl : A1.heap.size < A2.heap.size := World.block_lt_of_cell? A2 _ dx0
    try replace h := up_of h2 h
    try replace hB := up_of h2 hB
    try replace bx0 := up_of h2 bx0
    try replace bx1 := up_of h2 bx1
    try replace bx2 := up_of h2 bx2
    try replace bxl := up_of h2 bxl
    try replace cx0 := up_of h2 cx0
    try replace cx1 := up_of h2 cx1
    try replace cxl := up_of h2 cxl
    go_wp2_with (first | (go_at_call 15; refine (Awake_c _).mono ?_; rintro e W1 ⟨rfl, hb⟩; (try replace h := up_of hb h); (try replace hB := up_of hb hB); (try replace bx0 := up_of hb bx0); (try replace bx1 := up_of hb bx1); (try replace bx2 := up_of hb bx2); (try replace bxl := up_of hb bxl); (try replace cx0 := up_of hb cx0); (try replace cx1 := up_of hb cx1); (try replace cxl := up_of hb cxl); (try replace h2 := up_of hb h2); (try replace dx0 := up_of hb dx0); (try replace dx1 := up_of hb dx1); (try replace dx2 := up_of hb dx2); (try replace dxl := up_of hb dxl)))
    go_ret
    exact ⟨rfl, hB⟩
end Go.Proofs.Ytbabdoafpljdbaa
