/- The walk of PolyMeets. -/
import Derived.Test.YtfebkccdcbkdiaaPoly23
namespace Go.Proofs.Ytfebkccdcbkdiaa
open Go.RowKit

theorem flatMap_len_mono {α β : Type} (f g : α → List β) (xs : List α) (h : ∀ x ∈ xs, (f x).length ≤ (g x).length) : (xs.flatMap f).length ≤ (xs.flatMap g).length := by
  induction xs with
  | nil => simp
  | cons x xs ih =>
    have h1 := h x (by simp)
    have h2 := ih fun y hy => h y (by simp [hy])
    simp only [List.flatMap_cons, List.length_append]; omega
theorem holdsB_append (l k : List Iq) (p : Pt) (b : Int) : holdsB (l ++ k) p b = (holdsB l p b && holdsB k p b) := by simp [holdsB]
theorem hasB_append (n : Int) (l k : List Iq) (p : Pt) : hasB n (l ++ k) p = (hasB n l p && hasB n k p) := by
  simp only [hasB, holdsB_append]; cases flatB p n 20 <;> simp
theorem pts_append_le (n : Int) (l k : List Iq) : (pts n (l ++ k)).length ≤ (pts n l).length := by
  unfold pts ptsX
  refine flatMap_len_mono _ _ _ fun x _ => ?_
  unfold ptsY
  refine flatMap_len_mono _ _ _ fun y _ => ?_
  unfold ptsZ
  refine flatMap_len_mono _ _ _ fun z _ => ?_
  rw [holdsB_append]
  cases holdsB l ⟨x, y, z⟩ 1 <;> cases holdsB k ⟨x, y, z⟩ 1 <;> simp
theorem both_ok {n m : Int} {l k : List Iq} (h : bothE n m l k = 0) : validB n l = true ∧ validB m k = true ∧ n = m ∧ l.length + k.length ≤ 6 := by
  unfold bothE at h
  split at h
  · rename_i hv
    simp only [Bool.and_eq_true] at hv
    split at h
    · split at h
      · cases h
      · exact ⟨hv.1, hv.2, by assumption, by omega⟩
    · cases h
  · cases h
theorem both_valid {n : Int} {l k : List Iq} (h1 : validB n l = true) (h2 : validB n k = true) (h : l.length + k.length ≤ 6) : validB n (l ++ k) = true := by
  simp only [validB, Bool.and_eq_true, decide_eq_true_eq, List.all_append, List.length_append] at h1 h2 ⊢
  exact ⟨h1.1, h, h1.2.2, h2.2.2⟩
theorem Dom.of_own {w : World} {base cap : Nat} {s : Option Addr} {l : List Iq} (ho : w.ownsRow base 64 4 (.slice s l.length cap) l.length (iqCells l)) (hl : l.length ≤ 9223372036854775807) (hw : ∀ q ∈ l, -9223372036854775808 ≤ q.b ∧ q.b ≤ 9223372036854775807) : Dom w s l := ⟨owns_iq ho, hl, hw⟩

set_option maxRecDepth 100000 in
set_option maxHeartbeats 2000000 in
theorem PolyMeets_w (n : Int) (s : Option Addr) (cs : Nat) (l : List Iq) (m : Int) (t : Option Addr) (ct : Nat) (k : List Iq) (p : Pt) (w : World) (h : Dom w s l) (hc : s = none → cs = 0) (g : Dom w t k) (gc : t = none → ct = 0) :
    Calls Try.prog 9 #[.agg #[.int .i64 n, .slice s l.length cs], .agg #[.int .i64 m, .slice t k.length ct], .agg #[.int .i64 p.x, .int .i64 p.y, .int .i64 p.z]] w fun e w' => e = .returned (.bool true) ∧ Below w.heap.size w w' := by
  have hlen := h.len
  have glen := g.len
  replace hc := Lib.hid hc; replace gc := Lib.hid gc
  cases h1 : decide ((40 : Int) < (l.length : Int))
  case true =>
    go_enter Try.func9, Try.ntmps9
    go_upto_region 1 with (fail)
    refine wp_world fun W HW => ?_
    have hB : Below w.heap.size w W := by rw [HW.out]; (repeat (first | exact Below.refl _ _ | refine Below.alloc ?_ (by simp; try omega) _ | refine Below.setCell ?_ (by simp) _ | refine Below.drew ?_))
    have d0 : W.cell? ⟨w.heap.size, 0, none⟩ = some (.int .i64 n) := by rw [HW.out]; simp [go_sem]
    have d1 : W.cell? ⟨w.heap.size, 1, none⟩ = some (.slice s l.length cs) := by rw [HW.out]; simp [go_sem]
    have dl : w.heap.size < W.heap.size := World.block_lt_of_cell? W _ d0
    have e0 : W.cell? ⟨w.heap.size + 1, 0, none⟩ = some (.int .i64 m) := by rw [HW.out]; simp [go_sem]
    have e1 : W.cell? ⟨w.heap.size + 1, 1, none⟩ = some (.slice t k.length ct) := by rw [HW.out]; simp [go_sem]
    have el : w.heap.size + 1 < W.heap.size := World.block_lt_of_cell? W _ e0
    have p0 : W.cell? ⟨w.heap.size + 2, 0, none⟩ = some (.int .i64 p.x) := by rw [HW.out]; simp [go_sem]
    have p1 : W.cell? ⟨w.heap.size + 2, 1, none⟩ = some (.int .i64 p.y) := by rw [HW.out]; simp [go_sem]
    have p2 : W.cell? ⟨w.heap.size + 2, 2, none⟩ = some (.int .i64 p.z) := by rw [HW.out]; simp [go_sem]
    have pl : w.heap.size + 2 < W.heap.size := World.block_lt_of_cell? W _ p0
    try replace h := up_of hB h
    try replace g := up_of hB g
    go_wp2_with (first | (go_at_call 13; refine (wide_c _ _ _ _ _ (by first | exact hlen | exact glen)).mono ?_; rintro e W1 ⟨rfl, hb⟩; (try replace h := up_of hb h); (try replace g := up_of hb g); (try replace hB := up_of hb hB); (try replace d0 := up_of hb d0); (try replace d1 := up_of hb d1); (try replace dl := up_of hb dl); (try replace e0 := up_of hb e0); (try replace e1 := up_of hb e1); (try replace el := up_of hb el); (try replace p0 := up_of hb p0); (try replace p1 := up_of hb p1); (try replace p2 := up_of hb p2); (try replace pl := up_of hb pl)) | (go_at_call 14; refine (awake_c _).mono ?_; rintro e W1 ⟨rfl, hb⟩; (try replace h := up_of hb h); (try replace g := up_of hb g); (try replace hB := up_of hb hB); (try replace d0 := up_of hb d0); (try replace d1 := up_of hb d1); (try replace dl := up_of hb dl); (try replace e0 := up_of hb e0); (try replace e1 := up_of hb e1); (try replace el := up_of hb el); (try replace p0 := up_of hb p0); (try replace p1 := up_of hb p1); (try replace p2 := up_of hb p2); (try replace pl := up_of hb pl)))
    go_ret
    exact ⟨rfl, hB⟩
  cases h2 : decide ((40 : Int) < (k.length : Int))
  case true =>
    go_enter Try.func9, Try.ntmps9
    go_upto_region 1 with (fail)
    refine wp_world fun W HW => ?_
    have hB : Below w.heap.size w W := by rw [HW.out]; (repeat (first | exact Below.refl _ _ | refine Below.alloc ?_ (by simp; try omega) _ | refine Below.setCell ?_ (by simp) _ | refine Below.drew ?_))
    have d0 : W.cell? ⟨w.heap.size, 0, none⟩ = some (.int .i64 n) := by rw [HW.out]; simp [go_sem]
    have d1 : W.cell? ⟨w.heap.size, 1, none⟩ = some (.slice s l.length cs) := by rw [HW.out]; simp [go_sem]
    have dl : w.heap.size < W.heap.size := World.block_lt_of_cell? W _ d0
    have e0 : W.cell? ⟨w.heap.size + 1, 0, none⟩ = some (.int .i64 m) := by rw [HW.out]; simp [go_sem]
    have e1 : W.cell? ⟨w.heap.size + 1, 1, none⟩ = some (.slice t k.length ct) := by rw [HW.out]; simp [go_sem]
    have el : w.heap.size + 1 < W.heap.size := World.block_lt_of_cell? W _ e0
    have p0 : W.cell? ⟨w.heap.size + 2, 0, none⟩ = some (.int .i64 p.x) := by rw [HW.out]; simp [go_sem]
    have p1 : W.cell? ⟨w.heap.size + 2, 1, none⟩ = some (.int .i64 p.y) := by rw [HW.out]; simp [go_sem]
    have p2 : W.cell? ⟨w.heap.size + 2, 2, none⟩ = some (.int .i64 p.z) := by rw [HW.out]; simp [go_sem]
    have pl : w.heap.size + 2 < W.heap.size := World.block_lt_of_cell? W _ p0
    try replace h := up_of hB h
    try replace g := up_of hB g
    go_wp2_with (first | (go_at_call 13; refine (wide_c _ _ _ _ _ (by first | exact hlen | exact glen)).mono ?_; rintro e W1 ⟨rfl, hb⟩; (try replace h := up_of hb h); (try replace g := up_of hb g); (try replace hB := up_of hb hB); (try replace d0 := up_of hb d0); (try replace d1 := up_of hb d1); (try replace dl := up_of hb dl); (try replace e0 := up_of hb e0); (try replace e1 := up_of hb e1); (try replace el := up_of hb el); (try replace p0 := up_of hb p0); (try replace p1 := up_of hb p1); (try replace p2 := up_of hb p2); (try replace pl := up_of hb pl)) | (go_at_call 14; refine (awake_c _).mono ?_; rintro e W1 ⟨rfl, hb⟩; (try replace h := up_of hb h); (try replace g := up_of hb g); (try replace hB := up_of hb hB); (try replace d0 := up_of hb d0); (try replace d1 := up_of hb d1); (try replace dl := up_of hb dl); (try replace e0 := up_of hb e0); (try replace e1 := up_of hb e1); (try replace el := up_of hb el); (try replace p0 := up_of hb p0); (try replace p1 := up_of hb p1); (try replace p2 := up_of hb p2); (try replace pl := up_of hb pl)))
    go_ret
    exact ⟨rfl, hB⟩
  by_cases h3 : bothE n m l k = 0
  case neg =>
    have hN : bothN n m l k = 0 := by simp [bothN, h3]
    have hBc := fun W (h : Dom W s l) (g : Dom W t k) => Both_c n m s t cs ct l k W h g hc.out gc.out
    rw [hN] at hBc
    obtain ⟨er, her⟩ : ∃ er, bothE n m l k = er := ⟨_, rfl⟩
    obtain ⟨L, hL⟩ : ∃ L, bothL n m l k = L := ⟨_, rfl⟩
    rw [her] at h3 hBc
    rw [hL] at hBc
    have h3' : (er != 0) = true := by simpa using h3
    replace hBc := Lib.hid hBc
    clear h3 her hL hN
    go_enter Try.func9, Try.ntmps9
    go_upto_region 1 with (fail)
    refine wp_world fun W HW => ?_
    have hB : Below w.heap.size w W := by rw [HW.out]; (repeat (first | exact Below.refl _ _ | refine Below.alloc ?_ (by simp; try omega) _ | refine Below.setCell ?_ (by simp) _ | refine Below.drew ?_))
    have d0 : W.cell? ⟨w.heap.size, 0, none⟩ = some (.int .i64 n) := by rw [HW.out]; simp [go_sem]
    have d1 : W.cell? ⟨w.heap.size, 1, none⟩ = some (.slice s l.length cs) := by rw [HW.out]; simp [go_sem]
    have dl : w.heap.size < W.heap.size := World.block_lt_of_cell? W _ d0
    have e0 : W.cell? ⟨w.heap.size + 1, 0, none⟩ = some (.int .i64 m) := by rw [HW.out]; simp [go_sem]
    have e1 : W.cell? ⟨w.heap.size + 1, 1, none⟩ = some (.slice t k.length ct) := by rw [HW.out]; simp [go_sem]
    have el : w.heap.size + 1 < W.heap.size := World.block_lt_of_cell? W _ e0
    have p0 : W.cell? ⟨w.heap.size + 2, 0, none⟩ = some (.int .i64 p.x) := by rw [HW.out]; simp [go_sem]
    have p1 : W.cell? ⟨w.heap.size + 2, 1, none⟩ = some (.int .i64 p.y) := by rw [HW.out]; simp [go_sem]
    have p2 : W.cell? ⟨w.heap.size + 2, 2, none⟩ = some (.int .i64 p.z) := by rw [HW.out]; simp [go_sem]
    have pl : w.heap.size + 2 < W.heap.size := World.block_lt_of_cell? W _ p0
    try replace h := up_of hB h
    try replace g := up_of hB g
    go_upto_region 4 with (first | (go_at_call 13; refine (wide_c _ _ _ _ _ (by first | exact hlen | exact glen)).mono ?_; rintro e W1 ⟨rfl, hb⟩; (try replace h := up_of hb h); (try replace g := up_of hb g); (try replace hB := up_of hb hB); (try replace d0 := up_of hb d0); (try replace d1 := up_of hb d1); (try replace dl := up_of hb dl); (try replace e0 := up_of hb e0); (try replace e1 := up_of hb e1); (try replace el := up_of hb el); (try replace p0 := up_of hb p0); (try replace p1 := up_of hb p1); (try replace p2 := up_of hb p2); (try replace pl := up_of hb pl)) | (go_at_call 36; refine (hBc.out _ h g).mono ?_; rintro e A1 ⟨⟨s3, c3, rfl, hown⟩, hb⟩; (try replace h := up_of hb h); (try replace g := up_of hb g); (try replace hB := up_of hb hB); (try replace d0 := up_of hb d0); (try replace d1 := up_of hb d1); (try replace dl := up_of hb dl); (try replace e0 := up_of hb e0); (try replace e1 := up_of hb e1); (try replace el := up_of hb el); (try replace p0 := up_of hb p0); (try replace p1 := up_of hb p1); (try replace p2 := up_of hb p2); (try replace pl := up_of hb pl)))
    refine wp_world fun X HX => ?_
    have hX : Below A1.heap.size A1 X := by rw [HX.out]; (repeat (first | exact Below.refl _ _ | refine Below.alloc ?_ (by simp; try omega) _ | refine Below.setCell ?_ (by simp) _ | refine Below.drew ?_))
    have b0 : X.cell? ⟨A1.heap.size, 0, none⟩ = some (.int .i64 0) := by rw [HX.out]; simp [go_sem]
    have b1 : X.cell? ⟨A1.heap.size, 1, none⟩ = some (.slice s3 L.length c3) := by rw [HX.out]; simp [go_sem]
    have bl : A1.heap.size < X.heap.size := World.block_lt_of_cell? X _ b0
    try replace h := up_of hX h
    try replace g := up_of hX g
    try replace hB := up_of hX hB
    try replace d0 := up_of hX d0
    try replace d1 := up_of hX d1
    try replace dl := up_of hX dl
    try replace e0 := up_of hX e0
    try replace e1 := up_of hX e1
    try replace el := up_of hX el
    try replace p0 := up_of hX p0
    try replace p1 := up_of hX p1
    try replace p2 := up_of hX p2
    try replace pl := up_of hX pl
    go_wp2_with (first | (go_at_call 14; refine (awake_c _).mono ?_; rintro e W1 ⟨rfl, hb⟩; (try replace h := up_of hb h); (try replace g := up_of hb g); (try replace hB := up_of hb hB); (try replace d0 := up_of hb d0); (try replace d1 := up_of hb d1); (try replace dl := up_of hb dl); (try replace e0 := up_of hb e0); (try replace e1 := up_of hb e1); (try replace el := up_of hb el); (try replace p0 := up_of hb p0); (try replace p1 := up_of hb p1); (try replace p2 := up_of hb p2); (try replace pl := up_of hb pl); (try replace hX := up_of hb hX); (try replace b0 := up_of hb b0); (try replace b1 := up_of hb b1); (try replace bl := up_of hb bl)))
    go_ret
    exact ⟨rfl, hB⟩
  obtain ⟨v1, v2, rfl, hl6⟩ := both_ok h3
  have v3 := both_valid v1 v2 hl6
  have e1 : bothL n n l k = l ++ k := by simp [bothL, h3]
  have e2 : bothN n n l k = n := by simp [bothN, h3]
  have hap := hasB_append n l k p
  have hle := pts_append_le n l k
  have hKwf : ∀ q ∈ l ++ k, -9223372036854775808 ≤ q.b ∧ q.b ≤ 9223372036854775807 := fun q hq => by
    rcases List.mem_append.1 hq with hq | hq
    · exact h.wf q hq
    · exact g.wf q hq
  have hKl : (l ++ k).length ≤ 9223372036854775807 := by simp; omega
  have hBc := fun W (h : Dom W s l) (g : Dom W t k) => Both_c n n s t cs ct l k W h g hc.out gc.out
  rw [h3, e1, e2] at hBc
  obtain ⟨K, hK⟩ : ∃ K, l ++ k = K := ⟨_, rfl⟩
  rw [hK] at v3 hap hle hBc hKwf hKl
  clear h3 e1 e2 hK
  obtain ⟨P1, hP1⟩ : ∃ P1, pts n l = P1 := ⟨_, rfl⟩
  obtain ⟨P2, hP2⟩ : ∃ P2, pts n K = P2 := ⟨_, rfl⟩
  have hb1 := pts_len n l
  rw [hP1] at hle hb1
  rw [hP2] at hle
  replace hP1 := Lib.hid hP1; replace hP2 := Lib.hid hP2; replace hBc := Lib.hid hBc; replace hKwf := Lib.hid hKwf
  replace v1 := Lib.hid v1; replace v2 := Lib.hid v2; replace v3 := Lib.hid v3
  cases hx : hasB n l p
  all_goals
    cases hy : hasB n k p
    all_goals
      rw [hx, hy] at hap
      simp only [Bool.and_true, Bool.and_false] at hap
      have hz := Lib.hid hap
      have hx' := Lib.hid hx
      have hy' := Lib.hid hy
      clear hap hx hy
      go_enter Try.func9, Try.ntmps9
      go_upto_region 1 with (fail)
      refine wp_world fun W HW => ?_
      have hB : Below w.heap.size w W := by rw [HW.out]; (repeat (first | exact Below.refl _ _ | refine Below.alloc ?_ (by simp; try omega) _ | refine Below.setCell ?_ (by simp) _ | refine Below.drew ?_))
      have d0 : W.cell? ⟨w.heap.size, 0, none⟩ = some (.int .i64 n) := by rw [HW.out]; simp [go_sem]
      have d1 : W.cell? ⟨w.heap.size, 1, none⟩ = some (.slice s l.length cs) := by rw [HW.out]; simp [go_sem]
      have dl : w.heap.size < W.heap.size := World.block_lt_of_cell? W _ d0
      have e0 : W.cell? ⟨w.heap.size + 1, 0, none⟩ = some (.int .i64 n) := by rw [HW.out]; simp [go_sem]
      have e1 : W.cell? ⟨w.heap.size + 1, 1, none⟩ = some (.slice t k.length ct) := by rw [HW.out]; simp [go_sem]
      have el : w.heap.size + 1 < W.heap.size := World.block_lt_of_cell? W _ e0
      have p0 : W.cell? ⟨w.heap.size + 2, 0, none⟩ = some (.int .i64 p.x) := by rw [HW.out]; simp [go_sem]
      have p1 : W.cell? ⟨w.heap.size + 2, 1, none⟩ = some (.int .i64 p.y) := by rw [HW.out]; simp [go_sem]
      have p2 : W.cell? ⟨w.heap.size + 2, 2, none⟩ = some (.int .i64 p.z) := by rw [HW.out]; simp [go_sem]
      have pl : w.heap.size + 2 < W.heap.size := World.block_lt_of_cell? W _ p0
      try replace h := up_of hB h
      try replace g := up_of hB g
      go_upto_region 4 with (first | (go_at_call 13; refine (wide_c _ _ _ _ _ (by first | exact hlen | exact glen)).mono ?_; rintro e W1 ⟨rfl, hb⟩; (try replace h := up_of hb h); (try replace g := up_of hb g); (try replace hB := up_of hb hB); (try replace d0 := up_of hb d0); (try replace d1 := up_of hb d1); (try replace dl := up_of hb dl); (try replace e0 := up_of hb e0); (try replace e1 := up_of hb e1); (try replace el := up_of hb el); (try replace p0 := up_of hb p0); (try replace p1 := up_of hb p1); (try replace p2 := up_of hb p2); (try replace pl := up_of hb pl)) | (go_at_call 36; refine (hBc.out _ h g).mono ?_; rintro e A1 ⟨⟨s3, c3, rfl, hown⟩, hb⟩; (try replace h := up_of hb h); (try replace g := up_of hb g); (try replace hB := up_of hb hB); (try replace d0 := up_of hb d0); (try replace d1 := up_of hb d1); (try replace dl := up_of hb dl); (try replace e0 := up_of hb e0); (try replace e1 := up_of hb e1); (try replace el := up_of hb el); (try replace p0 := up_of hb p0); (try replace p1 := up_of hb p1); (try replace p2 := up_of hb p2); (try replace pl := up_of hb pl)))
      have hd3 : Dom A1 s3 K := Dom.of_own hown hKl hKwf.out
      refine wp_world fun X HX => ?_
      have hX : Below A1.heap.size A1 X := by rw [HX.out]; (repeat (first | exact Below.refl _ _ | refine Below.alloc ?_ (by simp; try omega) _ | refine Below.setCell ?_ (by simp) _ | refine Below.drew ?_))
      have b0 : X.cell? ⟨A1.heap.size, 0, none⟩ = some (.int .i64 n) := by rw [HX.out]; simp [go_sem]
      have b1 : X.cell? ⟨A1.heap.size, 1, none⟩ = some (.slice s3 K.length c3) := by rw [HX.out]; simp [go_sem]
      have bl : A1.heap.size < X.heap.size := World.block_lt_of_cell? X _ b0
      try replace h := up_of hX h
      try replace g := up_of hX g
      try replace hB := up_of hX hB
      try replace d0 := up_of hX d0
      try replace d1 := up_of hX d1
      try replace dl := up_of hX dl
      try replace e0 := up_of hX e0
      try replace e1 := up_of hX e1
      try replace el := up_of hX el
      try replace p0 := up_of hX p0
      try replace p1 := up_of hX p1
      try replace p2 := up_of hX p2
      try replace pl := up_of hX pl
      try replace hd3 := up_of hX hd3
      clear hown
      go_upto_region 7 with (first | (go_at_call 15; refine (Has_b n s cs l p _ h v1.out hx'.out).mono ?_; rintro e W1 ⟨rfl, hb⟩; (try replace h := up_of hb h); (try replace g := up_of hb g); (try replace hB := up_of hb hB); (try replace d0 := up_of hb d0); (try replace d1 := up_of hb d1); (try replace dl := up_of hb dl); (try replace e0 := up_of hb e0); (try replace e1 := up_of hb e1); (try replace el := up_of hb el); (try replace p0 := up_of hb p0); (try replace p1 := up_of hb p1); (try replace p2 := up_of hb p2); (try replace pl := up_of hb pl); (try replace hd3 := up_of hb hd3); (try replace hX := up_of hb hX); (try replace b0 := up_of hb b0); (try replace b1 := up_of hb b1); (try replace bl := up_of hb bl)))
      go_upto_region 8 with (first | (go_at_call 15; refine (Has_b n t ct k p _ g v2.out hy'.out).mono ?_; rintro e W1 ⟨rfl, hb⟩; (try replace h := up_of hb h); (try replace g := up_of hb g); (try replace hB := up_of hb hB); (try replace d0 := up_of hb d0); (try replace d1 := up_of hb d1); (try replace dl := up_of hb dl); (try replace e0 := up_of hb e0); (try replace e1 := up_of hb e1); (try replace el := up_of hb el); (try replace p0 := up_of hb p0); (try replace p1 := up_of hb p1); (try replace p2 := up_of hb p2); (try replace pl := up_of hb pl); (try replace hd3 := up_of hb hd3); (try replace hX := up_of hb hX); (try replace b0 := up_of hb b0); (try replace b1 := up_of hb b1); (try replace bl := up_of hb bl)))
      go_upto_region 9 with (first | (go_at_call 15; refine (Has_b n s3 c3 K p _ hd3 v3.out hz.out).mono ?_; rintro e W1 ⟨rfl, hb⟩; (try replace h := up_of hb h); (try replace g := up_of hb g); (try replace hB := up_of hb hB); (try replace d0 := up_of hb d0); (try replace d1 := up_of hb d1); (try replace dl := up_of hb dl); (try replace e0 := up_of hb e0); (try replace e1 := up_of hb e1); (try replace el := up_of hb el); (try replace p0 := up_of hb p0); (try replace p1 := up_of hb p1); (try replace p2 := up_of hb p2); (try replace pl := up_of hb pl); (try replace hd3 := up_of hb hd3); (try replace hX := up_of hb hX); (try replace b0 := up_of hb b0); (try replace b1 := up_of hb b1); (try replace bl := up_of hb bl)))
      go_upto_region 10 with (first | (go_at_call 21; refine (Count_v n s cs l _ h v1.out P1 hP1.out).mono ?_; rintro e W1 ⟨rfl, hb⟩; (try replace h := up_of hb h); (try replace g := up_of hb g); (try replace hB := up_of hb hB); (try replace d0 := up_of hb d0); (try replace d1 := up_of hb d1); (try replace dl := up_of hb dl); (try replace e0 := up_of hb e0); (try replace e1 := up_of hb e1); (try replace el := up_of hb el); (try replace p0 := up_of hb p0); (try replace p1 := up_of hb p1); (try replace p2 := up_of hb p2); (try replace pl := up_of hb pl); (try replace hd3 := up_of hb hd3); (try replace hX := up_of hb hX); (try replace b0 := up_of hb b0); (try replace b1 := up_of hb b1); (try replace bl := up_of hb bl)))
      go_wp2_with (first | (go_at_call 21; refine (Count_v n s3 c3 K _ hd3 v3.out P2 hP2.out).mono ?_; rintro e W1 ⟨rfl, hb⟩; (try replace h := up_of hb h); (try replace g := up_of hb g); (try replace hB := up_of hb hB); (try replace d0 := up_of hb d0); (try replace d1 := up_of hb d1); (try replace dl := up_of hb dl); (try replace e0 := up_of hb e0); (try replace e1 := up_of hb e1); (try replace el := up_of hb el); (try replace p0 := up_of hb p0); (try replace p1 := up_of hb p1); (try replace p2 := up_of hb p2); (try replace pl := up_of hb pl); (try replace hd3 := up_of hb hd3); (try replace hX := up_of hb hX); (try replace b0 := up_of hb b0); (try replace b1 := up_of hb b1); (try replace bl := up_of hb bl)) | (go_at_call 14; refine (awake_c _).mono ?_; rintro e W1 ⟨rfl, hb⟩; (try replace h := up_of hb h); (try replace g := up_of hb g); (try replace hB := up_of hb hB); (try replace d0 := up_of hb d0); (try replace d1 := up_of hb d1); (try replace dl := up_of hb dl); (try replace e0 := up_of hb e0); (try replace e1 := up_of hb e1); (try replace el := up_of hb el); (try replace p0 := up_of hb p0); (try replace p1 := up_of hb p1); (try replace p2 := up_of hb p2); (try replace pl := up_of hb pl); (try replace hd3 := up_of hb hd3); (try replace hX := up_of hb hX); (try replace b0 := up_of hb b0); (try replace b1 := up_of hb b1); (try replace bl := up_of hb bl)))
      go_ret
      exact ⟨rfl, hB⟩
end Go.Proofs.Ytfebkccdcbkdiaa
