/- First values as exported; sanity. -/
import Derived.Test.YtakbpjgnjfigcaaGreatRLv2
namespace Go.Proofs.YtakbpjgnjfigcaaGreat
open Go.RowKit Go.Maps

set_option maxRecDepth 100000 in
theorem First1_c (x : Int) (w : World) : Calls Tryz.prog 73 #[.int .i64 x] w fun e w' => e = .returned (.bool (!bw (-1000) x 1000)) ∧ Below w.heap.size w w' := by
  go_enter Tryz.func73, Tryz.ntmps73
  go_wp2_with (first | (go_at_call 70; refine (recBetween_c _ _ _ _).mono ?_; rintro e w' ⟨rfl, rfl⟩))
  go_ret
  exact ⟨rfl, Below.refl _ _⟩
def farB (p : Pt) : Bool := [p.x, p.y, p.z].any fun x => !bw (-1000) x 1000
theorem farB_small {p : Pt} (h : farB p = false) : p.small 1000 := by
  simp only [farB, List.any_cons, List.any_nil, Bool.or_false, Bool.or_eq_false_iff, Bool.not_eq_false'] at h
  obtain ⟨h1, h2, h3⟩ := h
  have a1 := bw_iff.1 h1; have a2 := bw_iff.1 h2; have a3 := bw_iff.1 h3
  exact ⟨by omega, by omega, by omega⟩
/-- What First hands back. -/
def firV (n : Int) (l : List Iq) (K : List Vv) (x : Int) (p : Pt) : Value :=
  if recB n l K = false then .tuple #[.int .i64 0, .int .i64 20] else
  if (!bw 0 x (K.length - 1) || (beyB p n.toNat || farB p)) = true then .tuple #[.int .i64 0, .int .i64 2] else .tuple #[.int .i64 (frst (K.getD x.toNat default) p), .int .i64 0]
set_option maxRecDepth 100000 in
set_option maxHeartbeats 2000000 in
theorem First_c (n : Int) (s : Option Addr) (cap : Nat) (l : List Iq) (s2 : Option Addr) (cq : Nat) (K : List Vv) (x : Int) (p : Pt) (w : World) (hr : RecM w s l s2 cq K) :
    Calls Tryz.prog 30 #[.agg #[.int .i64 n, .slice s l.length cap, .slice s2 K.length cq], .int .i64 x, .agg #[.int .i64 p.x, .int .i64 p.y, .int .i64 p.z]] w fun e w' => e = .returned (firV n l K x p) ∧ Below w.heap.size w w' := by
  have hv := fun V (h : RecM V s l s2 cq K) => h.valid n cap
  unfold firV
  cases hb : recB n l K
  · rw [if_pos rfl]
    rw [hb] at hv
    clear hb
    replace hv := Lib.hid hv
    go_enter Tryz.func30, Tryz.ntmps30
    go_upto_region 1 with (fail)
    refine wp_world fun W HW => ?_
    have hB : Below w.heap.size w W := by rw [HW.out]; (repeat (first | exact Below.refl _ _ | refine Below.alloc ?_ (by simp; try omega) _ | refine Below.setCell ?_ (by simp) _ | refine Below.drew ?_))
    have d0 : W.cell? ⟨w.heap.size, 0, none⟩ = some (.int .i64 n) := by rw [HW.out]; simp [go_sem]
    have d1 : W.cell? ⟨w.heap.size, 1, none⟩ = some (.slice s l.length cap) := by rw [HW.out]; simp [go_sem]
    have d2 : W.cell? ⟨w.heap.size, 2, none⟩ = some (.slice s2 K.length cq) := by rw [HW.out]; simp [go_sem]
    have dl : w.heap.size < W.heap.size := World.block_lt_of_cell? W _ d0
    have g0 : W.cell? ⟨w.heap.size + 1, 0, none⟩ = some (.int .i64 p.x) := by rw [HW.out]; simp [go_sem]
    have g1 : W.cell? ⟨w.heap.size + 1, 1, none⟩ = some (.int .i64 p.y) := by rw [HW.out]; simp [go_sem]
    have g2 : W.cell? ⟨w.heap.size + 1, 2, none⟩ = some (.int .i64 p.z) := by rw [HW.out]; simp [go_sem]
    have gl : w.heap.size + 1 < W.heap.size := World.block_lt_of_cell? W _ g0
    try replace hr := up_of hB hr
    go_wp2_with (first | (go_at_call 69; refine (hv.out _ hr).mono ?_; rintro e W1 ⟨rfl, hb⟩; (try replace hr := up_of hb hr); (try replace hB := up_of hb hB); (try replace d0 := up_of hb d0); (try replace d1 := up_of hb d1); (try replace d2 := up_of hb d2); (try replace dl := up_of hb dl); (try replace g0 := up_of hb g0); (try replace g1 := up_of hb g1); (try replace g2 := up_of hb g2); (try replace gl := up_of hb gl)))
    go_ret2
    exact ⟨rfl, hB⟩
  rw [if_neg (by simp)]
  rw [hb] at hv
  have ok := netOk hb
  clear hb
  obtain ⟨m, rfl⟩ := Int.eq_ofNat_of_zero_le (show 0 ≤ n by have := ok.dim; omega)
  have hm : 1 ≤ m ∧ m ≤ 3 := by have := ok.dim; omega
  have hkv := ok.vars
  have hini := ok.init
  have hbe := fun V => beyond_c p m V hm
  rw [Int.toNat_natCast]
  clear ok
  have hcf := fun V b (hb : b < V.heap.size) (h0 : V.cell? ⟨b, 0, none⟩ = some (.int .i64 p.x)) (h1 : V.cell? ⟨b, 1, none⟩ = some (.int .i64 p.y)) (h2 : V.cell? ⟨b, 2, none⟩ = some (.int .i64 p.z)) => int_containsf 73 #[] (fun _ _ => rfl) (some ⟨b, 0, none⟩) 3 [p.x, p.y, p.z] (fun x => !bw (-1000) x 1000) V (sl_ints hb fun j hj => by
      simp only [List.length_cons, List.length_nil] at hj
      have : j = 0 ∨ j = 1 ∨ j = 2 := by omega
      rcases this with rfl | rfl | rfl
      · exact h0
      · exact h1
      · exact h2) (by simp) (fun q _ W _ => First1_c q W)
  change ∀ V b, _ → _ → _ → _ → Calls _ _ _ _ (fun e w' => e = .returned (.bool (farB p)) ∧ _) at hcf
  have hsm := fun (h : farB p = false) => farB_small h
  obtain ⟨FB, hFB⟩ : ∃ q, farB p = q := ⟨_, rfl⟩
  simp only [hFB] at hcf hsm ⊢
  obtain ⟨BB, hBB⟩ : ∃ q, beyB p m = q := ⟨_, rfl⟩
  simp only [hBB] at hbe ⊢
  clear hFB hBB
  have hbt := fun V => recBetween_c 0 x (K.length - 1) V
  have hx := fun (h : bw 0 x (K.length - 1) = true) => bw_iff.1 h
  obtain ⟨XB, hXB⟩ : ∃ q, bw 0 x (K.length - 1) = q := ⟨_, rfl⟩
  simp only [hXB] at hbt hx ⊢
  clear hXB
  have hk1 := i64_small (n := (K.length : Int) - 1) (by omega)
  replace hv := Lib.hid hv; replace hbe := Lib.hid hbe; replace hcf := Lib.hid hcf; replace hbt := Lib.hid hbt; replace hini := Lib.hid hini
  cases XB
  · clear hcf hbe
    go_enter Tryz.func30, Tryz.ntmps30
    go_upto_region 1 with (fail)
    refine wp_world fun W HW => ?_
    have hB : Below w.heap.size w W := by rw [HW.out]; (repeat (first | exact Below.refl _ _ | refine Below.alloc ?_ (by simp; try omega) _ | refine Below.setCell ?_ (by simp) _ | refine Below.drew ?_))
    have d0 : W.cell? ⟨w.heap.size, 0, none⟩ = some (.int .i64 m) := by rw [HW.out]; simp [go_sem]
    have d1 : W.cell? ⟨w.heap.size, 1, none⟩ = some (.slice s l.length cap) := by rw [HW.out]; simp [go_sem]
    have d2 : W.cell? ⟨w.heap.size, 2, none⟩ = some (.slice s2 K.length cq) := by rw [HW.out]; simp [go_sem]
    have dl : w.heap.size < W.heap.size := World.block_lt_of_cell? W _ d0
    have g0 : W.cell? ⟨w.heap.size + 1, 0, none⟩ = some (.int .i64 p.x) := by rw [HW.out]; simp [go_sem]
    have g1 : W.cell? ⟨w.heap.size + 1, 1, none⟩ = some (.int .i64 p.y) := by rw [HW.out]; simp [go_sem]
    have g2 : W.cell? ⟨w.heap.size + 1, 2, none⟩ = some (.int .i64 p.z) := by rw [HW.out]; simp [go_sem]
    have gl : w.heap.size + 1 < W.heap.size := World.block_lt_of_cell? W _ g0
    try replace hr := up_of hB hr
    go_wp2_with (first | (go_at_call 69; refine (hv.out _ hr).mono ?_; rintro e W1 ⟨rfl, hb⟩; (try replace hr := up_of hb hr); (try replace hB := up_of hb hB); (try replace d0 := up_of hb d0); (try replace d1 := up_of hb d1); (try replace d2 := up_of hb d2); (try replace dl := up_of hb dl); (try replace g0 := up_of hb g0); (try replace g1 := up_of hb g1); (try replace g2 := up_of hb g2); (try replace gl := up_of hb gl)) | (go_at_call 70; refine (hbt.out _).mono ?_; rintro e w' ⟨rfl, rfl⟩))
    go_ret2
    exact ⟨rfl, hB⟩
  cases BB
  case true =>
    clear hcf
    go_enter Tryz.func30, Tryz.ntmps30
    go_upto_region 1 with (fail)
    refine wp_world fun W HW => ?_
    have hB : Below w.heap.size w W := by rw [HW.out]; (repeat (first | exact Below.refl _ _ | refine Below.alloc ?_ (by simp; try omega) _ | refine Below.setCell ?_ (by simp) _ | refine Below.drew ?_))
    have d0 : W.cell? ⟨w.heap.size, 0, none⟩ = some (.int .i64 m) := by rw [HW.out]; simp [go_sem]
    have d1 : W.cell? ⟨w.heap.size, 1, none⟩ = some (.slice s l.length cap) := by rw [HW.out]; simp [go_sem]
    have d2 : W.cell? ⟨w.heap.size, 2, none⟩ = some (.slice s2 K.length cq) := by rw [HW.out]; simp [go_sem]
    have dl : w.heap.size < W.heap.size := World.block_lt_of_cell? W _ d0
    have g0 : W.cell? ⟨w.heap.size + 1, 0, none⟩ = some (.int .i64 p.x) := by rw [HW.out]; simp [go_sem]
    have g1 : W.cell? ⟨w.heap.size + 1, 1, none⟩ = some (.int .i64 p.y) := by rw [HW.out]; simp [go_sem]
    have g2 : W.cell? ⟨w.heap.size + 1, 2, none⟩ = some (.int .i64 p.z) := by rw [HW.out]; simp [go_sem]
    have gl : w.heap.size + 1 < W.heap.size := World.block_lt_of_cell? W _ g0
    try replace hr := up_of hB hr
    go_wp2_with (first | (go_at_call 69; refine (hv.out _ hr).mono ?_; rintro e W1 ⟨rfl, hb⟩; (try replace hr := up_of hb hr); (try replace hB := up_of hb hB); (try replace d0 := up_of hb d0); (try replace d1 := up_of hb d1); (try replace d2 := up_of hb d2); (try replace dl := up_of hb dl); (try replace g0 := up_of hb g0); (try replace g1 := up_of hb g1); (try replace g2 := up_of hb g2); (try replace gl := up_of hb gl)) | (go_at_call 70; refine (hbt.out _).mono ?_; rintro e w' ⟨rfl, rfl⟩) | (go_at_call 71; refine (hbe.out _).mono ?_; rintro e W1 ⟨rfl, hb⟩; (try replace hr := up_of hb hr); (try replace hB := up_of hb hB); (try replace d0 := up_of hb d0); (try replace d1 := up_of hb d1); (try replace d2 := up_of hb d2); (try replace dl := up_of hb dl); (try replace g0 := up_of hb g0); (try replace g1 := up_of hb g1); (try replace g2 := up_of hb g2); (try replace gl := up_of hb gl)))
    go_ret2
    exact ⟨rfl, hB⟩
  cases FB
  case true =>
    go_enter Tryz.func30, Tryz.ntmps30
    go_upto_region 1 with (fail)
    refine wp_world fun W HW => ?_
    have hB : Below w.heap.size w W := by rw [HW.out]; (repeat (first | exact Below.refl _ _ | refine Below.alloc ?_ (by simp; try omega) _ | refine Below.setCell ?_ (by simp) _ | refine Below.drew ?_))
    have d0 : W.cell? ⟨w.heap.size, 0, none⟩ = some (.int .i64 m) := by rw [HW.out]; simp [go_sem]
    have d1 : W.cell? ⟨w.heap.size, 1, none⟩ = some (.slice s l.length cap) := by rw [HW.out]; simp [go_sem]
    have d2 : W.cell? ⟨w.heap.size, 2, none⟩ = some (.slice s2 K.length cq) := by rw [HW.out]; simp [go_sem]
    have dl : w.heap.size < W.heap.size := World.block_lt_of_cell? W _ d0
    have g0 : W.cell? ⟨w.heap.size + 1, 0, none⟩ = some (.int .i64 p.x) := by rw [HW.out]; simp [go_sem]
    have g1 : W.cell? ⟨w.heap.size + 1, 1, none⟩ = some (.int .i64 p.y) := by rw [HW.out]; simp [go_sem]
    have g2 : W.cell? ⟨w.heap.size + 1, 2, none⟩ = some (.int .i64 p.z) := by rw [HW.out]; simp [go_sem]
    have gl : w.heap.size + 1 < W.heap.size := World.block_lt_of_cell? W _ g0
    try replace hr := up_of hB hr
    go_wp2_with (first | (go_at_call 69; refine (hv.out _ hr).mono ?_; rintro e W1 ⟨rfl, hb⟩; (try replace hr := up_of hb hr); (try replace hB := up_of hb hB); (try replace d0 := up_of hb d0); (try replace d1 := up_of hb d1); (try replace d2 := up_of hb d2); (try replace dl := up_of hb dl); (try replace g0 := up_of hb g0); (try replace g1 := up_of hb g1); (try replace g2 := up_of hb g2); (try replace gl := up_of hb gl)) | (go_at_call 70; refine (hbt.out _).mono ?_; rintro e w' ⟨rfl, rfl⟩) | (go_at_call 71; refine (hbe.out _).mono ?_; rintro e W1 ⟨rfl, hb⟩; (try replace hr := up_of hb hr); (try replace hB := up_of hb hB); (try replace d0 := up_of hb d0); (try replace d1 := up_of hb d1); (try replace d2 := up_of hb d2); (try replace dl := up_of hb dl); (try replace g0 := up_of hb g0); (try replace g1 := up_of hb g1); (try replace g2 := up_of hb g2); (try replace gl := up_of hb gl)) | (go_at_call 72; refine (hcf.out _ _ gl g0 g1 g2).mono ?_; rintro e W1 ⟨rfl, hb⟩; (try replace hr := up_of hb hr); (try replace hB := up_of hb hB); (try replace d0 := up_of hb d0); (try replace d1 := up_of hb d1); (try replace d2 := up_of hb d2); (try replace dl := up_of hb dl); (try replace g0 := up_of hb g0); (try replace g1 := up_of hb g1); (try replace g2 := up_of hb g2); (try replace gl := up_of hb gl)))
    go_ret2
    exact ⟨rfl, hB⟩
  have hxx := hx rfl
  have hps := hsm rfl
  clear hx hsm
  obtain ⟨y, rfl⟩ := Int.eq_ofNat_of_zero_le hxx.1
  have hy : y < K.length := by omega
  have hsv : K[y].small := hini.out _ (List.getElem_mem hy)
  rw [show K.getD ((y : Int).toNat) default = K[y] by rw [Int.toNat_natCast]; simp [List.getD_eq_getElem?_getD, hy]]
  have i1 : (y : Int) < (K.length : Int) := by omega
  have i0 : (0 : Int) ≤ (y : Int) := by omega
  obtain ⟨v, hvv⟩ : ∃ v, K[y] = v := ⟨_, rfl⟩
  have hat := fun V (h : RecM V s l s2 cq K) => h.vars.at hy
  simp only [hvv] at hat hsv ⊢
  clear hvv hini
  have hfi := fun sa la ca V => first_c v sa la ca p V hsv hps
  obtain ⟨R, hR⟩ : ∃ R, frst v p = R := ⟨_, rfl⟩
  simp only [hR] at hfi ⊢
  clear hR hsv hps
  replace hfi := Lib.hid hfi; replace hat := Lib.hid hat
  go_enter Tryz.func30, Tryz.ntmps30
  go_upto_region 1 with (fail)
  refine wp_world fun W HW => ?_
  have hB : Below w.heap.size w W := by rw [HW.out]; (repeat (first | exact Below.refl _ _ | refine Below.alloc ?_ (by simp; try omega) _ | refine Below.setCell ?_ (by simp) _ | refine Below.drew ?_))
  have d0 : W.cell? ⟨w.heap.size, 0, none⟩ = some (.int .i64 m) := by rw [HW.out]; simp [go_sem]
  have d1 : W.cell? ⟨w.heap.size, 1, none⟩ = some (.slice s l.length cap) := by rw [HW.out]; simp [go_sem]
  have d2 : W.cell? ⟨w.heap.size, 2, none⟩ = some (.slice s2 K.length cq) := by rw [HW.out]; simp [go_sem]
  have dl : w.heap.size < W.heap.size := World.block_lt_of_cell? W _ d0
  have g0 : W.cell? ⟨w.heap.size + 1, 0, none⟩ = some (.int .i64 p.x) := by rw [HW.out]; simp [go_sem]
  have g1 : W.cell? ⟨w.heap.size + 1, 1, none⟩ = some (.int .i64 p.y) := by rw [HW.out]; simp [go_sem]
  have g2 : W.cell? ⟨w.heap.size + 1, 2, none⟩ = some (.int .i64 p.z) := by rw [HW.out]; simp [go_sem]
  have gl : w.heap.size + 1 < W.heap.size := World.block_lt_of_cell? W _ g0
  try replace hr := up_of hB hr
  go_upto_region 7 with (first | (go_at_call 69; refine (hv.out _ hr).mono ?_; rintro e W1 ⟨rfl, hb⟩; (try replace hr := up_of hb hr); (try replace hB := up_of hb hB); (try replace d0 := up_of hb d0); (try replace d1 := up_of hb d1); (try replace d2 := up_of hb d2); (try replace dl := up_of hb dl); (try replace g0 := up_of hb g0); (try replace g1 := up_of hb g1); (try replace g2 := up_of hb g2); (try replace gl := up_of hb gl)) | (go_at_call 70; refine (hbt.out _).mono ?_; rintro e w' ⟨rfl, rfl⟩) | (go_at_call 71; refine (hbe.out _).mono ?_; rintro e W1 ⟨rfl, hb⟩; (try replace hr := up_of hb hr); (try replace hB := up_of hb hB); (try replace d0 := up_of hb d0); (try replace d1 := up_of hb d1); (try replace d2 := up_of hb d2); (try replace dl := up_of hb dl); (try replace g0 := up_of hb g0); (try replace g1 := up_of hb g1); (try replace g2 := up_of hb g2); (try replace gl := up_of hb gl)) | (go_at_call 72; refine (hcf.out _ _ gl g0 g1 g2).mono ?_; rintro e W1 ⟨rfl, hb⟩; (try replace hr := up_of hb hr); (try replace hB := up_of hb hB); (try replace d0 := up_of hb d0); (try replace d1 := up_of hb d1); (try replace d2 := up_of hb d2); (try replace dl := up_of hb dl); (try replace g0 := up_of hb g0); (try replace g1 := up_of hb g1); (try replace g2 := up_of hb g2); (try replace gl := up_of hb gl)))
  obtain ⟨b, off, sa, ca, rfl, hb, q0, q1, q2, q3, q4, q5, q6, -, -, -, -⟩ := hat.out _ hr
  try have ld_d0 := World.block_lt_of_cell? _ _ d0
  try have ld_g0 := World.block_lt_of_cell? _ _ g0
  try have ld_q0 := World.block_lt_of_cell? _ _ q0
  refine region_q (by kernel_rfl) (by kernel_rfl) ?_
  dsimp only [List.toList_toArray]
  repeat (first
   | go_big_quiet_skip
   | (go_big_quiet_want
      first
      | (refine qq_det ?_
         apply Exists.intro; refine ⟨fun W' hW' => ?_, ?_⟩
         (· have hk := cellB hW'; go_simp; try (first | rfl | rw [if_pos (by omega)]))
         simp only [Act.put, List.setIfInBounds_toArray, List.set_cons_zero, List.set_cons_succ]; go_big_quiet_on)
      | (refine qq_call ?_
         apply Exists.intro; apply Exists.intro; refine ⟨fun W' hW' => ?_, ?_⟩
         (· have hk := cellB hW'; go_simp; exact ⟨rfl, rfl⟩)
         apply Exists.intro; refine ⟨fun W' hW' => ?_, ?_⟩
         (· first | (go_at_call 74; exact qc hW' (hfi.out _ _ _ _)))
         simp only [Act.put, List.setIfInBounds_toArray, List.set_cons_zero, List.set_cons_succ]; go_big_quiet_on)))
  refine wpQuiet_nil ?_
  intro W1 hb
  try replace hr := up_of hb hr
  try replace hB := up_of hb hB
  try replace d0 := up_of hb d0
  try replace d1 := up_of hb d1
  try replace d2 := up_of hb d2
  try replace dl := up_of hb dl
  try replace g0 := up_of hb g0
  try replace g1 := up_of hb g1
  try replace g2 := up_of hb g2
  try replace gl := up_of hb gl
  try replace q0 := up_of hb q0
  try replace q1 := up_of hb q1
  try replace q2 := up_of hb q2
  try replace q3 := up_of hb q3
  try replace q4 := up_of hb q4
  try replace q5 := up_of hb q5
  try replace q6 := up_of hb q6
  go_wp2
  go_ret2
  exact ⟨rfl, hB⟩
def saneK : List Vv := [⟨⟨#[97]⟩, 1, [⟨0, ⟨-1, 0, 0⟩⟩], 7, 2, 0, 0⟩]
theorem sane_fir : firV 1 [] saneK 0 ⟨-4, 0, 0⟩ = .tuple #[.int .i64 10006, .int .i64 0] := by kernel_rfl
theorem sane_mem (W : World) (a b : Nat) (ha : a < W.heap.size) (hb : b < W.heap.size)
    (ga : ∀ j u, [Value.int .i64 0, .int .i64 (-1), .int .i64 0, .int .i64 0][j]? = some u → W.cell? ⟨a, j, none⟩ = some u)
    (gb : ∀ j u, [Value.string ⟨#[97]⟩, .int .i64 1, .slice (some ⟨a, 0, none⟩) 1 1, .int .i64 7, .int .i64 2, .int .i64 0, .int .i64 0][j]? = some u → W.cell? ⟨b, j, none⟩ = some u) :
    RecM W none [] (some ⟨b, 0, none⟩) 1 saneK := by
  refine ⟨⟨.inl rfl, by simp, by simp⟩, ⟨[⟨⟨#[97]⟩, 1, some ⟨a, 0, none⟩, 1, 1, 7, 2, 0, 0⟩], .inr ⟨b, 0, rfl, hb, fun j u hj => ?_⟩, rfl, fun i hi hi' => ?_⟩, by simp [saneK], by simp [saneK], by simp⟩
  · rw [Nat.zero_add]; exact gb j u hj
  · have hi2 : i < 1 := hi
    obtain rfl : i = 0 := by omega
    refine ⟨rfl, rfl, rfl, .inr ⟨a, 0, rfl, ha, fun j u hj => ?_⟩, by simp [saneK], (fun h => absurd h (by simp)), by simp [saneK], rfl, rfl, rfl, rfl⟩
    rw [Nat.zero_add]; exact ga j u hj
set_option maxRecDepth 100000 in
set_option maxHeartbeats 2000000 in
theorem Sane_c (w : World) : Calls Tryz.prog 7 #[] w fun e w' => e = .returned (.bool true) ∧ Below w.heap.size w w' := by
  have hf : ∀ V b, RecM V none [] (some ⟨b, 0, none⟩) 1 saneK → Calls Tryz.prog 30 #[.agg #[.int .i64 1, .slice none 0 0, .slice (some ⟨b, 0, none⟩) 1 1], .int .i64 0, .agg #[.int .i64 (-4), .int .i64 0, .int .i64 0]] V fun e w' => e = .returned (.tuple #[.int .i64 10006, .int .i64 0]) ∧ Below V.heap.size V w' := fun V b h => by
    have := First_c 1 none 0 [] (some ⟨b, 0, none⟩) 1 saneK 0 ⟨-4, 0, 0⟩ V h
    rw [sane_fir] at this
    exact this
  replace hf := Lib.hid hf
  go_enter Tryz.func7, Tryz.ntmps7
  go_upto_region 2 with (fail)
  refine wp_world fun W HW => ?_
  have hB : Below w.heap.size w W := by rw [HW.out]; (repeat (first | exact Below.refl _ _ | refine Below.alloc ?_ (by simp; try omega) _ | refine Below.setCell ?_ (by simp) _ | refine Below.drew ?_))
  have hr := sane_mem W w.heap.size (w.heap.size + 1) (by rw [HW.out]; simp; try omega) (by rw [HW.out]; simp; try omega) (fun j u hj => by
    rw [HW.out]
    match j, hj with
    | 0, hj => simp at hj; subst hj; simp [go_sem]
    | 1, hj => simp at hj; subst hj; simp [go_sem]
    | 2, hj => simp at hj; subst hj; simp [go_sem]
    | 3, hj => simp at hj; subst hj; simp [go_sem]
    | k + 4, hj => simp at hj) (fun j u hj => by
    rw [HW.out]
    match j, hj with
    | 0, hj => simp at hj; subst hj; simp [go_sem]
    | 1, hj => simp at hj; subst hj; simp [go_sem]
    | 2, hj => simp at hj; subst hj; simp [go_sem]
    | 3, hj => simp at hj; subst hj; simp [go_sem]
    | 4, hj => simp at hj; subst hj; simp [go_sem]
    | 5, hj => simp at hj; subst hj; simp [go_sem]
    | 6, hj => simp at hj; subst hj; simp [go_sem]
    | k + 7, hj => simp at hj)
  have d0 : W.cell? ⟨w.heap.size + 1 + 1, 0, none⟩ = some (.int .i64 1) := by rw [HW.out]; simp [go_sem]
  have d1 : W.cell? ⟨w.heap.size + 1 + 1, 1, none⟩ = some (.slice none 0 0) := by rw [HW.out]; simp [go_sem]
  have d2 : W.cell? ⟨w.heap.size + 1 + 1, 2, none⟩ = some (.slice (some ⟨w.heap.size + 1, 0, none⟩) 1 1) := by rw [HW.out]; simp [go_sem]
  have dl : w.heap.size + 1 + 1 < W.heap.size := World.block_lt_of_cell? W _ d0
  clear HW
  go_wp2_with (first | (go_at_call 30; refine (hf.out _ _ hr).mono ?_; rintro e W1 ⟨rfl, hb⟩; (try replace hB := up_of hb hB); (try replace hr := up_of hb hr); (try replace d0 := up_of hb d0); (try replace d1 := up_of hb d1); (try replace d2 := up_of hb d2)))
  go_ret
  exact ⟨rfl, hB⟩
end Go.Proofs.YtakbpjgnjfigcaaGreat
