/- The value of an element, and first values, as exported: the reference. -/
import Derived.Test.YtadmnlkgefbhcaaValue
namespace Go.Proofs.Ytadmnlkgefbhcaa
open Go.RowKit Go.Maps

set_option maxRecDepth 100000 in
set_option maxHeartbeats 2000000 in
theorem rValue_c (n : Int) (s : Option Addr) (cap : Nat) (l : List Iq) (s2 : Option Addr) (cq : Nat) (K : List Vv) (y : Ar) (w : World) (hr : RecM w s l s2 cq K) (hy : y.p.I64) :
    Calls Try.prog 19 #[.agg #[.int .i64 n, .slice s l.length cap, .slice s2 K.length cq], .agg #[.int .i64 y.v, .int .i64 y.p.x, .int .i64 y.p.y, .int .i64 y.p.z]] w fun e w' => VaRet n l K y e ∧ Below w.heap.size w w' := by
  have hv := fun V (h : RecM V s l s2 cq K) => h.valid2 n cap
  cases hb : recB n l K
  · rw [hb] at hv
    have hend := va_bad (y := y) hb
    obtain ⟨R, hR⟩ : ∃ R, VaRet n l K y = R := ⟨_, rfl⟩
    rw [hR] at hend ⊢
    clear hb hR hy
    obtain ⟨v, ⟨x, yy, z⟩⟩ := y
    replace hv := Lib.hid hv; replace hend := Lib.hid hend
    go_enter Try.func19, Try.ntmps19
    go_upto_region 1 with (fail)
    refine wp_world fun W HW => ?_
    have hB : Below w.heap.size w W := by rw [HW.out]; (repeat (first | exact Below.refl _ _ | refine Below.alloc ?_ (by simp; try omega) _ | refine Below.setCell ?_ (by simp) _ | refine Below.drew ?_))
    have d0 : W.cell? ⟨w.heap.size, 0, none⟩ = some (.int .i64 n) := by rw [HW.out]; simp [go_sem]
    have d1 : W.cell? ⟨w.heap.size, 1, none⟩ = some (.slice s l.length cap) := by rw [HW.out]; simp [go_sem]
    have d2 : W.cell? ⟨w.heap.size, 2, none⟩ = some (.slice s2 K.length cq) := by rw [HW.out]; simp [go_sem]
    have dl : w.heap.size < W.heap.size := World.block_lt_of_cell? W _ d0
    have q0 : W.cell? ⟨w.heap.size + 1, 0, none⟩ = some (.int .i64 v) := by rw [HW.out]; simp [go_sem]
    have q1 : W.cell? ⟨w.heap.size + 1, 1, none⟩ = some (.int .i64 x) := by rw [HW.out]; simp [go_sem]
    have q2 : W.cell? ⟨w.heap.size + 1, 2, none⟩ = some (.int .i64 yy) := by rw [HW.out]; simp [go_sem]
    have q3 : W.cell? ⟨w.heap.size + 1, 3, none⟩ = some (.int .i64 z) := by rw [HW.out]; simp [go_sem]
    have ql : w.heap.size + 1 < W.heap.size := World.block_lt_of_cell? W _ q0
    try replace hr := up_of hB hr
    go_wp2_with (first | (go_at_call 31; refine (hv.out _ hr).mono ?_; rintro e W1 ⟨rfl, hb⟩; (try replace hr := up_of hb hr); (try replace hB := up_of hb hB); (try replace d0 := up_of hb d0); (try replace d1 := up_of hb d1); (try replace d2 := up_of hb d2); (try replace dl := up_of hb dl); (try replace q0 := up_of hb q0); (try replace q1 := up_of hb q1); (try replace q2 := up_of hb q2); (try replace q3 := up_of hb q3); (try replace ql := up_of hb ql)))
    go_ret2
    exact ⟨hend.out, hB⟩
  rw [hb] at hv
  have ok := netOk hb
  have hend1 := fun h2 => va_arg (y := y) hb h2
  have hend2 := fun h2 h3 => va_circ (y := y) hb h2 h3
  have hend3 := fun h2 h3 => va_ok (y := y) hb h2 h3
  have hof := fun V (h : RecM V s l s2 cq K) => Of_c n s cap l s2 cq K V h ok.dim ok
  obtain ⟨R, hR⟩ : ∃ R, VaRet n l K y = R := ⟨_, rfl⟩
  simp only [hR] at hend1 hend2 hend3 ⊢
  obtain ⟨P, hP⟩ : ∃ P, pts n l = P := ⟨_, rfl⟩
  simp only [hP] at hof ok hend1 hend2 hend3
  clear hP hb hR
  have his := fun g sp cp mb V (h : Net 64 V g n s cap l s2 cq K sp cp mb P) => rIs_c y V h ok hy
  simp only [← isEl_in] at his
  have hlv := fun g sp cp mb V (h : Net 64 V g n s cap l s2 cq K sp cp mb P) => rlevels_c V h ok
  have hvs := fun g sp cp mb b V (h : Net 64 V g n s cap l s2 cq K sp cp mb P) (hy : okN2 K P) (h2 : SlS intE V (some ⟨b, 0, none⟩) (lvsL K P)) => rvalues_c b V h ok hy h2
  have hnu := fun (he : isEl K P y.v y.p = true) g sp cp mb V (h : Net 64 V g n s cap l s2 cq K sp cp mb P) => by
    rw [isEl_in, Bool.and_eq_true] at he
    obtain ⟨h1, h2⟩ := elOf_num ok he.2 he.1
    have := rnum_c (elNum P y) V h ok h2
    rw [h1] at this
    exact (And.intro this h2)
  have hat := fun k (hk : k < K.length * P.length) => vlsL_at (K := K) (P := P) hk
  have hLl := vlsL_len K P
  have hNs := ok.size
  obtain ⟨LL, hLL⟩ : ∃ x, vlsL K P = x := ⟨_, rfl⟩
  simp only [hLL] at hvs hat hLl
  clear hLL
  obtain ⟨FN, hFN⟩ : ∃ x, elNum P y = x := ⟨_, rfl⟩
  simp only [hFN] at hnu hend3
  obtain ⟨EB, hEB⟩ : ∃ x, isEl K P y.v y.p = x := ⟨_, rfl⟩
  simp only [hEB] at his hend1 hend2 hend3 hnu
  clear hFN hEB hy
  obtain ⟨v, ⟨x, yy, z⟩⟩ := y
  simp only at his hnu ⊢
  replace hv := Lib.hid hv; replace hof := Lib.hid hof; replace hlv := Lib.hid hlv; replace hvs := Lib.hid hvs; replace hend1 := Lib.hid hend1; replace hend2 := Lib.hid hend2; replace hend3 := Lib.hid hend3; replace his := Lib.hid his; replace hnu := Lib.hid hnu; replace hat := Lib.hid hat; replace hLl := Lib.hid hLl
  clear ok
  cases EB
  · go_enter Try.func19, Try.ntmps19
    go_upto_region 1 with (fail)
    refine wp_world fun W HW => ?_
    have hB : Below w.heap.size w W := by rw [HW.out]; (repeat (first | exact Below.refl _ _ | refine Below.alloc ?_ (by simp; try omega) _ | refine Below.setCell ?_ (by simp) _ | refine Below.drew ?_))
    have d0 : W.cell? ⟨w.heap.size, 0, none⟩ = some (.int .i64 n) := by rw [HW.out]; simp [go_sem]
    have d1 : W.cell? ⟨w.heap.size, 1, none⟩ = some (.slice s l.length cap) := by rw [HW.out]; simp [go_sem]
    have d2 : W.cell? ⟨w.heap.size, 2, none⟩ = some (.slice s2 K.length cq) := by rw [HW.out]; simp [go_sem]
    have dl : w.heap.size < W.heap.size := World.block_lt_of_cell? W _ d0
    have q0 : W.cell? ⟨w.heap.size + 1, 0, none⟩ = some (.int .i64 v) := by rw [HW.out]; simp [go_sem]
    have q1 : W.cell? ⟨w.heap.size + 1, 1, none⟩ = some (.int .i64 x) := by rw [HW.out]; simp [go_sem]
    have q2 : W.cell? ⟨w.heap.size + 1, 2, none⟩ = some (.int .i64 yy) := by rw [HW.out]; simp [go_sem]
    have q3 : W.cell? ⟨w.heap.size + 1, 3, none⟩ = some (.int .i64 z) := by rw [HW.out]; simp [go_sem]
    have ql : w.heap.size + 1 < W.heap.size := World.block_lt_of_cell? W _ q0
    try replace hr := up_of hB hr
    go_upto_region 4 with (first | (go_at_call 31; refine (hv.out _ hr).mono ?_; rintro e W1 ⟨rfl, hb⟩; (try replace hr := up_of hb hr); (try replace hB := up_of hb hB); (try replace d0 := up_of hb d0); (try replace d1 := up_of hb d1); (try replace d2 := up_of hb d2); (try replace dl := up_of hb dl); (try replace q0 := up_of hb q0); (try replace q1 := up_of hb q1); (try replace q2 := up_of hb q2); (try replace q3 := up_of hb q3); (try replace ql := up_of hb ql)) | (go_at_call 34; refine (hof.out _ hr).mono ?_; rintro e W2 ⟨⟨g, sp, cp, mb, rfl, hnt⟩, hb⟩; (try replace hr := up_of hb hr); (try replace hB := up_of hb hB); (try replace d0 := up_of hb d0); (try replace d1 := up_of hb d1); (try replace d2 := up_of hb d2); (try replace dl := up_of hb dl); (try replace q0 := up_of hb q0); (try replace q1 := up_of hb q1); (try replace q2 := up_of hb q2); (try replace q3 := up_of hb q3); (try replace ql := up_of hb ql)))
    go_wp2_with (first | (go_at_call 36; refine (his.out _ _ _ _ _ hnt).mono ?_; rintro e W3 ⟨rfl, hb⟩; (try replace hr := up_of hb hr); (try replace hB := up_of hb hB); (try replace d0 := up_of hb d0); (try replace d1 := up_of hb d1); (try replace d2 := up_of hb d2); (try replace dl := up_of hb dl); (try replace q0 := up_of hb q0); (try replace q1 := up_of hb q1); (try replace q2 := up_of hb q2); (try replace q3 := up_of hb q3); (try replace ql := up_of hb ql); (try replace hnt := up_of hb hnt)))
    go_ret2
    exact ⟨hend1.out (by trivial), hB⟩
  go_enter Try.func19, Try.ntmps19
  go_upto_region 1 with (fail)
  refine wp_world fun W HW => ?_
  have hB : Below w.heap.size w W := by rw [HW.out]; (repeat (first | exact Below.refl _ _ | refine Below.alloc ?_ (by simp; try omega) _ | refine Below.setCell ?_ (by simp) _ | refine Below.drew ?_))
  have d0 : W.cell? ⟨w.heap.size, 0, none⟩ = some (.int .i64 n) := by rw [HW.out]; simp [go_sem]
  have d1 : W.cell? ⟨w.heap.size, 1, none⟩ = some (.slice s l.length cap) := by rw [HW.out]; simp [go_sem]
  have d2 : W.cell? ⟨w.heap.size, 2, none⟩ = some (.slice s2 K.length cq) := by rw [HW.out]; simp [go_sem]
  have dl : w.heap.size < W.heap.size := World.block_lt_of_cell? W _ d0
  have q0 : W.cell? ⟨w.heap.size + 1, 0, none⟩ = some (.int .i64 v) := by rw [HW.out]; simp [go_sem]
  have q1 : W.cell? ⟨w.heap.size + 1, 1, none⟩ = some (.int .i64 x) := by rw [HW.out]; simp [go_sem]
  have q2 : W.cell? ⟨w.heap.size + 1, 2, none⟩ = some (.int .i64 yy) := by rw [HW.out]; simp [go_sem]
  have q3 : W.cell? ⟨w.heap.size + 1, 3, none⟩ = some (.int .i64 z) := by rw [HW.out]; simp [go_sem]
  have ql : w.heap.size + 1 < W.heap.size := World.block_lt_of_cell? W _ q0
  try replace hr := up_of hB hr
  go_upto_region 4 with (first | (go_at_call 31; refine (hv.out _ hr).mono ?_; rintro e W1 ⟨rfl, hb⟩; (try replace hr := up_of hb hr); (try replace hB := up_of hb hB); (try replace d0 := up_of hb d0); (try replace d1 := up_of hb d1); (try replace d2 := up_of hb d2); (try replace dl := up_of hb dl); (try replace q0 := up_of hb q0); (try replace q1 := up_of hb q1); (try replace q2 := up_of hb q2); (try replace q3 := up_of hb q3); (try replace ql := up_of hb ql)) | (go_at_call 34; refine (hof.out _ hr).mono ?_; rintro e W2 ⟨⟨g, sp, cp, mb, rfl, hnt⟩, hb⟩; (try replace hr := up_of hb hr); (try replace hB := up_of hb hB); (try replace d0 := up_of hb d0); (try replace d1 := up_of hb d1); (try replace d2 := up_of hb d2); (try replace dl := up_of hb dl); (try replace q0 := up_of hb q0); (try replace q1 := up_of hb q1); (try replace q2 := up_of hb q2); (try replace q3 := up_of hb q3); (try replace ql := up_of hb ql)))
  go_upto_region 6 with (first | (go_at_call 36; refine (his.out _ _ _ _ _ hnt).mono ?_; rintro e W3 ⟨rfl, hb⟩; (try replace hr := up_of hb hr); (try replace hB := up_of hb hB); (try replace d0 := up_of hb d0); (try replace d1 := up_of hb d1); (try replace d2 := up_of hb d2); (try replace dl := up_of hb dl); (try replace q0 := up_of hb q0); (try replace q1 := up_of hb q1); (try replace q2 := up_of hb q2); (try replace q3 := up_of hb q3); (try replace ql := up_of hb ql); (try replace hnt := up_of hb hnt)))
  go_upto_region 7 with (first | (go_at_call 60; refine (hlv.out _ _ _ _ _ hnt).mono ?_; rintro e W4 ⟨h1, hb⟩; replace hB := up_of hb hB; replace hnt := up_of hb hnt; replace q0 := up_of hb q0; replace q1 := up_of hb q1; replace q2 := up_of hb q2; replace q3 := up_of hb q3; rcases h1 with ⟨hyes, b, rfl, hsl⟩ | ⟨hno, rfl⟩))
  · have hFlt := (hnu.out (by trivial) _ _ _ _ _ hnt).2
    have hvv := fun V h h2 => hvs.out g sp cp mb b V h hyes h2
    have hatF := getD_eq0 (hat.out FN hFlt)
    have hLl2 := hLl.out
    have hnn := fun V h => (hnu.out (by trivial) g sp cp mb V h).1
    obtain ⟨NN, hNN⟩ : ∃ q, K.length * P.length = q := ⟨_, rfl⟩
    simp only [hNN] at hFlt hvv hLl2 hNs ⊢
    have hF1 : (0 : Int) ≤ (FN : Int) := by omega
    have hF2 : (FN : Int) < (NN : Int) := by omega
    obtain ⟨VV, hVV⟩ : ∃ q, vlN K P FN = q := ⟨_, rfl⟩
    have hend4 := hend3.out (by trivial) hyes
    rw [hVV] at hend4
    simp only [hVV] at hatF
    replace hNN := Lib.hid hNN; replace hvv := Lib.hid hvv; replace hend4 := Lib.hid hend4; replace hatF := Lib.hid hatF; replace hLl2 := Lib.hid hLl2; replace hVV := Lib.hid hVV; replace hyes := Lib.hid hyes; replace hnn := Lib.hid hnn
    clear hr d0 d1 d2 dl
    go_upto_region 9 with (fail)
    go_region_with (first | (go_at_call 61; refine calls_below (W0 := W4) ?_ fun hpre => ?_; (repeat (first | exact Below.refl _ _ | refine Below.drew ?_)); refine (hvv.out _ (up_of hpre hnt) (up_of hpre hsl)).mono ?_; rintro e W5 ⟨⟨b2, rfl, hs2⟩, hb1⟩; have hb := Up.trans hpre hb1; clear hpre hb1; (try replace hB := up_of hb hB); (try replace hnt := up_of hb hnt); (try replace q0 := up_of hb q0); (try replace q1 := up_of hb q1); (try replace q2 := up_of hb q2); (try replace q3 := up_of hb q3)) | (go_at_call 62; refine (hnn.out _ hnt).mono ?_; rintro e W6 ⟨rfl, hb⟩; replace hs2 := up_of hb hs2; (try replace hB := up_of hb hB); obtain ⟨b', o', e', hb', x0⟩ := hs2.int_at (i := FN) (by rw [hLl2.out]; exact hFlt); cases e'; rw [hatF.out, Nat.zero_add] at x0))
    all_goals
      go_wp2
      go_ret2
      exact ⟨hend4.out, hB⟩
  · replace hno := Lib.hid hno
    go_wp2
    go_ret2
    exact ⟨hend2.out (by trivial) hno.out, hB⟩
theorem flat_far {p : Pt} {m : Nat} (h : 1 ≤ m ∧ m ≤ 3) : flatB p m 1000 = !(beyB p m || farB p) := by
  have hm : m = 1 ∨ m = 2 ∨ m = 3 := by omega
  rcases hm with rfl | rfl | rfl
  · simp only [flatB, flatC, beyB, farB, List.drop_succ_cons, List.drop_zero, List.any_cons, List.any_nil, Bool.or_false]
    cases bw (-1000) p.x 1000 <;> cases bw (-1000) p.y 1000 <;> cases bw (-1000) p.z 1000 <;> by_cases h1 : p.y = 0 <;> by_cases h2 : p.z = 0 <;> simp [h1, h2]
  · simp only [flatB, flatC, beyB, farB, List.drop_succ_cons, List.drop_zero, List.any_cons, List.any_nil, Bool.or_false]
    cases bw (-1000) p.x 1000 <;> cases bw (-1000) p.y 1000 <;> cases bw (-1000) p.z 1000 <;> by_cases h2 : p.z = 0 <;> simp [h2]
  · simp only [flatB, flatC, beyB, farB, List.drop_succ_cons, List.drop_zero, List.any_cons, List.any_nil, Bool.or_false]
    cases bw (-1000) p.x 1000 <;> cases bw (-1000) p.y 1000 <;> cases bw (-1000) p.z 1000 <;> simp
set_option maxRecDepth 100000 in
set_option maxHeartbeats 2000000 in
theorem rFirst_c (n : Int) (s : Option Addr) (cap : Nat) (l : List Iq) (s2 : Option Addr) (cq : Nat) (K : List Vv) (x : Int) (p : Pt) (w : World) (hr : RecM w s l s2 cq K) :
    Calls Try.prog 21 #[.agg #[.int .i64 n, .slice s l.length cap, .slice s2 K.length cq], .int .i64 x, .agg #[.int .i64 p.x, .int .i64 p.y, .int .i64 p.z]] w fun e w' => e = .returned (firV n l K x p) ∧ Below w.heap.size w w' := by
  have hv := fun V (h : RecM V s l s2 cq K) => h.valid2 n cap
  unfold firV
  cases hb : recB n l K
  · rw [if_pos rfl]
    rw [hb] at hv
    clear hb
    replace hv := Lib.hid hv
    go_enter Try.func21, Try.ntmps21
    go_upto_region 1 with (fail)
    refine wp_world fun W HW => ?_
    have hB : Below w.heap.size w W := by rw [HW.out]; (repeat (first | exact Below.refl _ _ | refine Below.alloc ?_ (by simp; try omega) _ | refine Below.setCell ?_ (by simp) _ | refine Below.drew ?_))
    have d0 : W.cell? ⟨w.heap.size, 0, none⟩ = some (.int .i64 n) := by rw [HW.out]; simp [go_sem]
    have d1 : W.cell? ⟨w.heap.size, 1, none⟩ = some (.slice s l.length cap) := by rw [HW.out]; simp [go_sem]
    have d2 : W.cell? ⟨w.heap.size, 2, none⟩ = some (.slice s2 K.length cq) := by rw [HW.out]; simp [go_sem]
    have dl : w.heap.size < W.heap.size := World.block_lt_of_cell? W _ d0
    have g0 : W.cell? ⟨w.heap.size + 1, 0, none⟩ = some (.int .i64 p.x) := by rw [HW.out]; simp [go_sem]
    have g1 : W.cell? ⟨w.heap.size + 1, 1, none⟩ = some (.int .i64 p.y) := by rw [HW.out]; simp [go_sem]
    have g2 : W.cell? ⟨w.heap.size + 1, 2, none⟩ = some (.int .i64 p.z) := by rw [HW.out]; simp [go_sem]
    have gl : w.heap.size + 1 < W.heap.size := World.block_lt_of_cell? W _ g0
    try replace hr := up_of hB hr
    go_wp2_with (first | (go_at_call 31; refine (hv.out _ hr).mono ?_; rintro e W1 ⟨rfl, hb⟩; (try replace hr := up_of hb hr); (try replace hB := up_of hb hB); (try replace d0 := up_of hb d0); (try replace d1 := up_of hb d1); (try replace d2 := up_of hb d2); (try replace dl := up_of hb dl); (try replace g0 := up_of hb g0); (try replace g1 := up_of hb g1); (try replace g2 := up_of hb g2); (try replace gl := up_of hb gl)))
    go_ret2
    exact ⟨rfl, hB⟩
  rw [if_neg (by simp)]
  rw [hb] at hv
  have ok := netOk hb
  clear hb
  obtain ⟨m, rfl⟩ := Int.eq_ofNat_of_zero_le (show 0 ≤ n by have := ok.dim; omega)
  have hm : 1 ≤ m ∧ m ≤ 3 := by have := ok.dim; omega
  have hkv := ok.vars
  have hini := ok.init
  have hfl := fun V => Flat_c p m 1000 V (by omega) (by omega)
  rw [Int.toNat_natCast]
  clear ok
  simp only [flat_far hm] at hfl
  have hsm := fun (h : farB p = false) => farB_small h
  have hsm2 : (beyB p m || farB p) = false → farB p = false := fun h => by simp only [Bool.or_eq_false_iff] at h; exact h.2
  obtain ⟨BB, hBB⟩ : ∃ q, (beyB p m || farB p) = q := ⟨_, rfl⟩
  simp only [hBB] at hfl hsm2 ⊢
  have hsmB := fun (h : BB = false) => hsm (hsm2 h)
  clear hsm hsm2 hBB
  by_cases hx : 0 ≤ x
  case neg =>
    have hXB : bw 0 x (K.length - 1) = false := by cases h : bw 0 x (K.length - 1) <;> first | rfl | (have := bw_iff.1 h; omega)
    rw [hXB]
    have hx1 : x < 0 := by omega
    replace hv := Lib.hid hv; replace hfl := Lib.hid hfl; replace hini := Lib.hid hini
    clear hXB hini hsmB
    go_enter Try.func21, Try.ntmps21
    go_upto_region 1 with (fail)
    refine wp_world fun W HW => ?_
    have hB : Below w.heap.size w W := by rw [HW.out]; (repeat (first | exact Below.refl _ _ | refine Below.alloc ?_ (by simp; try omega) _ | refine Below.setCell ?_ (by simp) _ | refine Below.drew ?_))
    have d0 : W.cell? ⟨w.heap.size, 0, none⟩ = some (.int .i64 m) := by rw [HW.out]; simp [go_sem]
    have d1 : W.cell? ⟨w.heap.size, 1, none⟩ = some (.slice s l.length cap) := by rw [HW.out]; simp [go_sem]
    have d2 : W.cell? ⟨w.heap.size, 2, none⟩ = some (.slice s2 K.length cq) := by rw [HW.out]; simp [go_sem]
    have dl : w.heap.size < W.heap.size := World.block_lt_of_cell? W _ d0
    have g0 : W.cell? ⟨w.heap.size + 1, 0, none⟩ = some (.int .i64 p.x) := by rw [HW.out]; simp [go_sem]
    have g1 : W.cell? ⟨w.heap.size + 1, 1, none⟩ = some (.int .i64 p.y) := by rw [HW.out]; simp [go_sem]
    have g2 : W.cell? ⟨w.heap.size + 1, 2, none⟩ = some (.int .i64 p.z) := by rw [HW.out]; simp [go_sem]
    have gl : w.heap.size + 1 < W.heap.size := World.block_lt_of_cell? W _ g0
    try replace hr := up_of hB hr
    go_wp2_with (first | (go_at_call 31; refine (hv.out _ hr).mono ?_; rintro e W1 ⟨rfl, hb⟩; (try replace hr := up_of hb hr); (try replace hB := up_of hb hB); (try replace d0 := up_of hb d0); (try replace d1 := up_of hb d1); (try replace d2 := up_of hb d2); (try replace dl := up_of hb dl); (try replace g0 := up_of hb g0); (try replace g1 := up_of hb g1); (try replace g2 := up_of hb g2); (try replace gl := up_of hb gl)))
    go_ret2
    exact ⟨rfl, hB⟩
  by_cases hx2 : x < K.length
  case neg =>
    have hXB : bw 0 x (K.length - 1) = false := by cases h : bw 0 x (K.length - 1) <;> first | rfl | (have := bw_iff.1 h; omega)
    rw [hXB]
    have hx1 : ¬ x < 0 := by omega
    have hx3 : (K.length : Int) ≤ x := by omega
    replace hv := Lib.hid hv; replace hfl := Lib.hid hfl; replace hini := Lib.hid hini
    clear hXB hini hsmB
    go_enter Try.func21, Try.ntmps21
    go_upto_region 1 with (fail)
    refine wp_world fun W HW => ?_
    have hB : Below w.heap.size w W := by rw [HW.out]; (repeat (first | exact Below.refl _ _ | refine Below.alloc ?_ (by simp; try omega) _ | refine Below.setCell ?_ (by simp) _ | refine Below.drew ?_))
    have d0 : W.cell? ⟨w.heap.size, 0, none⟩ = some (.int .i64 m) := by rw [HW.out]; simp [go_sem]
    have d1 : W.cell? ⟨w.heap.size, 1, none⟩ = some (.slice s l.length cap) := by rw [HW.out]; simp [go_sem]
    have d2 : W.cell? ⟨w.heap.size, 2, none⟩ = some (.slice s2 K.length cq) := by rw [HW.out]; simp [go_sem]
    have dl : w.heap.size < W.heap.size := World.block_lt_of_cell? W _ d0
    have g0 : W.cell? ⟨w.heap.size + 1, 0, none⟩ = some (.int .i64 p.x) := by rw [HW.out]; simp [go_sem]
    have g1 : W.cell? ⟨w.heap.size + 1, 1, none⟩ = some (.int .i64 p.y) := by rw [HW.out]; simp [go_sem]
    have g2 : W.cell? ⟨w.heap.size + 1, 2, none⟩ = some (.int .i64 p.z) := by rw [HW.out]; simp [go_sem]
    have gl : w.heap.size + 1 < W.heap.size := World.block_lt_of_cell? W _ g0
    try replace hr := up_of hB hr
    go_wp2_with (first | (go_at_call 31; refine (hv.out _ hr).mono ?_; rintro e W1 ⟨rfl, hb⟩; (try replace hr := up_of hb hr); (try replace hB := up_of hb hB); (try replace d0 := up_of hb d0); (try replace d1 := up_of hb d1); (try replace d2 := up_of hb d2); (try replace dl := up_of hb dl); (try replace g0 := up_of hb g0); (try replace g1 := up_of hb g1); (try replace g2 := up_of hb g2); (try replace gl := up_of hb gl)))
    go_ret2
    exact ⟨rfl, hB⟩
  have hXB : bw 0 x (K.length - 1) = true := bw_iff.2 (by omega)
  rw [hXB]
  obtain ⟨y, rfl⟩ := Int.eq_ofNat_of_zero_le hx
  have hy : y < K.length := by omega
  have i1 : (y : Int) < (K.length : Int) := by omega
  have i0 : (0 : Int) ≤ (y : Int) := by omega
  have i2 : ¬ (y : Int) < 0 := by omega
  have i3 : ¬ (K.length : Int) ≤ (y : Int) := by omega
  replace hv := Lib.hid hv; replace hfl := Lib.hid hfl; replace hini := Lib.hid hini; replace hXB := Lib.hid hXB
  clear hx hx2
  cases BB
  case true =>
    clear hini hsmB
    go_enter Try.func21, Try.ntmps21
    go_upto_region 1 with (fail)
    refine wp_world fun W HW => ?_
    have hB : Below w.heap.size w W := by rw [HW.out]; (repeat (first | exact Below.refl _ _ | refine Below.alloc ?_ (by simp; try omega) _ | refine Below.setCell ?_ (by simp) _ | refine Below.drew ?_))
    have d0 : W.cell? ⟨w.heap.size, 0, none⟩ = some (.int .i64 m) := by rw [HW.out]; simp [go_sem]
    have d1 : W.cell? ⟨w.heap.size, 1, none⟩ = some (.slice s l.length cap) := by rw [HW.out]; simp [go_sem]
    have d2 : W.cell? ⟨w.heap.size, 2, none⟩ = some (.slice s2 K.length cq) := by rw [HW.out]; simp [go_sem]
    have dl : w.heap.size < W.heap.size := World.block_lt_of_cell? W _ d0
    have g0 : W.cell? ⟨w.heap.size + 1, 0, none⟩ = some (.int .i64 p.x) := by rw [HW.out]; simp [go_sem]
    have g1 : W.cell? ⟨w.heap.size + 1, 1, none⟩ = some (.int .i64 p.y) := by rw [HW.out]; simp [go_sem]
    have g2 : W.cell? ⟨w.heap.size + 1, 2, none⟩ = some (.int .i64 p.z) := by rw [HW.out]; simp [go_sem]
    have gl : w.heap.size + 1 < W.heap.size := World.block_lt_of_cell? W _ g0
    try replace hr := up_of hB hr
    go_wp2_with (first | (go_at_call 31; refine (hv.out _ hr).mono ?_; rintro e W1 ⟨rfl, hb⟩; (try replace hr := up_of hb hr); (try replace hB := up_of hb hB); (try replace d0 := up_of hb d0); (try replace d1 := up_of hb d1); (try replace d2 := up_of hb d2); (try replace dl := up_of hb dl); (try replace g0 := up_of hb g0); (try replace g1 := up_of hb g1); (try replace g2 := up_of hb g2); (try replace gl := up_of hb gl)) | (go_at_call 68; refine (hfl.out _).mono ?_; rintro e W1 ⟨rfl, hb⟩; (try replace hr := up_of hb hr); (try replace hB := up_of hb hB); (try replace d0 := up_of hb d0); (try replace d1 := up_of hb d1); (try replace d2 := up_of hb d2); (try replace dl := up_of hb dl); (try replace g0 := up_of hb g0); (try replace g1 := up_of hb g1); (try replace g2 := up_of hb g2); (try replace gl := up_of hb gl)))
    go_ret2
    exact ⟨rfl, hB⟩
  have hps := hsmB rfl
  clear hsmB
  have hsv : K[y].small := hini.out _ (List.getElem_mem hy)
  rw [show K.getD ((y : Int).toNat) default = K[y] by rw [Int.toNat_natCast]; simp [List.getD_eq_getElem?_getD, hy]]
  obtain ⟨v, hvv⟩ : ∃ v, K[y] = v := ⟨_, rfl⟩
  have hat := fun V (h : RecM V s l s2 cq K) => h.vars.at hy
  simp only [hvv] at hat hsv ⊢
  clear hvv hini
  have hfi := fun sa la ca V => rfirst_c v sa la ca p V hsv hps
  obtain ⟨R, hR⟩ : ∃ R, frst v p = R := ⟨_, rfl⟩
  simp only [hR] at hfi ⊢
  clear hR hsv hps
  replace hfi := Lib.hid hfi; replace hat := Lib.hid hat
  go_enter Try.func21, Try.ntmps21
  go_upto_region 1 with (fail)
  refine wp_world fun W HW => ?_
  have hB : Below w.heap.size w W := by rw [HW.out]; (repeat (first | exact Below.refl _ _ | refine Below.alloc ?_ (by simp; try omega) _ | refine Below.setCell ?_ (by simp) _ | refine Below.drew ?_))
  have d0 : W.cell? ⟨w.heap.size, 0, none⟩ = some (.int .i64 m) := by rw [HW.out]; simp [go_sem]
  have d1 : W.cell? ⟨w.heap.size, 1, none⟩ = some (.slice s l.length cap) := by rw [HW.out]; simp [go_sem]
  have d2 : W.cell? ⟨w.heap.size, 2, none⟩ = some (.slice s2 K.length cq) := by rw [HW.out]; simp [go_sem]
  have dl : w.heap.size < W.heap.size := World.block_lt_of_cell? W _ d0
  have g0 : W.cell? ⟨w.heap.size + 1, 0, none⟩ = some (.int .i64 p.x) := by rw [HW.out]; simp [go_sem]
  have g1 : W.cell? ⟨w.heap.size + 1, 1, none⟩ = some (.int .i64 p.y) := by rw [HW.out]; simp [go_sem]
  have g2 : W.cell? ⟨w.heap.size + 1, 2, none⟩ = some (.int .i64 p.z) := by rw [HW.out]; simp [go_sem]
  have gl : w.heap.size + 1 < W.heap.size := World.block_lt_of_cell? W _ g0
  try replace hr := up_of hB hr
  go_upto_region 5 with (first | (go_at_call 31; refine (hv.out _ hr).mono ?_; rintro e W1 ⟨rfl, hb⟩; (try replace hr := up_of hb hr); (try replace hB := up_of hb hB); (try replace d0 := up_of hb d0); (try replace d1 := up_of hb d1); (try replace d2 := up_of hb d2); (try replace dl := up_of hb dl); (try replace g0 := up_of hb g0); (try replace g1 := up_of hb g1); (try replace g2 := up_of hb g2); (try replace gl := up_of hb gl)) | (go_at_call 68; refine (hfl.out _).mono ?_; rintro e W1 ⟨rfl, hb⟩; (try replace hr := up_of hb hr); (try replace hB := up_of hb hB); (try replace d0 := up_of hb d0); (try replace d1 := up_of hb d1); (try replace d2 := up_of hb d2); (try replace dl := up_of hb dl); (try replace g0 := up_of hb g0); (try replace g1 := up_of hb g1); (try replace g2 := up_of hb g2); (try replace gl := up_of hb gl)))
  obtain ⟨b, off, sa, ca, rfl, hb, q0, q1, q2, q3, q4, q5, q6, -, -, -, -⟩ := hat.out _ hr
  try have ld_d0 := World.block_lt_of_cell? _ _ d0
  try have ld_g0 := World.block_lt_of_cell? _ _ g0
  try have ld_q0 := World.block_lt_of_cell? _ _ q0
  refine region_q (by kernel_rfl) (by kernel_rfl) ?_
  dsimp only [List.toList_toArray]
  repeat (first
   | go_big_quiet_skip
   | (go_big_quiet_want
      first
      | (refine qq_det ?_
         apply Exists.intro; refine ⟨fun W' hW' => ?_, ?_⟩
         (· have hk := cellB hW'; go_simp; try (first | rfl | rw [if_pos (by omega)]))
         simp only [Act.put, List.setIfInBounds_toArray, List.set_cons_zero, List.set_cons_succ]; go_big_quiet_on)
      | (refine qq_call ?_
         apply Exists.intro; apply Exists.intro; refine ⟨fun W' hW' => ?_, ?_⟩
         (· have hk := cellB hW'; go_simp; exact ⟨rfl, rfl⟩)
         apply Exists.intro; refine ⟨fun W' hW' => ?_, ?_⟩
         (· first | (go_at_call 69; exact qc hW' (hfi.out _ _ _ _)))
         simp only [Act.put, List.setIfInBounds_toArray, List.set_cons_zero, List.set_cons_succ]; go_big_quiet_on)))
  refine wpQuiet_nil ?_
  intro W1 hb
  try replace hr := up_of hb hr
  try replace hB := up_of hb hB
  try replace d0 := up_of hb d0
  try replace d1 := up_of hb d1
  try replace d2 := up_of hb d2
  try replace dl := up_of hb dl
  try replace g0 := up_of hb g0
  try replace g1 := up_of hb g1
  try replace g2 := up_of hb g2
  try replace gl := up_of hb gl
  try replace q0 := up_of hb q0
  try replace q1 := up_of hb q1
  try replace q2 := up_of hb q2
  try replace q3 := up_of hb q3
  try replace q4 := up_of hb q4
  try replace q5 := up_of hb q5
  try replace q6 := up_of hb q6
  go_wp2
  go_ret2
  exact ⟨rfl, hB⟩
end Go.Proofs.Ytadmnlkgefbhcaa
