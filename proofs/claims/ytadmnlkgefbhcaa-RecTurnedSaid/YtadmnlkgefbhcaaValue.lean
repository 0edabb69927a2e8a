/- The value of an element, and first values, as exported: the program and the reference. -/
import Derived.Test.YtadmnlkgefbhcaaFind
import Derived.Test.YtadmnlkgefbhcaaVals
import Derived.Test.YtadmnlkgefbhcaaRecFirs
namespace Go.Proofs.Ytadmnlkgefbhcaa
open Go.RowKit Go.Maps

open Classical in
/-- The value that is handed back. -/
noncomputable def valA (n : Int) (l : List Iq) (K : List Vv) (y : Ar) : Int := if recB n l K = true ∧ isEl K (pts n l) y.v y.p = true ∧ okN2 K (pts n l) then vlN K (pts n l) (elNum (pts n l) y) else 0
open Classical in
/-- The error that is handed back. -/
noncomputable def valC (n : Int) (l : List Iq) (K : List Vv) (y : Ar) : Int := if recB n l K = true then (if isEl K (pts n l) y.v y.p = true then (if okN2 K (pts n l) then 0 else 21) else 2) else 20
def VaRet (n : Int) (l : List Iq) (K : List Vv) (y : Ar) (e : Ending) : Prop := e = .returned (.tuple #[.int .i64 (valA n l K y), .int .i64 (valC n l K y)])
section
variable {n : Int} {l : List Iq} {K : List Vv} {y : Ar}
theorem va_bad (h : recB n l K = false) : VaRet n l K y (.returned (.tuple #[.int .i64 0, .int .i64 20])) := by
  unfold VaRet valA valC; rw [h]; simp
theorem va_arg (h : recB n l K = true) (h2 : isEl K (pts n l) y.v y.p = false) : VaRet n l K y (.returned (.tuple #[.int .i64 0, .int .i64 2])) := by
  unfold VaRet valA valC; rw [h, h2]; simp
theorem va_circ (h : recB n l K = true) (h2 : isEl K (pts n l) y.v y.p = true) (h3 : ¬ okN2 K (pts n l)) : VaRet n l K y (.returned (.tuple #[.int .i64 0, .int .i64 21])) := by
  unfold VaRet valA valC; rw [h, h2]; simp [h3]
theorem va_ok (h : recB n l K = true) (h2 : isEl K (pts n l) y.v y.p = true) (h3 : okN2 K (pts n l)) : VaRet n l K y (.returned (.tuple #[.int .i64 (vlN K (pts n l) (elNum (pts n l) y)), .int .i64 0])) := by
  unfold VaRet valA valC; rw [h, h2]; simp [h3]
theorem vlsL_at {P : List Pt} {k : Nat} (hk : k < K.length * P.length) : (vlsL K P).getD k 0 = vlN K P k := by
  rw [List.getD_eq_getElem?_getD, List.getElem?_eq_getElem (by rw [vlsL_len]; exact hk)]; simp [vlsL]
theorem getD_eq0 {L : List Int} {k : Nat} {v : Int} (h : L.getD k 0 = v) (hk : k < L.length) : L[k] = v := by
  rw [← h, List.getD_eq_getElem?_getD, List.getElem?_eq_getElem hk]; rfl
end
set_option maxRecDepth 100000 in
set_option maxHeartbeats 2000000 in
theorem Value_c (n : Int) (s : Option Addr) (cap : Nat) (l : List Iq) (s2 : Option Addr) (cq : Nat) (K : List Vv) (y : Ar) (w : World) (hr : RecM w s l s2 cq K) (hy : y.p.I64) :
    Calls Try.prog 18 #[.agg #[.int .i64 n, .slice s l.length cap, .slice s2 K.length cq], .agg #[.int .i64 y.v, .int .i64 y.p.x, .int .i64 y.p.y, .int .i64 y.p.z]] w fun e w' => VaRet n l K y e ∧ Below w.heap.size w w' := by
  cases hb : recB n l K
  · have hn := fun V (hr : RecM V s l s2 cq K) => newNet_no n s cap l s2 cq K V hr hb
    have hend := va_bad (y := y) hb
    obtain ⟨R, hR⟩ : ∃ R, VaRet n l K y = R := ⟨_, rfl⟩
    rw [hR] at hend ⊢
    clear hb hR hy
    obtain ⟨v, ⟨x, yy, z⟩⟩ := y
    replace hn := Lib.hid hn; replace hend := Lib.hid hend
    go_enter Try.func18, Try.ntmps18
    go_upto_region 1 with (fail)
    refine wp_world fun W HW => ?_
    have hB : Below w.heap.size w W := by rw [HW.out]; (repeat (first | exact Below.refl _ _ | refine Below.alloc ?_ (by simp; try omega) _ | refine Below.setCell ?_ (by simp) _ | refine Below.drew ?_))
    have d0 : W.cell? ⟨w.heap.size, 0, none⟩ = some (.int .i64 n) := by rw [HW.out]; simp [go_sem]
    have d1 : W.cell? ⟨w.heap.size, 1, none⟩ = some (.slice s l.length cap) := by rw [HW.out]; simp [go_sem]
    have d2 : W.cell? ⟨w.heap.size, 2, none⟩ = some (.slice s2 K.length cq) := by rw [HW.out]; simp [go_sem]
    have dl : w.heap.size < W.heap.size := World.block_lt_of_cell? W _ d0
    have q0 : W.cell? ⟨w.heap.size + 1, 0, none⟩ = some (.int .i64 v) := by rw [HW.out]; simp [go_sem]
    have q1 : W.cell? ⟨w.heap.size + 1, 1, none⟩ = some (.int .i64 x) := by rw [HW.out]; simp [go_sem]
    have q2 : W.cell? ⟨w.heap.size + 1, 2, none⟩ = some (.int .i64 yy) := by rw [HW.out]; simp [go_sem]
    have q3 : W.cell? ⟨w.heap.size + 1, 3, none⟩ = some (.int .i64 z) := by rw [HW.out]; simp [go_sem]
    have ql : w.heap.size + 1 < W.heap.size := World.block_lt_of_cell? W _ q0
    try replace hr := up_of hB hr
    go_wp2_with (first | (go_at_call 55; refine (hn.out _ hr).mono ?_; rintro e W1 ⟨rfl, hb⟩; (try replace hr := up_of hb hr); (try replace hB := up_of hb hB); (try replace d0 := up_of hb d0); (try replace d1 := up_of hb d1); (try replace d2 := up_of hb d2); (try replace dl := up_of hb dl); (try replace q0 := up_of hb q0); (try replace q1 := up_of hb q1); (try replace q2 := up_of hb q2); (try replace q3 := up_of hb q3); (try replace ql := up_of hb ql)))
    go_ret2
    exact ⟨hend.out, hB⟩
  have hn := fun V (hr : RecM V s l s2 cq K) => newNet_yes n s cap l s2 cq K V hr hb
  have ok := netOk hb
  have hend1 := fun h2 => va_arg (y := y) hb h2
  have hend2 := fun h2 h3 => va_circ (y := y) hb h2 h3
  have hend3 := fun h2 h3 => va_ok (y := y) hb h2 h3
  obtain ⟨R, hR⟩ : ∃ R, VaRet n l K y = R := ⟨_, rfl⟩
  simp only [hR] at hend1 hend2 hend3 ⊢
  obtain ⟨P, hP⟩ : ∃ P, pts n l = P := ⟨_, rfl⟩
  simp only [hP] at hn ok hend1 hend2 hend3
  clear hP hb hR
  have hfd := fun g sp cp mb V (h : Net 106 V g n s cap l s2 cq K sp cp mb P) => find_c y V h ok hy
  have ho := fun g sp cp mb V (h : Net 106 V g n s cap l s2 cq K sp cp mb P) => order_c V h ok
  have hz := fun g sp cp mb V (h : Net 106 V g n s cap l s2 cq K sp cp mb P) => size_c V h ok
  have hiff := fun out wait (h : Ordd (useN K P) (K.length * P.length) out wait) => h.iff (fun k _ => ok.use_lt k)
  have hle := fun out wait (h : Ordd (useN K P) (K.length * P.length) out wait) => h.le
  have hvl := fun g sp cp mb so co out wait V (h : Net 106 V g n s cap l s2 cq K sp cp mb P) (h2 : SlS intE V so (toI out)) (h3 : Ordd (useN K P) (K.length * P.length) out wait) (h4 : out.length = K.length * P.length) => nvalues_c so co out wait V h ok h2 h3 h4
  have hat := fun k (hk : k < K.length * P.length) => vlsL_at (K := K) (P := P) hk
  have hLl := vlsL_len K P
  have hNs := ok.size
  obtain ⟨LL, hLL⟩ : ∃ x, vlsL K P = x := ⟨_, rfl⟩
  simp only [hLL] at hvl hat hLl
  clear hLL
  obtain ⟨FN, hFN⟩ : ∃ x, elNum P y = x := ⟨_, rfl⟩
  simp only [hFN] at hfd hend3
  obtain ⟨EB, hEB⟩ : ∃ x, isEl K P y.v y.p = x := ⟨_, rfl⟩
  simp only [hEB] at hfd hend1 hend2 hend3
  obtain ⟨QQ, hQQ⟩ : ∃ x, (elOf P FN = y) = x := ⟨_, rfl⟩
  simp only [hQQ] at hfd
  clear hFN hEB hQQ hy
  obtain ⟨v, ⟨x, yy, z⟩⟩ := y
  simp only at hfd ⊢
  replace hn := Lib.hid hn; replace ho := Lib.hid ho; replace hz := Lib.hid hz; replace hiff := Lib.hid hiff; replace hle := Lib.hid hle; replace hfd := Lib.hid hfd; replace hvl := Lib.hid hvl; replace hat := Lib.hid hat; replace hend1 := Lib.hid hend1; replace hend2 := Lib.hid hend2; replace hend3 := Lib.hid hend3; replace hLl := Lib.hid hLl
  clear ok
  cases EB
  · go_enter Try.func18, Try.ntmps18
    go_upto_region 1 with (fail)
    refine wp_world fun W HW => ?_
    have hB : Below w.heap.size w W := by rw [HW.out]; (repeat (first | exact Below.refl _ _ | refine Below.alloc ?_ (by simp; try omega) _ | refine Below.setCell ?_ (by simp) _ | refine Below.drew ?_))
    have d0 : W.cell? ⟨w.heap.size, 0, none⟩ = some (.int .i64 n) := by rw [HW.out]; simp [go_sem]
    have d1 : W.cell? ⟨w.heap.size, 1, none⟩ = some (.slice s l.length cap) := by rw [HW.out]; simp [go_sem]
    have d2 : W.cell? ⟨w.heap.size, 2, none⟩ = some (.slice s2 K.length cq) := by rw [HW.out]; simp [go_sem]
    have dl : w.heap.size < W.heap.size := World.block_lt_of_cell? W _ d0
    have q0 : W.cell? ⟨w.heap.size + 1, 0, none⟩ = some (.int .i64 v) := by rw [HW.out]; simp [go_sem]
    have q1 : W.cell? ⟨w.heap.size + 1, 1, none⟩ = some (.int .i64 x) := by rw [HW.out]; simp [go_sem]
    have q2 : W.cell? ⟨w.heap.size + 1, 2, none⟩ = some (.int .i64 yy) := by rw [HW.out]; simp [go_sem]
    have q3 : W.cell? ⟨w.heap.size + 1, 3, none⟩ = some (.int .i64 z) := by rw [HW.out]; simp [go_sem]
    have ql : w.heap.size + 1 < W.heap.size := World.block_lt_of_cell? W _ q0
    try replace hr := up_of hB hr
    go_upto_region 2 with (first | (go_at_call 55; refine (hn.out _ hr).mono ?_; rintro e W1 ⟨⟨g, sp, cp, mb, rfl, hnt⟩, hb⟩; (try replace hr := up_of hb hr); (try replace hB := up_of hb hB); (try replace d0 := up_of hb d0); (try replace d1 := up_of hb d1); (try replace d2 := up_of hb d2); (try replace dl := up_of hb dl); (try replace q0 := up_of hb q0); (try replace q1 := up_of hb q1); (try replace q2 := up_of hb q2); (try replace q3 := up_of hb q3); (try replace ql := up_of hb ql)))
    go_wp2_with (first | (go_at_call 56; refine (hfd.out _ _ _ _ _ hnt).mono ?_; rintro e W2 ⟨⟨z0, rfl, -⟩, hb⟩; (try replace hr := up_of hb hr); (try replace hB := up_of hb hB); (try replace d0 := up_of hb d0); (try replace d1 := up_of hb d1); (try replace d2 := up_of hb d2); (try replace dl := up_of hb dl); (try replace q0 := up_of hb q0); (try replace q1 := up_of hb q1); (try replace q2 := up_of hb q2); (try replace q3 := up_of hb q3); (try replace ql := up_of hb ql); (try replace hnt := up_of hb hnt)))
    go_ret2
    exact ⟨hend1.out (by trivial), hB⟩
  go_enter Try.func18, Try.ntmps18
  go_upto_region 1 with (fail)
  refine wp_world fun W HW => ?_
  have hB : Below w.heap.size w W := by rw [HW.out]; (repeat (first | exact Below.refl _ _ | refine Below.alloc ?_ (by simp; try omega) _ | refine Below.setCell ?_ (by simp) _ | refine Below.drew ?_))
  have d0 : W.cell? ⟨w.heap.size, 0, none⟩ = some (.int .i64 n) := by rw [HW.out]; simp [go_sem]
  have d1 : W.cell? ⟨w.heap.size, 1, none⟩ = some (.slice s l.length cap) := by rw [HW.out]; simp [go_sem]
  have d2 : W.cell? ⟨w.heap.size, 2, none⟩ = some (.slice s2 K.length cq) := by rw [HW.out]; simp [go_sem]
  have dl : w.heap.size < W.heap.size := World.block_lt_of_cell? W _ d0
  have q0 : W.cell? ⟨w.heap.size + 1, 0, none⟩ = some (.int .i64 v) := by rw [HW.out]; simp [go_sem]
  have q1 : W.cell? ⟨w.heap.size + 1, 1, none⟩ = some (.int .i64 x) := by rw [HW.out]; simp [go_sem]
  have q2 : W.cell? ⟨w.heap.size + 1, 2, none⟩ = some (.int .i64 yy) := by rw [HW.out]; simp [go_sem]
  have q3 : W.cell? ⟨w.heap.size + 1, 3, none⟩ = some (.int .i64 z) := by rw [HW.out]; simp [go_sem]
  have ql : w.heap.size + 1 < W.heap.size := World.block_lt_of_cell? W _ q0
  try replace hr := up_of hB hr
  go_upto_region 2 with (first | (go_at_call 55; refine (hn.out _ hr).mono ?_; rintro e W1 ⟨⟨g, sp, cp, mb, rfl, hnt⟩, hb⟩; (try replace hr := up_of hb hr); (try replace hB := up_of hb hB); (try replace d0 := up_of hb d0); (try replace d1 := up_of hb d1); (try replace d2 := up_of hb d2); (try replace dl := up_of hb dl); (try replace q0 := up_of hb q0); (try replace q1 := up_of hb q1); (try replace q2 := up_of hb q2); (try replace q3 := up_of hb q3); (try replace ql := up_of hb ql)))
  go_upto_region 5 with (first | (go_at_call 56; refine (hfd.out _ _ _ _ _ hnt).mono ?_; rintro e W2 ⟨⟨z0, rfl, hfn⟩, hb⟩; (try replace hr := up_of hb hr); (try replace hB := up_of hb hB); (try replace d0 := up_of hb d0); (try replace d1 := up_of hb d1); (try replace d2 := up_of hb d2); (try replace dl := up_of hb dl); (try replace q0 := up_of hb q0); (try replace q1 := up_of hb q1); (try replace q2 := up_of hb q2); (try replace q3 := up_of hb q3); (try replace ql := up_of hb ql); (try replace hnt := up_of hb hnt)))
  obtain ⟨rfl, hFlt, -⟩ := hfn (by trivial)
  clear hfn
  go_upto_region 8 with (first | (go_at_call 57; refine (ho.out _ _ _ _ _ hnt).mono ?_; rintro e W3 ⟨out, wait, so, co, sw, cw, rfl, hso, hsw, hod, hb⟩; (try replace hr := up_of hb hr); (try replace hB := up_of hb hB); (try replace d0 := up_of hb d0); (try replace d1 := up_of hb d1); (try replace d2 := up_of hb d2); (try replace dl := up_of hb dl); (try replace q0 := up_of hb q0); (try replace q1 := up_of hb q1); (try replace q2 := up_of hb q2); (try replace q3 := up_of hb q3); (try replace ql := up_of hb ql); (try replace hnt := up_of hb hnt)))
  have hd := hiff.out out wait hod
  have hl2 := hle.out out wait hod
  replace hd := Lib.hid hd; replace hod := Lib.hid hod
  by_cases hlt : out.length < K.length * P.length
  · have hno : ¬ okN2 K P := fun hk => (hd.out.1 hlt) hk
    have k1 : ((out.length : Nat) : Int) < ((K.length * P.length : Nat) : Int) := by omega
    obtain ⟨NN, hNN⟩ : ∃ q, K.length * P.length = q := ⟨_, rfl⟩
    simp only [hNN] at hz k1
    replace hNN := Lib.hid hNN; replace hno := Lib.hid hno
    clear hd hod hlt hl2
    go_wp2_with (first | (go_at_call 58; refine (hz.out _ _ _ _ _ hnt).mono ?_; rintro e W1 ⟨rfl, hb⟩; (try replace hr := up_of hb hr); (try replace hB := up_of hb hB); (try replace d0 := up_of hb d0); (try replace d1 := up_of hb d1); (try replace d2 := up_of hb d2); (try replace dl := up_of hb dl); (try replace q0 := up_of hb q0); (try replace q1 := up_of hb q1); (try replace q2 := up_of hb q2); (try replace q3 := up_of hb q3); (try replace ql := up_of hb ql); (try replace hnt := up_of hb hnt); (try replace hso := up_of hb hso)))
    go_ret2
    exact ⟨hend2.out (by trivial) hno.out, hB⟩
  · have hyes : okN2 K P := by
      refine Classical.byContradiction fun hk => hlt (hd.out.2 hk)
    have hfull : out.length = K.length * P.length := by omega
    have k1 : ¬ ((out.length : Nat) : Int) < ((K.length * P.length : Nat) : Int) := by omega
    have hvv := fun V h h2 => hvl.out g sp cp mb so co out wait V h h2 hod.out hfull
    have hatF := getD_eq0 (hat.out FN hFlt)
    have hLl2 := hLl.out
    obtain ⟨NN, hNN⟩ : ∃ q, K.length * P.length = q := ⟨_, rfl⟩
    simp only [hNN] at hz k1 hFlt hvv hLl2 hNs
    have hF1 : (0 : Int) ≤ (FN : Int) := by omega
    have hF2 : (FN : Int) < (NN : Int) := by omega
    obtain ⟨VV, hVV⟩ : ∃ q, vlN K P FN = q := ⟨_, rfl⟩
    have hend4 := hend3.out (by trivial) hyes
    rw [hVV] at hend4
    simp only [hVV] at hatF
    replace hNN := Lib.hid hNN; replace hfull := Lib.hid hfull; replace hvv := Lib.hid hvv; replace hend4 := Lib.hid hend4; replace hatF := Lib.hid hatF; replace hLl2 := Lib.hid hLl2; replace hVV := Lib.hid hVV; replace hyes := Lib.hid hyes
    clear hd hlt hl2
    go_upto_region 10 with (first | (go_at_call 58; refine (hz.out _ _ _ _ _ hnt).mono ?_; rintro e W1 ⟨rfl, hb⟩; (try replace hr := up_of hb hr); (try replace hB := up_of hb hB); (try replace d0 := up_of hb d0); (try replace d1 := up_of hb d1); (try replace d2 := up_of hb d2); (try replace dl := up_of hb dl); (try replace q0 := up_of hb q0); (try replace q1 := up_of hb q1); (try replace q2 := up_of hb q2); (try replace q3 := up_of hb q3); (try replace ql := up_of hb ql); (try replace hnt := up_of hb hnt); (try replace hso := up_of hb hso)))
    go_wp2_with (first | (go_at_call 59; refine (hvv.out _ hnt hso).mono ?_; rintro e W4 ⟨⟨b, rfl, hsl⟩, hb⟩; replace hB := up_of hb hB; obtain ⟨b', o', e', hb', x0⟩ := hsl.int_at (i := FN) (by rw [hLl2.out]; exact hFlt); cases e'; rw [hatF.out, Nat.zero_add] at x0))
    go_ret2
    exact ⟨hend4.out, hB⟩
end Go.Proofs.Ytadmnlkgefbhcaa
