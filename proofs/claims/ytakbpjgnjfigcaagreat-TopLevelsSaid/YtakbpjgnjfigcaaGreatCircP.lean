/- Whether a recurrence is circular, as exported: the program. -/
import Derived.Test.YtakbpjgnjfigcaaGreatB12
namespace Go.Proofs.YtakbpjgnjfigcaaGreat
open Go.RowKit Go.Maps

open Classical in
noncomputable def ciA (n : Int) (l : List Iq) (K : List Vv) : Bool := recB n l K && decide (¬ okN2 K (pts n l))
def ciC (n : Int) (l : List Iq) (K : List Vv) : Int := if recB n l K = true then 0 else 20
def CiRet (n : Int) (l : List Iq) (K : List Vv) (e : Ending) : Prop := e = .returned (.tuple #[.bool (ciA n l K), .int .i64 (ciC n l K)])
section
variable {n : Int} {l : List Iq} {K : List Vv}
theorem ci_bad (h : recB n l K = false) : CiRet n l K (.returned (.tuple #[.bool false, .int .i64 20])) := by
  unfold CiRet ciA ciC; rw [h]; simp
theorem ci_yes (h : recB n l K = true) (h2 : ¬ okN2 K (pts n l)) : CiRet n l K (.returned (.tuple #[.bool true, .int .i64 0])) := by
  unfold CiRet ciA ciC; rw [h]; simp [h2]
theorem ci_no (h : recB n l K = true) (h2 : okN2 K (pts n l)) : CiRet n l K (.returned (.tuple #[.bool false, .int .i64 0])) := by
  unfold CiRet ciA ciC; rw [h]; simp [h2]
end
set_option maxRecDepth 100000 in
set_option maxHeartbeats 2000000 in
theorem Circular_c (n : Int) (s : Option Addr) (cap : Nat) (l : List Iq) (s2 : Option Addr) (cq : Nat) (K : List Vv) (w : World) (hr : RecM w s l s2 cq K) :
    Calls Tryz.prog 8 #[.agg #[.int .i64 n, .slice s l.length cap, .slice s2 K.length cq]] w fun e w' => CiRet n l K e ∧ Below w.heap.size w w' := by
  cases hb : recB n l K
  · have hn := fun V (hr : RecM V s l s2 cq K) => newNet_no n s cap l s2 cq K V hr hb
    have hend := ci_bad hb
    obtain ⟨R, hR⟩ : ∃ R, CiRet n l K = R := ⟨_, rfl⟩
    rw [hR] at hend ⊢
    clear hb hR
    replace hn := Lib.hid hn; replace hend := Lib.hid hend
    go_enter Tryz.func8, Tryz.ntmps8
    go_upto_region 1 with (fail)
    refine wp_world fun W HW => ?_
    have hB : Below w.heap.size w W := by rw [HW.out]; (repeat (first | exact Below.refl _ _ | refine Below.alloc ?_ (by simp; try omega) _ | refine Below.setCell ?_ (by simp) _ | refine Below.drew ?_))
    have d0 : W.cell? ⟨w.heap.size, 0, none⟩ = some (.int .i64 n) := by rw [HW.out]; simp [go_sem]
    have d1 : W.cell? ⟨w.heap.size, 1, none⟩ = some (.slice s l.length cap) := by rw [HW.out]; simp [go_sem]
    have d2 : W.cell? ⟨w.heap.size, 2, none⟩ = some (.slice s2 K.length cq) := by rw [HW.out]; simp [go_sem]
    have dl : w.heap.size < W.heap.size := World.block_lt_of_cell? W _ d0
    try replace hr := up_of hB hr
    go_wp2_with (first | (go_at_call 31; refine (hn.out _ hr).mono ?_; rintro e W1 ⟨rfl, hb⟩; (try replace hr := up_of hb hr); (try replace hB := up_of hb hB); (try replace d0 := up_of hb d0); (try replace d1 := up_of hb d1); (try replace d2 := up_of hb d2); (try replace dl := up_of hb dl)))
    go_ret2
    exact ⟨hend.out, hB⟩
  have hn := fun V (hr : RecM V s l s2 cq K) => newNet_yes n s cap l s2 cq K V hr hb
  have ok := netOk hb
  have hend2 := fun h3 => ci_yes hb h3
  have hend3 := fun h3 => ci_no hb h3
  obtain ⟨R, hR⟩ : ∃ R, CiRet n l K = R := ⟨_, rfl⟩
  simp only [hR] at hend2 hend3 ⊢
  obtain ⟨P, hP⟩ : ∃ P, pts n l = P := ⟨_, rfl⟩
  simp only [hP] at hn ok hend2 hend3
  clear hP hb hR
  have ho := fun g sp cp mb V (h : Net 126 V g n s cap l s2 cq K sp cp mb P) => order_c V h ok
  have hz := fun g sp cp mb V (h : Net 126 V g n s cap l s2 cq K sp cp mb P) => size_c V h ok
  have hiff := fun out wait (h : Ordd (useN K P) (K.length * P.length) out wait) => h.iff (fun k _ => ok.use_lt k)
  have hle := fun out wait (h : Ordd (useN K P) (K.length * P.length) out wait) => h.le
  have hNs := ok.size
  replace hn := Lib.hid hn; replace ho := Lib.hid ho; replace hz := Lib.hid hz; replace hiff := Lib.hid hiff; replace hle := Lib.hid hle; replace hend2 := Lib.hid hend2; replace hend3 := Lib.hid hend3
  clear ok
  go_enter Tryz.func8, Tryz.ntmps8
  go_upto_region 1 with (fail)
  refine wp_world fun W HW => ?_
  have hB : Below w.heap.size w W := by rw [HW.out]; (repeat (first | exact Below.refl _ _ | refine Below.alloc ?_ (by simp; try omega) _ | refine Below.setCell ?_ (by simp) _ | refine Below.drew ?_))
  have d0 : W.cell? ⟨w.heap.size, 0, none⟩ = some (.int .i64 n) := by rw [HW.out]; simp [go_sem]
  have d1 : W.cell? ⟨w.heap.size, 1, none⟩ = some (.slice s l.length cap) := by rw [HW.out]; simp [go_sem]
  have d2 : W.cell? ⟨w.heap.size, 2, none⟩ = some (.slice s2 K.length cq) := by rw [HW.out]; simp [go_sem]
  have dl : w.heap.size < W.heap.size := World.block_lt_of_cell? W _ d0
  try replace hr := up_of hB hr
  go_upto_region 2 with (first | (go_at_call 31; refine (hn.out _ hr).mono ?_; rintro e W1 ⟨⟨g, sp, cp, mb, rfl, hnt⟩, hb⟩; (try replace hr := up_of hb hr); (try replace hB := up_of hb hB); (try replace d0 := up_of hb d0); (try replace d1 := up_of hb d1); (try replace d2 := up_of hb d2); (try replace dl := up_of hb dl)))
  go_upto_region 5 with (first | (go_at_call 32; refine (ho.out _ _ _ _ _ hnt).mono ?_; rintro e W3 ⟨out, wait, so, co, sw, cw, rfl, hso, hsw, hod, hb⟩; (try replace hr := up_of hb hr); (try replace hB := up_of hb hB); (try replace d0 := up_of hb d0); (try replace d1 := up_of hb d1); (try replace d2 := up_of hb d2); (try replace dl := up_of hb dl); (try replace hnt := up_of hb hnt)))
  have hd := hiff.out out wait hod
  have hl2 := hle.out out wait hod
  replace hd := Lib.hid hd; replace hod := Lib.hid hod
  by_cases hlt : out.length < K.length * P.length
  · have hno : ¬ okN2 K P := fun hk => (hd.out.1 hlt) hk
    have k1 : ((out.length : Nat) : Int) < ((K.length * P.length : Nat) : Int) := by omega
    obtain ⟨NN, hNN⟩ : ∃ q, K.length * P.length = q := ⟨_, rfl⟩
    simp only [hNN] at hz k1 hlt
    replace hNN := Lib.hid hNN; replace hno := Lib.hid hno
    clear hd hod hl2
    go_wp2_with (first | (go_at_call 33; refine (hz.out _ _ _ _ _ hnt).mono ?_; rintro e W1 ⟨rfl, hb⟩; (try replace hr := up_of hb hr); (try replace hB := up_of hb hB); (try replace d0 := up_of hb d0); (try replace d1 := up_of hb d1); (try replace d2 := up_of hb d2); (try replace dl := up_of hb dl); (try replace hnt := up_of hb hnt)))
    go_ret2
    exact ⟨hend2.out hno.out, hB⟩
  · have hyes : okN2 K P := by
      refine Classical.byContradiction fun hk => hlt (hd.out.2 hk)
    have k1 : ¬ ((out.length : Nat) : Int) < ((K.length * P.length : Nat) : Int) := by omega
    obtain ⟨NN, hNN⟩ : ∃ q, K.length * P.length = q := ⟨_, rfl⟩
    simp only [hNN] at hz k1 hlt
    replace hNN := Lib.hid hNN; replace hyes := Lib.hid hyes
    clear hd hl2 hod
    go_wp2_with (first | (go_at_call 33; refine (hz.out _ _ _ _ _ hnt).mono ?_; rintro e W1 ⟨rfl, hb⟩; (try replace hr := up_of hb hr); (try replace hB := up_of hb hB); (try replace d0 := up_of hb d0); (try replace d1 := up_of hb d1); (try replace d2 := up_of hb d2); (try replace dl := up_of hb dl); (try replace hnt := up_of hb hnt)))
    go_ret2
    exact ⟨hend3.out hyes.out, hB⟩
end Go.Proofs.YtakbpjgnjfigcaaGreat
