/- Whether a recurrence is circular, as exported: the program and the reference. -/
import Derived.Test.YtadmnlkgefbhcaaRLv2
import Derived.Test.YtadmnlkgefbhcaaCircP
namespace Go.Proofs.Ytadmnlkgefbhcaa
open Go.RowKit Go.Maps

set_option maxRecDepth 100000 in
set_option maxHeartbeats 2000000 in
theorem rCircular_c (n : Int) (s : Option Addr) (cap : Nat) (l : List Iq) (s2 : Option Addr) (cq : Nat) (K : List Vv) (w : World) (hr : RecM w s l s2 cq K) :
    Calls Try.prog 45 #[.agg #[.int .i64 n, .slice s l.length cap, .slice s2 K.length cq]] w fun e w' => CiRet n l K e ∧ Below w.heap.size w w' := by
  have hv := fun V (h : RecM V s l s2 cq K) => h.valid2 n cap
  cases hb : recB n l K
  · rw [hb] at hv
    have hend := ci_bad hb
    obtain ⟨R, hR⟩ : ∃ R, CiRet n l K = R := ⟨_, rfl⟩
    rw [hR] at hend ⊢
    clear hb hR
    replace hv := Lib.hid hv; replace hend := Lib.hid hend
    go_enter Try.func45, Try.ntmps45
    go_upto_region 1 with (fail)
    refine wp_world fun W HW => ?_
    have hB : Below w.heap.size w W := by rw [HW.out]; (repeat (first | exact Below.refl _ _ | refine Below.alloc ?_ (by simp; try omega) _ | refine Below.setCell ?_ (by simp) _ | refine Below.drew ?_))
    have d0 : W.cell? ⟨w.heap.size, 0, none⟩ = some (.int .i64 n) := by rw [HW.out]; simp [go_sem]
    have d1 : W.cell? ⟨w.heap.size, 1, none⟩ = some (.slice s l.length cap) := by rw [HW.out]; simp [go_sem]
    have d2 : W.cell? ⟨w.heap.size, 2, none⟩ = some (.slice s2 K.length cq) := by rw [HW.out]; simp [go_sem]
    have dl : w.heap.size < W.heap.size := World.block_lt_of_cell? W _ d0
    try replace hr := up_of hB hr
    go_wp2_with (first | (go_at_call 31; refine (hv.out _ hr).mono ?_; rintro e W1 ⟨rfl, hb⟩; (try replace hr := up_of hb hr); (try replace hB := up_of hb hB); (try replace d0 := up_of hb d0); (try replace d1 := up_of hb d1); (try replace d2 := up_of hb d2); (try replace dl := up_of hb dl)))
    go_ret2
    exact ⟨hend.out, hB⟩
  rw [hb] at hv
  have ok := netOk hb
  have hend2 := fun h3 => ci_yes hb h3
  have hend3 := fun h3 => ci_no hb h3
  have hof := fun V (h : RecM V s l s2 cq K) => Of_c n s cap l s2 cq K V h ok.dim ok
  obtain ⟨R, hR⟩ : ∃ R, CiRet n l K = R := ⟨_, rfl⟩
  simp only [hR] at hend2 hend3 ⊢
  obtain ⟨P, hP⟩ : ∃ P, pts n l = P := ⟨_, rfl⟩
  simp only [hP] at hof ok hend2 hend3
  clear hP hb hR
  have hlv := fun g sp cp mb V (h : Net 64 V g n s cap l s2 cq K sp cp mb P) => rlevels_c V h ok
  replace hv := Lib.hid hv; replace hof := Lib.hid hof; replace hlv := Lib.hid hlv; replace hend2 := Lib.hid hend2; replace hend3 := Lib.hid hend3
  clear ok
  go_enter Try.func45, Try.ntmps45
  go_upto_region 1 with (fail)
  refine wp_world fun W HW => ?_
  have hB : Below w.heap.size w W := by rw [HW.out]; (repeat (first | exact Below.refl _ _ | refine Below.alloc ?_ (by simp; try omega) _ | refine Below.setCell ?_ (by simp) _ | refine Below.drew ?_))
  have d0 : W.cell? ⟨w.heap.size, 0, none⟩ = some (.int .i64 n) := by rw [HW.out]; simp [go_sem]
  have d1 : W.cell? ⟨w.heap.size, 1, none⟩ = some (.slice s l.length cap) := by rw [HW.out]; simp [go_sem]
  have d2 : W.cell? ⟨w.heap.size, 2, none⟩ = some (.slice s2 K.length cq) := by rw [HW.out]; simp [go_sem]
  have dl : w.heap.size < W.heap.size := World.block_lt_of_cell? W _ d0
  try replace hr := up_of hB hr
  go_upto_region 4 with (first | (go_at_call 31; refine (hv.out _ hr).mono ?_; rintro e W1 ⟨rfl, hb⟩; replace hB := up_of hb hB; replace hr := up_of hb hr; replace d0 := up_of hb d0; replace d1 := up_of hb d1; replace d2 := up_of hb d2) | (go_at_call 34; refine (hof.out _ hr).mono ?_; rintro e W2 ⟨⟨g, sp, cp, mb, rfl, hnt⟩, hb⟩; replace hB := up_of hb hB) | (go_at_call 60; refine (hlv.out _ _ _ _ _ hnt).mono ?_; rintro e W4 ⟨h1, hb⟩; replace hB := up_of hb hB; rcases h1 with ⟨hyes, b, rfl, hsl⟩ | ⟨hno, rfl⟩))
  · replace hyes := Lib.hid hyes
    go_wp2
    go_ret2
    exact ⟨hend3.out hyes.out, hB⟩
  · replace hno := Lib.hid hno
    go_wp2
    go_ret2
    exact ⟨hend2.out hno.out, hB⟩
end Go.Proofs.Ytadmnlkgefbhcaa
