/- Which lists are chains, as exported: the program and the reference. -/
import Derived.Test.YtadmnlkgefbhcaaRChain2
import Derived.Test.YtadmnlkgefbhcaaB12
namespace Go.Proofs.Ytadmnlkgefbhcaa
open Go.RowKit Go.Maps

def chA (n : Int) (l : List Iq) (K : List Vv) (L : List Ar) : Bool := recB n l K && (decide (L.length ≤ 5000) && chB K (pts n l) L)
def liC (n : Int) (l : List Iq) (K : List Vv) (L : List Ar) : Int := if recB n l K = true then (if L.length ≤ 5000 then 0 else 2) else 20
theorem chA_no {n : Int} {l : List Iq} {K : List Vv} {L : List Ar} (h : liC n l K L ≠ 0) : chA n l K L = false := by
  unfold liC at h
  unfold chA
  cases hb : recB n l K
  · rfl
  · rw [hb] at h
    by_cases hl : L.length ≤ 5000
    · rw [if_pos rfl, if_pos hl] at h; exact absurd rfl h
    · simp [hl]
section
variable (n : Int) (s : Option Addr) (cap : Nat) (l : List Iq) (s2 : Option Addr) (cq : Nat) (K : List Vv) (sl : Option Addr) (cl : Nat) (L : List Ar) (w : World) (hr : RecM w s l s2 cq K)
include hr
set_option maxRecDepth 100000 in
set_option maxHeartbeats 1000000 in
theorem listed_c (hll : L.length ≤ 9223372036854775807) :
    Calls Try.prog 70 #[.agg #[.int .i64 n, .slice s l.length cap, .slice s2 K.length cq], .slice sl L.length cl] w fun e w' => ((liC n l K L ≠ 0 ∧ e = .returned (.tuple #[.pointer none, .int .i64 (liC n l K L)])) ∨ (recB n l K = true ∧ L.length ≤ 5000 ∧ ∃ g sp cp mb, e = .returned (.tuple #[.pointer (some ⟨g, 0, none⟩), .int .i64 0]) ∧ Net 106 w' g n s cap l s2 cq K sp cp mb (pts n l))) ∧ Below w.heap.size w w' := by
  unfold liC
  cases hb : recB n l K
  · have hn := fun V (hr : RecM V s l s2 cq K) => newNet_no n s cap l s2 cq K V hr hb
    simp only [Bool.false_eq_true, if_false]
    replace hn := Lib.hid hn
    clear hb
    go_enter Try.func70, Try.ntmps70
    go_upto_region 1 with (fail)
    refine wp_world fun W HW => ?_
    have hB : Below w.heap.size w W := by rw [HW.out]; (repeat (first | exact Below.refl _ _ | refine Below.alloc ?_ (by simp; try omega) _ | refine Below.setCell ?_ (by simp) _ | refine Below.drew ?_))
    have d0 : W.cell? ⟨w.heap.size, 0, none⟩ = some (.int .i64 n) := by rw [HW.out]; simp [go_sem]
    have d1 : W.cell? ⟨w.heap.size, 1, none⟩ = some (.slice s l.length cap) := by rw [HW.out]; simp [go_sem]
    have d2 : W.cell? ⟨w.heap.size, 2, none⟩ = some (.slice s2 K.length cq) := by rw [HW.out]; simp [go_sem]
    have dl : w.heap.size < W.heap.size := World.block_lt_of_cell? W _ d0
    try replace hr := up_of hB hr
    go_wp2_with (first | (go_at_call 55; refine (hn.out _ hr).mono ?_; rintro e W1 ⟨rfl, hb⟩; (try replace hr := up_of hb hr); (try replace hB := up_of hb hB); (try replace d0 := up_of hb d0); (try replace d1 := up_of hb d1); (try replace d2 := up_of hb d2); (try replace dl := up_of hb dl)))
    refine bodyPost_ret (results_tmp2 rfl _ _ _) rfl ?_
    exact ⟨.inl ⟨by decide, rfl⟩, hB⟩
  · have hn := fun V (hr : RecM V s l s2 cq K) => newNet_yes n s cap l s2 cq K V hr hb
    simp only [if_true]
    replace hn := Lib.hid hn
    clear hb
    by_cases hl : L.length ≤ 5000
    · have hl2 : ¬ (5000 : Int) < (L.length : Int) := by omega
      rw [if_pos hl]
      go_enter Try.func70, Try.ntmps70
      go_upto_region 1 with (fail)
      refine wp_world fun W HW => ?_
      have hB : Below w.heap.size w W := by rw [HW.out]; (repeat (first | exact Below.refl _ _ | refine Below.alloc ?_ (by simp; try omega) _ | refine Below.setCell ?_ (by simp) _ | refine Below.drew ?_))
      have d0 : W.cell? ⟨w.heap.size, 0, none⟩ = some (.int .i64 n) := by rw [HW.out]; simp [go_sem]
      have d1 : W.cell? ⟨w.heap.size, 1, none⟩ = some (.slice s l.length cap) := by rw [HW.out]; simp [go_sem]
      have d2 : W.cell? ⟨w.heap.size, 2, none⟩ = some (.slice s2 K.length cq) := by rw [HW.out]; simp [go_sem]
      have dl : w.heap.size < W.heap.size := World.block_lt_of_cell? W _ d0
      try replace hr := up_of hB hr
      go_wp2_with (first | (go_at_call 55; refine (hn.out _ hr).mono ?_; rintro e W1 ⟨⟨g, sp, cp, mb, rfl, hnt⟩, hb⟩; (try replace hr := up_of hb hr); (try replace hB := up_of hb hB); (try replace d0 := up_of hb d0); (try replace d1 := up_of hb d1); (try replace d2 := up_of hb d2); (try replace dl := up_of hb dl)))
      refine bodyPost_ret (results_tmp2 rfl _ _ _) rfl ?_
      exact ⟨.inr ⟨by trivial, hl, g, sp, cp, mb, rfl, hnt⟩, hB⟩
    · have hl2 : (5000 : Int) < (L.length : Int) := by omega
      rw [if_neg hl]
      go_enter Try.func70, Try.ntmps70
      go_upto_region 1 with (fail)
      refine wp_world fun W HW => ?_
      have hB : Below w.heap.size w W := by rw [HW.out]; (repeat (first | exact Below.refl _ _ | refine Below.alloc ?_ (by simp; try omega) _ | refine Below.setCell ?_ (by simp) _ | refine Below.drew ?_))
      have d0 : W.cell? ⟨w.heap.size, 0, none⟩ = some (.int .i64 n) := by rw [HW.out]; simp [go_sem]
      have d1 : W.cell? ⟨w.heap.size, 1, none⟩ = some (.slice s l.length cap) := by rw [HW.out]; simp [go_sem]
      have d2 : W.cell? ⟨w.heap.size, 2, none⟩ = some (.slice s2 K.length cq) := by rw [HW.out]; simp [go_sem]
      have dl : w.heap.size < W.heap.size := World.block_lt_of_cell? W _ d0
      try replace hr := up_of hB hr
      go_wp2_with (first | (go_at_call 55; refine (hn.out _ hr).mono ?_; rintro e W1 ⟨⟨g, sp, cp, mb, rfl, hnt⟩, hb⟩; (try replace hr := up_of hb hr); (try replace hB := up_of hb hB); (try replace d0 := up_of hb d0); (try replace d1 := up_of hb d1); (try replace d2 := up_of hb d2); (try replace dl := up_of hb dl)))
      refine bodyPost_ret (results_tmp2 rfl _ _ _) rfl ?_
      exact ⟨.inl ⟨by decide, rfl⟩, hB⟩
set_option maxRecDepth 100000 in
set_option maxHeartbeats 1000000 in
theorem asked_c2 (hll : L.length ≤ 9223372036854775807) :
    Calls Try.prog 72 #[.agg #[.int .i64 n, .slice s l.length cap, .slice s2 K.length cq], .slice sl L.length cl] w fun e w' => e = .returned (.int .i64 (liC n l K L)) ∧ Below w.heap.size w w' := by
  have hv := fun V (h : RecM V s l s2 cq K) => h.valid2 n cap
  unfold liC
  cases hb : recB n l K
  · rw [hb] at hv
    simp only [Bool.false_eq_true, if_false]
    replace hv := Lib.hid hv
    clear hb
    go_enter Try.func72, Try.ntmps72
    go_upto_region 1 with (fail)
    refine wp_world fun W HW => ?_
    have hB : Below w.heap.size w W := by rw [HW.out]; (repeat (first | exact Below.refl _ _ | refine Below.alloc ?_ (by simp; try omega) _ | refine Below.setCell ?_ (by simp) _ | refine Below.drew ?_))
    have d0 : W.cell? ⟨w.heap.size, 0, none⟩ = some (.int .i64 n) := by rw [HW.out]; simp [go_sem]
    have d1 : W.cell? ⟨w.heap.size, 1, none⟩ = some (.slice s l.length cap) := by rw [HW.out]; simp [go_sem]
    have d2 : W.cell? ⟨w.heap.size, 2, none⟩ = some (.slice s2 K.length cq) := by rw [HW.out]; simp [go_sem]
    have dl : w.heap.size < W.heap.size := World.block_lt_of_cell? W _ d0
    try replace hr := up_of hB hr
    go_wp2_with (first | (go_at_call 31; refine (hv.out _ hr).mono ?_; rintro e W1 ⟨rfl, hb⟩; (try replace hr := up_of hb hr); (try replace hB := up_of hb hB); (try replace d0 := up_of hb d0); (try replace d1 := up_of hb d1); (try replace d2 := up_of hb d2); (try replace dl := up_of hb dl)))
    go_ret
    exact ⟨rfl, hB⟩
  · rw [hb] at hv
    simp only [if_true]
    replace hv := Lib.hid hv
    clear hb
    by_cases hl : L.length ≤ 5000
    · have hl2 : ¬ (5000 : Int) < (L.length : Int) := by omega
      rw [if_pos hl]
      go_enter Try.func72, Try.ntmps72
      go_upto_region 1 with (fail)
      refine wp_world fun W HW => ?_
      have hB : Below w.heap.size w W := by rw [HW.out]; (repeat (first | exact Below.refl _ _ | refine Below.alloc ?_ (by simp; try omega) _ | refine Below.setCell ?_ (by simp) _ | refine Below.drew ?_))
      have d0 : W.cell? ⟨w.heap.size, 0, none⟩ = some (.int .i64 n) := by rw [HW.out]; simp [go_sem]
      have d1 : W.cell? ⟨w.heap.size, 1, none⟩ = some (.slice s l.length cap) := by rw [HW.out]; simp [go_sem]
      have d2 : W.cell? ⟨w.heap.size, 2, none⟩ = some (.slice s2 K.length cq) := by rw [HW.out]; simp [go_sem]
      have dl : w.heap.size < W.heap.size := World.block_lt_of_cell? W _ d0
      try replace hr := up_of hB hr
      go_wp2_with (first | (go_at_call 31; refine (hv.out _ hr).mono ?_; rintro e W1 ⟨rfl, hb⟩; (try replace hr := up_of hb hr); (try replace hB := up_of hb hB); (try replace d0 := up_of hb d0); (try replace d1 := up_of hb d1); (try replace d2 := up_of hb d2); (try replace dl := up_of hb dl)))
      go_ret
      exact ⟨rfl, hB⟩
    · have hl2 : (5000 : Int) < (L.length : Int) := by omega
      rw [if_neg hl]
      go_enter Try.func72, Try.ntmps72
      go_upto_region 1 with (fail)
      refine wp_world fun W HW => ?_
      have hB : Below w.heap.size w W := by rw [HW.out]; (repeat (first | exact Below.refl _ _ | refine Below.alloc ?_ (by simp; try omega) _ | refine Below.setCell ?_ (by simp) _ | refine Below.drew ?_))
      have d0 : W.cell? ⟨w.heap.size, 0, none⟩ = some (.int .i64 n) := by rw [HW.out]; simp [go_sem]
      have d1 : W.cell? ⟨w.heap.size, 1, none⟩ = some (.slice s l.length cap) := by rw [HW.out]; simp [go_sem]
      have d2 : W.cell? ⟨w.heap.size, 2, none⟩ = some (.slice s2 K.length cq) := by rw [HW.out]; simp [go_sem]
      have dl : w.heap.size < W.heap.size := World.block_lt_of_cell? W _ d0
      try replace hr := up_of hB hr
      go_wp2_with (first | (go_at_call 31; refine (hv.out _ hr).mono ?_; rintro e W1 ⟨rfl, hb⟩; (try replace hr := up_of hb hr); (try replace hB := up_of hb hB); (try replace d0 := up_of hb d0); (try replace d1 := up_of hb d1); (try replace d2 := up_of hb d2); (try replace dl := up_of hb dl)))
      go_ret
      exact ⟨rfl, hB⟩
set_option maxRecDepth 100000 in
set_option maxHeartbeats 1000000 in
theorem IsChain_c (hll : L.length ≤ 9223372036854775807) (hs : SlS arE w sl L) (hI : ∀ y ∈ L, y.p.I64) :
    Calls Try.prog 22 #[.agg #[.int .i64 n, .slice s l.length cap, .slice s2 K.length cq], .slice sl L.length cl] w fun e w' => e = .returned (.tuple #[.bool (chA n l K L), .int .i64 (liC n l K L)]) ∧ Below w.heap.size w w' := by
  have hli := fun V (h : RecM V s l s2 cq K) => listed_c n s cap l s2 cq K sl cl L V h hll
  have hch := fun (hb : recB n l K = true) (hl : L.length ≤ 5000) g sp cp mb V (h : Net 106 V g n s cap l s2 cq K sp cp mb (pts n l)) (hs : SlS arE V sl L) => nchain_c sl cl L V h (netOk hb) hs hl hI
  have hca := fun (hb : recB n l K = true) (hl : L.length ≤ 5000) => (show chA n l K L = chB K (pts n l) L by unfold chA; rw [hb]; simp [hl])
  have hc0 := fun (hb : recB n l K = true) (hl : L.length ≤ 5000) => (show liC n l K L = 0 by unfold liC; rw [hb]; simp [hl])
  have hno := fun h => chA_no (n := n) (l := l) (K := K) (L := L) h
  obtain ⟨P, hP⟩ : ∃ P, pts n l = P := ⟨_, rfl⟩
  simp only [hP] at hli hch hca
  obtain ⟨RB, hRB⟩ : ∃ x, recB n l K = x := ⟨_, rfl⟩
  simp only [hRB] at hli hch hca hc0
  obtain ⟨CA, hCA⟩ : ∃ x, chA n l K L = x := ⟨_, rfl⟩
  simp only [hCA] at hca hno ⊢
  obtain ⟨CC, hCC⟩ : ∃ x, liC n l K L = x := ⟨_, rfl⟩
  simp only [hCC] at hc0 hno hli ⊢
  clear hP hRB hCA hCC
  replace hli := Lib.hid hli; replace hch := Lib.hid hch; replace hca := Lib.hid hca; replace hc0 := Lib.hid hc0; replace hno := Lib.hid hno
  go_enter Try.func22, Try.ntmps22
  go_upto_region 1 with (fail)
  refine wp_world fun W HW => ?_
  have hB : Below w.heap.size w W := by rw [HW.out]; (repeat (first | exact Below.refl _ _ | refine Below.alloc ?_ (by simp; try omega) _ | refine Below.setCell ?_ (by simp) _ | refine Below.drew ?_))
  have d0 : W.cell? ⟨w.heap.size, 0, none⟩ = some (.int .i64 n) := by rw [HW.out]; simp [go_sem]
  have d1 : W.cell? ⟨w.heap.size, 1, none⟩ = some (.slice s l.length cap) := by rw [HW.out]; simp [go_sem]
  have d2 : W.cell? ⟨w.heap.size, 2, none⟩ = some (.slice s2 K.length cq) := by rw [HW.out]; simp [go_sem]
  have dl : w.heap.size < W.heap.size := World.block_lt_of_cell? W _ d0
  try replace hr := up_of hB hr
  try replace hs := up_of hB hs
  go_upto_region 2 with (first | (go_at_call 70; refine (hli.out _ hr).mono ?_; rintro e W1 ⟨h1, hb⟩; replace hB := up_of hb hB; replace hs := up_of hb hs; rcases h1 with ⟨h1, rfl⟩ | ⟨h1, h2, g, sp, cp, mb, rfl, hnt⟩))
  · have hc := hno.out h1
    have hcc : (CC == 0) = false := by simpa using h1
    have hcc2 : (CC != 0) = true := by simpa using h1
    subst hc
    replace h1 := Lib.hid h1
    clear hr
    go_wp2
    go_ret2
    exact ⟨rfl, hB⟩
  · have hc0' := hc0.out h1 h2
    have hcA := hca.out h1 h2
    subst hc0'
    have hcx := fun V h hs => hch.out h1 h2 g sp cp mb V h hs
    rw [← hcA] at hcx
    replace hcx := Lib.hid hcx
    clear hr d0 d1 d2 dl hcA hc0 hca hch hno hli
    go_upto_region 5 with (first | (go_at_call 71; refine (hcx.out _ hnt hs).mono ?_; rintro e W2 ⟨h3, hb⟩; replace hB := up_of hb hB; rcases h3 with ⟨rfl, v, rfl, -⟩ | ⟨rfl, rfl⟩))
    all_goals
      go_wp2
      go_ret2
      exact ⟨rfl, hB⟩
set_option maxRecDepth 100000 in
set_option maxHeartbeats 1000000 in
theorem rIsChain_c (hll : L.length ≤ 9223372036854775807) (hs : SlS arE w sl L) (hI : ∀ y ∈ L, y.p.I64) :
    Calls Try.prog 23 #[.agg #[.int .i64 n, .slice s l.length cap, .slice s2 K.length cq], .slice sl L.length cl] w fun e w' => e = .returned (.tuple #[.bool (chA n l K L), .int .i64 (liC n l K L)]) ∧ Below w.heap.size w w' := by
  have hli := fun V (h : RecM V s l s2 cq K) => asked_c2 n s cap l s2 cq K sl cl L V h hll
  have hno := fun h => chA_no (n := n) (l := l) (K := K) (L := L) h
  by_cases hc : liC n l K L = 0
  case neg =>
    have hcA := hno hc
    rw [hcA]
    obtain ⟨CC, hCC⟩ : ∃ x, liC n l K L = x := ⟨_, rfl⟩
    simp only [hCC] at hc hli ⊢
    have hcc2 : (CC != 0) = true := by simpa using hc
    replace hli := Lib.hid hli; replace hc := Lib.hid hc; replace hCC := Lib.hid hCC
    clear hno hcA
    go_enter Try.func23, Try.ntmps23
    go_upto_region 1 with (fail)
    refine wp_world fun W HW => ?_
    have hB : Below w.heap.size w W := by rw [HW.out]; (repeat (first | exact Below.refl _ _ | refine Below.alloc ?_ (by simp; try omega) _ | refine Below.setCell ?_ (by simp) _ | refine Below.drew ?_))
    have d0 : W.cell? ⟨w.heap.size, 0, none⟩ = some (.int .i64 n) := by rw [HW.out]; simp [go_sem]
    have d1 : W.cell? ⟨w.heap.size, 1, none⟩ = some (.slice s l.length cap) := by rw [HW.out]; simp [go_sem]
    have d2 : W.cell? ⟨w.heap.size, 2, none⟩ = some (.slice s2 K.length cq) := by rw [HW.out]; simp [go_sem]
    have dl : w.heap.size < W.heap.size := World.block_lt_of_cell? W _ d0
    try replace hr := up_of hB hr
    go_wp2_with (first | (go_at_call 72; refine (hli.out _ hr).mono ?_; rintro e W1 ⟨rfl, hb⟩; (try replace hr := up_of hb hr); (try replace hB := up_of hb hB); (try replace d0 := up_of hb d0); (try replace d1 := up_of hb d1); (try replace d2 := up_of hb d2); (try replace dl := up_of hb dl)))
    go_ret2
    exact ⟨rfl, hB⟩
  have hb : recB n l K = true := by
    cases hb : recB n l K
    · unfold liC at hc; rw [hb] at hc; simp at hc
    · rfl
  have hl : L.length ≤ 5000 := by
    by_cases hl : L.length ≤ 5000
    · exact hl
    · unfold liC at hc; rw [hb] at hc; simp [hl] at hc
  have hcA : chA n l K L = chB K (pts n l) L := by unfold chA; rw [hb]; simp [hl]
  have ok := netOk hb
  have hof := fun V (h : RecM V s l s2 cq K) => Of_c n s cap l s2 cq K V h ok.dim ok
  have hch := fun g sp cp mb V (h : Net 64 V g n s cap l s2 cq K sp cp mb (pts n l)) (hs : SlS arE V sl L) => rchain_c sl cl L V h ok hs hl hI
  rw [hcA, hc]
  simp only [hc] at hli
  obtain ⟨P, hP⟩ : ∃ P, pts n l = P := ⟨_, rfl⟩
  simp only [hP] at hof hch ⊢
  obtain ⟨CB, hCB⟩ : ∃ x, chB K P L = x := ⟨_, rfl⟩
  simp only [hCB] at hch ⊢
  clear hP hCB hcA hno hc hb ok
  replace hli := Lib.hid hli; replace hof := Lib.hid hof; replace hch := Lib.hid hch
  go_enter Try.func23, Try.ntmps23
  go_upto_region 1 with (fail)
  refine wp_world fun W HW => ?_
  have hB : Below w.heap.size w W := by rw [HW.out]; (repeat (first | exact Below.refl _ _ | refine Below.alloc ?_ (by simp; try omega) _ | refine Below.setCell ?_ (by simp) _ | refine Below.drew ?_))
  have d0 : W.cell? ⟨w.heap.size, 0, none⟩ = some (.int .i64 n) := by rw [HW.out]; simp [go_sem]
  have d1 : W.cell? ⟨w.heap.size, 1, none⟩ = some (.slice s l.length cap) := by rw [HW.out]; simp [go_sem]
  have d2 : W.cell? ⟨w.heap.size, 2, none⟩ = some (.slice s2 K.length cq) := by rw [HW.out]; simp [go_sem]
  have dl : w.heap.size < W.heap.size := World.block_lt_of_cell? W _ d0
  try replace hr := up_of hB hr
  try replace hs := up_of hB hs
  go_wp2_with (first | (go_at_call 72; refine (hli.out _ hr).mono ?_; rintro e W1 ⟨rfl, hb⟩; (try replace hr := up_of hb hr); (try replace hs := up_of hb hs); (try replace hB := up_of hb hB); (try replace d0 := up_of hb d0); (try replace d1 := up_of hb d1); (try replace d2 := up_of hb d2); (try replace dl := up_of hb dl)) | (go_at_call 34; refine (hof.out _ hr).mono ?_; rintro e W2 ⟨⟨g, sp, cp, mb, rfl, hnt⟩, hb⟩; (try replace hr := up_of hb hr); (try replace hs := up_of hb hs); (try replace hB := up_of hb hB); (try replace d0 := up_of hb d0); (try replace d1 := up_of hb d1); (try replace d2 := up_of hb d2); (try replace dl := up_of hb dl)) | (go_at_call 73; refine (hch.out _ _ _ _ _ hnt hs).mono ?_; rintro e W1 ⟨rfl, hb⟩; (try replace hr := up_of hb hr); (try replace hs := up_of hb hs); (try replace hB := up_of hb hB); (try replace d0 := up_of hb d0); (try replace d1 := up_of hb d1); (try replace d2 := up_of hb d2); (try replace dl := up_of hb dl)))
  go_ret2
  exact ⟨rfl, hB⟩
end
end Go.Proofs.Ytadmnlkgefbhcaa
