/- Which lists are circles: what it is, and the program. -/
import Derived.Test.YtadmnlkgefbhcaaChains
import Derived.Test.YtadmnlkgefbhcaaRecSrt2
import Derived.Test.YtadmnlkgefbhcaaElEq
namespace Go.Proofs.Ytadmnlkgefbhcaa
open Go.RowKit Go.Maps

def endB (K : List Vv) (P : List Pt) (L : List Ar) : Bool := (useN K P (elNum P (L.getD 0 default))).contains (elNum P (L.getD (L.length - 1) default))
def icB (K : List Vv) (P : List Pt) (L : List Ar) : Bool := chB K P L && (decide (L.length ≠ 0) && (endB K P L && decide L.Nodup))
def icA (n : Int) (l : List Iq) (K : List Vv) (L : List Ar) : Bool := recB n l K && (decide (L.length ≤ 5000) && icB K (pts n l) L)
theorem icA_no {n : Int} {l : List Iq} {K : List Vv} {L : List Ar} (h : liC n l K L ≠ 0) : icA n l K L = false := by
  unfold liC at h
  unfold icA
  cases hb : recB n l K
  · rfl
  · rw [hb] at h
    by_cases hl : L.length ≤ 5000
    · rw [if_pos rfl, if_pos hl] at h; exact absurd rfl h
    · simp [hl]
theorem chB_el {K : List Vv} {P : List Pt} {L : List Ar} (h : chB K P L = true) : ∀ y ∈ L, isEl K P y.v y.p = true := by
  intro y hy
  obtain ⟨i, hi, rfl⟩ := List.getElem_of_mem hy
  unfold chB at h
  have := List.all_eq_true.1 h i (List.mem_range.2 hi)
  unfold stepB at this
  rw [getD_el hi, Bool.and_eq_true] at this
  exact this.1
theorem elNum_inj {n : Int} {K : List Vv} {P : List Pt} (ok : NetOk n K P) {x y : Ar} (hx : isEl K P x.v x.p = true) (hy : isEl K P y.v y.p = true) (h : elNum P x = elNum P y) : x = y := by
  rw [isEl_in, Bool.and_eq_true] at hx hy
  have h1 := (elOf_num ok hx.2 hx.1).1
  have h2 := (elOf_num ok hy.2 hy.1).1
  rw [← h1, ← h2, h]
theorem nd_nums {n : Int} {K : List Vv} {P : List Pt} {L : List Ar} (ok : NetOk n K P) (h : chB K P L = true) : (toI (L.map (elNum P))).Nodup ↔ L.Nodup := by
  have he := chB_el h
  rw [List.nodup_iff_pairwise_ne, List.nodup_iff_pairwise_ne, toI, List.map_map, List.pairwise_map]
  constructor
  · intro hp
    exact hp.imp fun h e => h (by rw [e])
  · intro hp
    refine hp.imp_of_mem fun ha hb hne e => hne (elNum_inj ok (he _ ha) (he _ hb) ?_)
    simp only [Function.comp] at e
    omega
section
variable (n : Int) (s : Option Addr) (cap : Nat) (l : List Iq) (s2 : Option Addr) (cq : Nat) (K : List Vv) (sl : Option Addr) (cl : Nat) (L : List Ar) (w : World) (hr : RecM w s l s2 cq K)
include hr
set_option maxRecDepth 100000 in
set_option maxHeartbeats 2000000 in
theorem IsCircle_c (hll : L.length ≤ 9223372036854775807) (hs : SlS arE w sl L) (hI : ∀ y ∈ L, y.p.I64) :
    Calls Try.prog 46 #[.agg #[.int .i64 n, .slice s l.length cap, .slice s2 K.length cq], .slice sl L.length cl] w fun e w' => e = .returned (.tuple #[.bool (icA n l K L), .int .i64 (liC n l K L)]) ∧ Below w.heap.size w w' := by
  have hli := fun V (h : RecM V s l s2 cq K) => listed_c n s cap l s2 cq K sl cl L V h hll
  have hno := fun h => icA_no (n := n) (l := l) (K := K) (L := L) h
  by_cases hc : liC n l K L = 0
  case neg =>
    have hcA := hno hc
    rw [hcA]
    have hli2 := fun V (h : RecM V s l s2 cq K) => (hli V h).mono (R' := fun e w' => e = .returned (.tuple #[.pointer none, .int .i64 (liC n l K L)]) ∧ Below V.heap.size V w') (fun e w' ⟨h1, h2⟩ => ⟨by
      rcases h1 with ⟨-, h1⟩ | ⟨h1, h2, -⟩
      · exact h1
      · exact absurd (show liC n l K L = 0 by unfold liC; rw [h1]; simp [h2]) hc, h2⟩)
    clear hli
    obtain ⟨CC, hCC⟩ : ∃ x, liC n l K L = x := ⟨_, rfl⟩
    simp only [hCC] at hc hli2 ⊢
    have hcc2 : (CC != 0) = true := by simpa using hc
    replace hli2 := Lib.hid hli2; replace hc := Lib.hid hc; replace hCC := Lib.hid hCC
    clear hno hcA hs
    go_enter Try.func46, Try.ntmps46
    go_upto_region 1 with (fail)
    refine wp_world fun W HW => ?_
    have hB : Below w.heap.size w W := by rw [HW.out]; (repeat (first | exact Below.refl _ _ | refine Below.alloc ?_ (by simp; try omega) _ | refine Below.setCell ?_ (by simp) _ | refine Below.drew ?_))
    have d0 : W.cell? ⟨w.heap.size, 0, none⟩ = some (.int .i64 n) := by rw [HW.out]; simp [go_sem]
    have d1 : W.cell? ⟨w.heap.size, 1, none⟩ = some (.slice s l.length cap) := by rw [HW.out]; simp [go_sem]
    have d2 : W.cell? ⟨w.heap.size, 2, none⟩ = some (.slice s2 K.length cq) := by rw [HW.out]; simp [go_sem]
    have dl : w.heap.size < W.heap.size := World.block_lt_of_cell? W _ d0
    try replace hr := up_of hB hr
    go_wp2_with (first | (go_at_call 70; refine (hli2.out _ hr).mono ?_; rintro e W1 ⟨rfl, hb⟩; (try replace hr := up_of hb hr); (try replace hB := up_of hb hB); (try replace d0 := up_of hb d0); (try replace d1 := up_of hb d1); (try replace d2 := up_of hb d2); (try replace dl := up_of hb dl)))
    go_ret2
    exact ⟨rfl, hB⟩
  have hb : recB n l K = true := by
    cases hb : recB n l K
    · unfold liC at hc; rw [hb] at hc; simp at hc
    · rfl
  have hl : L.length ≤ 5000 := by
    by_cases hl : L.length ≤ 5000
    · exact hl
    · unfold liC at hc; rw [hb] at hc; simp [hl] at hc
  have hcA : icA n l K L = icB K (pts n l) L := by unfold icA; rw [hb]; simp [hl]
  have ok := netOk hb
  have hli2 := fun V (h : RecM V s l s2 cq K) => (hli V h).mono (R' := fun e w' => (∃ g sp cp mb, e = .returned (.tuple #[.pointer (some ⟨g, 0, none⟩), .int .i64 0]) ∧ Net 106 w' g n s cap l s2 cq K sp cp mb (pts n l)) ∧ Below V.heap.size V w') (fun e w' ⟨h1, h2⟩ => ⟨by
    rcases h1 with ⟨h1, -⟩ | ⟨-, -, h1⟩
    · exact absurd hc h1
    · exact h1, h2⟩)
  rw [hcA, hc]
  obtain ⟨P, hP⟩ : ∃ P, pts n l = P := ⟨_, rfl⟩
  simp only [hP] at hli2 ok ⊢
  clear hP hcA hno hc hb hli
  have hch := fun g sp cp mb V (h : Net 106 V g n s cap l s2 cq K sp cp mb P) (hs : SlS arE V sl L) => nchain_c sl cl L V h ok hs hl hI
  have hic : icB K P L = (chB K P L && (decide (L.length ≠ 0) && (endB K P L && decide L.Nodup))) := rfl
  have hnd := fun (h : chB K P L = true) => nd_nums ok h
  have hel := fun (h : chB K P L = true) => chB_el h
  obtain ⟨IC, hIC⟩ : ∃ x, icB K P L = x := ⟨_, rfl⟩
  rw [hIC] at hic ⊢
  obtain ⟨CB, hCB⟩ : ∃ x, chB K P L = x := ⟨_, rfl⟩
  simp only [hCB] at hch hic hnd hel
  clear hIC hCB
  have hus := fun k u (hk : k < K.length * P.length) g sp cp mb V (h : Net 106 V g n s cap l s2 cq K sp cp mb P) => uses_c k u V h ok hk
  have hlt := fun (y : Ar) (h : isEl K P y.v y.p = true) => (by rw [isEl_in, Bool.and_eq_true] at h; exact (elOf_num ok h.2 h.1).2 : elNum P y < K.length * P.length)
  obtain ⟨M, hM⟩ : ∃ x, toI (L.map (elNum P)) = x := ⟨_, rfl⟩
  have hMl : M.length = L.length := by rw [← hM, toI_len]; simp
  have hMi : ∀ i (hi : i < L.length) (h : i < M.length), M[i] = ((elNum P L[i] : Nat) : Int) := fun i hi h => by subst hM; rw [toI_at h (by simpa using hi)]; simp
  simp only [hM] at hch hnd
  have hso := fun (base cap : Nat) (s : Option Addr) (w : World) (hown : w.ownsRow base 3 1 (.slice s M.length cap) M.length (intE.all M)) (hb : base ≤ w.heap.size) => sortI_c base cap s M w hown hb (by omega)
  have hcs := compact_sort M
  have hSl : (M.mergeSort fun x y => decide (x ≤ y)).length = L.length := by rw [List.length_mergeSort, hMl]
  obtain ⟨S, hS⟩ : ∃ x, (M.mergeSort fun x y => decide (x ≤ y)) = x := ⟨_, rfl⟩
  simp only [hS] at hso hcs hSl
  have hco := fun (base cap : Nat) (s : Option Addr) (w : World) (hown : w.ownsRow base 3 1 (.slice s S.length cap) S.length (intE.all S)) (hb : base ≤ w.heap.size) => (compactI_c base cap s S w hown hb (by omega)).mono (R' := fun e w' => e = .returned (.slice s (Lib.compact S).length cap) ∧ Below base w w') (fun e w' ⟨h1, _, h2⟩ => ⟨h1, h2⟩)
  rw [hMl] at hcs
  simp only [hMl] at hso
  simp only [hSl] at hco hso
  obtain ⟨CL, hCL⟩ : ∃ x, (Lib.compact S).length = x := ⟨_, rfl⟩
  simp only [hCL] at hcs hco
  clear hCL hS hM ok
  replace hli2 := Lib.hid hli2; replace hch := Lib.hid hch; replace hic := Lib.hid hic; replace hnd := Lib.hid hnd; replace hel := Lib.hid hel; replace hus := Lib.hid hus; replace hlt := Lib.hid hlt; replace hMl := Lib.hid hMl; replace hMi := Lib.hid hMi; replace hso := Lib.hid hso; replace hcs := Lib.hid hcs; replace hco := Lib.hid hco; replace hSl := Lib.hid hSl
  clear hI
  go_enter Try.func46, Try.ntmps46
  go_upto_region 1 with (fail)
  refine wp_world fun W HW => ?_
  have hB : Below w.heap.size w W := by rw [HW.out]; (repeat (first | exact Below.refl _ _ | refine Below.alloc ?_ (by simp; try omega) _ | refine Below.setCell ?_ (by simp) _ | refine Below.drew ?_))
  have d0 : W.cell? ⟨w.heap.size, 0, none⟩ = some (.int .i64 n) := by rw [HW.out]; simp [go_sem]
  have d1 : W.cell? ⟨w.heap.size, 1, none⟩ = some (.slice s l.length cap) := by rw [HW.out]; simp [go_sem]
  have d2 : W.cell? ⟨w.heap.size, 2, none⟩ = some (.slice s2 K.length cq) := by rw [HW.out]; simp [go_sem]
  have dl : w.heap.size < W.heap.size := World.block_lt_of_cell? W _ d0
  try replace hr := up_of hB hr
  try replace hs := up_of hB hs
  go_upto_region 4 with (first | (go_at_call 70; refine (hli2.out _ hr).mono ?_; rintro e A ⟨⟨g, sp, cp, mb, rfl, hnt⟩, hb⟩; (try replace hr := up_of hb hr); (try replace hs := up_of hb hs); (try replace hB := up_of hb hB); (try replace d0 := up_of hb d0); (try replace d1 := up_of hb d1); (try replace d2 := up_of hb d2); (try replace dl := up_of hb dl)))
  clear hr d0 d1 d2 dl
  have hAB := Lib.hid hB
  go_upto_region 5 with (first | (go_at_call 71; refine (hch.out _ _ _ _ _ hnt hs).mono ?_; rintro e W2 ⟨h3, hb⟩; replace hB := up_of hb hB; replace hnt := up_of hb hnt; rcases h3 with ⟨rfl, v, rfl, hown⟩ | ⟨rfl, rfl⟩))
  rotate_left
  · have hIf : false = IC := by rw [hic.out]; rfl
    subst hIf
    clear hic
    refine region_q (by kernel_rfl) (by kernel_rfl) ?_
    dsimp only [List.toList_toArray]
    repeat (first
     | go_big_quiet_skip
     | (go_big_quiet_want
        first
        | (refine qq_det ?_
           apply Exists.intro; refine ⟨fun W' hW' => ?_, ?_⟩
           (· have hk := cellB hW'; go_simp; try (first | rfl | rw [if_pos (by omega)]))
           simp only [Act.put, List.setIfInBounds_toArray, List.set_cons_zero, List.set_cons_succ]; go_big_quiet_on)))
    refine wpQuiet_nil ?_
    intro X1 hb
    try replace hB := up_of hb hB
    go_wp2
    go_ret2
    exact ⟨rfl, hB⟩
  by_cases hl0 : L.length = 0
  · have hIf : false = IC := by rw [hic.out, hl0]; rfl
    subst hIf
    have hl1 : ((L.length : Int) == 0) = true := by simpa using hl0
    replace hl0 := Lib.hid hl0
    clear hic hown
    refine region_q (by kernel_rfl) (by kernel_rfl) ?_
    dsimp only [List.toList_toArray]
    repeat (first
     | go_big_quiet_skip
     | (go_big_quiet_want
        first
        | (refine qq_det ?_
           apply Exists.intro; refine ⟨fun W' hW' => ?_, ?_⟩
           (· have hk := cellB hW'; go_simp; try (first | rfl | rw [if_pos (by omega)]))
           simp only [Act.put, List.setIfInBounds_toArray, List.set_cons_zero, List.set_cons_succ]; go_big_quiet_on)))
    refine wpQuiet_nil ?_
    intro X1 hb
    try replace hB := up_of hb hB
    go_wp2
    go_ret2
    exact ⟨rfl, hB⟩
  have hl1 : ((L.length : Int) == 0) = false := by simpa using hl0
  have hpos : 0 < L.length := by omega
  obtain ⟨p, hp⟩ : ∃ p, L.length - 1 = p := ⟨_, rfl⟩
  have hpL : p < L.length := by omega
  have hpi : (L.length : Int) - 1 = (p : Int) := by omega
  have hic2 : IC = (endB K P L && decide L.Nodup) := by rw [hic.out]; simp [hl0]
  unfold endB at hic2
  rw [hp, getD_el hpos, getD_el hpL] at hic2
  have hM0 : 0 < M.length := by rw [hMl.out]; exact hpos
  have hMp : p < M.length := by rw [hMl.out]; exact hpL
  obtain ⟨so, co, eo, -⟩ := owns_shape hown
  subst eo
  have hown1 := hown
  rw [← hMl.out] at hown1
  obtain ⟨bo, oo, eo2, hbo, r0⟩ := (SlS.of_own (E := intE) hown1).int_at hM0
  obtain ⟨bo2, oo2, eo3, hbo2, y0⟩ := (SlS.of_own (E := intE) hown1).int_at hMp
  cases eo2
  cases eo3
  rw [hMi.out 0 hpos hM0, Nat.add_zero] at r0
  rw [hMi.out p hpL hMp] at y0
  have hk0 := hlt.out _ (hel.out (by trivial) _ (List.getElem_mem hpos))
  have hnd2 := hnd.out (by trivial)
  obtain ⟨a, ha⟩ : ∃ a, elNum P L[0] = a := ⟨_, rfl⟩
  obtain ⟨b, hbb⟩ : ∃ a, elNum P L[p] = a := ⟨_, rfl⟩
  rw [ha] at r0 hk0 hic2
  rw [hbb] at y0 hic2
  have hU := fun g sp cp mb V h => hus.out a b hk0 g sp cp mb V h
  obtain ⟨UB, hUB⟩ : ∃ x, (useN K P a).contains b = x := ⟨_, rfl⟩
  simp only [hUB] at hU hic2
  have hpw : IntKind.i64.wrap (p : Int) = (p : Int) := i64_small (by omega)
  have p1 : (0 : Int) ≤ (p : Int) := by omega
  have p2 : (p : Int) < (L.length : Int) := by omega
  have p3 : (0 : Int) < (L.length : Int) := by omega
  replace hl0 := Lib.hid hl0; replace hp := Lib.hid hp; replace ha := Lib.hid ha; replace hbb := Lib.hid hbb; replace hUB := Lib.hid hUB; replace hU := Lib.hid hU; replace hic2 := Lib.hid hic2; replace hnd2 := Lib.hid hnd2
  clear hic hown1 hnd hch hli2 hel hlt hus
  cases UB
  · have hIf : false = IC := by rw [hic2.out]; rfl
    subst hIf
    clear hic2 hown
    try have ld_r0 := World.block_lt_of_cell? _ _ r0
    try have ld_y0 := World.block_lt_of_cell? _ _ y0
    refine region_q (by kernel_rfl) (by kernel_rfl) ?_
    dsimp only [List.toList_toArray]
    repeat (first
     | go_big_quiet_skip
     | (go_big_quiet_want
        first
        | (refine qq_det ?_
           apply Exists.intro; refine ⟨fun W' hW' => ?_, ?_⟩
           (· have hk := cellB hW'; go_simp; try (first | rfl | rw [if_pos (by omega)]))
           simp only [Act.put, List.setIfInBounds_toArray, List.set_cons_zero, List.set_cons_succ]; go_big_quiet_on)
        | (refine qq_call ?_
           apply Exists.intro; apply Exists.intro; refine ⟨fun W' hW' => ?_, ?_⟩
           (· have hk := cellB hW'; go_simp; exact ⟨rfl, rfl⟩)
           apply Exists.intro; refine ⟨fun W' hW' => ?_, ?_⟩
           (· first | (go_at_call 89; exact qc hW' (hU.out _ _ _ _ _ (up_of hW' hnt))))
           simp only [Act.put, List.setIfInBounds_toArray, List.set_cons_zero, List.set_cons_succ]; go_big_quiet_on)))
    refine wpQuiet_nil ?_
    intro X1 hb
    try replace hB := up_of hb hB
    try replace hnt := up_of hb hnt
    try replace r0 := up_of hb r0
    try replace y0 := up_of hb y0
    go_wp2
    go_ret2
    exact ⟨rfl, hB⟩
  try have ld_r0 := World.block_lt_of_cell? _ _ r0
  try have ld_y0 := World.block_lt_of_cell? _ _ y0
  refine region_q (by kernel_rfl) (by kernel_rfl) ?_
  dsimp only [List.toList_toArray]
  repeat (first
   | go_big_quiet_skip
   | (go_big_quiet_want
      first
      | (refine qq_det ?_
         apply Exists.intro; refine ⟨fun W' hW' => ?_, ?_⟩
         (· have hk := cellB hW'; go_simp; try (first | rfl | rw [if_pos (by omega)]))
         simp only [Act.put, List.setIfInBounds_toArray, List.set_cons_zero, List.set_cons_succ]; go_big_quiet_on)
      | (refine qq_call ?_
         apply Exists.intro; apply Exists.intro; refine ⟨fun W' hW' => ?_, ?_⟩
         (· have hk := cellB hW'; go_simp; exact ⟨rfl, rfl⟩)
         apply Exists.intro; refine ⟨fun W' hW' => ?_, ?_⟩
         (· first | (go_at_call 89; exact qc hW' (hU.out _ _ _ _ _ (up_of hW' hnt))))
         simp only [Act.put, List.setIfInBounds_toArray, List.set_cons_zero, List.set_cons_succ]; go_big_quiet_on)))
  refine wpQuiet_nil ?_
  intro X1 hb
  try replace hB := up_of hb hB
  try replace hnt := up_of hb hnt
  try replace r0 := up_of hb r0
  try replace y0 := up_of hb y0
  try replace hown := up_of hb hown
  have hAs := hAB.out.size
  have hA2 : A.heap.size ≤ X1.heap.size := Nat.le_trans (by have := World.block_lt_of_cell? _ _ r0; have := (hown.lt bo rfl); omega) (Nat.le_refl _)
  clear r0 y0 hnt
  go_wp2_with (first | (go_at_call 90; refine (hso.out _ _ _ _ hown hA2).mono ?_; rintro e W3 ⟨rfl, hown3, hb⟩; replace hB := hB.trans (hb.mono hAs); have hA3 := Nat.le_trans hA2 hb.size; clear hown) | (go_at_call 91; refine (hco.out _ _ _ _ hown3 hA3).mono ?_; rintro e W4 ⟨rfl, hb⟩; replace hB := hB.trans (hb.mono hAs)))
  go_ret2
  by_cases hCL : CL = L.length
  · have h2 : L.Nodup := hnd2.out.1 (hcs.out.1 hCL)
    rw [hic2.out, hCL, decide_eq_true h2]
    exact ⟨by simp, hB⟩
  · have h2 : ¬ L.Nodup := fun h => hCL (hcs.out.2 (hnd2.out.2 h))
    have h3 : ((CL : Int) == (L.length : Int)) = false := by simpa using fun h => hCL (by omega)
    rw [hic2.out, decide_eq_false h2]
    exact ⟨by rw [h3]; rfl, hB⟩
end
end Go.Proofs.Ytadmnlkgefbhcaa
