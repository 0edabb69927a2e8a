/- Which lists are circles: the reference. -/
import Derived.Test.YtakbpjgnjfigcaaGreatCircD
import Derived.Test.YtakbpjgnjfigcaaGreatElKey
namespace Go.Proofs.YtakbpjgnjfigcaaGreat
open Go.RowKit Go.Maps

theorem zero_bool3 (w : World) : (zeroValue 4).run Tryz.prog w = .ok (.bool false) w := by kernel_rfl
theorem nd_take {L : List Ar} {k : Nat} (hk : k < L.length) (h : (L.take k).Nodup) (hn : L[k] ∉ L.take k) : (L.take (k + 1)).Nodup := by
  rw [List.take_succ_eq_append_getElem hk, List.nodup_append]
  refine ⟨h, by simp, ?_⟩
  intro a ha b hb e
  simp only [List.mem_singleton] at hb
  exact hn (by rw [← hb, ← e]; exact ha)
theorem nd_not {L : List Ar} {k : Nat} (hk : k < L.length) (h : L[k] ∈ L.take k) : ¬ L.Nodup := by
  intro hn
  obtain ⟨j, hj, e⟩ := List.getElem_of_mem h
  rw [List.getElem_take] at e
  rw [List.length_take] at hj
  rw [List.nodup_iff_pairwise_ne, List.pairwise_iff_getElem] at hn
  exact hn j k (by omega) hk (by omega) e
section
variable (n : Int) (s : Option Addr) (cap : Nat) (l : List Iq) (s2 : Option Addr) (cq : Nat) (K : List Vv) (sl : Option Addr) (cl : Nat) (L : List Ar) (w : World) (hr : RecM w s l s2 cq K)
include hr
set_option maxRecDepth 100000 in
set_option maxHeartbeats 2000000 in
theorem rIsCircle_c (hll : L.length ≤ 9223372036854775807) (hs : SlS arE w sl L) (hI0 : ∀ y ∈ L, y.I64) :
    Calls Tryz.prog 11 #[.agg #[.int .i64 n, .slice s l.length cap, .slice s2 K.length cq], .slice sl L.length cl] w fun e w' => e = .returned (.tuple #[.bool (icA n l K L), .int .i64 (liC n l K L)]) ∧ Below w.heap.size w w' := by
  have hI : ∀ y ∈ L, y.p.I64 := fun y hy => (hI0 y hy).2
  have hli := fun V (h : RecM V s l s2 cq K) => asked_c2 n s cap l s2 cq K sl cl L V h hll
  have hno := fun h => icA_no (n := n) (l := l) (K := K) (L := L) h
  by_cases hc : liC n l K L = 0
  case neg =>
    have hcA := hno hc
    rw [hcA]
    obtain ⟨CC, hCC⟩ : ∃ x, liC n l K L = x := ⟨_, rfl⟩
    simp only [hCC] at hc hli ⊢
    have hcc2 : (CC != 0) = true := by simpa using hc
    replace hli := Lib.hid hli; replace hc := Lib.hid hc; replace hCC := Lib.hid hCC
    clear hno hcA hs
    go_enter Tryz.func11, Tryz.ntmps11
    go_upto_region 1 with (fail)
    refine wp_world fun W HW => ?_
    have hB : Below w.heap.size w W := by rw [HW.out]; (repeat (first | exact Below.refl _ _ | refine Below.alloc ?_ (by simp; try omega) _ | refine Below.setCell ?_ (by simp) _ | refine Below.drew ?_))
    have d0 : W.cell? ⟨w.heap.size, 0, none⟩ = some (.int .i64 n) := by rw [HW.out]; simp [go_sem]
    have d1 : W.cell? ⟨w.heap.size, 1, none⟩ = some (.slice s l.length cap) := by rw [HW.out]; simp [go_sem]
    have d2 : W.cell? ⟨w.heap.size, 2, none⟩ = some (.slice s2 K.length cq) := by rw [HW.out]; simp [go_sem]
    have dl : w.heap.size < W.heap.size := World.block_lt_of_cell? W _ d0
    try replace hr := up_of hB hr
    go_wp2_with (first | (go_at_call 40; refine (hli.out _ hr).mono ?_; rintro e W1 ⟨rfl, hb⟩; (try replace hr := up_of hb hr); (try replace hB := up_of hb hB); (try replace d0 := up_of hb d0); (try replace d1 := up_of hb d1); (try replace d2 := up_of hb d2); (try replace dl := up_of hb dl)))
    go_ret2
    exact ⟨rfl, hB⟩
  have hb : recB n l K = true := by
    cases hb : recB n l K
    · unfold liC at hc; rw [hb] at hc; simp at hc
    · rfl
  have hl : L.length ≤ 5000 := by
    by_cases hl : L.length ≤ 5000
    · exact hl
    · unfold liC at hc; rw [hb] at hc; simp [hl] at hc
  have hcA : icA n l K L = icB K (pts n l) L := by unfold icA; rw [hb]; simp [hl]
  have ok := netOk hb
  have hof := fun V (h : RecM V s l s2 cq K) => Of_c n s cap l s2 cq K V h ok.dim ok
  rw [hcA, hc]
  simp only [hc] at hli
  obtain ⟨P, hP⟩ : ∃ P, pts n l = P := ⟨_, rfl⟩
  simp only [hP] at hof ok ⊢
  clear hP hcA hno hc hb
  have hch := fun g sp cp mb V (h : Net 142 V g n s cap l s2 cq K sp cp mb P) (hs : SlS arE V sl L) => rchain_c sl cl L V h ok hs hl hI
  have hus := fun (y x : Ar) (hy : isEl K P y.v y.p = true) (hx : isEl K P x.v x.p = true) g sp cp mb V (h : Net 142 V g n s cap l s2 cq K sp cp mb P) => ruses_c y x V h ok hy hx
  have hic : icB K P L = (chB K P L && (decide (L.length ≠ 0) && (endB K P L && decide L.Nodup))) := rfl
  have hel := fun (h : chB K P L = true) => chB_el h
  obtain ⟨IC, hIC⟩ : ∃ x, icB K P L = x := ⟨_, rfl⟩
  rw [hIC] at hic ⊢
  obtain ⟨CB, hCB⟩ : ∃ x, chB K P L = x := ⟨_, rfl⟩
  simp only [hCB] at hch hic hel
  clear hIC hCB ok
  have hmm := @run_makeMap Tryz.prog
  replace hli := Lib.hid hli; replace hof := Lib.hid hof; replace hch := Lib.hid hch; replace hic := Lib.hid hic; replace hel := Lib.hid hel; replace hus := Lib.hid hus; replace hI0 := Lib.hid hI0
  clear hI
  go_enter Tryz.func11, Tryz.ntmps11
  go_upto_region 1 with (fail)
  refine wp_world fun W HW => ?_
  have hB : Below w.heap.size w W := by rw [HW.out]; (repeat (first | exact Below.refl _ _ | refine Below.alloc ?_ (by simp; try omega) _ | refine Below.setCell ?_ (by simp) _ | refine Below.drew ?_))
  have d0 : W.cell? ⟨w.heap.size, 0, none⟩ = some (.int .i64 n) := by rw [HW.out]; simp [go_sem]
  have d1 : W.cell? ⟨w.heap.size, 1, none⟩ = some (.slice s l.length cap) := by rw [HW.out]; simp [go_sem]
  have d2 : W.cell? ⟨w.heap.size, 2, none⟩ = some (.slice s2 K.length cq) := by rw [HW.out]; simp [go_sem]
  have dl : w.heap.size < W.heap.size := World.block_lt_of_cell? W _ d0
  try replace hr := up_of hB hr
  try replace hs := up_of hB hs
  go_upto_region 5 with (first | (go_at_call 40; refine (hli.out _ hr).mono ?_; rintro e W1 ⟨rfl, hb⟩; (try replace hr := up_of hb hr); (try replace hs := up_of hb hs); (try replace hB := up_of hb hB); (try replace d0 := up_of hb d0); (try replace d1 := up_of hb d1); (try replace d2 := up_of hb d2); (try replace dl := up_of hb dl)) | (go_at_call 41; refine (hof.out _ hr).mono ?_; rintro e A ⟨⟨g, sp, cp, mb, rfl, hnt⟩, hb⟩; (try replace hr := up_of hb hr); (try replace hs := up_of hb hs); (try replace hB := up_of hb hB); (try replace d0 := up_of hb d0); (try replace d1 := up_of hb d1); (try replace d2 := up_of hb d2); (try replace dl := up_of hb dl)))
  clear hr d0 d1 d2 dl
  by_cases hl0 : L.length = 0
  · have hIf : false = IC := by rw [hic.out, hl0]; cases CB <;> rfl
    subst hIf
    have hl1 : ((L.length : Int) == 0) = true := by simpa using hl0
    replace hl0 := Lib.hid hl0
    clear hic
    refine region_q (by kernel_rfl) (by kernel_rfl) ?_
    dsimp only [List.toList_toArray]
    repeat (first
     | go_big_quiet_skip
     | (go_big_quiet_want
        first
        | (refine qq_det ?_
           apply Exists.intro; refine ⟨fun W' hW' => ?_, ?_⟩
           (· have hk := cellB hW'; go_simp; try (first | rfl | rw [if_pos (by omega)]))
           simp only [Act.put, List.setIfInBounds_toArray, List.set_cons_zero, List.set_cons_succ]; go_big_quiet_on)))
    refine wpQuiet_nil ?_
    intro X1 hb
    try replace hB := up_of hb hB
    try replace hnt := up_of hb hnt
    try replace hs := up_of hb hs
    go_wp2
    go_ret2
    exact ⟨rfl, hB⟩
  have hl1 : ((L.length : Int) == 0) = false := by simpa using hl0
  cases CB
  · have hIf : false = IC := by rw [hic.out]; rfl
    subst hIf
    replace hl0 := Lib.hid hl0
    clear hic
    refine region_q (by kernel_rfl) (by kernel_rfl) ?_
    dsimp only [List.toList_toArray]
    repeat (first
     | go_big_quiet_skip
     | (go_big_quiet_want
        first
        | (refine qq_det ?_
           apply Exists.intro; refine ⟨fun W' hW' => ?_, ?_⟩
           (· have hk := cellB hW'; go_simp; try (first | rfl | rw [if_pos (by omega)]))
           simp only [Act.put, List.setIfInBounds_toArray, List.set_cons_zero, List.set_cons_succ]; go_big_quiet_on)
        | (refine qq_call ?_
           apply Exists.intro; apply Exists.intro; refine ⟨fun W' hW' => ?_, ?_⟩
           (· have hk := cellB hW'; go_simp; exact ⟨rfl, rfl⟩)
           apply Exists.intro; refine ⟨fun W' hW' => ?_, ?_⟩
           (· first | (go_at_call 42; exact qc hW' (hch.out _ _ _ _ _ (up_of hW' hnt) (up_of hW' hs))))
           simp only [Act.put, List.setIfInBounds_toArray, List.set_cons_zero, List.set_cons_succ]; go_big_quiet_on)))
    refine wpQuiet_nil ?_
    intro X1 hb
    try replace hB := up_of hb hB
    try replace hnt := up_of hb hnt
    try replace hs := up_of hb hs
    go_wp2
    go_ret2
    exact ⟨rfl, hB⟩
  have hpos : 0 < L.length := by omega
  obtain ⟨p, hp⟩ : ∃ p, L.length - 1 = p := ⟨_, rfl⟩
  have hpL : p < L.length := by omega
  have hpi : (L.length : Int) - 1 = (p : Int) := by omega
  have hic2 : IC = (endB K P L && decide L.Nodup) := by rw [hic.out]; simp [hl0]
  unfold endB at hic2
  rw [hp, getD_el hpos, getD_el hpL] at hic2
  obtain ⟨ba, oa, ea, hba, z0, z1, z2, z3⟩ := hs.ar_at hpos
  obtain ⟨ba2, oa2, ea2, -, y0, y1, y2, y3⟩ := hs.ar_at hpL
  cases ea
  cases ea2
  have hs9 := Lib.hid hs
  have hel2 := hel.out (by trivial)
  have hx0 := hel2 _ (List.getElem_mem hpos)
  have hxp := hel2 _ (List.getElem_mem hpL)
  simp only [Nat.zero_mul, Nat.add_zero] at z0 z1 z2 z3
  have hU := fun g sp cp mb V h => hus.out _ _ hx0 hxp g sp cp mb V h
  obtain ⟨UB, hUB⟩ : ∃ x, (useN K P (elNum P L[0])).contains (elNum P L[p]) = x := ⟨_, rfl⟩
  simp only [hUB] at hU hic2
  obtain ⟨⟨zv, ⟨zx, zy, zz⟩⟩, hze⟩ : ∃ x, L[0] = x := ⟨_, rfl⟩
  obtain ⟨⟨yv, ⟨yx, yy, yz⟩⟩, hye⟩ : ∃ x, L[p] = x := ⟨_, rfl⟩
  simp only [hze] at z0 z1 z2 z3 hU
  simp only [hye] at y0 y1 y2 y3 hU
  have hpw : IntKind.i64.wrap (p : Int) = (p : Int) := i64_small (by omega)
  have p1 : (0 : Int) ≤ (p : Int) := by omega
  have p2 : (p : Int) < (L.length : Int) := by omega
  have p3 : (0 : Int) < (L.length : Int) := by omega
  replace hl0 := Lib.hid hl0; replace hp := Lib.hid hp; replace hUB := Lib.hid hUB; replace hU := Lib.hid hU; replace hic2 := Lib.hid hic2; replace hze := Lib.hid hze; replace hye := Lib.hid hye
  clear hic hel2 hx0 hxp hel hus hof hli
  cases UB
  · have hIf : false = IC := by rw [hic2.out]; rfl
    subst hIf
    clear hic2
    try have ld_z0 := World.block_lt_of_cell? _ _ z0
    try have ld_y0 := World.block_lt_of_cell? _ _ y0
    refine region_q (by kernel_rfl) (by kernel_rfl) ?_
    dsimp only [List.toList_toArray]
    repeat (first
     | go_big_quiet_skip
     | (go_big_quiet_want
        first
        | (refine qq_det ?_
           apply Exists.intro; refine ⟨fun W' hW' => ?_, ?_⟩
           (· have hk := cellB hW'; go_simp; try (first | rfl | rw [if_pos (by omega)]))
           simp only [Act.put, List.setIfInBounds_toArray, List.set_cons_zero, List.set_cons_succ]; go_big_quiet_on)
        | (refine qq_call ?_
           apply Exists.intro; apply Exists.intro; refine ⟨fun W' hW' => ?_, ?_⟩
           (· have hk := cellB hW'; go_simp; exact ⟨rfl, rfl⟩)
           apply Exists.intro; refine ⟨fun W' hW' => ?_, ?_⟩
           (· first | (go_at_call 42; exact qc hW' (hch.out _ _ _ _ _ (up_of hW' hnt) (up_of hW' hs))) | (go_at_call 43; exact qc hW' (hU.out _ _ _ _ _ (up_of hW' hnt))))
           simp only [Act.put, List.setIfInBounds_toArray, List.set_cons_zero, List.set_cons_succ]; go_big_quiet_on)))
    refine wpQuiet_nil ?_
    intro X1 hb
    try replace hB := up_of hb hB
    try replace hnt := up_of hb hnt
    try replace hs := up_of hb hs
    try replace z0 := up_of hb z0
    try replace z1 := up_of hb z1
    try replace z2 := up_of hb z2
    try replace z3 := up_of hb z3
    try replace y0 := up_of hb y0
    try replace y1 := up_of hb y1
    try replace y2 := up_of hb y2
    try replace y3 := up_of hb y3
    go_wp2
    go_ret2
    exact ⟨rfl, hB⟩
  try have ld_z0 := World.block_lt_of_cell? _ _ z0
  try have ld_y0 := World.block_lt_of_cell? _ _ y0
  refine region_q (by kernel_rfl) (by kernel_rfl) ?_
  dsimp only [List.toList_toArray]
  repeat (first
   | go_big_quiet_skip
   | (go_big_quiet_want
      first
      | (refine qq_det ?_
         apply Exists.intro; refine ⟨fun W' hW' => ?_, ?_⟩
         (· have hk := cellB hW'; go_simp; try (first | rfl | rw [if_pos (by omega)]))
         simp only [Act.put, List.setIfInBounds_toArray, List.set_cons_zero, List.set_cons_succ]; go_big_quiet_on)
      | (refine qq_call ?_
         apply Exists.intro; apply Exists.intro; refine ⟨fun W' hW' => ?_, ?_⟩
         (· have hk := cellB hW'; go_simp; exact ⟨rfl, rfl⟩)
         apply Exists.intro; refine ⟨fun W' hW' => ?_, ?_⟩
         (· first | (go_at_call 42; exact qc hW' (hch.out _ _ _ _ _ (up_of hW' hnt) (up_of hW' hs))) | (go_at_call 43; exact qc hW' (hU.out _ _ _ _ _ (up_of hW' hnt))))
         simp only [Act.put, List.setIfInBounds_toArray, List.set_cons_zero, List.set_cons_succ]; go_big_quiet_on)))
  refine wpQuiet_nil ?_
  intro X1 hb
  try replace hB := up_of hb hB
  try replace hnt := up_of hb hnt
  try replace hs := up_of hb hs
  try replace z0 := up_of hb z0
  try replace z1 := up_of hb z1
  try replace z2 := up_of hb z2
  try replace z3 := up_of hb z3
  try replace y0 := up_of hb y0
  try replace y1 := up_of hb y1
  try replace y2 := up_of hb y2
  try replace y3 := up_of hb y3
  have hic3 : IC = decide L.Nodup := by rw [hic2.out]; rfl
  replace hic3 := Lib.hid hic3
  clear hnt hU hch hic2 z0 z1 z2 z3 y0 y1 y2 y3
  go_upto_region 8 with (fail)
  refine wp_world fun Y HY => ?_
  have hBY : Below X1.heap.size X1 Y := by
    rw [HY.out]
    repeat (first | (with_reducible exact Below.refl _ _) | (with_reducible refine Below.drew ?_) | ((with_reducible refine Below.setC ?_ ?_); (focus (first | omega | (simp; done) | (simp; omega)))) | ((with_reducible refine Below.allo ?_ ?_); (focus (first | omega | (simp; done) | (simp; omega)))))
  have hM0 : Y.ownsMap Tryz.prog 90 (plainElem Tryz.prog 4) X1.heap.size 0 (elD L 0) := by
    rw [HY.out]; exact World.ownsMap_made _ _ _ _
  have hsY := Lib.hid (up_of hBY hs)
  have hB2 := Lib.hid (up_of hBY hB)
  have hXw := hB.size
  have hbam : ba < X1.heap.size := by have := hb.size; omega
  obtain ⟨bm, hbm⟩ : ∃ b, X1.heap.size = b := ⟨_, rfl⟩
  simp only [hbm] at hM0 hBY hXw hbam ⊢
  clear HY hs hB hs9
  have h00 := Below.refl bm Y
  go_wp2
  go_loopw [9] (fun ii V => ∃ k : Nat, k ≤ L.length ∧ ii = .int .i64 k ∧ V.ownsMap Tryz.prog 90 (plainElem Tryz.prog 4) bm k (elD L k) ∧ Hid ((L.take k).Nodup) ∧ Below bm Y V) (fun ii _ => L.length - (intOf ii).toNat)
  case atStart => exact ⟨0, by omega, rfl, hM0, Lib.hid (by simp), h00⟩
  case round =>
    clear hM0 h00
    obtain ⟨k, hk, rfl, hown, hnd, hBV⟩ := hrel
    have hB := hB2.out.trans (hBV.mono hXw)
    by_cases hlt : k < L.length
    · obtain ⟨b4, o4, e4, hb4, z0, z1, z2, z3⟩ := hsY.out.ar_at hlt
      cases e4
      have hcl : ∀ (o : Nat) (u : Value), Y.cell? ⟨ba, o, none⟩ = some u → wr.cell? ⟨ba, o, none⟩ = some u := fun o u c => (World.cell?_of_block (hBV.block ba hbam)).trans c
      replace z0 := hcl _ _ z0; replace z1 := hcl _ _ z1; replace z2 := hcl _ _ z2; replace z3 := hcl _ _ z3
      clear hcl
      have hyI := hI0.out _ (List.getElem_mem hlt)
      have hkey := key_of_el hyI
      have hlk : (Instr.lookup 91 (.map (some bm)) (evK L[k]) false).run Tryz.prog wr = .ok (.bool ((L.take k).contains L[k])) wr := by
        obtain ⟨c, h1, h2⟩ := lookup_bool hown key_elk Tryz.underlying91 Tryz.underlying4 (zero_bool3 _) hkey
        rw [elD_at hyI (by omega) hI0.out] at h2
        injection h2 with h2; injection h2 with h2
        rw [h2]; exact h1
      have hput := elD_put hlt
      have hyes := fun (h : L[k] ∈ L.take k) => nd_not hlt h
      have hno := fun (h : L[k] ∉ L.take k) => nd_take hlt hnd.out h
      unfold evK at hkey hlk
      obtain ⟨⟨qv, ⟨qx, qy, qz⟩⟩, hq⟩ : ∃ x, L[k] = x := ⟨_, rfl⟩
      rw [hq] at z0 z1 z2 z3 hkey hlk hput hyes hno hyI
      simp only at z0 z1 z2 z3 hkey hlk
      have i1 : (0 : Int) ≤ (k : Int) := by omega
      have i2 : (k : Int) < (L.length : Int) := by omega
      replace hq := Lib.hid hq; replace hput := Lib.hid hput
      by_cases hm : (⟨qv, ⟨qx, qy, qz⟩⟩ : Ar) ∈ L.take k
      · have hIf : false = IC := by rw [hic3.out, decide_eq_false (hyes hm)]
        subst hIf
        rw [List.contains_iff_mem.2 hm] at hlk
        clear hm hyes hno hic3 hnd
        go_wp2
        go_ret2
        exact ⟨rfl, hB⟩
      · have hn2 := hno hm
        have hc2 : (L.take k).contains (⟨qv, ⟨qx, qy, qz⟩⟩ : Ar) = false := by simpa using hm
        rw [hc2] at hlk
        replace hn2 := Lib.hid hn2; replace hkey := Lib.hid hkey
        clear hm hyes hno hnd hc2
        go_upto_region 10 with (at_mapUpdate; refine wpList_mapUpdate_own _ rfl _ _ _ 91 rfl 90 4 key_elk Tryz.underlying91 _ bm k (elD L k) rfl hown (by unfold maxLen; omega) _ _ _ rfl rfl hkey.out (.lit (.bool true)) [] (plainElem_bool Tryz.underlying4 true) ?_; intro w9 hown9 hgrow9)
        have hB9 : Below bm Y w9 := hBV.grown hgrow9 (by have := hBV.size; have := hBY.size; omega) (fun j e => by cases e; omega)
        rw [← hput.out] at hown9
        clear hown hBV hlk
        go_wp2
        go_roundw
        case rel => exact ⟨k + 1, by omega, rfl, hown9, hn2, hB9⟩
        case measure => exact meas hlt
    · obtain rfl : k = L.length := by omega
      have h9 := hnd.out
      rw [List.take_length] at h9
      have hIt : true = IC := by rw [hic3.out, decide_eq_true h9]
      subst hIt
      clear hic3 hnd h9 hown
      go_wp2
      go_ret2
      exact ⟨rfl, hB⟩
end
end Go.Proofs.YtakbpjgnjfigcaaGreat
