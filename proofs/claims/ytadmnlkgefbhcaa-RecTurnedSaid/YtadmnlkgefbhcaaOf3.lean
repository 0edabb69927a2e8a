/- What an element uses: the reference. -/
import Derived.Test.YtadmnlkgefbhcaaOf2
namespace Go.Proofs.Ytadmnlkgefbhcaa
open Go.RowKit Go.Maps

section
variable {g : Nat} {n : Int} {s : Option Addr} {cap : Nat} {l : List Iq} {s2 : Option Addr} {cq : Nat} {K : List Vv} {sp : Option Addr} {cp mb : Nat} {P : List Pt}
set_option maxRecDepth 100000 in
set_option maxHeartbeats 1000000 in
theorem rUses_c (v : Nat) (p : Pt) (w : World) (h : Net 64 w g n s cap l s2 cq K sp cp mb P) (ok : NetOk n K P) (hv : v < K.length) (hp : p.small 20) :
    Calls Try.prog 116 #[.pointer (some ⟨g, 0, none⟩), .agg #[.int .i64 v, .int .i64 p.x, .int .i64 p.y, .int .i64 p.z]] w fun e w' => (∃ s' c', e = .returned (.slice s' (usesE P p K[v].args).length c') ∧ SlS arE w' s' (usesE P p K[v].args) ∧ ∀ b o, s' = some ⟨b, o, none⟩ → w.heap.size ≤ b) ∧ Below w.heap.size w w' := by
  have his := fun (y : Ar) (hy : y.p.I64) V (h : Net 64 V g n s cap l s2 cq K sp cp mb P) => rIs_c y V h ok hy
  have haa := ok.args _ (List.getElem_mem hv)
  have hvar := fun V (h : Net 64 V g n s cap l s2 cq K sp cp mb P) => h.rc.vars.at hv
  have hkl := ok.vars
  obtain ⟨args, hargs⟩ : ∃ x, K[v].args = x := ⟨_, rfl⟩
  have harg : ∀ (j : Nat) (hj : j < args.length) (V : World), Net 64 V g n s cap l s2 cq K sp cp mb P → Calls Try.prog 35 #[.pointer (some ⟨g, 0, none⟩), .agg #[.int .i64 v, .int .i64 p.x, .int .i64 p.y, .int .i64 p.z], .int .i64 j] V fun e w' => e = .returned (.agg #[.int .i64 (argE p args[j]).v, .int .i64 (argE p args[j]).p.x, .int .i64 (argE p args[j]).p.y, .int .i64 (argE p args[j]).p.z]) ∧ Below V.heap.size V w' := by
    subst hargs; exact fun j hj V h => rArg_c v j p V h ok hv hj hp
  have hsm : ∀ (j : Nat) (hj : j < args.length), (argE p args[j]).p.I64 := by
    subst hargs; exact fun j hj => small_i64 (ptP_small hp (ok.shift _ (List.getElem_mem hv) _ (List.getElem_mem hj))) (by omega)
  have hva : ∀ (j : Nat) (hj : j < args.length), bw 0 args[j].v (K.length - 1) = true := by
    subst hargs; exact fun j hj => ok.var _ (List.getElem_mem hv) _ (List.getElem_mem hj)
  simp only [hargs] at haa hvar ⊢
  obtain ⟨UU, hUU⟩ : ∃ x, usesE P p args = x := ⟨_, rfl⟩
  rw [hUU]
  have hus : UU = ([] : List Ar) ++ ((args.drop 0).map (argE p)).filter (isIn P) := by rw [← hUU]; rfl
  obtain ⟨⟨x, y, z⟩, hpp⟩ : ∃ q, p = q := ⟨_, rfl⟩
  subst hpp
  have i1 : (0 : Int) ≤ (v : Int) := by omega
  have i2 : (v : Int) < (K.length : Int) := by omega
  replace harg := Lib.hid harg; replace his := Lib.hid his; replace hsm := Lib.hid hsm; replace hva := Lib.hid hva; replace hvar := Lib.hid hvar; replace hus := Lib.hid hus
  clear hUU hargs hp ok
  go_enter Try.func116, Try.ntmps116
  go_upto_region 1 with (fail)
  refine wp_world fun W HW => ?_
  have hB : Below w.heap.size w W := by rw [HW.out]; (repeat (first | exact Below.refl _ _ | refine Below.alloc ?_ (by simp; try omega) _ | refine Below.setCell ?_ (by simp) _ | refine Below.drew ?_))
  have q0 : W.cell? ⟨w.heap.size, 0, none⟩ = some (.int .i64 v) := by rw [HW.out]; simp [go_sem]
  have q1 : W.cell? ⟨w.heap.size, 1, none⟩ = some (.int .i64 x) := by rw [HW.out]; simp [go_sem]
  have q2 : W.cell? ⟨w.heap.size, 2, none⟩ = some (.int .i64 y) := by rw [HW.out]; simp [go_sem]
  have q3 : W.cell? ⟨w.heap.size, 3, none⟩ = some (.int .i64 z) := by rw [HW.out]; simp [go_sem]
  have ql : w.heap.size < W.heap.size := World.block_lt_of_cell? W _ q0
  try replace h := up_of hB h
  have hWw0 := hB.size
  have hown0 : W.ownsRow W.heap.size 38 4 (.slice none 0 0) 0 (arE.all []) := World.ownsRow_nil _ _ _ _
  go_wp2
  go_loopw [5, 6] (fun ov jj V => ∃ (j : Nat) (pre : List Ar), j ≤ args.length ∧ jj = .int .i64 j ∧ V.ownsRow W.heap.size 38 4 ov pre.length (arE.all pre) ∧ pre.length ≤ j ∧ Hid (UU = pre ++ ((args.drop j).map (argE ⟨x, y, z⟩)).filter (isIn P)) ∧ Below W.heap.size W V) (fun _ jj _ => args.length - (intOf jj).toNat)
  case atStart => exact ⟨0, [], by omega, rfl, hown0, by simp, hus, Below.refl _ _⟩
  case round =>
    clear hown0 hus
    obtain ⟨j, pre, hj, rfl, hown, hpj, hpre, hBV⟩ := hrel
    try replace h := up_of hBV h
    try replace hB := up_of hBV hB
    try replace q0 := up_of hBV q0
    try replace q1 := up_of hBV q1
    try replace q2 := up_of hBV q2
    try replace q3 := up_of hBV q3
    try replace ql := up_of hBV ql
    obtain ⟨vb, vo, sa, ca, es, hvb, -, -, z0, -, -, -, -, -, hal, -, -⟩ := hvar.out _ h
    cases es
    obtain ⟨n0, n1, n2, n3, n4⟩ := h.cells
    by_cases hlt : j < args.length
    · have hdr : args.drop j = args[j] :: args.drop (j + 1) := List.drop_eq_getElem_cons hlt
      have hp2 := hpre.out
      rw [hdr, List.map_cons, List.filter_cons] at hp2
      have hA := fun V h => harg.out j hlt V h
      have hI := fun V h => his.out (argE ⟨x, y, z⟩ args[j]) (hsm.out j hlt) V h
      have hvb2 := hva.out j hlt
      obtain ⟨ye, hye⟩ : ∃ q, argE ⟨x, y, z⟩ args[j] = q := ⟨_, rfl⟩
      have hyv : ye.v = args[j].v := by rw [← hye]; rfl
      rw [← hyv] at hvb2
      simp only [hye] at hA hI hp2
      rw [hvb2] at hI
      obtain ⟨yv, ⟨yx, yy, yz⟩⟩ := ye
      simp only at hA hI hp2
      have g1 : (0 : Int) ≤ (j : Int) := by omega
      have g2 : (j : Int) < (args.length : Int) := by omega
      replace hA := Lib.hid hA
      clear hdr hye hyv hvb2 hpre
      go_upto_region 3 with (fail)
      try have ld_q0 := World.block_lt_of_cell? _ _ q0
      try have ld_z0 := World.block_lt_of_cell? _ _ z0
      try have ld_n0 := World.block_lt_of_cell? _ _ n0
      refine region_q (by kernel_rfl) (by kernel_rfl) ?_
      dsimp only [List.toList_toArray]
      repeat (first
       | go_big_quiet_skip
       | (go_big_quiet_want
          first
          | (refine qq_det ?_
             apply Exists.intro; refine ⟨fun W' hW' => ?_, ?_⟩
             (· have hk := cellB hW'; go_simp; try (first | rfl | rw [if_pos (by omega)]))
             simp only [Act.put, List.setIfInBounds_toArray, List.set_cons_zero, List.set_cons_succ]; go_big_quiet_on)))
      refine wpQuiet_nil ?_
      intro V1 hb
      try replace h := up_of hb h
      try replace hB := up_of hb hB
      try replace q0 := up_of hb q0
      try replace q1 := up_of hb q1
      try replace q2 := up_of hb q2
      try replace q3 := up_of hb q3
      try replace ql := up_of hb ql
      try replace hBV := up_of hb hBV
      try replace hown := up_of hb hown
      try replace z0 := up_of hb z0
      try replace n0 := up_of hb n0
      try replace n2 := up_of hb n2
      clear z0 n0 n2
      have hwW := hBV.size
      go_upto_region 6 with (first | (go_at_call 35; refine (hA.out _ h).mono ?_; rintro e V2 ⟨rfl, hb⟩; replace h := up_of hb h; replace hBV := up_of hb hBV; replace hown := up_of hb hown; replace hB := up_of hb hB))
      refine wp_world fun X HX => ?_
      have hX : Below V2.heap.size V2 X := by rw [HX.out]; (repeat (first | exact Below.refl _ _ | refine Below.alloc ?_ (by simp; try omega) _ | refine Below.setCell ?_ (by simp) _ | refine Below.drew ?_))
      have e0 : X.cell? ⟨V2.heap.size, 0, none⟩ = some (.int .i64 yv) := by rw [HX.out]; simp [go_sem]
      have e1 : X.cell? ⟨V2.heap.size, 1, none⟩ = some (.int .i64 yx) := by rw [HX.out]; simp [go_sem]
      have e2 : X.cell? ⟨V2.heap.size, 2, none⟩ = some (.int .i64 yy) := by rw [HX.out]; simp [go_sem]
      have e3 : X.cell? ⟨V2.heap.size, 3, none⟩ = some (.int .i64 yz) := by rw [HX.out]; simp [go_sem]
      have el : V2.heap.size < X.heap.size := World.block_lt_of_cell? X _ e0
      try replace h := up_of hX h
      try replace hBV := up_of hX hBV
      try replace hown := up_of hX hown
      try replace hB := up_of hX hB
      cases hin : isIn P ⟨yv, ⟨yx, yy, yz⟩⟩
      · rw [hin] at hI hp2
        rw [if_neg (by simp)] at hp2
        simp only [Bool.false_and] at hI
        replace hp2 := Lib.hid hp2; replace hI := Lib.hid hI
        clear hin
        go_wp2_with (first | (go_at_call 36; refine (hI.out _ h).mono ?_; rintro e W1 ⟨rfl, hb⟩; (try replace h := up_of hb h); (try replace hBV := up_of hb hBV); (try replace hown := up_of hb hown); (try replace hB := up_of hb hB); (try replace hX := up_of hb hX); (try replace e0 := up_of hb e0); (try replace e1 := up_of hb e1); (try replace e2 := up_of hb e2); (try replace e3 := up_of hb e3); (try replace el := up_of hb el)))
        go_roundw
        case rel => exact ⟨j + 1, pre, by omega, rfl, hown, by omega, hp2, hBV⟩
        case measure => exact meas hlt
      · rw [hin] at hI hp2
        rw [if_pos rfl] at hp2
        simp only [Bool.true_and] at hI
        have hp3 : UU = (pre ++ [(⟨yv, ⟨yx, yy, yz⟩⟩ : Ar)]) ++ ((args.drop (j + 1)).map (argE ⟨x, y, z⟩)).filter (isIn P) := by rw [hp2]; simp
        replace hp3 := Lib.hid hp3; replace hI := Lib.hid hI
        clear hin hp2
        obtain ⟨i0, hi0, hz0, hz1, hz2⟩ := info_parts info_elm
        go_upto_region 7 with (first | (go_at_call 36; refine (hI.out _ h).mono ?_; rintro e V3 ⟨rfl, hb⟩; (try replace h := up_of hb h); (try replace hBV := up_of hb hBV); (try replace hown := up_of hb hown); (try replace hB := up_of hb hB); (try replace hX := up_of hb hX); (try replace e0 := up_of hb e0); (try replace e1 := up_of hb e1); (try replace e2 := up_of hb e2); (try replace e3 := up_of hb e3); (try replace el := up_of hb el)))
        have hVs := hBV.size
        go_wp2_with (first | (at_builtin; refine wpList_append_own_at _ rfl _ _ 43 rfl W.heap.size 38 i0 _ 4 32 Try.underlying43 hi0 hz0 hz1 hz2 rfl (by decide) _ _ _ rfl (hown.alloc _) ⟨V3.heap.size, 0, none⟩ 1 1 [.int .i64 yv, .int .i64 yx, .int .i64 yy, .int .i64 yz] rfl rfl (news_new _ _ _) (by simp [Value.oneCell']) (by unfold maxLen; omega) (by omega) (by simp; omega) ?_; intro v1 w1 hown1 hgrow hnil hat1))
        have hB1 : Below W.heap.size W w1 := (hBV.alloc hVs _).grown hgrow (by simp; omega) (fun j e => (hown.lt j e).1)
        go_roundw
        case rel => exact ⟨j + 1, pre ++ [(⟨yv, ⟨yx, yy, yz⟩⟩ : Ar)], by omega, rfl, by rw [ar_snoc, List.length_append]; exact hown1, by simp; omega, hp3, hB1⟩
        case measure => exact meas hlt
    · have hje : j = args.length := by omega
      subst hje
      have hUP : UU = pre := by rw [hpre.out]; simp
      subst hUP
      obtain ⟨s', c', e', -⟩ := owns_shape hown
      subst e'
      have hsl := Lib.hid (SlS.of_own (E := arE) hown)
      have hWw := hWw0
      have hlo : ∀ b o, s' = some ⟨b, o, none⟩ → w.heap.size ≤ b := fun b o e => by have := (hown.lt b (by rw [e]; rfl)).1; omega
      replace hlo := Lib.hid hlo
      go_upto_region 3 with (fail)
      try have ld_q0 := World.block_lt_of_cell? _ _ q0
      try have ld_z0 := World.block_lt_of_cell? _ _ z0
      try have ld_n0 := World.block_lt_of_cell? _ _ n0
      refine region_q (by kernel_rfl) (by kernel_rfl) ?_
      dsimp only [List.toList_toArray]
      repeat (first
       | go_big_quiet_skip
       | (go_big_quiet_want
          first
          | (refine qq_det ?_
             apply Exists.intro; refine ⟨fun W' hW' => ?_, ?_⟩
             (· have hk := cellB hW'; go_simp; try (first | rfl | rw [if_pos (by omega)]))
             simp only [Act.put, List.setIfInBounds_toArray, List.set_cons_zero, List.set_cons_succ]; go_big_quiet_on)))
      refine wpQuiet_nil ?_
      intro V1 hb
      try replace h := up_of hb h
      try replace hB := up_of hb hB
      try replace q0 := up_of hb q0
      try replace q1 := up_of hb q1
      try replace q2 := up_of hb q2
      try replace q3 := up_of hb q3
      try replace ql := up_of hb ql
      try replace hBV := up_of hb hBV
      try replace z0 := up_of hb z0
      try replace n0 := up_of hb n0
      try replace n2 := up_of hb n2
      clear hpre
      have hsl2 := Lib.hid (up_of hb hsl.out)
      clear hsl hown z0 n0 n2 h hBV
      go_wp2
      go_ret
      first | exact ⟨⟨s', ⟨c', rfl⟩, hsl2.out, hlo.out⟩, hB⟩ | exact ⟨⟨s', c', rfl, hsl2.out, hlo.out⟩, hB⟩
end
end Go.Proofs.Ytadmnlkgefbhcaa
