/- Which lists are chains: the reference. -/
import Derived.Test.YtadmnlkgefbhcaaChain
import Derived.Test.YtadmnlkgefbhcaaElEq
import Derived.Test.YtadmnlkgefbhcaaB11
import Derived.Test.YtadmnlkgefbhcaaRLv2
namespace Go.Proofs.Ytadmnlkgefbhcaa
open Go.RowKit Go.Maps

attribute [local go_sem high] elm_eql

section
variable {g : Nat} {n : Int} {s : Option Addr} {cap : Nat} {l : List Iq} {s2 : Option Addr} {cq : Nat} {K : List Vv} {sp : Option Addr} {cp mb : Nat} {P : List Pt}
/-- What an element uses, by elements and by numbers. -/
theorem use_mem (ok : NetOk n K P) {y x : Ar} (hy : isEl K P y.v y.p = true) (hx : isEl K P x.v x.p = true) : (usesE P y.p (vat K y.v.toNat).args).contains x = (useN K P (elNum P y)).contains (elNum P x) := by
  rw [isEl_in, Bool.and_eq_true] at hy hx
  obtain ⟨h1, h2⟩ := elOf_num ok hy.2 hy.1
  have e1 : pOf P (elNum P y) = y.p := by have := congrArg Ar.p h1; exact this
  have hb := bw_iff.1 hy.2
  have e2 : vOf K P (elNum P y) = vat K y.v.toNat := by
    have h3 := congrArg Ar.v h1
    have h4 : ((elNum P y / P.length : Nat) : Int) = y.v := h3
    have h5 : elNum P y / P.length = y.v.toNat := by omega
    unfold vOf vat; rw [h5]
  have hK : ∀ a ∈ (vat K y.v.toNat).args, bw 0 a.v (K.length - 1) = true := fun a ha => by
    unfold vat at ha
    rw [List.getD_eq_getElem?_getD] at ha
    cases hk : K[y.v.toNat]? with
    | none => rw [hk] at ha; simp at ha
    | some v => rw [hk] at ha; exact ok.var v (List.mem_of_getElem? hk) a ha
  rw [useN_usesE, e1, e2]
  have hiff : x ∈ usesE P y.p (vat K y.v.toNat).args ↔ elNum P x ∈ (usesE P y.p (vat K y.v.toNat).args).map (elNum P) := by
    constructor
    · exact fun h => List.mem_map.2 ⟨x, h, rfl⟩
    · intro h
      obtain ⟨z, hz, e⟩ := List.mem_map.1 h
      have hz2 := hz
      unfold usesE at hz2
      obtain ⟨hz3, hz4⟩ := List.mem_filter.1 hz2
      obtain ⟨a, ha, rfl⟩ := List.mem_map.1 hz3
      have h3 := (elOf_num ok (y := argE y.p a) (hK a ha) hz4).1
      have h4 := (elOf_num ok hx.2 hx.1).1
      rw [e, h4] at h3
      rw [h3]; exact hz
  by_cases hm : x ∈ usesE P y.p (vat K y.v.toNat).args
  · rw [List.contains_iff_mem.2 hm, List.contains_iff_mem.2 (hiff.1 hm)]
  · have h1 : (usesE P y.p (vat K y.v.toNat).args).contains x = false := by simpa using hm
    have h2 : ((usesE P y.p (vat K y.v.toNat).args).map (elNum P)).contains (elNum P x) = false := by simpa [List.contains_iff_mem] using fun h => hm (hiff.2 h)
    rw [h1, h2]
set_option maxRecDepth 100000 in
set_option maxHeartbeats 1000000 in
theorem ruses_c (y x : Ar) (w : World) (h : Net 64 w g n s cap l s2 cq K sp cp mb P) (ok : NetOk n K P) (hy : isEl K P y.v y.p = true) (hx : isEl K P x.v x.p = true) :
    Calls Try.prog 88 #[.pointer (some ⟨g, 0, none⟩), .agg #[.int .i64 y.v, .int .i64 y.p.x, .int .i64 y.p.y, .int .i64 y.p.z], .agg #[.int .i64 x.v, .int .i64 x.p.x, .int .i64 x.p.y, .int .i64 x.p.z]] w fun e w' => e = .returned (.bool ((useN K P (elNum P y)).contains (elNum P x))) ∧ Below w.heap.size w w' := by
  rw [← use_mem ok hy hx]
  have hy2 := hy
  rw [isEl_in, Bool.and_eq_true] at hy2
  have hb := bw_iff.1 hy2.2
  obtain ⟨v, hv⟩ : ∃ m : Nat, y.v = m := ⟨y.v.toNat, by omega⟩
  have hvK : v < K.length := by have := ok.vars; omega
  have hps : y.p.small 20 := by
    have hi := hy2.1
    unfold isIn at hi
    exact ok.pts _ (pix_mem.1 hi)
  have hus := fun V (h : Net 64 V g n s cap l s2 cq K sp cp mb P) => (rUses_c v y.p V h ok hvK hps).mono (R' := fun e w' => (∃ s' c', e = .returned (.slice s' (usesE P y.p K[v].args).length c') ∧ SlS arE w' s' (usesE P y.p K[v].args)) ∧ Below V.heap.size V w') (fun e w' ⟨⟨s', c', h1, h2, _⟩, h3⟩ => ⟨⟨s', c', h1, h2⟩, h3⟩)
  have hvat : vat K y.v.toNat = K[v] := by rw [hv, Int.toNat_natCast]; unfold vat; rw [List.getD_eq_getElem?_getD, List.getElem?_eq_getElem hvK]; rfl
  have hUl : (usesE P y.p K[v].args).length ≤ 3 := by
    have h1 := ok.args _ (List.getElem_mem hvK)
    unfold usesE
    refine Nat.le_trans (List.length_filter_le _ _) ?_
    rw [List.length_map]; exact h1
  rw [hvat]
  obtain ⟨U, hU⟩ : ∃ U, usesE P y.p K[v].args = U := ⟨_, rfl⟩
  simp only [hU] at hus hUl ⊢
  clear hU hvat hps hb hy2 hx hy ok
  obtain ⟨v', ⟨py, pyy, pz⟩⟩ := y
  simp only at hv hus ⊢
  subst hv
  have hyes : x ∈ U → U.contains x = true := fun h => List.contains_iff_mem.2 h
  have hno : x ∉ U → U.contains x = false := fun h => by simpa using h
  obtain ⟨R, hR⟩ : ∃ R, U.contains x = R := ⟨_, rfl⟩
  rw [hR] at hyes hno ⊢
  clear hR
  obtain ⟨xv, ⟨xx, xy, xz⟩⟩ := x
  simp only
  replace hus := Lib.hid hus; replace hyes := Lib.hid hyes; replace hno := Lib.hid hno
  go_enter Try.func88, Try.ntmps88
  go_upto_region 1 with (fail)
  refine wp_world fun W HW => ?_
  have hB : Below w.heap.size w W := by rw [HW.out]; (repeat (first | exact Below.refl _ _ | refine Below.alloc ?_ (by simp; try omega) _ | refine Below.setCell ?_ (by simp) _ | refine Below.drew ?_))
  have q0 : W.cell? ⟨w.heap.size, 0, none⟩ = some (.int .i64 v) := by rw [HW.out]; simp [go_sem]
  have q1 : W.cell? ⟨w.heap.size, 1, none⟩ = some (.int .i64 py) := by rw [HW.out]; simp [go_sem]
  have q2 : W.cell? ⟨w.heap.size, 2, none⟩ = some (.int .i64 pyy) := by rw [HW.out]; simp [go_sem]
  have q3 : W.cell? ⟨w.heap.size, 3, none⟩ = some (.int .i64 pz) := by rw [HW.out]; simp [go_sem]
  have ql : w.heap.size < W.heap.size := World.block_lt_of_cell? W _ q0
  have x0 : W.cell? ⟨w.heap.size + 1, 0, none⟩ = some (.int .i64 xv) := by rw [HW.out]; simp [go_sem]
  have x1 : W.cell? ⟨w.heap.size + 1, 1, none⟩ = some (.int .i64 xx) := by rw [HW.out]; simp [go_sem]
  have x2 : W.cell? ⟨w.heap.size + 1, 2, none⟩ = some (.int .i64 xy) := by rw [HW.out]; simp [go_sem]
  have x3 : W.cell? ⟨w.heap.size + 1, 3, none⟩ = some (.int .i64 xz) := by rw [HW.out]; simp [go_sem]
  have xl : w.heap.size + 1 < W.heap.size := World.block_lt_of_cell? W _ x0
  try replace h := up_of hB h
  go_upto_region 2 with (first | (go_at_call 116; refine (hus.out _ h).mono ?_; rintro e W1 ⟨⟨su, cu, rfl, hsu⟩, hb⟩; (try replace h := up_of hb h); (try replace hB := up_of hb hB); (try replace q0 := up_of hb q0); (try replace q1 := up_of hb q1); (try replace q2 := up_of hb q2); (try replace q3 := up_of hb q3); (try replace ql := up_of hb ql); (try replace x0 := up_of hb x0); (try replace x1 := up_of hb x1); (try replace x2 := up_of hb x2); (try replace x3 := up_of hb x3); (try replace xl := up_of hb xl)))
  obtain ⟨A, hAe⟩ : ∃ A, A = W1 := ⟨_, rfl⟩
  have h0 : Below A.heap.size A W1 := by rw [hAe]; exact Below.refl _ _
  have hsA := Lib.hid (show SlS arE A su U by rw [hAe]; exact hsu)
  have hBA := Lib.hid (show Below w.heap.size w A by rw [hAe]; exact hB)
  have xA := Lib.hid (show A.cell? ⟨w.heap.size + 1, 0, none⟩ = some (.int .i64 xv) ∧ A.cell? ⟨w.heap.size + 1, 1, none⟩ = some (.int .i64 xx) ∧ A.cell? ⟨w.heap.size + 1, 2, none⟩ = some (.int .i64 xy) ∧ A.cell? ⟨w.heap.size + 1, 3, none⟩ = some (.int .i64 xz) by rw [hAe]; exact ⟨x0, x1, x2, x3⟩)
  clear hsu hB h x0 x1 x2 x3 q0 q1 q2 q3 hAe
  go_wp2
  go_loopw [8] (fun ii V => ∃ i : Nat, i ≤ U.length ∧ ii = .int .i64 i ∧ Hid (⟨xv, ⟨xx, xy, xz⟩⟩ ∉ U.take i) ∧ Below A.heap.size A V) (fun ii _ => U.length - (intOf ii).toNat)
  case atStart => exact ⟨0, by omega, rfl, Lib.hid (by simp), h0⟩
  case round =>
    clear h0
    obtain ⟨i, hi, rfl, hn, hBV⟩ := hrel
    have hsl := up_of hBV hsA.out
    obtain ⟨x0, x1, x2, x3⟩ := xA.out
    replace x0 := up_of hBV x0; replace x1 := up_of hBV x1; replace x2 := up_of hBV x2; replace x3 := up_of hBV x3
    have hB := hBA.out.trans (hBV.mono hBA.out.size)
    by_cases hlt : i < U.length
    · obtain ⟨ba, oa, ea, hba, z0, z1, z2, z3⟩ := hsl.ar_at hlt
      cases ea
      have htk : U.take (i + 1) = U.take i ++ [U[i]] := List.take_succ_eq_append_getElem hlt
      have hmem := List.getElem_mem hlt
      obtain ⟨⟨uv, ⟨ux, uy, uz⟩⟩, hu⟩ : ∃ u, U[i] = u := ⟨_, rfl⟩
      rw [hu] at z0 z1 z2 z3 htk hmem
      have i1 : (0 : Int) ≤ (i : Int) := by omega
      have i2 : (i : Int) < (U.length : Int) := by omega
      have hel := fun W => elm_eql ⟨uv, ⟨ux, uy, uz⟩⟩ ⟨xv, ⟨xx, xy, xz⟩⟩ W
      simp only at hel z0 z1 z2 z3
      replace hu := Lib.hid hu
      by_cases heq : (⟨uv, ⟨ux, uy, uz⟩⟩ : Ar) = ⟨xv, ⟨xx, xy, xz⟩⟩
      · have hRt := hyes.out (heq ▸ hmem)
        subst hRt
        simp only [decide_eq_true heq] at hel
        clear heq hmem htk hn hyes hno
        go_upto_region 5 with (fail)
        try have ld_x0 := World.block_lt_of_cell? _ _ x0
        try have ld_z0 := World.block_lt_of_cell? _ _ z0
        refine region_q (by kernel_rfl) (by kernel_rfl) ?_
        dsimp only [List.toList_toArray]
        repeat (first
         | go_big_quiet_skip
         | (go_big_quiet_want
            first
            | (refine qq_det ?_
               apply Exists.intro; refine ⟨fun W' hW' => ?_, ?_⟩
               (· have hk := cellB hW'; go_simp; try (first | rfl | rw [if_pos (by omega)]))
               simp only [Act.put, List.setIfInBounds_toArray, List.set_cons_zero, List.set_cons_succ]; go_big_quiet_on)))
        refine wpQuiet_nil ?_
        intro X2 hb
        try replace hB := up_of hb hB
        try replace x0 := up_of hb x0
        try replace x1 := up_of hb x1
        try replace x2 := up_of hb x2
        try replace x3 := up_of hb x3
        try replace z0 := up_of hb z0
        try replace z1 := up_of hb z1
        try replace z2 := up_of hb z2
        try replace z3 := up_of hb z3
        go_wp2
        go_ret
        exact ⟨rfl, hB⟩
      · have hn2 : (⟨xv, ⟨xx, xy, xz⟩⟩ : Ar) ∉ U.take (i + 1) := by
          rw [htk]
          intro h
          rcases List.mem_append.1 h with h | h
          · exact hn.out h
          · simp only [List.mem_singleton] at h; exact heq h.symm
        simp only [decide_eq_false heq] at hel
        replace hn2 := Lib.hid hn2
        clear heq hmem htk hn
        go_upto_region 5 with (fail)
        try have ld_x0 := World.block_lt_of_cell? _ _ x0
        try have ld_z0 := World.block_lt_of_cell? _ _ z0
        refine region_q (by kernel_rfl) (by kernel_rfl) ?_
        dsimp only [List.toList_toArray]
        repeat (first
         | go_big_quiet_skip
         | (go_big_quiet_want
            first
            | (refine qq_det ?_
               apply Exists.intro; refine ⟨fun W' hW' => ?_, ?_⟩
               (· have hk := cellB hW'; go_simp; try (first | rfl | rw [if_pos (by omega)]))
               simp only [Act.put, List.setIfInBounds_toArray, List.set_cons_zero, List.set_cons_succ]; go_big_quiet_on)))
        refine wpQuiet_nil ?_
        intro X2 hb
        try replace hB := up_of hb hB
        try replace x0 := up_of hb x0
        try replace x1 := up_of hb x1
        try replace x2 := up_of hb x2
        try replace x3 := up_of hb x3
        try replace z0 := up_of hb z0
        try replace z1 := up_of hb z1
        try replace z2 := up_of hb z2
        try replace z3 := up_of hb z3
        try replace hBV := up_of hb hBV
        go_wp2
        go_roundw
        case rel => exact ⟨i + 1, by omega, rfl, hn2, hBV⟩
        case measure => exact meas hlt
    · obtain rfl : i = U.length := by omega
      have hRf := hno.out (by have := hn.out; rwa [List.take_length] at this)
      subst hRf
      clear hn hyes hno
      go_wp2
      go_ret
      exact ⟨rfl, hB⟩
end
end Go.Proofs.Ytadmnlkgefbhcaa
