/- Several texts in one: each says what it proves. -/
import Derived.Test.YtakbpjgnjfigcaaGreatChain
import Derived.Test.YtakbpjgnjfigcaaGreatElEq
import Derived.Test.YtakbpjgnjfigcaaGreatB11
import Derived.Test.YtakbpjgnjfigcaaGreatRLv2
import Derived.Test.YtakbpjgnjfigcaaGreatB12
/- Which lists are chains: the reference. -/
namespace Go.Proofs.YtakbpjgnjfigcaaGreat
open Go.RowKit Go.Maps

attribute [local go_sem high] elm_eql

section
variable {g : Nat} {n : Int} {s : Option Addr} {cap : Nat} {l : List Iq} {s2 : Option Addr} {cq : Nat} {K : List Vv} {sp : Option Addr} {cp mb : Nat} {P : List Pt}
/-- What an element uses, by elements and by numbers. -/
theorem use_mem (ok : NetOk n K P) {y x : Ar} (hy : isEl K P y.v y.p = true) (hx : isEl K P x.v x.p = true) : (usesE P y.p (vat K y.v.toNat).args).contains x = (useN K P (elNum P y)).contains (elNum P x) := by
  rw [isEl_in, Bool.and_eq_true] at hy hx
  obtain ⟨h1, h2⟩ := elOf_num ok hy.2 hy.1
  have e1 : pOf P (elNum P y) = y.p := by have := congrArg Ar.p h1; exact this
  have hb := bw_iff.1 hy.2
  have e2 : vOf K P (elNum P y) = vat K y.v.toNat := by
    have h3 := congrArg Ar.v h1
    have h4 : ((elNum P y / P.length : Nat) : Int) = y.v := h3
    have h5 : elNum P y / P.length = y.v.toNat := by omega
    unfold vOf vat; rw [h5]
  have hK : ∀ a ∈ (vat K y.v.toNat).args, bw 0 a.v (K.length - 1) = true := fun a ha => by
    unfold vat at ha
    rw [List.getD_eq_getElem?_getD] at ha
    cases hk : K[y.v.toNat]? with
    | none => rw [hk] at ha; simp at ha
    | some v => rw [hk] at ha; exact ok.var v (List.mem_of_getElem? hk) a ha
  rw [useN_usesE, e1, e2]
  have hiff : x ∈ usesE P y.p (vat K y.v.toNat).args ↔ elNum P x ∈ (usesE P y.p (vat K y.v.toNat).args).map (elNum P) := by
    constructor
    · exact fun h => List.mem_map.2 ⟨x, h, rfl⟩
    · intro h
      obtain ⟨z, hz, e⟩ := List.mem_map.1 h
      have hz2 := hz
      unfold usesE at hz2
      obtain ⟨hz3, hz4⟩ := List.mem_filter.1 hz2
      obtain ⟨a, ha, rfl⟩ := List.mem_map.1 hz3
      have h3 := (elOf_num ok (y := argE y.p a) (hK a ha) hz4).1
      have h4 := (elOf_num ok hx.2 hx.1).1
      rw [e, h4] at h3
      rw [h3]; exact hz
  by_cases hm : x ∈ usesE P y.p (vat K y.v.toNat).args
  · rw [List.contains_iff_mem.2 hm, List.contains_iff_mem.2 (hiff.1 hm)]
  · have h1 : (usesE P y.p (vat K y.v.toNat).args).contains x = false := by simpa using hm
    have h2 : ((usesE P y.p (vat K y.v.toNat).args).map (elNum P)).contains (elNum P x) = false := by simpa [List.contains_iff_mem] using fun h => hm (hiff.2 h)
    rw [h1, h2]
set_option maxRecDepth 100000 in
set_option maxHeartbeats 1000000 in
theorem ruses_c (y x : Ar) (w : World) (h : Net 142 w g n s cap l s2 cq K sp cp mb P) (ok : NetOk n K P) (hy : isEl K P y.v y.p = true) (hx : isEl K P x.v x.p = true) :
    Calls Tryz.prog 43 #[.pointer (some ⟨g, 0, none⟩), .agg #[.int .i64 y.v, .int .i64 y.p.x, .int .i64 y.p.y, .int .i64 y.p.z], .agg #[.int .i64 x.v, .int .i64 x.p.x, .int .i64 x.p.y, .int .i64 x.p.z]] w fun e w' => e = .returned (.bool ((useN K P (elNum P y)).contains (elNum P x))) ∧ Below w.heap.size w w' := by
  rw [← use_mem ok hy hx]
  have hy2 := hy
  rw [isEl_in, Bool.and_eq_true] at hy2
  have hb := bw_iff.1 hy2.2
  obtain ⟨v, hv⟩ : ∃ m : Nat, y.v = m := ⟨y.v.toNat, by omega⟩
  have hvK : v < K.length := by have := ok.vars; omega
  have hps : y.p.small 20 := by
    have hi := hy2.1
    unfold isIn at hi
    exact ok.pts _ (pix_mem.1 hi)
  have hus := fun V (h : Net 142 V g n s cap l s2 cq K sp cp mb P) => (rUses_c v y.p V h ok hvK hps).mono (R' := fun e w' => (∃ s' c', e = .returned (.slice s' (usesE P y.p K[v].args).length c') ∧ SlS arE w' s' (usesE P y.p K[v].args)) ∧ Below V.heap.size V w') (fun e w' ⟨⟨s', c', h1, h2, _⟩, h3⟩ => ⟨⟨s', c', h1, h2⟩, h3⟩)
  have hvat : vat K y.v.toNat = K[v] := by rw [hv, Int.toNat_natCast]; unfold vat; rw [List.getD_eq_getElem?_getD, List.getElem?_eq_getElem hvK]; rfl
  have hUl : (usesE P y.p K[v].args).length ≤ 3 := by
    have h1 := ok.args _ (List.getElem_mem hvK)
    unfold usesE
    refine Nat.le_trans (List.length_filter_le _ _) ?_
    rw [List.length_map]; exact h1
  rw [hvat]
  obtain ⟨U, hU⟩ : ∃ U, usesE P y.p K[v].args = U := ⟨_, rfl⟩
  simp only [hU] at hus hUl ⊢
  clear hU hvat hps hb hy2 hx hy ok
  obtain ⟨v', ⟨py, pyy, pz⟩⟩ := y
  simp only at hv hus ⊢
  subst hv
  have hyes : x ∈ U → U.contains x = true := fun h => List.contains_iff_mem.2 h
  have hno : x ∉ U → U.contains x = false := fun h => by simpa using h
  obtain ⟨R, hR⟩ : ∃ R, U.contains x = R := ⟨_, rfl⟩
  rw [hR] at hyes hno ⊢
  clear hR
  obtain ⟨xv, ⟨xx, xy, xz⟩⟩ := x
  simp only
  replace hus := Lib.hid hus; replace hyes := Lib.hid hyes; replace hno := Lib.hid hno
  go_enter Tryz.func43, Tryz.ntmps43
  go_upto_region 1 with (fail)
  refine wp_world fun W HW => ?_
  have hB : Below w.heap.size w W := by rw [HW.out]; (repeat (first | exact Below.refl _ _ | refine Below.alloc ?_ (by simp; try omega) _ | refine Below.setCell ?_ (by simp) _ | refine Below.drew ?_))
  have q0 : W.cell? ⟨w.heap.size, 0, none⟩ = some (.int .i64 v) := by rw [HW.out]; simp [go_sem]
  have q1 : W.cell? ⟨w.heap.size, 1, none⟩ = some (.int .i64 py) := by rw [HW.out]; simp [go_sem]
  have q2 : W.cell? ⟨w.heap.size, 2, none⟩ = some (.int .i64 pyy) := by rw [HW.out]; simp [go_sem]
  have q3 : W.cell? ⟨w.heap.size, 3, none⟩ = some (.int .i64 pz) := by rw [HW.out]; simp [go_sem]
  have ql : w.heap.size < W.heap.size := World.block_lt_of_cell? W _ q0
  have x0 : W.cell? ⟨w.heap.size + 1, 0, none⟩ = some (.int .i64 xv) := by rw [HW.out]; simp [go_sem]
  have x1 : W.cell? ⟨w.heap.size + 1, 1, none⟩ = some (.int .i64 xx) := by rw [HW.out]; simp [go_sem]
  have x2 : W.cell? ⟨w.heap.size + 1, 2, none⟩ = some (.int .i64 xy) := by rw [HW.out]; simp [go_sem]
  have x3 : W.cell? ⟨w.heap.size + 1, 3, none⟩ = some (.int .i64 xz) := by rw [HW.out]; simp [go_sem]
  have xl : w.heap.size + 1 < W.heap.size := World.block_lt_of_cell? W _ x0
  try replace h := up_of hB h
  go_upto_region 2 with (first | (go_at_call 88; refine (hus.out _ h).mono ?_; rintro e W1 ⟨⟨su, cu, rfl, hsu⟩, hb⟩; (try replace h := up_of hb h); (try replace hB := up_of hb hB); (try replace q0 := up_of hb q0); (try replace q1 := up_of hb q1); (try replace q2 := up_of hb q2); (try replace q3 := up_of hb q3); (try replace ql := up_of hb ql); (try replace x0 := up_of hb x0); (try replace x1 := up_of hb x1); (try replace x2 := up_of hb x2); (try replace x3 := up_of hb x3); (try replace xl := up_of hb xl)))
  obtain ⟨A, hAe⟩ : ∃ A, A = W1 := ⟨_, rfl⟩
  have h0 : Below A.heap.size A W1 := by rw [hAe]; exact Below.refl _ _
  have hsA := Lib.hid (show SlS arE A su U by rw [hAe]; exact hsu)
  have hBA := Lib.hid (show Below w.heap.size w A by rw [hAe]; exact hB)
  have xA := Lib.hid (show A.cell? ⟨w.heap.size + 1, 0, none⟩ = some (.int .i64 xv) ∧ A.cell? ⟨w.heap.size + 1, 1, none⟩ = some (.int .i64 xx) ∧ A.cell? ⟨w.heap.size + 1, 2, none⟩ = some (.int .i64 xy) ∧ A.cell? ⟨w.heap.size + 1, 3, none⟩ = some (.int .i64 xz) by rw [hAe]; exact ⟨x0, x1, x2, x3⟩)
  clear hsu hB h x0 x1 x2 x3 q0 q1 q2 q3 hAe
  go_wp2
  go_loopw [8] (fun ii V => ∃ i : Nat, i ≤ U.length ∧ ii = .int .i64 i ∧ Hid (⟨xv, ⟨xx, xy, xz⟩⟩ ∉ U.take i) ∧ Below A.heap.size A V) (fun ii _ => U.length - (intOf ii).toNat)
  case atStart => exact ⟨0, by omega, rfl, Lib.hid (by simp), h0⟩
  case round =>
    clear h0
    obtain ⟨i, hi, rfl, hn, hBV⟩ := hrel
    have hsl := up_of hBV hsA.out
    obtain ⟨x0, x1, x2, x3⟩ := xA.out
    replace x0 := up_of hBV x0; replace x1 := up_of hBV x1; replace x2 := up_of hBV x2; replace x3 := up_of hBV x3
    have hB := hBA.out.trans (hBV.mono hBA.out.size)
    by_cases hlt : i < U.length
    · obtain ⟨ba, oa, ea, hba, z0, z1, z2, z3⟩ := hsl.ar_at hlt
      cases ea
      have htk : U.take (i + 1) = U.take i ++ [U[i]] := List.take_succ_eq_append_getElem hlt
      have hmem := List.getElem_mem hlt
      obtain ⟨⟨uv, ⟨ux, uy, uz⟩⟩, hu⟩ : ∃ u, U[i] = u := ⟨_, rfl⟩
      rw [hu] at z0 z1 z2 z3 htk hmem
      have i1 : (0 : Int) ≤ (i : Int) := by omega
      have i2 : (i : Int) < (U.length : Int) := by omega
      have hel := fun W => elm_eql ⟨uv, ⟨ux, uy, uz⟩⟩ ⟨xv, ⟨xx, xy, xz⟩⟩ W
      simp only at hel z0 z1 z2 z3
      replace hu := Lib.hid hu
      by_cases heq : (⟨uv, ⟨ux, uy, uz⟩⟩ : Ar) = ⟨xv, ⟨xx, xy, xz⟩⟩
      · have hRt := hyes.out (heq ▸ hmem)
        subst hRt
        simp only [decide_eq_true heq] at hel
        clear heq hmem htk hn hyes hno
        go_upto_region 5 with (fail)
        try have ld_x0 := World.block_lt_of_cell? _ _ x0
        try have ld_z0 := World.block_lt_of_cell? _ _ z0
        refine region_q (by kernel_rfl) (by kernel_rfl) ?_
        dsimp only [List.toList_toArray]
        repeat (first
         | go_big_quiet_skip
         | (go_big_quiet_want
            first
            | (refine qq_det ?_
               apply Exists.intro; refine ⟨fun W' hW' => ?_, ?_⟩
               (· have hk := cellB hW'; go_simp; try (first | rfl | rw [if_pos (by omega)]))
               simp only [Act.put, List.setIfInBounds_toArray, List.set_cons_zero, List.set_cons_succ]; go_big_quiet_on)))
        refine wpQuiet_nil ?_
        intro X2 hb
        try replace hB := up_of hb hB
        try replace x0 := up_of hb x0
        try replace x1 := up_of hb x1
        try replace x2 := up_of hb x2
        try replace x3 := up_of hb x3
        try replace z0 := up_of hb z0
        try replace z1 := up_of hb z1
        try replace z2 := up_of hb z2
        try replace z3 := up_of hb z3
        go_wp2
        go_ret
        exact ⟨rfl, hB⟩
      · have hn2 : (⟨xv, ⟨xx, xy, xz⟩⟩ : Ar) ∉ U.take (i + 1) := by
          rw [htk]
          intro h
          rcases List.mem_append.1 h with h | h
          · exact hn.out h
          · simp only [List.mem_singleton] at h; exact heq h.symm
        simp only [decide_eq_false heq] at hel
        replace hn2 := Lib.hid hn2
        clear heq hmem htk hn
        go_upto_region 5 with (fail)
        try have ld_x0 := World.block_lt_of_cell? _ _ x0
        try have ld_z0 := World.block_lt_of_cell? _ _ z0
        refine region_q (by kernel_rfl) (by kernel_rfl) ?_
        dsimp only [List.toList_toArray]
        repeat (first
         | go_big_quiet_skip
         | (go_big_quiet_want
            first
            | (refine qq_det ?_
               apply Exists.intro; refine ⟨fun W' hW' => ?_, ?_⟩
               (· have hk := cellB hW'; go_simp; try (first | rfl | rw [if_pos (by omega)]))
               simp only [Act.put, List.setIfInBounds_toArray, List.set_cons_zero, List.set_cons_succ]; go_big_quiet_on)))
        refine wpQuiet_nil ?_
        intro X2 hb
        try replace hB := up_of hb hB
        try replace x0 := up_of hb x0
        try replace x1 := up_of hb x1
        try replace x2 := up_of hb x2
        try replace x3 := up_of hb x3
        try replace z0 := up_of hb z0
        try replace z1 := up_of hb z1
        try replace z2 := up_of hb z2
        try replace z3 := up_of hb z3
        try replace hBV := up_of hb hBV
        go_wp2
        go_roundw
        case rel => exact ⟨i + 1, by omega, rfl, hn2, hBV⟩
        case measure => exact meas hlt
    · obtain rfl : i = U.length := by omega
      have hRf := hno.out (by have := hn.out; rwa [List.take_length] at this)
      subst hRf
      clear hn hyes hno
      go_wp2
      go_ret
      exact ⟨rfl, hB⟩
end
end Go.Proofs.YtakbpjgnjfigcaaGreat

/- Which lists are chains: the reference's loop. -/
namespace Go.Proofs.YtakbpjgnjfigcaaGreat
open Go.RowKit Go.Maps

section
variable {g : Nat} {n : Int} {s : Option Addr} {cap : Nat} {l : List Iq} {s2 : Option Addr} {cq : Nat} {K : List Vv} {sp : Option Addr} {cp mb : Nat} {P : List Pt}
set_option maxRecDepth 100000 in
set_option maxHeartbeats 2000000 in
theorem rchain_c (sl : Option Addr) (cl : Nat) (L : List Ar) (w : World) (h : Net 142 w g n s cap l s2 cq K sp cp mb P) (ok : NetOk n K P) (hs : SlS arE w sl L) (hl : L.length ≤ 5000) (hI : ∀ y ∈ L, y.p.I64) :
    Calls Tryz.prog 42 #[.pointer (some ⟨g, 0, none⟩), .slice sl L.length cl] w fun e w' => e = .returned (.bool (chB K P L)) ∧ Below w.heap.size w w' := by
  have his := fun (y : Ar) (hy : y.p.I64) V (h : Net 142 V g n s cap l s2 cq K sp cp mb P) => rIs_c y V h ok hy
  have hus := fun (y x : Ar) (hy : isEl K P y.v y.p = true) (hx : isEl K P x.v x.p = true) V (h : Net 142 V g n s cap l s2 cq K sp cp mb P) => ruses_c y x V h ok hy hx
  simp only [← isEl_in] at his
  have hyes := fun (h : ∀ i, i < L.length → stepB K P L i = true) => chB_yes h
  have hno := fun i (hi : i < L.length) (h : stepB K P L i = false) => chB_no hi h
  have hst : ∀ i (hi : i < L.length), stepB K P L i = (isEl K P L[i].v L[i].p && (i == 0 || (useN K P (elNum P L[i])).contains (elNum P (L.getD (i - 1) default)))) := fun i hi => by unfold stepB; rw [getD_el hi]
  obtain ⟨CB, hCB⟩ : ∃ x, chB K P L = x := ⟨_, rfl⟩
  simp only [hCB] at hyes hno ⊢
  clear hCB ok
  have hs0 := Lib.hid hs
  have h0 := Lib.hid h
  replace his := Lib.hid his; replace hus := Lib.hid hus; replace hyes := Lib.hid hyes; replace hno := Lib.hid hno; replace hst := Lib.hid hst; replace hI := Lib.hid hI
  clear hs h
  go_enter Tryz.func42, Tryz.ntmps42
  go_wp2
  go_loopw [5] (fun ii V => ∃ (i : Nat), i ≤ L.length ∧ ii = .int .i64 i ∧ Hid (∀ j, j < i → stepB K P L j = true) ∧ Below w.heap.size w V) (fun ii _ => L.length - (intOf ii).toNat)
  case atStart => exact ⟨0, by omega, rfl, Lib.hid (fun j h => absurd h (by omega)), Below.refl _ _⟩
  case round =>
    obtain ⟨i, hi, rfl, hok, hB⟩ := hrel
    have hnt := up_of hB h0.out
    have hsl := up_of hB hs0.out
    by_cases hlt : i < L.length
    · obtain ⟨ba, oa, ea, hba, z0, z1, z2, z3⟩ := hsl.ar_at hlt
      obtain ⟨ba2, oa2, ea2, -⟩ := hs0.out.ar_at hlt
      cases ea2; cases ea
      have hsti := hst.out i hlt
      have hyI := hI.out _ (List.getElem_mem hlt)
      have hno2 := fun h => hno.out i hlt h
      obtain ⟨y, hy⟩ : ∃ x, L[i] = x := ⟨_, rfl⟩
      rw [hy] at z0 z1 z2 z3 hsti hyI
      have hF := fun V h => his.out y hyI V h
      have hU := fun (x : Ar) (hx : isEl K P x.v x.p = true) (hy : isEl K P y.v y.p = true) V h => hus.out y x hy hx V h
      obtain ⟨EB, hEB⟩ : ∃ x, isEl K P y.v y.p = x := ⟨_, rfl⟩
      simp only [hEB] at hF hsti hU
      have i1 : (0 : Int) ≤ (i : Int) := by omega
      have i2 : (i : Int) < (L.length : Int) := by omega
      replace hno2 := Lib.hid hno2; replace hy := Lib.hid hy; replace hEB := Lib.hid hEB
      clear hyI
      obtain ⟨U, hUU⟩ : ∃ f, (fun x : Ar => (useN K P (elNum P y)).contains (elNum P x)) = f := ⟨_, rfl⟩
      have hU2 : ∀ x : Ar, (useN K P (elNum P y)).contains (elNum P x) = U x := fun x => by rw [← hUU]
      simp only [hU2] at hU hsti
      clear hUU hU2
      replace hF := Lib.hid hF; replace hU := Lib.hid hU; replace hsti := Lib.hid hsti
      obtain ⟨yv, ⟨yx, yy, yz⟩⟩ := y
      simp only at z0 z1 z2 z3 hF hU
      go_upto_region 4 with (fail)
      cases EB
      · have hfin := hno2.out (by rw [hsti.out]; rfl)
        subst hfin
        clear hsti hno hyes hno2 hU hok
        try have ld_z0 := World.block_lt_of_cell? _ _ z0
        refine region_q (by kernel_rfl) (by kernel_rfl) ?_
        dsimp only [List.toList_toArray]
        repeat (first
         | go_big_quiet_skip
         | (go_big_quiet_want
            first
            | (refine qq_det ?_
               apply Exists.intro; refine ⟨fun W' hW' => ?_, ?_⟩
               (· have hk := cellB hW'; go_simp; try (first | rfl | rw [if_pos (by omega)]))
               simp only [Act.put, List.setIfInBounds_toArray, List.set_cons_zero, List.set_cons_succ]; go_big_quiet_on)
            | (refine qq_call ?_
               apply Exists.intro; apply Exists.intro; refine ⟨fun W' hW' => ?_, ?_⟩
               (· have hk := cellB hW'; go_simp; exact ⟨rfl, rfl⟩)
               apply Exists.intro; refine ⟨fun W' hW' => ?_, ?_⟩
               (· first | (go_at_call 87; exact qc hW' (hF.out _ (up_of hW' hnt))))
               simp only [Act.put, List.setIfInBounds_toArray, List.set_cons_zero, List.set_cons_succ]; go_big_quiet_on)))
        refine wpQuiet_nil ?_
        intro W2 hb
        try replace hnt := up_of hb hnt
        try replace hB := up_of hb hB
        try replace z0 := up_of hb z0
        try replace z1 := up_of hb z1
        try replace z2 := up_of hb z2
        try replace z3 := up_of hb z3
        go_wp2
        go_ret
        exact ⟨rfl, hB⟩
      · by_cases hi0' : i = 0
        · have hi0'' : ¬ (0 : Int) < (i : Int) := by omega
          have hok2 : ∀ j, j < i + 1 → stepB K P L j = true := fun j hj => by
            have : j = i := by omega
            rw [this, hsti.out, hi0']; rfl
          replace hok2 := Lib.hid hok2
          clear hok hsti hU hno2 hi0''
          subst hi0'
          simp only [Nat.zero_mul, Nat.add_zero] at z0 z1 z2 z3
          try have ld_z0 := World.block_lt_of_cell? _ _ z0
          refine region_q (by kernel_rfl) (by kernel_rfl) ?_
          dsimp only [List.toList_toArray]
          repeat (first
           | go_big_quiet_skip
           | (go_big_quiet_want
              first
              | (refine qq_det ?_
                 apply Exists.intro; refine ⟨fun W' hW' => ?_, ?_⟩
                 (· have hk := cellB hW'; go_simp; try (first | rfl | rw [if_pos (by omega)]))
                 simp only [Act.put, List.setIfInBounds_toArray, List.set_cons_zero, List.set_cons_succ]; go_big_quiet_on)
              | (refine qq_call ?_
                 apply Exists.intro; apply Exists.intro; refine ⟨fun W' hW' => ?_, ?_⟩
                 (· have hk := cellB hW'; go_simp; exact ⟨rfl, rfl⟩)
                 apply Exists.intro; refine ⟨fun W' hW' => ?_, ?_⟩
                 (· first | (go_at_call 87; exact qc hW' (hF.out _ (up_of hW' hnt))))
                 simp only [Act.put, List.setIfInBounds_toArray, List.set_cons_zero, List.set_cons_succ]; go_big_quiet_on)))
          refine wpQuiet_nil ?_
          intro W2 hb
          try replace hnt := up_of hb hnt
          try replace hB := up_of hb hB
          try replace z0 := up_of hb z0
          try replace z1 := up_of hb z1
          try replace z2 := up_of hb z2
          try replace z3 := up_of hb z3
          go_wp2
          go_roundw
          case rel => exact ⟨0 + 1, by omega, rfl, hok2, hB⟩
          case measure => exact meas hlt
        · have hi0'' : (0 : Int) < (i : Int) := by omega
          have hi0n : 0 < i := by omega
          have hpl : i - 1 < L.length := by omega
          obtain ⟨ba3, oa3, ea3, hba3, y0, y1, y2, y3⟩ := hsl.ar_at hpl
          cases ea3
          have hxe : isEl K P L[i - 1].v L[i - 1].p = true := by
            have h1 := hok.out (i - 1) (by omega)
            rw [hst.out (i - 1) hpl, Bool.and_eq_true] at h1
            exact h1.1
          have hsti2 := hsti.out
          rw [getD_el hpl] at hsti2
          obtain ⟨x, hx⟩ : ∃ x, L[i - 1] = x := ⟨_, rfl⟩
          rw [hx] at y0 y1 y2 y3 hsti2 hxe
          have hU2 := fun V h => hU.out x hxe rfl V h
          obtain ⟨p, hp⟩ : ∃ p, i - 1 = p := ⟨_, rfl⟩
          have hpi : (i : Int) - 1 = (p : Int) := by omega
          rw [hp] at y0 y1 y2 y3
          have p1 : (0 : Int) ≤ (p : Int) := by omega
          have p2 : (p : Int) < (L.length : Int) := by omega
          have e0 : ((i : Nat) == 0) = false := by simpa using hi0'
          rw [e0, Bool.true_and, Bool.false_or] at hsti2
          obtain ⟨UB, hUB⟩ : ∃ z, U x = z := ⟨_, rfl⟩
          rw [hUB] at hsti2
          simp only [hUB] at hU2
          have hpw : IntKind.i64.wrap (p : Int) = (p : Int) := i64_small (by omega)
          replace hi0' := Lib.hid hi0'; replace hp := Lib.hid hp; replace hUB := Lib.hid hUB; replace hU2 := Lib.hid hU2; replace hsti2 := Lib.hid hsti2; replace hx := Lib.hid hx; replace hxe := Lib.hid hxe
          clear hsti hU e0
          obtain ⟨xv, ⟨xx, xy, xz⟩⟩ := x
          simp only at y0 y1 y2 y3 hU2
          cases UB
          · have hfin := hno2.out hsti2.out
            subst hfin
            clear hno hyes hno2 hok hsti2
            try have ld_z0 := World.block_lt_of_cell? _ _ z0
            try have ld_y0 := World.block_lt_of_cell? _ _ y0
            refine region_q (by kernel_rfl) (by kernel_rfl) ?_
            dsimp only [List.toList_toArray]
            repeat (first
             | go_big_quiet_skip
             | (go_big_quiet_want
                first
                | (refine qq_det ?_
                   apply Exists.intro; refine ⟨fun W' hW' => ?_, ?_⟩
                   (· have hk := cellB hW'; go_simp; try (first | rfl | rw [if_pos (by omega)]))
                   simp only [Act.put, List.setIfInBounds_toArray, List.set_cons_zero, List.set_cons_succ]; go_big_quiet_on)
                | (refine qq_call ?_
                   apply Exists.intro; apply Exists.intro; refine ⟨fun W' hW' => ?_, ?_⟩
                   (· have hk := cellB hW'; go_simp; exact ⟨rfl, rfl⟩)
                   apply Exists.intro; refine ⟨fun W' hW' => ?_, ?_⟩
                   (· first | (go_at_call 87; exact qc hW' (hF.out _ (up_of hW' hnt))) | (go_at_call 43; exact qc hW' (hU2.out _ (up_of hW' hnt))))
                   simp only [Act.put, List.setIfInBounds_toArray, List.set_cons_zero, List.set_cons_succ]; go_big_quiet_on)))
            refine wpQuiet_nil ?_
            intro W2 hb
            try replace hnt := up_of hb hnt
            try replace hB := up_of hb hB
            try replace z0 := up_of hb z0
            try replace z1 := up_of hb z1
            try replace z2 := up_of hb z2
            try replace z3 := up_of hb z3
            try replace y0 := up_of hb y0
            try replace y1 := up_of hb y1
            try replace y2 := up_of hb y2
            try replace y3 := up_of hb y3
            go_wp2
            go_ret
            exact ⟨rfl, hB⟩
          · have hok2 : ∀ j, j < i + 1 → stepB K P L j = true := fun j hj => by
              by_cases e : j < i
              · exact hok.out j e
              · have : j = i := by omega
                rw [this]; exact hsti2.out
            replace hok2 := Lib.hid hok2
            clear hok
            try have ld_z0 := World.block_lt_of_cell? _ _ z0
            try have ld_y0 := World.block_lt_of_cell? _ _ y0
            refine region_q (by kernel_rfl) (by kernel_rfl) ?_
            dsimp only [List.toList_toArray]
            repeat (first
             | go_big_quiet_skip
             | (go_big_quiet_want
                first
                | (refine qq_det ?_
                   apply Exists.intro; refine ⟨fun W' hW' => ?_, ?_⟩
                   (· have hk := cellB hW'; go_simp; try (first | rfl | rw [if_pos (by omega)]))
                   simp only [Act.put, List.setIfInBounds_toArray, List.set_cons_zero, List.set_cons_succ]; go_big_quiet_on)
                | (refine qq_call ?_
                   apply Exists.intro; apply Exists.intro; refine ⟨fun W' hW' => ?_, ?_⟩
                   (· have hk := cellB hW'; go_simp; exact ⟨rfl, rfl⟩)
                   apply Exists.intro; refine ⟨fun W' hW' => ?_, ?_⟩
                   (· first | (go_at_call 87; exact qc hW' (hF.out _ (up_of hW' hnt))) | (go_at_call 43; exact qc hW' (hU2.out _ (up_of hW' hnt))))
                   simp only [Act.put, List.setIfInBounds_toArray, List.set_cons_zero, List.set_cons_succ]; go_big_quiet_on)))
            refine wpQuiet_nil ?_
            intro W2 hb
            try replace hnt := up_of hb hnt
            try replace hB := up_of hb hB
            try replace z0 := up_of hb z0
            try replace z1 := up_of hb z1
            try replace z2 := up_of hb z2
            try replace z3 := up_of hb z3
            try replace y0 := up_of hb y0
            try replace y1 := up_of hb y1
            try replace y2 := up_of hb y2
            try replace y3 := up_of hb y3
            go_wp2
            go_roundw
            case rel => exact ⟨i + 1, by omega, rfl, hok2, hB⟩
            case measure => exact meas hlt
    · obtain rfl : i = L.length := by omega
      have hfin := hyes.out hok.out
      subst hfin
      clear hok hno hyes
      go_wp2
      go_ret
      exact ⟨rfl, hB⟩
end
end Go.Proofs.YtakbpjgnjfigcaaGreat

/- Which lists are chains, as exported: the program and the reference. -/
namespace Go.Proofs.YtakbpjgnjfigcaaGreat
open Go.RowKit Go.Maps

def chA (n : Int) (l : List Iq) (K : List Vv) (L : List Ar) : Bool := recB n l K && (decide (L.length ≤ 5000) && chB K (pts n l) L)
def liC (n : Int) (l : List Iq) (K : List Vv) (L : List Ar) : Int := if recB n l K = true then (if L.length ≤ 5000 then 0 else 2) else 20
theorem chA_no {n : Int} {l : List Iq} {K : List Vv} {L : List Ar} (h : liC n l K L ≠ 0) : chA n l K L = false := by
  unfold liC at h
  unfold chA
  cases hb : recB n l K
  · rfl
  · rw [hb] at h
    by_cases hl : L.length ≤ 5000
    · rw [if_pos rfl, if_pos hl] at h; exact absurd rfl h
    · simp [hl]
section
variable (n : Int) (s : Option Addr) (cap : Nat) (l : List Iq) (s2 : Option Addr) (cq : Nat) (K : List Vv) (sl : Option Addr) (cl : Nat) (L : List Ar) (w : World) (hr : RecM w s l s2 cq K)
include hr
set_option maxRecDepth 100000 in
set_option maxHeartbeats 1000000 in
theorem listed_c (hll : L.length ≤ 9223372036854775807) :
    Calls Tryz.prog 51 #[.agg #[.int .i64 n, .slice s l.length cap, .slice s2 K.length cq], .slice sl L.length cl] w fun e w' => ((liC n l K L ≠ 0 ∧ e = .returned (.tuple #[.pointer none, .int .i64 (liC n l K L)])) ∨ (recB n l K = true ∧ L.length ≤ 5000 ∧ ∃ g sp cp mb, e = .returned (.tuple #[.pointer (some ⟨g, 0, none⟩), .int .i64 0]) ∧ Net 126 w' g n s cap l s2 cq K sp cp mb (pts n l))) ∧ Below w.heap.size w w' := by
  unfold liC
  cases hb : recB n l K
  · have hn := fun V (hr : RecM V s l s2 cq K) => newNet_no n s cap l s2 cq K V hr hb
    simp only [Bool.false_eq_true, if_false]
    replace hn := Lib.hid hn
    clear hb
    go_enter Tryz.func51, Tryz.ntmps51
    go_upto_region 1 with (fail)
    refine wp_world fun W HW => ?_
    have hB : Below w.heap.size w W := by rw [HW.out]; (repeat (first | exact Below.refl _ _ | refine Below.alloc ?_ (by simp; try omega) _ | refine Below.setCell ?_ (by simp) _ | refine Below.drew ?_))
    have d0 : W.cell? ⟨w.heap.size, 0, none⟩ = some (.int .i64 n) := by rw [HW.out]; simp [go_sem]
    have d1 : W.cell? ⟨w.heap.size, 1, none⟩ = some (.slice s l.length cap) := by rw [HW.out]; simp [go_sem]
    have d2 : W.cell? ⟨w.heap.size, 2, none⟩ = some (.slice s2 K.length cq) := by rw [HW.out]; simp [go_sem]
    have dl : w.heap.size < W.heap.size := World.block_lt_of_cell? W _ d0
    try replace hr := up_of hB hr
    go_wp2_with (first | (go_at_call 31; refine (hn.out _ hr).mono ?_; rintro e W1 ⟨rfl, hb⟩; (try replace hr := up_of hb hr); (try replace hB := up_of hb hB); (try replace d0 := up_of hb d0); (try replace d1 := up_of hb d1); (try replace d2 := up_of hb d2); (try replace dl := up_of hb dl)))
    refine bodyPost_ret (results_tmp2 rfl _ _ _) rfl ?_
    exact ⟨.inl ⟨by decide, rfl⟩, hB⟩
  · have hn := fun V (hr : RecM V s l s2 cq K) => newNet_yes n s cap l s2 cq K V hr hb
    simp only [if_true]
    replace hn := Lib.hid hn
    clear hb
    by_cases hl : L.length ≤ 5000
    · have hl2 : ¬ (5000 : Int) < (L.length : Int) := by omega
      rw [if_pos hl]
      go_enter Tryz.func51, Tryz.ntmps51
      go_upto_region 1 with (fail)
      refine wp_world fun W HW => ?_
      have hB : Below w.heap.size w W := by rw [HW.out]; (repeat (first | exact Below.refl _ _ | refine Below.alloc ?_ (by simp; try omega) _ | refine Below.setCell ?_ (by simp) _ | refine Below.drew ?_))
      have d0 : W.cell? ⟨w.heap.size, 0, none⟩ = some (.int .i64 n) := by rw [HW.out]; simp [go_sem]
      have d1 : W.cell? ⟨w.heap.size, 1, none⟩ = some (.slice s l.length cap) := by rw [HW.out]; simp [go_sem]
      have d2 : W.cell? ⟨w.heap.size, 2, none⟩ = some (.slice s2 K.length cq) := by rw [HW.out]; simp [go_sem]
      have dl : w.heap.size < W.heap.size := World.block_lt_of_cell? W _ d0
      try replace hr := up_of hB hr
      go_wp2_with (first | (go_at_call 31; refine (hn.out _ hr).mono ?_; rintro e W1 ⟨⟨g, sp, cp, mb, rfl, hnt⟩, hb⟩; (try replace hr := up_of hb hr); (try replace hB := up_of hb hB); (try replace d0 := up_of hb d0); (try replace d1 := up_of hb d1); (try replace d2 := up_of hb d2); (try replace dl := up_of hb dl)))
      refine bodyPost_ret (results_tmp2 rfl _ _ _) rfl ?_
      exact ⟨.inr ⟨by trivial, hl, g, sp, cp, mb, rfl, hnt⟩, hB⟩
    · have hl2 : (5000 : Int) < (L.length : Int) := by omega
      rw [if_neg hl]
      go_enter Tryz.func51, Tryz.ntmps51
      go_upto_region 1 with (fail)
      refine wp_world fun W HW => ?_
      have hB : Below w.heap.size w W := by rw [HW.out]; (repeat (first | exact Below.refl _ _ | refine Below.alloc ?_ (by simp; try omega) _ | refine Below.setCell ?_ (by simp) _ | refine Below.drew ?_))
      have d0 : W.cell? ⟨w.heap.size, 0, none⟩ = some (.int .i64 n) := by rw [HW.out]; simp [go_sem]
      have d1 : W.cell? ⟨w.heap.size, 1, none⟩ = some (.slice s l.length cap) := by rw [HW.out]; simp [go_sem]
      have d2 : W.cell? ⟨w.heap.size, 2, none⟩ = some (.slice s2 K.length cq) := by rw [HW.out]; simp [go_sem]
      have dl : w.heap.size < W.heap.size := World.block_lt_of_cell? W _ d0
      try replace hr := up_of hB hr
      go_wp2_with (first | (go_at_call 31; refine (hn.out _ hr).mono ?_; rintro e W1 ⟨⟨g, sp, cp, mb, rfl, hnt⟩, hb⟩; (try replace hr := up_of hb hr); (try replace hB := up_of hb hB); (try replace d0 := up_of hb d0); (try replace d1 := up_of hb d1); (try replace d2 := up_of hb d2); (try replace dl := up_of hb dl)))
      refine bodyPost_ret (results_tmp2 rfl _ _ _) rfl ?_
      exact ⟨.inl ⟨by decide, rfl⟩, hB⟩
set_option maxRecDepth 100000 in
set_option maxHeartbeats 1000000 in
theorem asked_c2 (hll : L.length ≤ 9223372036854775807) :
    Calls Tryz.prog 40 #[.agg #[.int .i64 n, .slice s l.length cap, .slice s2 K.length cq], .slice sl L.length cl] w fun e w' => e = .returned (.int .i64 (liC n l K L)) ∧ Below w.heap.size w w' := by
  have hv := fun V (h : RecM V s l s2 cq K) => h.valid2 n cap
  unfold liC
  cases hb : recB n l K
  · rw [hb] at hv
    simp only [Bool.false_eq_true, if_false]
    replace hv := Lib.hid hv
    clear hb
    go_enter Tryz.func40, Tryz.ntmps40
    go_upto_region 1 with (fail)
    refine wp_world fun W HW => ?_
    have hB : Below w.heap.size w W := by rw [HW.out]; (repeat (first | exact Below.refl _ _ | refine Below.alloc ?_ (by simp; try omega) _ | refine Below.setCell ?_ (by simp) _ | refine Below.drew ?_))
    have d0 : W.cell? ⟨w.heap.size, 0, none⟩ = some (.int .i64 n) := by rw [HW.out]; simp [go_sem]
    have d1 : W.cell? ⟨w.heap.size, 1, none⟩ = some (.slice s l.length cap) := by rw [HW.out]; simp [go_sem]
    have d2 : W.cell? ⟨w.heap.size, 2, none⟩ = some (.slice s2 K.length cq) := by rw [HW.out]; simp [go_sem]
    have dl : w.heap.size < W.heap.size := World.block_lt_of_cell? W _ d0
    try replace hr := up_of hB hr
    go_wp2_with (first | (go_at_call 6; refine (hv.out _ hr).mono ?_; rintro e W1 ⟨rfl, hb⟩; (try replace hr := up_of hb hr); (try replace hB := up_of hb hB); (try replace d0 := up_of hb d0); (try replace d1 := up_of hb d1); (try replace d2 := up_of hb d2); (try replace dl := up_of hb dl)))
    go_ret
    exact ⟨rfl, hB⟩
  · rw [hb] at hv
    simp only [if_true]
    replace hv := Lib.hid hv
    clear hb
    by_cases hl : L.length ≤ 5000
    · have hl2 : ¬ (5000 : Int) < (L.length : Int) := by omega
      rw [if_pos hl]
      go_enter Tryz.func40, Tryz.ntmps40
      go_upto_region 1 with (fail)
      refine wp_world fun W HW => ?_
      have hB : Below w.heap.size w W := by rw [HW.out]; (repeat (first | exact Below.refl _ _ | refine Below.alloc ?_ (by simp; try omega) _ | refine Below.setCell ?_ (by simp) _ | refine Below.drew ?_))
      have d0 : W.cell? ⟨w.heap.size, 0, none⟩ = some (.int .i64 n) := by rw [HW.out]; simp [go_sem]
      have d1 : W.cell? ⟨w.heap.size, 1, none⟩ = some (.slice s l.length cap) := by rw [HW.out]; simp [go_sem]
      have d2 : W.cell? ⟨w.heap.size, 2, none⟩ = some (.slice s2 K.length cq) := by rw [HW.out]; simp [go_sem]
      have dl : w.heap.size < W.heap.size := World.block_lt_of_cell? W _ d0
      try replace hr := up_of hB hr
      go_wp2_with (first | (go_at_call 6; refine (hv.out _ hr).mono ?_; rintro e W1 ⟨rfl, hb⟩; (try replace hr := up_of hb hr); (try replace hB := up_of hb hB); (try replace d0 := up_of hb d0); (try replace d1 := up_of hb d1); (try replace d2 := up_of hb d2); (try replace dl := up_of hb dl)))
      go_ret
      exact ⟨rfl, hB⟩
    · have hl2 : (5000 : Int) < (L.length : Int) := by omega
      rw [if_neg hl]
      go_enter Tryz.func40, Tryz.ntmps40
      go_upto_region 1 with (fail)
      refine wp_world fun W HW => ?_
      have hB : Below w.heap.size w W := by rw [HW.out]; (repeat (first | exact Below.refl _ _ | refine Below.alloc ?_ (by simp; try omega) _ | refine Below.setCell ?_ (by simp) _ | refine Below.drew ?_))
      have d0 : W.cell? ⟨w.heap.size, 0, none⟩ = some (.int .i64 n) := by rw [HW.out]; simp [go_sem]
      have d1 : W.cell? ⟨w.heap.size, 1, none⟩ = some (.slice s l.length cap) := by rw [HW.out]; simp [go_sem]
      have d2 : W.cell? ⟨w.heap.size, 2, none⟩ = some (.slice s2 K.length cq) := by rw [HW.out]; simp [go_sem]
      have dl : w.heap.size < W.heap.size := World.block_lt_of_cell? W _ d0
      try replace hr := up_of hB hr
      go_wp2_with (first | (go_at_call 6; refine (hv.out _ hr).mono ?_; rintro e W1 ⟨rfl, hb⟩; (try replace hr := up_of hb hr); (try replace hB := up_of hb hB); (try replace d0 := up_of hb d0); (try replace d1 := up_of hb d1); (try replace d2 := up_of hb d2); (try replace dl := up_of hb dl)))
      go_ret
      exact ⟨rfl, hB⟩
set_option maxRecDepth 100000 in
set_option maxHeartbeats 1000000 in
theorem IsChain_c (hll : L.length ≤ 9223372036854775807) (hs : SlS arE w sl L) (hI : ∀ y ∈ L, y.p.I64) :
    Calls Tryz.prog 16 #[.agg #[.int .i64 n, .slice s l.length cap, .slice s2 K.length cq], .slice sl L.length cl] w fun e w' => e = .returned (.tuple #[.bool (chA n l K L), .int .i64 (liC n l K L)]) ∧ Below w.heap.size w w' := by
  have hli := fun V (h : RecM V s l s2 cq K) => listed_c n s cap l s2 cq K sl cl L V h hll
  have hch := fun (hb : recB n l K = true) (hl : L.length ≤ 5000) g sp cp mb V (h : Net 126 V g n s cap l s2 cq K sp cp mb (pts n l)) (hs : SlS arE V sl L) => nchain_c sl cl L V h (netOk hb) hs hl hI
  have hca := fun (hb : recB n l K = true) (hl : L.length ≤ 5000) => (show chA n l K L = chB K (pts n l) L by unfold chA; rw [hb]; simp [hl])
  have hc0 := fun (hb : recB n l K = true) (hl : L.length ≤ 5000) => (show liC n l K L = 0 by unfold liC; rw [hb]; simp [hl])
  have hno := fun h => chA_no (n := n) (l := l) (K := K) (L := L) h
  obtain ⟨P, hP⟩ : ∃ P, pts n l = P := ⟨_, rfl⟩
  simp only [hP] at hli hch hca
  obtain ⟨RB, hRB⟩ : ∃ x, recB n l K = x := ⟨_, rfl⟩
  simp only [hRB] at hli hch hca hc0
  obtain ⟨CA, hCA⟩ : ∃ x, chA n l K L = x := ⟨_, rfl⟩
  simp only [hCA] at hca hno ⊢
  obtain ⟨CC, hCC⟩ : ∃ x, liC n l K L = x := ⟨_, rfl⟩
  simp only [hCC] at hc0 hno hli ⊢
  clear hP hRB hCA hCC
  replace hli := Lib.hid hli; replace hch := Lib.hid hch; replace hca := Lib.hid hca; replace hc0 := Lib.hid hc0; replace hno := Lib.hid hno
  go_enter Tryz.func16, Tryz.ntmps16
  go_upto_region 1 with (fail)
  refine wp_world fun W HW => ?_
  have hB : Below w.heap.size w W := by rw [HW.out]; (repeat (first | exact Below.refl _ _ | refine Below.alloc ?_ (by simp; try omega) _ | refine Below.setCell ?_ (by simp) _ | refine Below.drew ?_))
  have d0 : W.cell? ⟨w.heap.size, 0, none⟩ = some (.int .i64 n) := by rw [HW.out]; simp [go_sem]
  have d1 : W.cell? ⟨w.heap.size, 1, none⟩ = some (.slice s l.length cap) := by rw [HW.out]; simp [go_sem]
  have d2 : W.cell? ⟨w.heap.size, 2, none⟩ = some (.slice s2 K.length cq) := by rw [HW.out]; simp [go_sem]
  have dl : w.heap.size < W.heap.size := World.block_lt_of_cell? W _ d0
  try replace hr := up_of hB hr
  try replace hs := up_of hB hs
  go_upto_region 2 with (first | (go_at_call 51; refine (hli.out _ hr).mono ?_; rintro e W1 ⟨h1, hb⟩; replace hB := up_of hb hB; replace hs := up_of hb hs; rcases h1 with ⟨h1, rfl⟩ | ⟨h1, h2, g, sp, cp, mb, rfl, hnt⟩))
  · have hc := hno.out h1
    have hcc : (CC == 0) = false := by simpa using h1
    have hcc2 : (CC != 0) = true := by simpa using h1
    subst hc
    replace h1 := Lib.hid h1
    clear hr
    go_wp2
    go_ret2
    exact ⟨rfl, hB⟩
  · have hc0' := hc0.out h1 h2
    have hcA := hca.out h1 h2
    subst hc0'
    have hcx := fun V h hs => hch.out h1 h2 g sp cp mb V h hs
    rw [← hcA] at hcx
    replace hcx := Lib.hid hcx
    clear hr d0 d1 d2 dl hcA hc0 hca hch hno hli
    go_upto_region 5 with (first | (go_at_call 52; refine (hcx.out _ hnt hs).mono ?_; rintro e W2 ⟨h3, hb⟩; replace hB := up_of hb hB; rcases h3 with ⟨rfl, v, rfl, -⟩ | ⟨rfl, rfl⟩))
    all_goals
      go_wp2
      go_ret2
      exact ⟨rfl, hB⟩
set_option maxRecDepth 100000 in
set_option maxHeartbeats 1000000 in
theorem rIsChain_c (hll : L.length ≤ 9223372036854775807) (hs : SlS arE w sl L) (hI : ∀ y ∈ L, y.p.I64) :
    Calls Tryz.prog 15 #[.agg #[.int .i64 n, .slice s l.length cap, .slice s2 K.length cq], .slice sl L.length cl] w fun e w' => e = .returned (.tuple #[.bool (chA n l K L), .int .i64 (liC n l K L)]) ∧ Below w.heap.size w w' := by
  have hli := fun V (h : RecM V s l s2 cq K) => asked_c2 n s cap l s2 cq K sl cl L V h hll
  have hno := fun h => chA_no (n := n) (l := l) (K := K) (L := L) h
  by_cases hc : liC n l K L = 0
  case neg =>
    have hcA := hno hc
    rw [hcA]
    obtain ⟨CC, hCC⟩ : ∃ x, liC n l K L = x := ⟨_, rfl⟩
    simp only [hCC] at hc hli ⊢
    have hcc2 : (CC != 0) = true := by simpa using hc
    replace hli := Lib.hid hli; replace hc := Lib.hid hc; replace hCC := Lib.hid hCC
    clear hno hcA
    go_enter Tryz.func15, Tryz.ntmps15
    go_upto_region 1 with (fail)
    refine wp_world fun W HW => ?_
    have hB : Below w.heap.size w W := by rw [HW.out]; (repeat (first | exact Below.refl _ _ | refine Below.alloc ?_ (by simp; try omega) _ | refine Below.setCell ?_ (by simp) _ | refine Below.drew ?_))
    have d0 : W.cell? ⟨w.heap.size, 0, none⟩ = some (.int .i64 n) := by rw [HW.out]; simp [go_sem]
    have d1 : W.cell? ⟨w.heap.size, 1, none⟩ = some (.slice s l.length cap) := by rw [HW.out]; simp [go_sem]
    have d2 : W.cell? ⟨w.heap.size, 2, none⟩ = some (.slice s2 K.length cq) := by rw [HW.out]; simp [go_sem]
    have dl : w.heap.size < W.heap.size := World.block_lt_of_cell? W _ d0
    try replace hr := up_of hB hr
    go_wp2_with (first | (go_at_call 40; refine (hli.out _ hr).mono ?_; rintro e W1 ⟨rfl, hb⟩; (try replace hr := up_of hb hr); (try replace hB := up_of hb hB); (try replace d0 := up_of hb d0); (try replace d1 := up_of hb d1); (try replace d2 := up_of hb d2); (try replace dl := up_of hb dl)))
    go_ret2
    exact ⟨rfl, hB⟩
  have hb : recB n l K = true := by
    cases hb : recB n l K
    · unfold liC at hc; rw [hb] at hc; simp at hc
    · rfl
  have hl : L.length ≤ 5000 := by
    by_cases hl : L.length ≤ 5000
    · exact hl
    · unfold liC at hc; rw [hb] at hc; simp [hl] at hc
  have hcA : chA n l K L = chB K (pts n l) L := by unfold chA; rw [hb]; simp [hl]
  have ok := netOk hb
  have hof := fun V (h : RecM V s l s2 cq K) => Of_c n s cap l s2 cq K V h ok.dim ok
  have hch := fun g sp cp mb V (h : Net 142 V g n s cap l s2 cq K sp cp mb (pts n l)) (hs : SlS arE V sl L) => rchain_c sl cl L V h ok hs hl hI
  rw [hcA, hc]
  simp only [hc] at hli
  obtain ⟨P, hP⟩ : ∃ P, pts n l = P := ⟨_, rfl⟩
  simp only [hP] at hof hch ⊢
  obtain ⟨CB, hCB⟩ : ∃ x, chB K P L = x := ⟨_, rfl⟩
  simp only [hCB] at hch ⊢
  clear hP hCB hcA hno hc hb ok
  replace hli := Lib.hid hli; replace hof := Lib.hid hof; replace hch := Lib.hid hch
  go_enter Tryz.func15, Tryz.ntmps15
  go_upto_region 1 with (fail)
  refine wp_world fun W HW => ?_
  have hB : Below w.heap.size w W := by rw [HW.out]; (repeat (first | exact Below.refl _ _ | refine Below.alloc ?_ (by simp; try omega) _ | refine Below.setCell ?_ (by simp) _ | refine Below.drew ?_))
  have d0 : W.cell? ⟨w.heap.size, 0, none⟩ = some (.int .i64 n) := by rw [HW.out]; simp [go_sem]
  have d1 : W.cell? ⟨w.heap.size, 1, none⟩ = some (.slice s l.length cap) := by rw [HW.out]; simp [go_sem]
  have d2 : W.cell? ⟨w.heap.size, 2, none⟩ = some (.slice s2 K.length cq) := by rw [HW.out]; simp [go_sem]
  have dl : w.heap.size < W.heap.size := World.block_lt_of_cell? W _ d0
  try replace hr := up_of hB hr
  try replace hs := up_of hB hs
  go_wp2_with (first | (go_at_call 40; refine (hli.out _ hr).mono ?_; rintro e W1 ⟨rfl, hb⟩; (try replace hr := up_of hb hr); (try replace hs := up_of hb hs); (try replace hB := up_of hb hB); (try replace d0 := up_of hb d0); (try replace d1 := up_of hb d1); (try replace d2 := up_of hb d2); (try replace dl := up_of hb dl)) | (go_at_call 41; refine (hof.out _ hr).mono ?_; rintro e W2 ⟨⟨g, sp, cp, mb, rfl, hnt⟩, hb⟩; (try replace hr := up_of hb hr); (try replace hs := up_of hb hs); (try replace hB := up_of hb hB); (try replace d0 := up_of hb d0); (try replace d1 := up_of hb d1); (try replace d2 := up_of hb d2); (try replace dl := up_of hb dl)) | (go_at_call 42; refine (hch.out _ _ _ _ _ hnt hs).mono ?_; rintro e W1 ⟨rfl, hb⟩; (try replace hr := up_of hb hr); (try replace hs := up_of hb hs); (try replace hB := up_of hb hB); (try replace d0 := up_of hb d0); (try replace d1 := up_of hb d1); (try replace d2 := up_of hb d2); (try replace dl := up_of hb dl)))
  go_ret2
  exact ⟨rfl, hB⟩
end
end Go.Proofs.YtakbpjgnjfigcaaGreat
