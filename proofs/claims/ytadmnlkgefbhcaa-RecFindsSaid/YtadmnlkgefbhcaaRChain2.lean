/- Which lists are chains: the reference's loop. -/
import Derived.Test.YtadmnlkgefbhcaaRChain
namespace Go.Proofs.Ytadmnlkgefbhcaa
open Go.RowKit Go.Maps

section
variable {g : Nat} {n : Int} {s : Option Addr} {cap : Nat} {l : List Iq} {s2 : Option Addr} {cq : Nat} {K : List Vv} {sp : Option Addr} {cp mb : Nat} {P : List Pt}
set_option maxRecDepth 100000 in
set_option maxHeartbeats 2000000 in
theorem rchain_c (sl : Option Addr) (cl : Nat) (L : List Ar) (w : World) (h : Net 64 w g n s cap l s2 cq K sp cp mb P) (ok : NetOk n K P) (hs : SlS arE w sl L) (hl : L.length ≤ 5000) (hI : ∀ y ∈ L, y.p.I64) :
    Calls Try.prog 73 #[.pointer (some ⟨g, 0, none⟩), .slice sl L.length cl] w fun e w' => e = .returned (.bool (chB K P L)) ∧ Below w.heap.size w w' := by
  have his := fun (y : Ar) (hy : y.p.I64) V (h : Net 64 V g n s cap l s2 cq K sp cp mb P) => rIs_c y V h ok hy
  have hus := fun (y x : Ar) (hy : isEl K P y.v y.p = true) (hx : isEl K P x.v x.p = true) V (h : Net 64 V g n s cap l s2 cq K sp cp mb P) => ruses_c y x V h ok hy hx
  simp only [← isEl_in] at his
  have hyes := fun (h : ∀ i, i < L.length → stepB K P L i = true) => chB_yes h
  have hno := fun i (hi : i < L.length) (h : stepB K P L i = false) => chB_no hi h
  have hst : ∀ i (hi : i < L.length), stepB K P L i = (isEl K P L[i].v L[i].p && (i == 0 || (useN K P (elNum P L[i])).contains (elNum P (L.getD (i - 1) default)))) := fun i hi => by unfold stepB; rw [getD_el hi]
  obtain ⟨CB, hCB⟩ : ∃ x, chB K P L = x := ⟨_, rfl⟩
  simp only [hCB] at hyes hno ⊢
  clear hCB ok
  have hs0 := Lib.hid hs
  have h0 := Lib.hid h
  replace his := Lib.hid his; replace hus := Lib.hid hus; replace hyes := Lib.hid hyes; replace hno := Lib.hid hno; replace hst := Lib.hid hst; replace hI := Lib.hid hI
  clear hs h
  go_enter Try.func73, Try.ntmps73
  go_wp2
  go_loopw [5] (fun ii V => ∃ (i : Nat), i ≤ L.length ∧ ii = .int .i64 i ∧ Hid (∀ j, j < i → stepB K P L j = true) ∧ Below w.heap.size w V) (fun ii _ => L.length - (intOf ii).toNat)
  case atStart => exact ⟨0, by omega, rfl, Lib.hid (fun j h => absurd h (by omega)), Below.refl _ _⟩
  case round =>
    obtain ⟨i, hi, rfl, hok, hB⟩ := hrel
    have hnt := up_of hB h0.out
    have hsl := up_of hB hs0.out
    by_cases hlt : i < L.length
    · obtain ⟨ba, oa, ea, hba, z0, z1, z2, z3⟩ := hsl.ar_at hlt
      obtain ⟨ba2, oa2, ea2, -⟩ := hs0.out.ar_at hlt
      cases ea2; cases ea
      have hsti := hst.out i hlt
      have hyI := hI.out _ (List.getElem_mem hlt)
      have hno2 := fun h => hno.out i hlt h
      obtain ⟨y, hy⟩ : ∃ x, L[i] = x := ⟨_, rfl⟩
      rw [hy] at z0 z1 z2 z3 hsti hyI
      have hF := fun V h => his.out y hyI V h
      have hU := fun (x : Ar) (hx : isEl K P x.v x.p = true) (hy : isEl K P y.v y.p = true) V h => hus.out y x hy hx V h
      obtain ⟨EB, hEB⟩ : ∃ x, isEl K P y.v y.p = x := ⟨_, rfl⟩
      simp only [hEB] at hF hsti hU
      have i1 : (0 : Int) ≤ (i : Int) := by omega
      have i2 : (i : Int) < (L.length : Int) := by omega
      replace hno2 := Lib.hid hno2; replace hy := Lib.hid hy; replace hEB := Lib.hid hEB
      clear hyI
      obtain ⟨U, hUU⟩ : ∃ f, (fun x : Ar => (useN K P (elNum P y)).contains (elNum P x)) = f := ⟨_, rfl⟩
      have hU2 : ∀ x : Ar, (useN K P (elNum P y)).contains (elNum P x) = U x := fun x => by rw [← hUU]
      simp only [hU2] at hU hsti
      clear hUU hU2
      replace hF := Lib.hid hF; replace hU := Lib.hid hU; replace hsti := Lib.hid hsti
      obtain ⟨yv, ⟨yx, yy, yz⟩⟩ := y
      simp only at z0 z1 z2 z3 hF hU
      go_upto_region 4 with (fail)
      cases EB
      · have hfin := hno2.out (by rw [hsti.out]; rfl)
        subst hfin
        clear hsti hno hyes hno2 hU hok
        try have ld_z0 := World.block_lt_of_cell? _ _ z0
        refine region_q (by kernel_rfl) (by kernel_rfl) ?_
        dsimp only [List.toList_toArray]
        repeat (first
         | go_big_quiet_skip
         | (go_big_quiet_want
            first
            | (refine qq_det ?_
               apply Exists.intro; refine ⟨fun W' hW' => ?_, ?_⟩
               (· have hk := cellB hW'; go_simp; try (first | rfl | rw [if_pos (by omega)]))
               simp only [Act.put, List.setIfInBounds_toArray, List.set_cons_zero, List.set_cons_succ]; go_big_quiet_on)
            | (refine qq_call ?_
               apply Exists.intro; apply Exists.intro; refine ⟨fun W' hW' => ?_, ?_⟩
               (· have hk := cellB hW'; go_simp; exact ⟨rfl, rfl⟩)
               apply Exists.intro; refine ⟨fun W' hW' => ?_, ?_⟩
               (· first | (go_at_call 36; exact qc hW' (hF.out _ (up_of hW' hnt))))
               simp only [Act.put, List.setIfInBounds_toArray, List.set_cons_zero, List.set_cons_succ]; go_big_quiet_on)))
        refine wpQuiet_nil ?_
        intro W2 hb
        try replace hnt := up_of hb hnt
        try replace hB := up_of hb hB
        try replace z0 := up_of hb z0
        try replace z1 := up_of hb z1
        try replace z2 := up_of hb z2
        try replace z3 := up_of hb z3
        go_wp2
        go_ret
        exact ⟨rfl, hB⟩
      · by_cases hi0' : i = 0
        · have hi0'' : ¬ (0 : Int) < (i : Int) := by omega
          have hok2 : ∀ j, j < i + 1 → stepB K P L j = true := fun j hj => by
            have : j = i := by omega
            rw [this, hsti.out, hi0']; rfl
          replace hok2 := Lib.hid hok2
          clear hok hsti hU hno2 hi0''
          subst hi0'
          simp only [Nat.zero_mul, Nat.add_zero] at z0 z1 z2 z3
          try have ld_z0 := World.block_lt_of_cell? _ _ z0
          refine region_q (by kernel_rfl) (by kernel_rfl) ?_
          dsimp only [List.toList_toArray]
          repeat (first
           | go_big_quiet_skip
           | (go_big_quiet_want
              first
              | (refine qq_det ?_
                 apply Exists.intro; refine ⟨fun W' hW' => ?_, ?_⟩
                 (· have hk := cellB hW'; go_simp; try (first | rfl | rw [if_pos (by omega)]))
                 simp only [Act.put, List.setIfInBounds_toArray, List.set_cons_zero, List.set_cons_succ]; go_big_quiet_on)
              | (refine qq_call ?_
                 apply Exists.intro; apply Exists.intro; refine ⟨fun W' hW' => ?_, ?_⟩
                 (· have hk := cellB hW'; go_simp; exact ⟨rfl, rfl⟩)
                 apply Exists.intro; refine ⟨fun W' hW' => ?_, ?_⟩
                 (· first | (go_at_call 36; exact qc hW' (hF.out _ (up_of hW' hnt))))
                 simp only [Act.put, List.setIfInBounds_toArray, List.set_cons_zero, List.set_cons_succ]; go_big_quiet_on)))
          refine wpQuiet_nil ?_
          intro W2 hb
          try replace hnt := up_of hb hnt
          try replace hB := up_of hb hB
          try replace z0 := up_of hb z0
          try replace z1 := up_of hb z1
          try replace z2 := up_of hb z2
          try replace z3 := up_of hb z3
          go_wp2
          go_roundw
          case rel => exact ⟨0 + 1, by omega, rfl, hok2, hB⟩
          case measure => exact meas hlt
        · have hi0'' : (0 : Int) < (i : Int) := by omega
          have hi0n : 0 < i := by omega
          have hpl : i - 1 < L.length := by omega
          obtain ⟨ba3, oa3, ea3, hba3, y0, y1, y2, y3⟩ := hsl.ar_at hpl
          cases ea3
          have hxe : isEl K P L[i - 1].v L[i - 1].p = true := by
            have h1 := hok.out (i - 1) (by omega)
            rw [hst.out (i - 1) hpl, Bool.and_eq_true] at h1
            exact h1.1
          have hsti2 := hsti.out
          rw [getD_el hpl] at hsti2
          obtain ⟨x, hx⟩ : ∃ x, L[i - 1] = x := ⟨_, rfl⟩
          rw [hx] at y0 y1 y2 y3 hsti2 hxe
          have hU2 := fun V h => hU.out x hxe rfl V h
          obtain ⟨p, hp⟩ : ∃ p, i - 1 = p := ⟨_, rfl⟩
          have hpi : (i : Int) - 1 = (p : Int) := by omega
          rw [hp] at y0 y1 y2 y3
          have p1 : (0 : Int) ≤ (p : Int) := by omega
          have p2 : (p : Int) < (L.length : Int) := by omega
          have e0 : ((i : Nat) == 0) = false := by simpa using hi0'
          rw [e0, Bool.true_and, Bool.false_or] at hsti2
          obtain ⟨UB, hUB⟩ : ∃ z, U x = z := ⟨_, rfl⟩
          rw [hUB] at hsti2
          simp only [hUB] at hU2
          have hpw : IntKind.i64.wrap (p : Int) = (p : Int) := i64_small (by omega)
          replace hi0' := Lib.hid hi0'; replace hp := Lib.hid hp; replace hUB := Lib.hid hUB; replace hU2 := Lib.hid hU2; replace hsti2 := Lib.hid hsti2; replace hx := Lib.hid hx; replace hxe := Lib.hid hxe
          clear hsti hU e0
          obtain ⟨xv, ⟨xx, xy, xz⟩⟩ := x
          simp only at y0 y1 y2 y3 hU2
          cases UB
          · have hfin := hno2.out hsti2.out
            subst hfin
            clear hno hyes hno2 hok hsti2
            try have ld_z0 := World.block_lt_of_cell? _ _ z0
            try have ld_y0 := World.block_lt_of_cell? _ _ y0
            refine region_q (by kernel_rfl) (by kernel_rfl) ?_
            dsimp only [List.toList_toArray]
            repeat (first
             | go_big_quiet_skip
             | (go_big_quiet_want
                first
                | (refine qq_det ?_
                   apply Exists.intro; refine ⟨fun W' hW' => ?_, ?_⟩
                   (· have hk := cellB hW'; go_simp; try (first | rfl | rw [if_pos (by omega)]))
                   simp only [Act.put, List.setIfInBounds_toArray, List.set_cons_zero, List.set_cons_succ]; go_big_quiet_on)
                | (refine qq_call ?_
                   apply Exists.intro; apply Exists.intro; refine ⟨fun W' hW' => ?_, ?_⟩
                   (· have hk := cellB hW'; go_simp; exact ⟨rfl, rfl⟩)
                   apply Exists.intro; refine ⟨fun W' hW' => ?_, ?_⟩
                   (· first | (go_at_call 36; exact qc hW' (hF.out _ (up_of hW' hnt))) | (go_at_call 88; exact qc hW' (hU2.out _ (up_of hW' hnt))))
                   simp only [Act.put, List.setIfInBounds_toArray, List.set_cons_zero, List.set_cons_succ]; go_big_quiet_on)))
            refine wpQuiet_nil ?_
            intro W2 hb
            try replace hnt := up_of hb hnt
            try replace hB := up_of hb hB
            try replace z0 := up_of hb z0
            try replace z1 := up_of hb z1
            try replace z2 := up_of hb z2
            try replace z3 := up_of hb z3
            try replace y0 := up_of hb y0
            try replace y1 := up_of hb y1
            try replace y2 := up_of hb y2
            try replace y3 := up_of hb y3
            go_wp2
            go_ret
            exact ⟨rfl, hB⟩
          · have hok2 : ∀ j, j < i + 1 → stepB K P L j = true := fun j hj => by
              by_cases e : j < i
              · exact hok.out j e
              · have : j = i := by omega
                rw [this]; exact hsti2.out
            replace hok2 := Lib.hid hok2
            clear hok
            try have ld_z0 := World.block_lt_of_cell? _ _ z0
            try have ld_y0 := World.block_lt_of_cell? _ _ y0
            refine region_q (by kernel_rfl) (by kernel_rfl) ?_
            dsimp only [List.toList_toArray]
            repeat (first
             | go_big_quiet_skip
             | (go_big_quiet_want
                first
                | (refine qq_det ?_
                   apply Exists.intro; refine ⟨fun W' hW' => ?_, ?_⟩
                   (· have hk := cellB hW'; go_simp; try (first | rfl | rw [if_pos (by omega)]))
                   simp only [Act.put, List.setIfInBounds_toArray, List.set_cons_zero, List.set_cons_succ]; go_big_quiet_on)
                | (refine qq_call ?_
                   apply Exists.intro; apply Exists.intro; refine ⟨fun W' hW' => ?_, ?_⟩
                   (· have hk := cellB hW'; go_simp; exact ⟨rfl, rfl⟩)
                   apply Exists.intro; refine ⟨fun W' hW' => ?_, ?_⟩
                   (· first | (go_at_call 36; exact qc hW' (hF.out _ (up_of hW' hnt))) | (go_at_call 88; exact qc hW' (hU2.out _ (up_of hW' hnt))))
                   simp only [Act.put, List.setIfInBounds_toArray, List.set_cons_zero, List.set_cons_succ]; go_big_quiet_on)))
            refine wpQuiet_nil ?_
            intro W2 hb
            try replace hnt := up_of hb hnt
            try replace hB := up_of hb hB
            try replace z0 := up_of hb z0
            try replace z1 := up_of hb z1
            try replace z2 := up_of hb z2
            try replace z3 := up_of hb z3
            try replace y0 := up_of hb y0
            try replace y1 := up_of hb y1
            try replace y2 := up_of hb y2
            try replace y3 := up_of hb y3
            go_wp2
            go_roundw
            case rel => exact ⟨i + 1, by omega, rfl, hok2, hB⟩
            case measure => exact meas hlt
    · obtain rfl : i = L.length := by omega
      have hfin := hyes.out hok.out
      subst hfin
      clear hok hno hyes
      go_wp2
      go_ret
      exact ⟨rfl, hB⟩
end
end Go.Proofs.Ytadmnlkgefbhcaa
