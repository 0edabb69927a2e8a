/- Which columns stand: the reference's walk. -/
import Derived.Test.YtbabdoafpljdbaaMd39
import Derived.Test.YtbabdoafpljdbaaMd14
namespace Go.Proofs.Ytbabdoafpljdbaa
open Go.RowKit

set_option maxRecDepth 100000 in
set_option maxHeartbeats 2000000 in
theorem rStand_c (wd ht r : Int) (s : Option Addr) (cap : Nat) (F : List Cel) (t : Option Addr) (ct : Nat) (k : List (List Int)) (w : World) (h : Cels w s cap F) (g : SlSS intE w t k) (hkl : k.length ≤ 200) (hkw : ∀ l ∈ k, ∀ n ∈ l, I64 n) :
    Calls Try.prog 41 #[.agg #[.int .i64 wd, .int .i64 ht, .slice s F.length cap], .int .i64 r, .slice t k.length ct] w fun e w' => e = .returned (.tuple #[.bool (stB wd ht F r k), .int .i64 (opE wd ht F r)]) ∧ Below w.heap.size w w' := by
  have hop := fun V (h : Cels V s cap F) => asked_c wd ht r s cap F V h
  have hl := h.len
  by_cases h1 : opE wd ht F r = 0
  case neg =>
    rw [show stB wd ht F r k = false by simp [stB, h1]]
    obtain ⟨E, hE⟩ : ∃ E, opE wd ht F r = E := ⟨_, rfl⟩
    rw [hE] at hop h1 ⊢
    have h2 : (E != 0) = true := by simpa using h1
    replace hop := Lib.hid hop
    clear hE h1
    go_enter Try.func41, Try.ntmps41
    go_upto_region 1 with (fail)
    refine wp_world fun W HW => ?_
    have hB : Below w.heap.size w W := by rw [HW.out]; (repeat (first | exact Below.refl _ _ | refine Below.alloc ?_ (by simp; try omega) _ | refine Below.setCell ?_ (by simp) _ | refine Below.drew ?_))
    have g0 : W.cell? ⟨w.heap.size, 0, none⟩ = some (.int .i64 wd) := by rw [HW.out]; simp [go_sem]
    have g1 : W.cell? ⟨w.heap.size, 1, none⟩ = some (.int .i64 ht) := by rw [HW.out]; simp [go_sem]
    have g2 : W.cell? ⟨w.heap.size, 2, none⟩ = some (.slice s F.length cap) := by rw [HW.out]; simp [go_sem]
    have gl : w.heap.size < W.heap.size := World.block_lt_of_cell? W _ g0
    try replace h := up_of hB h
    go_wp2_with (first | (go_at_call 50; refine (hop.out _ h).mono ?_; rintro e W1 ⟨rfl, hb⟩; (try replace h := up_of hb h); (try replace hB := up_of hb hB); (try replace g0 := up_of hb g0); (try replace g1 := up_of hb g1); (try replace g2 := up_of hb g2); (try replace gl := up_of hb gl)))
    go_ret2
    exact ⟨rfl, hB⟩
  obtain ⟨hv, hr⟩ := opE_ok h1
  obtain ⟨f1, f2, f3⟩ := fld_facts hv
  obtain ⟨g1, g2, g3, -⟩ := gv_nat hv
  rw [show stB wd ht F r k = standB (fld wd.toNat ht.toNat F) r k by simp [stB, h1], h1]
  rw [h1] at hop
  obtain ⟨wd, rfl⟩ : ∃ n : Nat, wd = n := ⟨wd.toNat, g1.symm⟩
  obtain ⟨ht, rfl⟩ : ∃ n : Nat, ht = n := ⟨ht.toNat, g2.symm⟩
  simp only [Int.toNat_natCast] at f1 f2 f3 g3 ⊢
  have hfo := fun V (h : Cels V s cap F) => (fieldOf_c wd ht s cap F V h hv).mono (R' := fun e w' => (∃ s cap ss, e = .returned (.slice s (fld wd ht F).length cap) ∧ Tbl boolE 75 4 w' V.heap.size (.slice s (fld wd ht F).length cap) ss (fld wd ht F)) ∧ Below V.heap.size V w') (fun e w' ⟨s, cap, ss, he, ht, hb⟩ => ⟨⟨s, cap, ss, he, ht⟩, hb⟩)
  obtain ⟨R, hR⟩ : ∃ x, fld wd ht F = x := ⟨_, rfl⟩
  simp only [hR] at hfo f1 f2 ⊢
  have hle := fun hh => stand_le (R := R) (r := r) (k := k) f2 f1.1 hh
  have hcol := fun V s c ta tc l (h : SlSS boolE V s R) (g : SlS intE V ta l) hcb => rIsCol_x s c R r wd ta tc l V h g f1.2 f2 ⟨g3, f3⟩ hr hcb
  have hn1 := fun (i : Nat) (hi : i < k.length) hh => st_no1 (R := R) (r := r) hi hh
  have hn2 := fun (i : Nat) (hi : i < k.length) hi0 (y : Nat) (hy : y < k[i].length) (a : Int) ha hh => st_no2 (R := R) (r := r) hi hi0 hy (a := a) ha hh
  have hys := fun hh => st_yes (R := R) (r := r) (k := k) hh
  have hcf := fun (c : List Int) hh => (isCol_facts (R := R) (r := r) (c := c) hh).1
  obtain ⟨B, hB0⟩ : ∃ x, standB R r k = x := ⟨_, rfl⟩
  simp only [hB0] at hn1 hn2 hys hle ⊢
  obtain ⟨nw, hnw⟩ : ∃ n, wd = n := ⟨_, rfl⟩
  have hR8 : R.length ≤ 8 := f1.2
  by_cases hbig : wd < k.length
  · obtain rfl : false = B := by cases B <;> simp_all <;> omega
    have hbig2 : (wd : Int) < (k.length : Int) := by omega
    replace hop := Lib.hid hop; replace hnw := Lib.hid hnw
    clear hn1 hn2 hys hcol hfo hle
    go_enter Try.func41, Try.ntmps41
    go_upto_region 1 with (fail)
    refine wp_world fun W HW => ?_
    have hB : Below w.heap.size w W := by rw [HW.out]; (repeat (first | exact Below.refl _ _ | refine Below.alloc ?_ (by simp; try omega) _ | refine Below.setCell ?_ (by simp) _ | refine Below.drew ?_))
    have g0 : W.cell? ⟨w.heap.size, 0, none⟩ = some (.int .i64 wd) := by rw [HW.out]; simp [go_sem]
    have g1 : W.cell? ⟨w.heap.size, 1, none⟩ = some (.int .i64 ht) := by rw [HW.out]; simp [go_sem]
    have g2 : W.cell? ⟨w.heap.size, 2, none⟩ = some (.slice s F.length cap) := by rw [HW.out]; simp [go_sem]
    have gl : w.heap.size < W.heap.size := World.block_lt_of_cell? W _ g0
    try replace h := up_of hB h
    try replace g := up_of hB g
    go_wp2_with (first | (go_at_call 50; refine (hop.out _ h).mono ?_; rintro e W1 ⟨rfl, hb⟩; (try replace h := up_of hb h); (try replace g := up_of hb g); (try replace hB := up_of hb hB); (try replace g0 := up_of hb g0); (try replace g1 := up_of hb g1); (try replace g2 := up_of hb g2); (try replace gl := up_of hb gl)))
    go_ret2
    exact ⟨rfl, hB⟩
  have hbig2 : ¬ (wd : Int) < (k.length : Int) := by omega
  clear hle hbig
  replace hfo := Lib.hid hfo; replace hop := Lib.hid hop; replace hcol := Lib.hid hcol; replace hn1 := Lib.hid hn1; replace hn2 := Lib.hid hn2; replace hys := Lib.hid hys; replace hcf := Lib.hid hcf; replace hR := Lib.hid hR; replace hB0 := Lib.hid hB0; replace hkw := Lib.hid hkw; replace hnw := Lib.hid hnw
  clear h1 hv f1 f2 f3 g1 g2 g3
  go_enter Try.func41, Try.ntmps41
  go_upto_region 1 with (fail)
  refine wp_world fun W HW => ?_
  have hB : Below w.heap.size w W := by rw [HW.out]; (repeat (first | exact Below.refl _ _ | refine Below.alloc ?_ (by simp; try omega) _ | refine Below.setCell ?_ (by simp) _ | refine Below.drew ?_))
  have g0 : W.cell? ⟨w.heap.size, 0, none⟩ = some (.int .i64 wd) := by rw [HW.out]; simp [go_sem]
  have g1 : W.cell? ⟨w.heap.size, 1, none⟩ = some (.int .i64 ht) := by rw [HW.out]; simp [go_sem]
  have g2 : W.cell? ⟨w.heap.size, 2, none⟩ = some (.slice s F.length cap) := by rw [HW.out]; simp [go_sem]
  have gl : w.heap.size < W.heap.size := World.block_lt_of_cell? W _ g0
  try replace h := up_of hB h
  try replace g := up_of hB g
  go_upto_region 6 with (first | (go_at_call 50; refine (hop.out _ h).mono ?_; rintro e W1 ⟨rfl, hb⟩; (try replace h := up_of hb h); (try replace g := up_of hb g); (try replace hB := up_of hb hB); (try replace g0 := up_of hb g0); (try replace g1 := up_of hb g1); (try replace g2 := up_of hb g2); (try replace gl := up_of hb gl)))
  have hBs := hB.size
  have hg0 := Lib.hid g
  clear g hb
  go_upto_region 7 with (go_at_call 51; refine (hfo.out _ h).mono ?_; rintro e A1 ⟨⟨s1, k1, ss1, rfl, ht1⟩, hb⟩)
  have hv1 := Lib.hid ht1.seen
  have hg1 := Lib.hid (up_of hb hg0.out)
  have hBA := hB.trans (hb.mono hBs)
  have hAs := hBA.size
  clear ht1 hb hg0
  go_wp2
  go_loopw [28] (fun ii V => ∃ i : Nat, i ≤ k.length ∧ ii = .int .i64 i ∧ Below A1.heap.size A1 V ∧ Hid (∀ j, j < i → isColB R r (colN k j) = true ∧ gtB k j = true)) (fun ii _ => k.length - (intOf ii).toNat)
  case atStart => exact ⟨0, by omega, rfl, Below.refl _ _, fun j h => absurd h (by omega)⟩
  case round =>
    obtain ⟨i, hi, rfl, hbl, hall⟩ := hrel
    have hBf := hBA.trans (hbl.mono hAs)
    have hbls := hbl.size
    by_cases hlt : i < k.length
    · obtain ⟨bk, ok, ta, tc, e1, hbk, x0, hsl, -, -⟩ := (up_of hbl hg1.out).at hlt
      have hcc := hcol.out wr s1 k1 ta tc k[i] (up_of hbl hv1.out) hsl (hkw.out _ (List.getElem_mem hlt))
      have hbad := hn1.out i hlt
      have hbad2 := hn2.out i hlt
      have hcfi := hcf.out k[i]
      have hgi := colN_at hlt
      have i1 : (0 : Int) ≤ (i : Int) := by omega
      have i2 : (i : Int) < (k.length : Int) := by omega
      cases hic : isColB R r k[i]
      · rw [hic] at hcc
        obtain rfl := hbad hic
        replace hcc := Lib.hid hcc; replace hgi := Lib.hid hgi; replace hic := Lib.hid hic
        clear hbad hbad2 hcfi
        subst e1
        go_wp2_with (go_at_call 52; refine hcc.out.mono ?_; rintro e V2 ⟨rfl, hb2⟩)
        go_ret2
        exact ⟨rfl, hBf.trans (hb2.mono hBf.size)⟩
      · rw [hic] at hcc
        have hcl := hcfi hic
        have hpv : i ≠ 0 → ∃ m : Nat, (m : Int) = (i : Int) - 1 ∧ ∃ (hm : m < k.length), m = i - 1 ∧ k[m].length = R.length ∧ colN k (i - 1) = k[m] := fun hi0 => by
          have hm : i - 1 < k.length := by omega
          have h2 := (hall.out (i - 1) (by omega)).1
          rw [colN_at hm] at h2
          exact ⟨i - 1, by omega, hm, rfl, hcf.out _ h2, colN_at hm⟩
        have hbad3 : ∀ (m : Nat) (hm : m < k.length), m = i - 1 → i ≠ 0 → ∀ (y : Nat) (hy : y < k[i].length) (a : Int), k[m].getD y 0 = a → k[i][y] ≤ a → B = false := fun m hm e hi0 y hy a ha hh => by subst e; exact hbad2 hi0 y hy a ha hh
        have hgt : ∀ (m : Nat) (hm : m < k.length), m = i - 1 → (∀ y, y < k[i].length → k[m].getD y 0 < k[i].getD y 0) → gtB k i = true := fun m hm e hh => gtB_iff.2 (.inr (by subst e; rw [hgi, colN_at hm]; exact hh))
        have hgt0 : i = 0 → gtB k i = true := fun e => gtB_iff.2 (.inl e)
        have hic2 : isColB R r (colN k i) = true := by rw [hgi]; exact hic
        have hgm := fun (m : Nat) (hm : m < k.length) => (up_of hbl hg1.out).at hm
        obtain ⟨c, hc⟩ : ∃ x, k[i] = x := ⟨_, rfl⟩
        simp only [hc] at x0 hsl hcc hcl hbad3 hgt hgi
        replace hcc := Lib.hid hcc; replace hgi := Lib.hid hgi; replace hic := Lib.hid hic; replace hcl := Lib.hid hcl; replace hpv := Lib.hid hpv; replace hbad3 := Lib.hid hbad3; replace hgt := Lib.hid hgt; replace hgt0 := Lib.hid hgt0; replace hc := Lib.hid hc; replace hic2 := Lib.hid hic2; replace hsl := Lib.hid hsl; replace hgm := Lib.hid hgm
        clear hbad hbad2 hcfi
        subst e1
        obtain ⟨N0, rfl⟩ : ∃ N0, N0 = wr := ⟨wr, rfl⟩
        go_upto_region 13 with (go_at_call 52; refine hcc.out.mono ?_; rintro e V2 ⟨rfl, hb2⟩)
        have hB2 := hbl.trans (hb2.mono hbls)
        replace x0 := Up.cell hb2 x0
        have hsl2 := Lib.hid (up_of hb2 hsl.out)
        clear hcc hsl
        have hcl8 : c.length ≤ 8 := by have := hcl.out; omega
        go_wp2
        go_loopw [40] (fun yy V => ∃ y : Nat, y ≤ c.length ∧ yy = .int .i64 y ∧ Below A1.heap.size A1 V ∧ Below V2.heap.size V2 V ∧ Hid (i ≠ 0 → ∀ m (hm : m < k.length), m = i - 1 → ∀ z, z < y → k[m].getD z 0 < c.getD z 0)) (fun yy _ => c.length - (intOf yy).toNat)
        case atStart => exact ⟨0, by omega, rfl, hB2, Below.refl _ _, fun _ m hm _ z h => absurd h (by omega)⟩
        case round =>
          obtain ⟨y, hy, rfl, hB3, hbv, hlt2⟩ := hrel
          by_cases hly : y < c.length
          · obtain ⟨ba, oa, ea, hba, p0⟩ := (up_of hbv hsl2.out).int_at hly
            obtain ⟨x, hx⟩ : ∃ x, c[y] = x := ⟨_, rfl⟩
            rw [hx] at p0
            have j1 : (0 : Int) ≤ (y : Int) := by omega
            have j2 : (y : Int) < (c.length : Int) := by omega
            by_cases hi0 : i = 0
            · have k0 : ¬ (0 : Int) < (i : Int) := by omega
              have k9 : decide (0 < i) = false := decide_eq_false (by omega)
              have hnx : i ≠ 0 → ∀ m (hm : m < k.length), m = i - 1 → ∀ z, z < y + 1 → k[m].getD z 0 < c.getD z 0 := fun e => absurd hi0 e
              replace hi0 := Lib.hid hi0; replace hx := Lib.hid hx; replace hnx := Lib.hid hnx
              subst ea
              go_upto_region 15 with (fail)
              try have ld_p0 := World.block_lt_of_cell? _ _ p0
              refine region_q (by kernel_rfl) (by kernel_rfl) ?_
              dsimp only [List.toList_toArray]
              repeat (first
               | go_big_quiet_skip
               | (go_big_quiet_want
                  first
                  | (refine qq_det ?_
                     apply Exists.intro; refine ⟨fun W' hW' => ?_, ?_⟩
                     (· have hk := cellB hW'; go_simp; try (first | rfl | rw [if_pos (by omega)]))
                     simp only [Act.put, List.setIfInBounds_toArray, List.set_cons_zero, List.set_cons_succ]; go_big_quiet_on)))
              refine wpQuiet_nil ?_
              intro W1 hb
              try replace hB3 := up_of hb hB3
              try replace hbv := up_of hb hbv
              try replace p0 := up_of hb p0
              go_wp2
              go_roundw
              case rel => exact ⟨y + 1, by omega, by go_num, hB3, hbv, hnx⟩
              case measure => exact meas hly
            · obtain ⟨m, hm1, hm, hm2, hm3, hm4⟩ := hpv.out hi0
              obtain ⟨bm, om, tm, cm, em, hbm, y0, hsm, -, -⟩ := hgm.out m hm
              replace y0 := Up.cell hb2 y0
              replace y0 := Up.cell hbv y0
              have hsm2 := up_of hbv (up_of hb2 hsm)
              have hym : y < k[m].length := by have := hcl.out; omega
              obtain ⟨bz, oz, ez, hbz, z0⟩ := hsm2.int_at hym
              have hb3 := hbad3.out m hm hm2 hi0 y hly
              have hmg : ∀ z (hz : z < k[m].length), k[m].getD z 0 = k[m][z] := fun z hz => by rw [List.getD_eq_getElem?_getD, List.getElem?_eq_getElem hz]; rfl
              have hcg : c.getD y 0 = x := by rw [List.getD_eq_getElem?_getD, List.getElem?_eq_getElem hly, ← hx]; rfl
              have hmgy := hmg y hym
              have hlt3 := hlt2.out hi0
              obtain ⟨z, hz⟩ : ∃ z, k[m][y] = z := ⟨_, rfl⟩
              rw [hz] at z0 hmgy
              rw [hx] at hb3
              have hb4 := hb3 z hmgy
              have hnx : z < x → i ≠ 0 → ∀ m (hm : m < k.length), m = i - 1 → ∀ z, z < y + 1 → k[m].getD z 0 < c.getD z 0 := fun hzx _ m' hm' e' z' hz' => by
                have : m' = m := by omega
                subst this
                rcases Nat.lt_succ_iff_lt_or_eq.1 hz' with h | h
                · exact hlt3 m' hm' e' z' h
                · subst h; rw [hmgy, hcg]; exact hzx
              have k0 : (0 : Int) < (i : Int) := by omega
              have k9 : decide (0 < i) = true := decide_eq_true (by omega)
              have k1 : (0 : Int) ≤ (m : Int) := by omega
              have k2 : (m : Int) < (k.length : Int) := by omega
              have k3 : (y : Int) < (k[m].length : Int) := by omega
              have w4 : IntKind.i64.wrap ((i : Int) - 1) = (m : Int) := by rw [hm1]; exact i64_small (by omega)
              obtain ⟨lm, hlm⟩ : ∃ n, k[m].length = n := ⟨_, rfl⟩
              rw [hlm] at y0 k3
              replace hi0 := Lib.hid hi0; replace hx := Lib.hid hx; replace hm1 := Lib.hid hm1; replace hm2 := Lib.hid hm2; replace hm3 := Lib.hid hm3; replace hm4 := Lib.hid hm4; replace hmgy := Lib.hid hmgy; replace hcg := Lib.hid hcg; replace hz := Lib.hid hz; replace hb4 := Lib.hid hb4; replace hnx := Lib.hid hnx; replace hlm := Lib.hid hlm
              cases em
              subst ea ez
              clear hb3 hmg hlt3 hsm
              by_cases hxz : x ≤ z
              · obtain rfl := hb4.out hxz
                go_upto_region 15 with (fail)
                try have ld_p0 := World.block_lt_of_cell? _ _ p0
                try have ld_y0 := World.block_lt_of_cell? _ _ y0
                try have ld_z0 := World.block_lt_of_cell? _ _ z0
                refine region_q (by kernel_rfl) (by kernel_rfl) ?_
                dsimp only [List.toList_toArray]
                repeat (first
                 | go_big_quiet_skip
                 | (go_big_quiet_want
                    first
                    | (refine qq_det ?_
                       apply Exists.intro; refine ⟨fun W' hW' => ?_, ?_⟩
                       (· have hk := cellB hW'; go_simp; try (first | rfl | rw [if_pos (by omega)]))
                       simp only [Act.put, List.setIfInBounds_toArray, List.set_cons_zero, List.set_cons_succ]; go_big_quiet_on)))
                refine wpQuiet_nil ?_
                intro W1 hb
                try replace hB3 := up_of hb hB3
                try replace hbv := up_of hb hbv
                try replace p0 := up_of hb p0
                try replace y0 := up_of hb y0
                try replace z0 := up_of hb z0
                go_wp2
                go_ret2
                exact ⟨rfl, hBA.trans (hB3.mono hAs)⟩
              · have hnx2 := Lib.hid (hnx.out (by omega))
                go_upto_region 15 with (fail)
                try have ld_p0 := World.block_lt_of_cell? _ _ p0
                try have ld_y0 := World.block_lt_of_cell? _ _ y0
                try have ld_z0 := World.block_lt_of_cell? _ _ z0
                refine region_q (by kernel_rfl) (by kernel_rfl) ?_
                dsimp only [List.toList_toArray]
                repeat (first
                 | go_big_quiet_skip
                 | (go_big_quiet_want
                    first
                    | (refine qq_det ?_
                       apply Exists.intro; refine ⟨fun W' hW' => ?_, ?_⟩
                       (· have hk := cellB hW'; go_simp; try (first | rfl | rw [if_pos (by omega)]))
                       simp only [Act.put, List.setIfInBounds_toArray, List.set_cons_zero, List.set_cons_succ]; go_big_quiet_on)))
                refine wpQuiet_nil ?_
                intro W1 hb
                try replace hB3 := up_of hb hB3
                try replace hbv := up_of hb hbv
                try replace p0 := up_of hb p0
                try replace y0 := up_of hb y0
                try replace z0 := up_of hb z0
                go_wp2
                go_roundw
                case rel => exact ⟨y + 1, by omega, by go_num, hB3, hbv, hnx2.out⟩
                case measure => exact meas hly
          · obtain rfl : y = c.length := by omega
            have hnall : ∀ j, j < i + 1 → isColB R r (colN k j) = true ∧ gtB k j = true := fun j hj => by
              rcases Nat.lt_succ_iff_lt_or_eq.1 hj with h | h
              · exact hall.out j h
              · subst h
                refine ⟨hic2.out, ?_⟩
                by_cases e0 : j = 0
                · exact hgt0.out e0
                · obtain ⟨m, hm1, hm, hm2, -⟩ := hpv.out e0
                  exact hgt.out m hm hm2 fun y hy => hlt2.out e0 m hm hm2 y hy
            replace hnall := Lib.hid hnall
            go_wp2
            go_roundw
            case rel => exact ⟨i + 1, by omega, by go_num, hB3, hnall⟩
            case measure => exact meas hlt
    · obtain rfl : i = k.length := by omega
      obtain rfl := hys.out fun j hj => hall.out j hj
      go_wp2
      go_ret2
      exact ⟨rfl, hBf⟩
end Go.Proofs.Ytbabdoafpljdbaa
