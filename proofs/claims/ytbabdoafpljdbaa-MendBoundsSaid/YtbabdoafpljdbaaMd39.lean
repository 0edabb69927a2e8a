/- Which columns stand: the walks. -/
import Derived.Test.YtbabdoafpljdbaaMd38
namespace Go.Proofs.Ytbabdoafpljdbaa
open Go.RowKit

set_option maxRecDepth 100000 in
set_option maxHeartbeats 2000000 in
theorem Stand_c (wd ht r : Int) (s : Option Addr) (cap : Nat) (F : List Cel) (t : Option Addr) (ct : Nat) (k : List (List Int)) (w : World) (h : Cels w s cap F) (g : SlSS intE w t k) (hkl : k.length ≤ 200) (hkw : ∀ l ∈ k, ∀ n ∈ l, I64 n) :
    Calls Try.prog 40 #[.agg #[.int .i64 wd, .int .i64 ht, .slice s F.length cap], .int .i64 r, .slice t k.length ct] w fun e w' => e = .returned (.tuple #[.bool (stB wd ht F r k), .int .i64 (opE wd ht F r)]) ∧ Below w.heap.size w w' := by
  have hop := fun V (h : Cels V s cap F) => opened_c wd ht r s cap F V h
  have hl := h.len
  by_cases h1 : opE wd ht F r = 0
  case neg =>
    rw [show stB wd ht F r k = false by simp [stB, h1]]
    rw [show opR wd ht F r = [] by simp [opR, h1]] at hop
    obtain ⟨E, hE⟩ : ∃ E, opE wd ht F r = E := ⟨_, rfl⟩
    rw [hE] at hop h1 ⊢
    have h2 : (E != 0) = true := by simpa using h1
    replace hop := Lib.hid hop
    clear hE h1
    go_enter Try.func40, Try.ntmps40
    go_upto_region 1 with (fail)
    refine wp_world fun W HW => ?_
    have hB : Below w.heap.size w W := by rw [HW.out]; (repeat (first | exact Below.refl _ _ | refine Below.alloc ?_ (by simp; try omega) _ | refine Below.setCell ?_ (by simp) _ | refine Below.drew ?_))
    have g0 : W.cell? ⟨w.heap.size, 0, none⟩ = some (.int .i64 wd) := by rw [HW.out]; simp [go_sem]
    have g1 : W.cell? ⟨w.heap.size, 1, none⟩ = some (.int .i64 ht) := by rw [HW.out]; simp [go_sem]
    have g2 : W.cell? ⟨w.heap.size, 2, none⟩ = some (.slice s F.length cap) := by rw [HW.out]; simp [go_sem]
    have gl : w.heap.size < W.heap.size := World.block_lt_of_cell? W _ g0
    try replace h := up_of hB h
    have hBs := hB.size
    go_wp2_with (go_at_call 48; refine (hop.out _ h).mono ?_; rintro e A1 ⟨⟨s1, k1, ss1, rfl, ht1⟩, hb⟩)
    go_ret2
    exact ⟨rfl, hB.trans (hb.mono hBs)⟩
  obtain ⟨hv, hr⟩ := opE_ok h1
  obtain ⟨f1, f2, f3⟩ := fld_facts hv
  obtain ⟨g1, g2, g3, -⟩ := gv_nat hv
  rw [show stB wd ht F r k = standB (fld wd.toNat ht.toNat F) r k by simp [stB, h1], h1]
  rw [show opR wd ht F r = fld wd.toNat ht.toNat F by simp [opR, h1], h1] at hop
  obtain ⟨wd, rfl⟩ : ∃ n : Nat, wd = n := ⟨wd.toNat, g1.symm⟩
  obtain ⟨ht, rfl⟩ : ∃ n : Nat, ht = n := ⟨ht.toNat, g2.symm⟩
  simp only [Int.toNat_natCast] at hop f1 f2 f3 g3 ⊢
  obtain ⟨R, hR⟩ : ∃ x, fld wd ht F = x := ⟨_, rfl⟩
  simp only [hR] at hop f1 f2 ⊢
  have hcol := fun V s c ta tc l (h : SlSS boolE V s R) (g : SlS intE V ta l) hcb => isColumn_x s c R r wd ta tc l V h g f1.2 f2 ⟨g3, f3⟩ hr hcb
  have hn1 := fun (i : Nat) (hi : i < k.length) hh => st_no1 (R := R) (r := r) hi hh
  have hn2 := fun (i : Nat) (hi : i < k.length) hi0 (y : Nat) (hy : y < k[i].length) (a : Int) ha hh => st_no2 (R := R) (r := r) hi hi0 hy (a := a) ha hh
  have hys := fun hh => st_yes (R := R) (r := r) (k := k) hh
  have hcf := fun (c : List Int) hh => (isCol_facts (R := R) (r := r) (c := c) hh).1
  obtain ⟨B, hB0⟩ : ∃ x, standB R r k = x := ⟨_, rfl⟩
  simp only [hB0] at hn1 hn2 hys ⊢
  obtain ⟨nw, hnw⟩ : ∃ n, wd = n := ⟨_, rfl⟩
  have hR8 : R.length ≤ 8 := f1.2
  replace hop := Lib.hid hop; replace hcol := Lib.hid hcol; replace hn1 := Lib.hid hn1; replace hn2 := Lib.hid hn2; replace hys := Lib.hid hys; replace hcf := Lib.hid hcf; replace hR := Lib.hid hR; replace hB0 := Lib.hid hB0; replace hkw := Lib.hid hkw; replace hnw := Lib.hid hnw
  clear h1 hv f1 f2 f3 g1 g2 g3
  go_enter Try.func40, Try.ntmps40
  go_upto_region 1 with (fail)
  refine wp_world fun W HW => ?_
  have hB : Below w.heap.size w W := by rw [HW.out]; (repeat (first | exact Below.refl _ _ | refine Below.alloc ?_ (by simp; try omega) _ | refine Below.setCell ?_ (by simp) _ | refine Below.drew ?_))
  have g0 : W.cell? ⟨w.heap.size, 0, none⟩ = some (.int .i64 wd) := by rw [HW.out]; simp [go_sem]
  have g1 : W.cell? ⟨w.heap.size, 1, none⟩ = some (.int .i64 ht) := by rw [HW.out]; simp [go_sem]
  have g2 : W.cell? ⟨w.heap.size, 2, none⟩ = some (.slice s F.length cap) := by rw [HW.out]; simp [go_sem]
  have gl : w.heap.size < W.heap.size := World.block_lt_of_cell? W _ g0
  try replace h := up_of hB h
  try replace g := up_of hB g
  have hBs := hB.size
  have hg0 := Lib.hid g
  clear g
  go_upto_region 2 with (go_at_call 48; refine (hop.out _ h).mono ?_; rintro e A1 ⟨⟨s1, k1, ss1, rfl, ht1⟩, hb⟩)
  have hv1 := Lib.hid ht1.seen
  have hg1 := Lib.hid (up_of hb hg0.out)
  have hBA := hB.trans (hb.mono hBs)
  have hAs := hBA.size
  clear ht1 hb hg0
  go_wp2
  go_loopw [25] (fun ii V => ∃ i : Nat, i ≤ k.length ∧ ii = .int .i64 i ∧ Below A1.heap.size A1 V ∧ Hid (∀ j, j < i → isColB R r (colN k j) = true ∧ gtB k j = true)) (fun ii _ => k.length - (intOf ii).toNat)
  case atStart => exact ⟨0, by omega, rfl, Below.refl _ _, fun j h => absurd h (by omega)⟩
  case round =>
    obtain ⟨i, hi, rfl, hbl, hall⟩ := hrel
    have hBf := hBA.trans (hbl.mono hAs)
    have hbls := hbl.size
    by_cases hlt : i < k.length
    · obtain ⟨bk, ok, ta, tc, e1, hbk, x0, hsl, -, -⟩ := (up_of hbl hg1.out).at hlt
      have hcc := hcol.out wr s1 k1 ta tc k[i] (up_of hbl hv1.out) hsl (hkw.out _ (List.getElem_mem hlt))
      have hbad := hn1.out i hlt
      have hbad2 := hn2.out i hlt
      have hcfi := hcf.out k[i]
      have hgi := colN_at hlt
      have i1 : (0 : Int) ≤ (i : Int) := by omega
      have i2 : (i : Int) < (k.length : Int) := by omega
      cases hic : isColB R r k[i]
      · rw [hic] at hcc
        obtain rfl := hbad hic
        replace hcc := Lib.hid hcc; replace hgi := Lib.hid hgi; replace hic := Lib.hid hic
        clear hbad hbad2 hcfi
        subst e1
        go_wp2_with (go_at_call 49; refine hcc.out.mono ?_; rintro e V2 ⟨rfl, hb2⟩)
        go_ret2
        exact ⟨rfl, hBf.trans (hb2.mono hBf.size)⟩
      · rw [hic] at hcc
        have hcl := hcfi hic
        have hpv : i ≠ 0 → ∃ m : Nat, (m : Int) = (i : Int) - 1 ∧ ∃ (hm : m < k.length), m = i - 1 ∧ k[m].length = R.length ∧ colN k (i - 1) = k[m] := fun hi0 => by
          have hm : i - 1 < k.length := by omega
          have h2 := (hall.out (i - 1) (by omega)).1
          rw [colN_at hm] at h2
          exact ⟨i - 1, by omega, hm, rfl, hcf.out _ h2, colN_at hm⟩
        have hbad3 : ∀ (m : Nat) (hm : m < k.length), m = i - 1 → i ≠ 0 → ∀ (y : Nat) (hy : y < k[i].length) (a : Int), k[m].getD y 0 = a → k[i][y] ≤ a → B = false := fun m hm e hi0 y hy a ha hh => by subst e; exact hbad2 hi0 y hy a ha hh
        have hgt : ∀ (m : Nat) (hm : m < k.length), m = i - 1 → (∀ y, y < k[i].length → k[m].getD y 0 < k[i].getD y 0) → gtB k i = true := fun m hm e hh => gtB_iff.2 (.inr (by subst e; rw [hgi, colN_at hm]; exact hh))
        have hgt0 : i = 0 → gtB k i = true := fun e => gtB_iff.2 (.inl e)
        have hic2 : isColB R r (colN k i) = true := by rw [hgi]; exact hic
        have hgm := fun (m : Nat) (hm : m < k.length) => (up_of hbl hg1.out).at hm
        obtain ⟨c, hc⟩ : ∃ x, k[i] = x := ⟨_, rfl⟩
        simp only [hc] at x0 hsl hcc hcl hbad3 hgt hgi
        replace hcc := Lib.hid hcc; replace hgi := Lib.hid hgi; replace hic := Lib.hid hic; replace hcl := Lib.hid hcl; replace hpv := Lib.hid hpv; replace hbad3 := Lib.hid hbad3; replace hgt := Lib.hid hgt; replace hgt0 := Lib.hid hgt0; replace hc := Lib.hid hc; replace hic2 := Lib.hid hic2; replace hsl := Lib.hid hsl; replace hgm := Lib.hid hgm
        clear hbad hbad2 hcfi
        subst e1
        obtain ⟨N0, rfl⟩ : ∃ N0, N0 = wr := ⟨wr, rfl⟩
        go_upto_region 10 with (go_at_call 49; refine hcc.out.mono ?_; rintro e V2 ⟨rfl, hb2⟩)
        have hB2 := hbl.trans (hb2.mono hbls)
        replace x0 := Up.cell hb2 x0
        have hsl2 := Lib.hid (up_of hb2 hsl.out)
        clear hcc hsl
        have hcl8 : c.length ≤ 8 := by have := hcl.out; omega
        go_wp2
        go_loop [37] (fun yy => ∃ y : Nat, y ≤ c.length ∧ yy = .int .i64 y ∧ Hid (i ≠ 0 → ∀ m (hm : m < k.length), m = i - 1 → ∀ z, z < y → k[m].getD z 0 < c.getD z 0)) (fun yy => c.length - (intOf yy).toNat)
        case atStart => exact ⟨0, by omega, rfl, fun _ m hm _ z h => absurd h (by omega)⟩
        case round =>
          obtain ⟨y, hy, rfl, hlt2⟩ := hrel
          by_cases hly : y < c.length
          · obtain ⟨ba, oa, ea, hba, p0⟩ := hsl2.out.int_at hly
            obtain ⟨x, hx⟩ : ∃ x, c[y] = x := ⟨_, rfl⟩
            rw [hx] at p0
            have j1 : (0 : Int) ≤ (y : Int) := by omega
            have j2 : (y : Int) < (c.length : Int) := by omega
            by_cases hi0 : i = 0
            · have k0 : ¬ (0 : Int) < (i : Int) := by omega
              have hnx : i ≠ 0 → ∀ m (hm : m < k.length), m = i - 1 → ∀ z, z < y + 1 → k[m].getD z 0 < c.getD z 0 := fun e => absurd hi0 e
              replace hi0 := Lib.hid hi0; replace hx := Lib.hid hx; replace hnx := Lib.hid hnx
              subst ea
              go_wp2
              go_round
              case rel => exact ⟨y + 1, by omega, by go_num, hnx⟩
              case measure => exact meas hly
            · obtain ⟨m, hm1, hm, hm2, hm3, hm4⟩ := hpv.out hi0
              obtain ⟨bm, om, tm, cm, em, hbm, y0, hsm, -, -⟩ := hgm.out m hm
              replace y0 := Up.cell hb2 y0
              have hsm2 := up_of hb2 hsm
              have hym : y < k[m].length := by have := hcl.out; omega
              obtain ⟨bz, oz, ez, hbz, z0⟩ := hsm2.int_at hym
              have hb3 := hbad3.out m hm hm2 hi0 y hly
              have hmg : ∀ z (hz : z < k[m].length), k[m].getD z 0 = k[m][z] := fun z hz => by rw [List.getD_eq_getElem?_getD, List.getElem?_eq_getElem hz]; rfl
              have hcg : c.getD y 0 = x := by rw [List.getD_eq_getElem?_getD, List.getElem?_eq_getElem hly, ← hx]; rfl
              have hmgy := hmg y hym
              have hlt3 := hlt2.out hi0
              obtain ⟨z, hz⟩ : ∃ z, k[m][y] = z := ⟨_, rfl⟩
              rw [hz] at z0 hmgy
              rw [hx] at hb3
              have hb4 := hb3 z hmgy
              have hnx : z < x → i ≠ 0 → ∀ m (hm : m < k.length), m = i - 1 → ∀ z, z < y + 1 → k[m].getD z 0 < c.getD z 0 := fun hzx _ m' hm' e' z' hz' => by
                have : m' = m := by omega
                subst this
                rcases Nat.lt_succ_iff_lt_or_eq.1 hz' with h | h
                · exact hlt3 m' hm' e' z' h
                · subst h; rw [hmgy, hcg]; exact hzx
              have k0 : (0 : Int) < (i : Int) := by omega
              have k1 : (0 : Int) ≤ (m : Int) := by omega
              have k2 : (m : Int) < (k.length : Int) := by omega
              have k3 : (y : Int) < (k[m].length : Int) := by omega
              have w4 : IntKind.i64.wrap ((i : Int) - 1) = (m : Int) := by rw [hm1]; exact i64_small (by omega)
              obtain ⟨lm, hlm⟩ : ∃ n, k[m].length = n := ⟨_, rfl⟩
              rw [hlm] at y0 k3
              replace hi0 := Lib.hid hi0; replace hx := Lib.hid hx; replace hm1 := Lib.hid hm1; replace hm2 := Lib.hid hm2; replace hm3 := Lib.hid hm3; replace hm4 := Lib.hid hm4; replace hmgy := Lib.hid hmgy; replace hcg := Lib.hid hcg; replace hz := Lib.hid hz; replace hb4 := Lib.hid hb4; replace hnx := Lib.hid hnx; replace hlm := Lib.hid hlm
              cases em
              subst ea ez
              clear hb3 hmg hlt3 hsm
              by_cases hxz : x ≤ z
              · obtain rfl := hb4.out hxz
                go_wp2
                go_ret2
                exact ⟨rfl, hBA.trans (hB2.mono hAs)⟩
              · have hnx2 := Lib.hid (hnx.out (by omega))
                go_wp2
                go_round
                case rel => exact ⟨y + 1, by omega, by go_num, hnx2.out⟩
                case measure => exact meas hly
          · obtain rfl : y = c.length := by omega
            have hnall : ∀ j, j < i + 1 → isColB R r (colN k j) = true ∧ gtB k j = true := fun j hj => by
              rcases Nat.lt_succ_iff_lt_or_eq.1 hj with h | h
              · exact hall.out j h
              · subst h
                refine ⟨hic2.out, ?_⟩
                by_cases e0 : j = 0
                · exact hgt0.out e0
                · obtain ⟨m, hm1, hm, hm2, -⟩ := hpv.out e0
                  exact hgt.out m hm hm2 fun y hy => hlt2.out e0 m hm hm2 y hy
            replace hnall := Lib.hid hnall
            go_wp2
            go_roundw
            case rel => exact ⟨i + 1, by omega, by go_num, hB2, hnall⟩
            case measure => exact meas hlt
    · obtain rfl : i = k.length := by omega
      obtain rfl := hys.out fun j hj => hall.out j hj
      go_wp2
      go_ret2
      exact ⟨rfl, hBf⟩
end Go.Proofs.Ytbabdoafpljdbaa
