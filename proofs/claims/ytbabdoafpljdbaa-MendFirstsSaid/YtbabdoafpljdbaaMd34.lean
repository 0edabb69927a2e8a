/- How many columns there are: the program, which goes from the first row on. -/
import Derived.Test.YtbabdoafpljdbaaMdCnt
namespace Go.Proofs.Ytbabdoafpljdbaa
open Go.RowKit

set_option maxRecDepth 100000 in
set_option maxHeartbeats 2000000 in
theorem Count_c (wd ht r : Int) (s : Option Addr) (cap : Nat) (F : List Cel) (w : World) (h : Cels w s cap F) :
    Calls Try.prog 37 #[.agg #[.int .i64 wd, .int .i64 ht, .slice s F.length cap], .int .i64 r] w fun e w' => e = .returned (.tuple #[.int .i64 (ctN wd ht F r), .int .i64 (opE wd ht F r)]) ∧ Below w.heap.size w w' := by
  have hop := fun V (h : Cels V s cap F) => opened_c wd ht r s cap F V h
  have hl := h.len
  by_cases h1 : opE wd ht F r = 0
  case neg =>
    rw [show ctN wd ht F r = 0 by simp [ctN, h1]]
    rw [show opR wd ht F r = [] by simp [opR, h1]] at hop
    obtain ⟨E, hE⟩ : ∃ E, opE wd ht F r = E := ⟨_, rfl⟩
    rw [hE] at hop h1 ⊢
    have h2 : (E != 0) = true := by simpa using h1
    replace hop := Lib.hid hop
    clear hE h1
    go_enter Try.func37, Try.ntmps37
    go_upto_region 1 with (fail)
    refine wp_world fun W HW => ?_
    have hB : Below w.heap.size w W := by rw [HW.out]; (repeat (first | exact Below.refl _ _ | refine Below.alloc ?_ (by simp; try omega) _ | refine Below.setCell ?_ (by simp) _ | refine Below.drew ?_))
    have g0 : W.cell? ⟨w.heap.size, 0, none⟩ = some (.int .i64 wd) := by rw [HW.out]; simp [go_sem]
    have g1 : W.cell? ⟨w.heap.size, 1, none⟩ = some (.int .i64 ht) := by rw [HW.out]; simp [go_sem]
    have g2 : W.cell? ⟨w.heap.size, 2, none⟩ = some (.slice s F.length cap) := by rw [HW.out]; simp [go_sem]
    have gl : w.heap.size < W.heap.size := World.block_lt_of_cell? W _ g0
    try replace h := up_of hB h
    have hBs := hB.size
    go_wp2_with (go_at_call 48; refine (hop.out _ h).mono ?_; rintro e A1 ⟨⟨s1, k1, ss1, rfl, ht1⟩, hb⟩)
    go_ret2
    exact ⟨rfl, hB.trans (hb.mono hBs)⟩
  obtain ⟨hv, hr⟩ := opE_ok h1
  obtain ⟨f1, f2, f3⟩ := fld_facts hv
  obtain ⟨g1, g2, g3, -⟩ := gv_nat hv
  rw [show ctN wd ht F r = cntR r (fld wd.toNat ht.toNat F) by simp [ctN, h1], ← fct_eq r f2 f1.1, h1]
  rw [show opR wd ht F r = fld wd.toNat ht.toNat F by simp [opR, h1], h1] at hop
  obtain ⟨wd, rfl⟩ : ∃ n : Nat, wd = n := ⟨wd.toNat, g1.symm⟩
  obtain ⟨ht, rfl⟩ : ∃ n : Nat, ht = n := ⟨ht.toNat, g2.symm⟩
  simp only [Int.toNat_natCast] at hop f1 f2 f3 g3 ⊢
  obtain ⟨r, rfl⟩ : ∃ n : Nat, r = n := ⟨r.toNat, by omega⟩
  have hPb := fun y hy => fwdP_bnd (r := (r : Int)) (R := fld wd ht F) (fun row hr => by rw [f2 row hr]; exact f3) y hy
  have hPs := fun (y : Nat) hy => fwdP_succ (r := (r : Int)) (R := fld wd ht F) (y := y) hy
  have hP0 : fwdP (r : Int) (fld wd ht F) 0 = [] := rfl
  obtain ⟨R, hR⟩ : ∃ x, fld wd ht F = x := ⟨_, rfl⟩
  simp only [hR] at hop hPb hPs hP0 f1 f2 ⊢
  obtain ⟨S, hS⟩ : ∃ x, fctR (r : Int) R = x := ⟨_, rfl⟩
  have hS2 : sumN (fwdP (r : Int) R R.length) (fwdP (r : Int) R R.length).length = S := hS
  rw [hS]
  obtain ⟨P, hP⟩ : ∃ x, fwdP (r : Int) R = x := ⟨_, rfl⟩
  simp only [hP] at hPb hPs hP0 hS2
  have hpw : ∀ y, y ≤ 8 → ((13 ^ y : Nat) : Int) ≤ 815730721 := fun y hy => by
    have h2 : 13 ^ y ≤ 13 ^ 8 := Nat.pow_le_pow_right (by decide) hy
    have h3 : (13 ^ 8 : Nat) = 815730721 := by decide
    omega
  have hPb : ∀ y, y ≤ R.length → (P y).length ≤ 12 ∧ ∀ z ∈ P y, 0 ≤ z ∧ z ≤ 815730721 := fun y hy => ⟨(hPb y hy).1, fun z hz => by
    have h5 := (hPb y hy).2 z hz
    have h6 := hpw y (by omega)
    omega⟩
  obtain ⟨nw, hnw⟩ : ∃ n, wd = n := ⟨_, rfl⟩
  have f2 : ∀ row ∈ R, row.length = nw := hnw ▸ f2
  have hn12 : nw ≤ 12 := by omega
  obtain ⟨f4, f5⟩ := f1
  replace hop := Lib.hid hop; replace hPb := Lib.hid hPb; replace hPs := Lib.hid hPs; replace hP0 := Lib.hid hP0; replace hS2 := Lib.hid hS2; replace hR := Lib.hid hR; replace hP := Lib.hid hP; replace f2 := Lib.hid f2; replace hnw := Lib.hid hnw
  clear h1 hv hS f3 g1 g2 g3 hpw
  go_enter Try.func37, Try.ntmps37
  go_upto_region 1 with (fail)
  refine wp_world fun W HW => ?_
  have hB : Below w.heap.size w W := by rw [HW.out]; (repeat (first | exact Below.refl _ _ | refine Below.alloc ?_ (by simp; try omega) _ | refine Below.setCell ?_ (by simp) _ | refine Below.drew ?_))
  have g0 : W.cell? ⟨w.heap.size, 0, none⟩ = some (.int .i64 wd) := by rw [HW.out]; simp [go_sem]
  have g1 : W.cell? ⟨w.heap.size, 1, none⟩ = some (.int .i64 ht) := by rw [HW.out]; simp [go_sem]
  have g2 : W.cell? ⟨w.heap.size, 2, none⟩ = some (.slice s F.length cap) := by rw [HW.out]; simp [go_sem]
  have gl : w.heap.size < W.heap.size := World.block_lt_of_cell? W _ g0
  try replace h := up_of hB h
  have hBs := hB.size
  go_upto_region 2 with (go_at_call 48; refine (hop.out _ h).mono ?_; rintro e A1 ⟨⟨s1, k1, ss1, rfl, ht1⟩, hb⟩)
  have hv1 := Lib.hid ht1.seen
  have hBA := hB.trans (hb.mono hBs)
  have hAs := hBA.size
  clear ht1 hb
  go_wp2
  go_loopw [8, 30] (fun v ii V => ∃ (y : Nat) (a : Option Addr) (c : Nat), y ≤ R.length ∧ ii = .int .i64 y ∧ v = .slice a (P y).length c ∧ SlS intE V a (P y) ∧ Below A1.heap.size A1 V) (fun _ ii _ => R.length - (intOf ii).toNat)
  case atStart => exact ⟨0, none, 0, by omega, rfl, by rw [hP0.out]; rfl, by rw [hP0.out]; exact SlS.nil, Below.refl _ _⟩
  case round =>
    obtain ⟨y, sa, ca, hy, rfl, rfl, hsa, hbl⟩ := hrel
    obtain ⟨N0, rfl⟩ : ∃ N0, N0 = wr := ⟨wr, rfl⟩
    by_cases hly : y < R.length
    · obtain ⟨bd, od, sd, cd, e1, hbd, q0, hsd, -, -⟩ := (up_of hbl hv1.out).at hly
      have hrd := f2.out _ (List.getElem_mem hly)
      have hps := hPs.out y hly
      obtain ⟨hqn, hqb⟩ := hPb.out y hy
      obtain ⟨hqn2, hqb2⟩ := hPb.out (y + 1) (by omega)
      have hLl : (P (y + 1)).length = R[y].length := by rw [hps, fwdRow_len]
      have hLx : ∀ x (hx : x < R[y].length), (P (y + 1)).getD x 0 = if R[y][x] then (if y = 0 then 1 else 0) + nsum r (P y) x (P y).length else 0 := fun x hx => by
        rw [hps, List.getD_eq_getElem?_getD, List.getElem?_eq_getElem (by rw [fwdRow_len]; exact hx), Option.getD_some, fwdRow_at hx]
      have hnb := fun (x : Int) k => nsum_bnd (r := (r : Int)) (o := P y) (B := 815730721) (by omega) hqb x k
      have hns : ∀ (x : Int) k (hk : k < (P y).length), nsum (r : Int) (P y) x (k + 1) = nsum (r : Int) (P y) x k + (if nearB x k r then (P y)[k] else 0) := fun x k hk => by
        rw [nsum, List.getD_eq_getElem?_getD, List.getElem?_eq_getElem hk]; rfl
      obtain ⟨row, hrow⟩ : ∃ x, R[y] = x := ⟨_, rfl⟩
      obtain ⟨L, hL⟩ : ∃ x, P (y + 1) = x := ⟨_, rfl⟩
      have hq9 : y = 0 → P y = [] := fun e => by rw [e]; exact hP0.out
      obtain ⟨q, hq⟩ : ∃ x, P y = x := ⟨_, rfl⟩
      simp only [hrow] at q0 hsd hrd hLl hLx
      simp only [hL] at hqn2 hqb2 hLl hLx
      simp only [hq] at hsa hqn hqb hLx hnb hns hq9 ⊢
      obtain ⟨Z, hZ⟩ : ∃ z : Int, (if y = 0 then 1 else 0) = z := ⟨_, rfl⟩
      have hZ01 : 0 ≤ Z ∧ Z ≤ 1 := by rw [← hZ]; split <;> omega
      simp only [hZ] at hLx
      have hmz := mixI_zero L
      have hLw : L.length = row.length := hLl
      rw [hLw] at hmz
      have hma : mixI L row.length = L := by rw [← hLw]; exact mixI_all L
      have hml : ∀ x, x ≤ row.length → (mixI L x).length = row.length := fun x hx => by rw [← hLw]; exact mixI_len L (by omega)
      have hms0 : ∀ x, x < row.length → (mixI L x).set x 0 = mixI L x := fun x hx => mixI_set0 L (by omega)
      have hms : ∀ x v (hx : x < row.length), L.getD x 0 = v → (mixI L x).set x v = mixI L (x + 1) := fun x v hx e => by
        have hxl : x < L.length := by omega
        rw [List.getD_eq_getElem?_getD, List.getElem?_eq_getElem hxl] at e
        simp only [Option.getD_some] at e
        rw [← e]; exact mixI_set L hxl
      have hrn : row.length ≤ 12 := by omega
      have hmb := run_make_ints row.length (by omega) N0
      have bb : Below N0.heap.size N0 (N0.alloc (.cells (zs row.length).toArray 3)) := (Below.refl _ N0).alloc (Nat.le_refl _) _
      have hox := own_zeros N0 row.length (by omega)
      rw [← hmz] at hox
      have hbls := hbl.size
      have i1 : (0 : Int) ≤ (y : Int) := by omega
      have i2 : (y : Int) < (R.length : Int) := by omega
      replace hrow := Lib.hid hrow; replace hL := Lib.hid hL; replace hq := Lib.hid hq; replace hrd := Lib.hid hrd; replace hps := Lib.hid hps; replace hqb := Lib.hid hqb; replace hqb2 := Lib.hid hqb2; replace hLl := Lib.hid hLl; replace hLw := Lib.hid hLw; replace hLx := Lib.hid hLx; replace hnb := Lib.hid hnb; replace hns := Lib.hid hns; replace hZ := Lib.hid hZ; replace hmz := Lib.hid hmz; replace hma := Lib.hid hma; replace hml := Lib.hid hml; replace hms0 := Lib.hid hms0; replace hms := Lib.hid hms; replace hsd := Lib.hid hsd; replace hsa := Lib.hid hsa; replace hox := Lib.hid hox; replace hq9 := Lib.hid hq9; replace bb := Lib.hid bb
      subst e1
      go_wp2
      go_loopw [40] (fun ii V => ∃ x : Nat, x ≤ row.length ∧ ii = .int .i64 x ∧ V.ownsRow N0.heap.size 3 1 (.slice (some ⟨N0.heap.size, 0, none⟩) row.length row.length) row.length (intE.all (mixI L x)) ∧ Below N0.heap.size N0 V) (fun ii _ => row.length - (intOf ii).toNat)
      case atStart => exact ⟨0, by omega, rfl, hox.out, bb.out⟩
      case round =>
        obtain ⟨x, hx, rfl, hown, hbx⟩ := hrel
        by_cases hlx : x < row.length
        case neg =>
          obtain rfl : x = row.length := by omega
          rw [hma.out] at hown
          have hfin := SlS.of_own (E := intE) (cap := row.length) (l := L) (by rw [hLw.out]; exact hown)
          have hbf := hbl.trans (hbx.mono hbls)
          have hll : L.length = row.length := hLw.out
          replace hfin := Lib.hid hfin; replace hll := Lib.hid hll
          clear hown hox bb
          go_wp2
          go_roundw
          case rel => exact ⟨y + 1, some ⟨N0.heap.size, 0, none⟩, row.length, by omega, by go_num, by rw [hL.out, hll.out], by rw [hL.out]; exact hfin.out, hbf⟩
          case measure => exact meas hly
        have hbf := hbl.trans (hbx.mono hbls)
        obtain ⟨ba, oa, ea, hba, p0⟩ := (up_of hbx hsd.out).bool_at hlx
        have hval := hLx.out x hlx
        have hmx := hml.out x (by omega)
        have hs0 := hms0.out x hlx
        have hsx := fun v => hms.out x v hlx
        have j1 : (0 : Int) ≤ (x : Int) := by omega
        have j2 : (x : Int) < (row.length : Int) := by omega
        have hfz := World.ownsRow.frozenAt hown x
        have hmxl : x < (mixI L x).length := by omega
        have hcx := owns_cell hown (intE_at _ hmxl)
        have hstd := fun v => hown.stored x (.int .i64 v)
        simp only [intE_set] at hstd
        obtain ⟨v0, hv0⟩ : ∃ z, (mixI L x)[x]'hmxl = z := ⟨_, rfl⟩
        rw [hv0] at hcx
        obtain ⟨bv, hbv⟩ : ∃ z, row[x]'hlx = z := ⟨_, rfl⟩
        rw [hbv] at hval p0
        replace hbv := Lib.hid hbv; replace hv0 := Lib.hid hv0; replace hmx := Lib.hid hmx
        cases bv
        · have hn := hsx 0 (by simpa using hval)
          rw [hs0] at hn
          rw [hn] at hown
          replace hown := Lib.hid hown; replace hn := Lib.hid hn; replace hval := Lib.hid hval; replace hs0 := Lib.hid hs0; replace hsx := Lib.hid hsx; replace hstd := Lib.hid hstd
          subst ea
          clear hfz hcx
          go_wp2
          go_roundw
          case rel => exact ⟨x + 1, by omega, by go_num, hown.out, hbx⟩
          case measure => exact meas hlx
        · simp only [if_true] at hval
          have hn := hsx _ hval
          have hsv : ∀ v v', ((mixI L x).set x v).set x v' = (mixI L x).set x v' := fun v v' => List.set_set ..
          have hsl : ∀ v, ((mixI L x).set x v).length = row.length := fun v => by rw [List.length_set]; exact hmx.out
          have hsa2 : ∀ v (h : x < ((mixI L x).set x v).length), ((mixI L x).set x v)[x] = v := fun v h => List.getElem_set_self ..
          have hnx := hns.out (x : Int)
          have hnbx := hnb.out (x : Int)
          have hown0 : wr.ownsRow N0.heap.size 3 1 (.slice (some ⟨N0.heap.size, 0, none⟩) row.length row.length) row.length (intE.all ((mixI L x).set x 0)) := by rw [hs0]; exact hown
          have hown1 := (hstd 1).1
          have hbx1 := hbx.setCell (p := ⟨N0.heap.size, x, none⟩) (Nat.le_refl _) (.int .i64 1)
          obtain ⟨MX, hMX⟩ : ∃ z, mixI L x = z := ⟨_, rfl⟩
          simp only [hMX] at hown0 hown1 hsl hsv hsa2 hn
          have hfin : ∀ (U : World), U.ownsRow N0.heap.size 3 1 (.slice (some ⟨N0.heap.size, 0, none⟩) row.length row.length) row.length (intE.all (MX.set x (Z + nsum (r : Int) q x q.length))) → U.ownsRow N0.heap.size 3 1 (.slice (some ⟨N0.heap.size, 0, none⟩) row.length row.length) row.length (intE.all (mixI L (x + 1))) := fun U h => by rw [← hn]; exact h
          have hn0 : Z = Z + nsum (r : Int) q x 0 := by simp [nsum]
          replace hown0 := Lib.hid hown0; replace hown1 := Lib.hid hown1; replace hbx1 := Lib.hid hbx1; replace hval := Lib.hid hval; replace hs0 := Lib.hid hs0; replace hsx := Lib.hid hsx; replace hstd := Lib.hid hstd; replace hsv := Lib.hid hsv; replace hsl := Lib.hid hsl; replace hsa2 := Lib.hid hsa2; replace hnx := Lib.hid hnx; replace hnbx := Lib.hid hnbx; replace hMX := Lib.hid hMX; replace hn := Lib.hid hn; replace hfin := Lib.hid hfin; replace hn0 := Lib.hid hn0
          subst ea
          have hcs : (((y : Int) == 0) = true ∧ (1 : Int) = Z) ∨ (((y : Int) == 0) = false ∧ (0 : Int) = Z) := by
            have hz := hZ.out
            by_cases e : y = 0
            · exact .inl ⟨by rw [e]; rfl, by rw [← hz, if_pos e]⟩
            · exact .inr ⟨by rw [beq_eq_false_iff_ne]; omega, by rw [← hz, if_neg e]⟩
          rcases hcs with ⟨k0, hZ1⟩ | ⟨k0, hZ1⟩
          all_goals
            replace hZ1 := Lib.hid hZ1
            go_wp2
            go_loopw [54] (fun kk V => ∃ (k : Nat) (v : Int), k ≤ q.length ∧ kk = .int .i64 k ∧ V.ownsRow N0.heap.size 3 1 (.slice (some ⟨N0.heap.size, 0, none⟩) row.length row.length) row.length (intE.all (MX.set x v)) ∧ Below N0.heap.size N0 V ∧ Hid (v = Z + nsum (r : Int) q x k)) (fun kk _ => q.length - (intOf kk).toNat)
            case atStart => first | exact ⟨0, 1, by omega, rfl, hown1.out, hbx1.out, by rw [← hn0.out]; exact hZ1.out⟩ | exact ⟨0, 0, by omega, rfl, hown0.out, hbx, by rw [← hn0.out]; exact hZ1.out⟩
            case round =>
              clear hown hbx hown0 hown1 hbx1 hcx hfz p0 hbf
              obtain ⟨k, v, hk, rfl, hown, hbx, hvk⟩ := hrel
              by_cases hlk : k < q.length
              · obtain ⟨bq, oq, eq, hbq, q2⟩ := (up_of hbx hsa.out).int_at hlk
                have hstep := hnx.out k hlk
                have hb1 := hnbx.out k
                have hz1 := hqb.out _ (List.getElem_mem hlk)
                obtain ⟨z, hz⟩ : ∃ z, q[k] = z := ⟨_, rfl⟩
                rw [hz] at q2 hz1 hstep
                have hvk2 := hvk.out
                have hlv := hsl.out v
                have hmxl2 : x < (MX.set x v).length := by omega
                have hcx := owns_cell hown (intE_at _ hmxl2)
                rw [hsa2.out v hmxl2] at hcx
                have hfz := World.ownsRow.frozenAt hown x
                have hst1 := hown.stored x (.int .i64 (v + z))
                rw [intE_set, hsv.out] at hst1
                have hst := hst1.1
                have hbx2 := hbx.setCell (p := ⟨N0.heap.size, x, none⟩) (Nat.le_refl _) (.int .i64 (v + z))
                have hkl : (k : Int) < 13 := by omega
                have hbk : 0 ≤ v ∧ v ≤ 10604499373 := by
                  have := hb1.1
                  have := hb1.2
                  have : (k : Int) * 815730721 ≤ 12 * 815730721 := by omega
                  omega
                have wv : IntKind.i64.wrap (v + z) = v + z := i64_small (by omega)
                have m1 : (0 : Int) ≤ (k : Int) := by omega
                have m2 : (k : Int) < (q.length : Int) := by omega
                have hnc := fun V => near_c (x : Int) (k : Int) r V (by omega) (by omega) (by omega)
                replace hz := Lib.hid hz; replace hlv := Lib.hid hlv; replace hb1 := Lib.hid hb1; replace hvk2 := Lib.hid hvk2
                clear hst1
                subst eq
                cases hnr : nearB (x : Int) (k : Int) r
                · simp only [hnr, Bool.false_eq_true, if_false, Int.add_zero] at hstep hnc
                  have hv3 : v = Z + nsum (r : Int) q x (k + 1) := by rw [hstep, hvk2.out]
                  replace hstep := Lib.hid hstep; replace hnc := Lib.hid hnc; replace hown := Lib.hid hown; replace hv3 := Lib.hid hv3
                  clear hnr hst hbx2
                  go_wp2_with (first | (go_at_call 63; refine (hnc.out _).mono ?_; rintro e w' ⟨rfl, rfl⟩))
                  go_roundw
                  case rel => exact ⟨k + 1, v, by omega, by go_num, hown.out, hbx, hv3⟩
                  case measure => exact meas hlk
                · simp only [hnr, if_true] at hstep hnc
                  have hv3 : v + z = Z + nsum (r : Int) q x (k + 1) := by rw [hstep, hvk2.out]; omega
                  replace hstep := Lib.hid hstep; replace hnc := Lib.hid hnc; replace hst := Lib.hid hst; replace hbx2 := Lib.hid hbx2; replace hv3 := Lib.hid hv3
                  clear hnr hown
                  go_wp2_with (first | (go_at_call 63; refine (hnc.out _).mono ?_; rintro e w' ⟨rfl, rfl⟩))
                  go_roundw
                  case rel => exact ⟨k + 1, v + z, by omega, by go_num, hst.out, hbx2.out, hv3⟩
                  case measure => exact meas hlk
              · obtain rfl : k = q.length := by omega
                rw [hvk.out] at hown
                have hown2 := Lib.hid (hfin.out _ hown)
                clear hown
                go_wp2
                go_roundw
                case rel => exact ⟨x + 1, by omega, by go_num, hown2.out, hbx⟩
                case measure => exact meas hlx
    · obtain rfl : y = R.length := by omega
      obtain ⟨hqn, hqb⟩ := hPb.out R.length (Nat.le_refl _)
      have hS3 := hS2.out
      obtain ⟨q, hq⟩ : ∃ x, P R.length = x := ⟨_, rfl⟩
      simp only [hq] at hsa hqn hqb hS3
      have hst := fun (k : Nat) (hk : k < q.length) => sumN_at hk
      have hbn := fun k => sumN_bnd hqb (by omega) k
      have hBf := hBA.trans (hbl.mono hAs)
      replace hst := Lib.hid hst; replace hbn := Lib.hid hbn; replace hq := Lib.hid hq; replace hqb := Lib.hid hqb; replace hS3 := Lib.hid hS3; replace hsa := Lib.hid hsa
      rw [hq.out]
      go_wp2
      go_loop [16, 76] (fun n x => ∃ (k : Nat) (m : Int), k ≤ q.length ∧ x = .int .i64 k ∧ n = .int .i64 m ∧ Hid (sumN q k = m)) (fun _ x => q.length - (intOf x).toNat)
      case atStart => exact ⟨0, 0, by omega, rfl, rfl, rfl⟩
      case round =>
        obtain ⟨k, m, hk, rfl, rfl, hm⟩ := hrel
        by_cases hlk : k < q.length
        · obtain ⟨ba, oa, ea, hba, p0⟩ := hsa.out.int_at hlk
          have h1 := hst.out k hlk
          have h2 := hbn.out k
          have h3 := hqb.out _ (List.getElem_mem hlk)
          rw [hm.out] at h1 h2
          obtain ⟨z, hz⟩ : ∃ z, q[k] = z := ⟨_, rfl⟩
          rw [hz] at p0 h1 h3
          have j1 : (0 : Int) ≤ (k : Int) := by omega
          have j2 : (k : Int) < (q.length : Int) := by omega
          have w1 := i64_small (n := m + z) (by have := h2.2; omega)
          replace h1 := Lib.hid h1; replace hz := Lib.hid hz
          subst ea
          go_wp2
          go_round
          case rel => exact ⟨k + 1, m + z, by omega, by go_num, rfl, h1⟩
          case measure => exact meas hlk
        · obtain rfl : k = q.length := by omega
          have hz := hm.out.symm.trans hS3.out
          subst hz
          go_wp2
          go_ret2
          exact ⟨rfl, hBf⟩
end Go.Proofs.Ytbabdoafpljdbaa
