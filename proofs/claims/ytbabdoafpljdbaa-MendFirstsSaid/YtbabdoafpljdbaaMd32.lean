/- The column that comes first: the reference; and the program's First. -/
import Derived.Test.YtbabdoafpljdbaaMd31
namespace Go.Proofs.Ytbabdoafpljdbaa
open Go.RowKit

def frE (wd ht : Int) (F : List Cel) (r : Int) : Int := if opE wd ht F r = 0 then (if (firL r (fld wd.toNat ht.toNat F)).isSome then 0 else 5) else opE wd ht F r
def frL (wd ht : Int) (F : List Cel) (r : Int) : List Int := if opE wd ht F r = 0 then (firL r (fld wd.toNat ht.toNat F)).getD [] else []
set_option maxRecDepth 100000 in
set_option maxHeartbeats 1000000 in
theorem First_c (wd ht r : Int) (s : Option Addr) (cap : Nat) (F : List Cel) (w : World) (h : Cels w s cap F) :
    Calls Try.prog 35 #[.agg #[.int .i64 wd, .int .i64 ht, .slice s F.length cap], .int .i64 r] w (LivRet (frL wd ht F r) (frE wd ht F r) w) := by
  have hop := fun V (h : Cels V s cap F) => opened_c wd ht r s cap F V h
  have hl := h.len
  by_cases h1 : opE wd ht F r = 0
  case neg =>
    rw [show frL wd ht F r = [] by simp [frL, h1], show frE wd ht F r = opE wd ht F r by simp [frE, h1]]
    rw [show opR wd ht F r = [] by simp [opR, h1]] at hop
    obtain ⟨E, hE⟩ : ∃ E, opE wd ht F r = E := ⟨_, rfl⟩
    rw [hE] at hop h1 ⊢
    have h2 : (E != 0) = true := by simpa using h1
    replace hop := Lib.hid hop
    clear hE h1
    go_enter Try.func35, Try.ntmps35
    go_upto_region 1 with (fail)
    refine wp_world fun W HW => ?_
    have hB : Below w.heap.size w W := by rw [HW.out]; (repeat (first | exact Below.refl _ _ | refine Below.alloc ?_ (by simp; try omega) _ | refine Below.setCell ?_ (by simp) _ | refine Below.drew ?_))
    have g0 : W.cell? ⟨w.heap.size, 0, none⟩ = some (.int .i64 wd) := by rw [HW.out]; simp [go_sem]
    have g1 : W.cell? ⟨w.heap.size, 1, none⟩ = some (.int .i64 ht) := by rw [HW.out]; simp [go_sem]
    have g2 : W.cell? ⟨w.heap.size, 2, none⟩ = some (.slice s F.length cap) := by rw [HW.out]; simp [go_sem]
    have gl : w.heap.size < W.heap.size := World.block_lt_of_cell? W _ g0
    try replace h := up_of hB h
    have hBs := hB.size
    go_wp2_with (go_at_call 48; refine (hop.out _ h).mono ?_; rintro e A1 ⟨⟨s1, k1, ss1, rfl, ht1⟩, hb⟩)
    go_ret2
    exact LivRet.nil (hB.trans (hb.mono hBs))
  obtain ⟨hv, hr⟩ := opE_ok h1
  obtain ⟨f1, f2, f3⟩ := fld_facts hv
  rw [show frL wd ht F r = (firL r (fld wd.toNat ht.toNat F)).getD [] by simp [frL, h1], show frE wd ht F r = (if (firL r (fld wd.toNat ht.toNat F)).isSome then 0 else 5) by simp [frE, h1]]
  rw [show opR wd ht F r = fld wd.toNat ht.toNat F by simp [opR, h1], h1] at hop
  obtain ⟨r, rfl⟩ : ∃ n : Nat, r = n := ⟨r.toNat, by omega⟩
  have hcol := fun V s c (h : SlSS boolE V s (fld wd.toNat ht.toNat F)) => first_c s c (fld wd.toNat ht.toNat F) r wd.toNat V h f1 f2 f3 (by omega)
  unfold LeftRet at hcol
  obtain ⟨R, hR⟩ : ∃ x, fld wd.toNat ht.toNat F = x := ⟨_, rfl⟩
  simp only [hR] at hop hcol ⊢
  cases hC : firL (r : Int) R with
  | none =>
    simp only [hC, Option.getD_none, Option.isSome_none, Bool.false_eq_true, if_false] at hcol ⊢
    replace hop := Lib.hid hop; replace hcol := Lib.hid hcol; replace hR := Lib.hid hR; replace hC := Lib.hid hC
    clear h1 hv f1 f2 f3
    go_enter Try.func35, Try.ntmps35
    go_upto_region 1 with (fail)
    refine wp_world fun W HW => ?_
    have hB : Below w.heap.size w W := by rw [HW.out]; (repeat (first | exact Below.refl _ _ | refine Below.alloc ?_ (by simp; try omega) _ | refine Below.setCell ?_ (by simp) _ | refine Below.drew ?_))
    have g0 : W.cell? ⟨w.heap.size, 0, none⟩ = some (.int .i64 wd) := by rw [HW.out]; simp [go_sem]
    have g1 : W.cell? ⟨w.heap.size, 1, none⟩ = some (.int .i64 ht) := by rw [HW.out]; simp [go_sem]
    have g2 : W.cell? ⟨w.heap.size, 2, none⟩ = some (.slice s F.length cap) := by rw [HW.out]; simp [go_sem]
    have gl : w.heap.size < W.heap.size := World.block_lt_of_cell? W _ g0
    try replace h := up_of hB h
    have hBs := hB.size
    go_upto_region 2 with (go_at_call 48; refine (hop.out _ h).mono ?_; rintro e A1 ⟨⟨s1, k1, ss1, rfl, ht1⟩, hb⟩)
    have hc1 := Lib.hid (hcol.out _ _ k1 ht1.seen)
    have hBA := hB.trans (hb.mono hBs)
    have hAs := hBA.size
    clear ht1 hb
    go_wp2_with (go_at_call 60; refine hc1.out.mono ?_; rintro e A2 ⟨⟨s2, k2, rfl, ho2⟩, hb2⟩)
    go_ret2
    exact LivRet.nil (hBA.trans (hb2.mono hAs))
  | some c =>
    simp only [hC, Option.getD_some, Option.isSome_some, if_true] at hcol ⊢
    replace hop := Lib.hid hop; replace hcol := Lib.hid hcol; replace hR := Lib.hid hR; replace hC := Lib.hid hC
    clear h1 hv f1 f2 f3
    go_enter Try.func35, Try.ntmps35
    go_upto_region 1 with (fail)
    refine wp_world fun W HW => ?_
    have hB : Below w.heap.size w W := by rw [HW.out]; (repeat (first | exact Below.refl _ _ | refine Below.alloc ?_ (by simp; try omega) _ | refine Below.setCell ?_ (by simp) _ | refine Below.drew ?_))
    have g0 : W.cell? ⟨w.heap.size, 0, none⟩ = some (.int .i64 wd) := by rw [HW.out]; simp [go_sem]
    have g1 : W.cell? ⟨w.heap.size, 1, none⟩ = some (.int .i64 ht) := by rw [HW.out]; simp [go_sem]
    have g2 : W.cell? ⟨w.heap.size, 2, none⟩ = some (.slice s F.length cap) := by rw [HW.out]; simp [go_sem]
    have gl : w.heap.size < W.heap.size := World.block_lt_of_cell? W _ g0
    try replace h := up_of hB h
    have hBs := hB.size
    go_upto_region 2 with (go_at_call 48; refine (hop.out _ h).mono ?_; rintro e A1 ⟨⟨s1, k1, ss1, rfl, ht1⟩, hb⟩)
    have hc1 := Lib.hid (hcol.out _ _ k1 ht1.seen)
    have hBA := hB.trans (hb.mono hBs)
    have hAs := hBA.size
    clear ht1 hb
    go_wp2_with (go_at_call 60; refine hc1.out.mono ?_; rintro e A2 ⟨⟨s2, k2, rfl, ho2⟩, hb2⟩)
    go_ret2
    exact ⟨⟨s2, k2, rfl, owns_mono ho2 hAs⟩, hBA.trans (hb2.mono hAs)⟩
set_option maxRecDepth 100000 in
set_option maxHeartbeats 2000000 in
theorem rFirst_c (wd ht r : Int) (s : Option Addr) (cap : Nat) (F : List Cel) (w : World) (h : Cels w s cap F) :
    Calls Try.prog 36 #[.agg #[.int .i64 wd, .int .i64 ht, .slice s F.length cap], .int .i64 r] w (LivRet (frL wd ht F r) (frE wd ht F r) w) := by
  have hop := fun V (h : Cels V s cap F) => asked_c wd ht r s cap F V h
  have hl := h.len
  by_cases h1 : opE wd ht F r = 0
  case neg =>
    rw [show frL wd ht F r = [] by simp [frL, h1], show frE wd ht F r = opE wd ht F r by simp [frE, h1]]
    obtain ⟨E, hE⟩ : ∃ E, opE wd ht F r = E := ⟨_, rfl⟩
    rw [hE] at hop h1 ⊢
    have h2 : (E != 0) = true := by simpa using h1
    replace hop := Lib.hid hop
    clear hE h1
    go_enter Try.func36, Try.ntmps36
    go_upto_region 1 with (fail)
    refine wp_world fun W HW => ?_
    have hB : Below w.heap.size w W := by rw [HW.out]; (repeat (first | exact Below.refl _ _ | refine Below.alloc ?_ (by simp; try omega) _ | refine Below.setCell ?_ (by simp) _ | refine Below.drew ?_))
    have g0 : W.cell? ⟨w.heap.size, 0, none⟩ = some (.int .i64 wd) := by rw [HW.out]; simp [go_sem]
    have g1 : W.cell? ⟨w.heap.size, 1, none⟩ = some (.int .i64 ht) := by rw [HW.out]; simp [go_sem]
    have g2 : W.cell? ⟨w.heap.size, 2, none⟩ = some (.slice s F.length cap) := by rw [HW.out]; simp [go_sem]
    have gl : w.heap.size < W.heap.size := World.block_lt_of_cell? W _ g0
    try replace h := up_of hB h
    go_wp2_with (first | (go_at_call 50; refine (hop.out _ h).mono ?_; rintro e W1 ⟨rfl, hb⟩; (try replace h := up_of hb h); (try replace hB := up_of hb hB); (try replace g0 := up_of hb g0); (try replace g1 := up_of hb g1); (try replace g2 := up_of hb g2); (try replace gl := up_of hb gl)))
    go_ret2
    exact LivRet.nil hB
  obtain ⟨hv, hr⟩ := opE_ok h1
  obtain ⟨f1, f2, f3⟩ := fld_facts hv
  obtain ⟨g1, g2, g3, -⟩ := gv_nat hv
  rw [show frL wd ht F r = (firL r (fld wd.toNat ht.toNat F)).getD [] by simp [frL, h1], show frE wd ht F r = (if (firL r (fld wd.toNat ht.toNat F)).isSome then 0 else 5) by simp [frE, h1]]
  rw [h1] at hop
  obtain ⟨wd, rfl⟩ : ∃ n : Nat, wd = n := ⟨wd.toNat, g1.symm⟩
  obtain ⟨ht, rfl⟩ : ∃ n : Nat, ht = n := ⟨ht.toNat, g2.symm⟩
  simp only [Int.toNat_natCast] at f1 f2 f3 g3 ⊢
  obtain ⟨r, rfl⟩ : ∃ n : Nat, r = n := ⟨r.toNat, by omega⟩
  have hfo := fun V (h : Cels V s cap F) => (fieldOf_c wd ht s cap F V h hv).mono (R' := fun e w' => (∃ s cap ss, e = .returned (.slice s (fld wd ht F).length cap) ∧ Tbl boolE 75 4 w' V.heap.size (.slice s (fld wd ht F).length cap) ss (fld wd ht F)) ∧ Below V.heap.size V w') (fun e w' ⟨s, cap, ss, he, ht, hb⟩ => ⟨⟨s, cap, ss, he, ht⟩, hb⟩)
  have hwy := fun V s c (h : SlSS boolE V s (fld wd ht F)) => ways_c s c (fld wd ht F) r wd V h f1 f2 ⟨g3, f3⟩ (by omega)
  unfold TbiRet at hwy
  have hWl := wayL_len (r : Int) (fld wd ht F)
  have hWr := wayL_rows (r : Int) f2
  have hDl := endL_len (r : Int) (fld wd ht F)
  have hPD := pos_way r (fld wd ht F)
  have hDp : ∀ y (hy : y < (endL (r : Int) (fld wd ht F)).length) (hy' : y < (wayL (r : Int) (fld wd ht F)).length), (endL (r : Int) (fld wd ht F))[y] = posR (wayL (r : Int) (fld wd ht F))[y] := fun y hy hy' => by simp only [← hPD, posL, List.getElem_map]
  have hbad := fun (n : Nat) (l : List Int) hn h hb => firP_none (firP_bad (r := r) (D := endL (r : Int) (fld wd ht F)) (n := n) (l := l) hn h hb) (endL (r : Int) (fld wd ht F)).length hn
  have hgood := fun (n k : Nat) (l : List Int) hn h hb => firP_good (r := r) (D := endL (r : Int) (fld wd ht F)) (n := n) (k := k) (l := l) hn h hb
  obtain ⟨R, hR⟩ : ∃ x, fld wd ht F = x := ⟨_, rfl⟩
  simp only [hR] at hfo hwy hWl hWr hDl hDp hbad hgood f1 ⊢
  obtain ⟨LL, hLL⟩ : ∃ x, firL (r : Int) R = x := ⟨_, rfl⟩
  have hfl : firP (r : Int) (endL (r : Int) R) (endL (r : Int) R).length = LL := hLL
  simp only [hLL, hfl] at hbad ⊢
  obtain ⟨GL, hGL⟩ : ∃ x, LL.getD [] = x := ⟨_, rfl⟩
  obtain ⟨EE, hEE⟩ : ∃ x : Int, (if LL.isSome then 0 else 5) = x := ⟨_, rfl⟩
  rw [hGL, hEE]
  replace hGL := Lib.hid hGL; replace hEE := Lib.hid hEE
  obtain ⟨D, hD⟩ : ∃ x, endL (r : Int) R = x := ⟨_, rfl⟩
  obtain ⟨WL, hW⟩ : ∃ x, wayL (r : Int) R = x := ⟨_, rfl⟩
  simp only [hD, hW] at hwy hWl hWr hDl hDp hbad hgood hfl
  have hWD : WL.length = D.length := by rw [hWl, hDl]
  have hD8 : WL.length ≤ 8 := by omega
  obtain ⟨nw, hnw⟩ : ∃ n, wd = n := ⟨_, rfl⟩
  have hWr : ∀ row ∈ WL, row.length = nw := hnw ▸ hWr
  have hnw12 : nw ≤ 12 := by omega
  replace hop := Lib.hid hop; replace hfo := Lib.hid hfo; replace hwy := Lib.hid hwy; replace hWl := Lib.hid hWl; replace hWr := Lib.hid hWr; replace hDl := Lib.hid hDl; replace hDp := Lib.hid hDp; replace hbad := Lib.hid hbad; replace hgood := Lib.hid hgood; replace hR := Lib.hid hR; replace hLL := Lib.hid hLL; replace hfl := Lib.hid hfl; replace hD := Lib.hid hD; replace hW := Lib.hid hW; replace hWD := Lib.hid hWD; replace hnw := Lib.hid hnw
  clear h1 hv f2 f3 g1 g2 hPD
  go_enter Try.func36, Try.ntmps36
  go_upto_region 1 with (fail)
  refine wp_world fun W HW => ?_
  have hB : Below w.heap.size w W := by rw [HW.out]; (repeat (first | exact Below.refl _ _ | refine Below.alloc ?_ (by simp; try omega) _ | refine Below.setCell ?_ (by simp) _ | refine Below.drew ?_))
  have g0 : W.cell? ⟨w.heap.size, 0, none⟩ = some (.int .i64 wd) := by rw [HW.out]; simp [go_sem]
  have g1 : W.cell? ⟨w.heap.size, 1, none⟩ = some (.int .i64 ht) := by rw [HW.out]; simp [go_sem]
  have g2 : W.cell? ⟨w.heap.size, 2, none⟩ = some (.slice s F.length cap) := by rw [HW.out]; simp [go_sem]
  have gl : w.heap.size < W.heap.size := World.block_lt_of_cell? W _ g0
  try replace h := up_of hB h
  go_upto_region 4 with (first | (go_at_call 50; refine (hop.out _ h).mono ?_; rintro e W1 ⟨rfl, hb⟩; (try replace h := up_of hb h); (try replace hB := up_of hb hB); (try replace g0 := up_of hb g0); (try replace g1 := up_of hb g1); (try replace g2 := up_of hb g2); (try replace gl := up_of hb gl)))
  clear hb
  have hBs := hB.size
  go_upto_region 5 with (first
    | (go_at_call 51; refine (hfo.out _ h).mono ?_; rintro e A1 ⟨⟨s1, k1, ss1, rfl, ht1⟩, hb1⟩; have hc1 := Lib.hid (hwy.out _ _ k1 ht1.seen); have hBA := Lib.hid (hB.trans (hb1.mono hBs)); clear ht1 hb1)
    | (go_at_call 61; refine hc1.out.mono ?_; rintro e A2 ⟨⟨s2, k2, rfl, hv2⟩, hb2⟩; have hBC := hBA.out.trans (hb2.mono hBA.out.size); clear hb2 hBA hc1))
  have hBCs := hBC.size
  replace hv2 := Lib.hid hv2
  go_wp2
  go_loopw [8, 25] (fun v ii V => ∃ (y : Nat) (lst : List Int), y ≤ WL.length ∧ ii = .int .i64 y ∧ V.ownsRow A2.heap.size 3 1 v y (intE.all lst) ∧ Hid (lst.length = y) ∧ Below A2.heap.size A2 V ∧ Hid (firP r D y = some lst) ∧ Hid (∀ z ∈ lst, 0 ≤ z ∧ z < 12)) (fun _ ii _ => WL.length - (intOf ii).toNat)
  case atStart => exact ⟨0, [], by omega, rfl, World.ownsRow_nil _ _ _ _, rfl, Below.refl _ _, rfl, fun z h => by cases h⟩
  case round =>
    obtain ⟨y, lst, hy, rfl, hown, hlst, hbl, hfir, hrng⟩ := hrel
    by_cases hly : y < WL.length
    · obtain ⟨bd, od, sd, cd, e1, hbd, q0, hsd, -, -⟩ := (up_of hbl hv2.out).at hly
      have hrd := hWr.out _ (List.getElem_mem hly)
      have hyD : y < D.length := by have := hWD.out; omega
      have hDy := hDp.out y hyD hly
      obtain ⟨b, hb⟩ : ∃ x, nrow r lst y D[y].length = x := ⟨_, rfl⟩
      have hbl2 : b.length = D[y].length := by rw [← hb, nrow_len]
      have hbat : ∀ x : Nat, x < D[y].length → b.getD x false = (decide (y = 0) || nearB x (lst.getD (y - 1) 0) r) := fun x hx => by rw [← hb]; exact nrow_at hx
      have hlow := lowU_low D[y] b
      have hlt := fun (n : Nat) => lowU_lt D[y] b n
      have hstep := fun n => lowU_succ D[y] b n
      have hnone : lowB D[y] b = none → LL = none := fun h => hbad.out y lst hyD hfir.out (hb ▸ h)
      have hnext : ∀ k : Nat, lowB D[y] b = some k → firP r D (y + 1) = some (lst ++ [(k : Int)]) := fun k h => hgood.out y k lst hyD hfir.out (hb ▸ h)
      obtain ⟨a, ha⟩ : ∃ x, D[y] = x := ⟨_, rfl⟩
      obtain ⟨q, hq⟩ : ∃ x, WL[y] = x := ⟨_, rfl⟩
      simp only [ha] at hlow hlt hstep hnone hnext hbl2 hbat hDy
      simp only [hq] at q0 hsd hrd hDy
      have haq : a.length = q.length := by rw [hDy]; simp [posR]
      have haat : ∀ (x : Nat) (hx : x < q.length), a.getD x false = decide (0 < q[x]) := fun x hx => by
        rw [hDy, posR_at, List.getD_eq_getElem?_getD, List.getElem?_eq_getElem hx]; rfl
      have hal : q.length ≤ 12 := by omega
      have hpv : y ≠ 0 → ∃ m : Nat, (m : Int) = (y : Int) - 1 ∧ ∃ (hm : m < lst.length), (0 ≤ lst[m] ∧ lst[m] < 12) ∧ lst.getD (y - 1) 0 = lst[m] := fun hi0 => by
        have hm : y - 1 < lst.length := by have := hlst.out; omega
        exact ⟨y - 1, by omega, hm, hrng.out _ (List.getElem_mem hm), by rw [List.getD_eq_getElem?_getD, List.getElem?_eq_getElem hm]; rfl⟩
      have i1 : (0 : Int) ≤ (y : Int) := by omega
      have i2 : (y : Int) < (WL.length : Int) := by omega
      have hl0 := lowU_zero a b
      obtain ⟨s0, c0, rfl, _⟩ := owns_shape hown
      have hsv : SlS intE wr s0 lst := SlS.of_own (cap := c0) (E := intE) (by have := hlst.out; rw [this]; exact hown)
      replace ha := Lib.hid ha; replace hb := Lib.hid hb; replace hq := Lib.hid hq; replace hDy := Lib.hid hDy; replace haq := Lib.hid haq; replace haat := Lib.hid haat; replace hrd := Lib.hid hrd; replace hlow := Lib.hid hlow; replace hlt := Lib.hid hlt; replace hstep := Lib.hid hstep; replace hnone := Lib.hid hnone; replace hnext := Lib.hid hnext; replace hbl2 := Lib.hid hbl2; replace hbat := Lib.hid hbat; replace hpv := Lib.hid hpv; replace hsd := Lib.hid hsd; replace hown := Lib.hid hown; replace hsv := Lib.hid hsv; replace hl0 := Lib.hid hl0
      subst e1
      go_wp2
      go_loop [10, 33] (fun k x => ∃ n : Nat, n ≤ q.length ∧ x = .int .i64 n ∧ k = .int .i64 (lowU a b n)) (fun _ x => q.length - (intOf x).toNat)
      case atStart => exact ⟨0, by omega, rfl, by rw [hl0.out]⟩
      case round =>
        obtain ⟨m, hn, rfl, rfl⟩ := hrel
        by_cases hma : m < q.length
        · obtain ⟨ba, oa, ea, hba, p0⟩ := hsd.out.int_at hma
          have hs := hstep.out m
          have hbo : bothB a b m = (decide (0 < q[m]) && (decide (y = 0) || nearB m (lst.getD (y - 1) 0) r)) := by
            unfold bothB
            rw [haat.out m hma, hbat.out m (by have := haq.out; omega)]
          rw [hbo] at hs
          obtain ⟨x1, hx1⟩ : ∃ x, q[m] = x := ⟨_, rfl⟩
          obtain ⟨K, hK⟩ : ∃ x, lowU a b m = x := ⟨_, rfl⟩
          rw [hx1] at p0 hs
          rw [hK] at hs ⊢
          have j1 : (0 : Int) ≤ (m : Int) := by omega
          have j2 : (m : Int) < (q.length : Int) := by omega
          replace hbo := Lib.hid hbo; replace hx1 := Lib.hid hx1; replace hK := Lib.hid hK
          subst ea
          by_cases hK0 : K < 0
          case neg =>
            rw [if_neg hK0] at hs
            replace hs := Lib.hid hs
            go_wp2
            go_round
            case rel => exact ⟨m + 1, by omega, by go_num, by rw [hs.out]⟩
            case measure => exact meas hma
          rw [if_pos hK0] at hs
          by_cases hx0 : 0 < x1
          case neg =>
            have hs2 : lowU a b (m + 1) = -1 := by rw [hs]; simp [hx0]
            have hKm : K = -1 := by have := (hlt.out m).1; rw [hK.out] at this; omega
            replace hs2 := Lib.hid hs2; replace hKm := Lib.hid hKm
            clear hs
            go_wp2
            go_round
            case rel => exact ⟨m + 1, by omega, by go_num, by rw [hs2.out, hKm.out]⟩
            case measure => exact meas hma
          by_cases hy0 : y = 0
          · have hs2 : lowU a b (m + 1) = m := by rw [hs]; simp [hy0, hx0]
            have k0 : ((y : Int) == 0) = true := by rw [hy0]; rfl
            replace hs2 := Lib.hid hs2; replace hy0 := Lib.hid hy0
            clear hs
            go_wp2
            go_round
            case rel => exact ⟨m + 1, by omega, by go_num, by rw [hs2.out]⟩
            case measure => exact meas hma
          · obtain ⟨p, hq1, hp, hqr, hq2⟩ := hpv.out hy0
            obtain ⟨bo, oo, eo, hbo2, r0⟩ := hsv.out.int_at hp
            rw [hq2] at hs
            obtain ⟨z, hz⟩ : ∃ z, lst[p] = z := ⟨_, rfl⟩
            rw [hz] at r0 hqr hs
            have k0 : ((y : Int) == 0) = false := by rw [beq_eq_false_iff_ne]; omega
            have k1 : (0 : Int) ≤ (p : Int) := by omega
            have k2 : (p : Int) < (y : Int) := by omega
            have w4 : IntKind.i64.wrap ((y : Int) - 1) = (p : Int) := by rw [hq1]; exact i64_small (by omega)
            have hd : decide (y = 0) = false := decide_eq_false hy0
            have hx0d : decide (0 < x1) = true := decide_eq_true hx0
            have hKm : K = -1 := by have := (hlt.out m).1; rw [hK.out] at this; omega
            rw [hd, hx0d] at hs
            replace hz := Lib.hid hz; replace hq1 := Lib.hid hq1; replace hq2 := Lib.hid hq2; replace hKm := Lib.hid hKm
            clear hd hy0 hx0d
            subst eo
            have hnc := fun V => rnear_c (m : Int) z r V (by omega) (by omega)
            cases hnr : nearB (m : Int) z r
            all_goals
              simp only [hnr, Bool.true_and, Bool.or_false, Bool.or_true, Bool.false_eq_true, if_false, if_true] at hs hnc
              replace hs := Lib.hid hs; replace hnc := Lib.hid hnc
              clear hnr
              go_wp2_with (first | (go_at_call 62; refine (hnc.out _).mono ?_; rintro e w' ⟨rfl, rfl⟩))
              go_round
              case rel => exact ⟨m + 1, by omega, by go_num, by rw [hs.out] <;> rw [hKm.out]⟩
              case measure => exact meas hma
        · obtain rfl : m = q.length := by omega
          have hlo := hlow.out
          rw [haq.out] at hlo
          have hl2 := hlt.out q.length
          cases hf : lowB a b with
          | none =>
            rw [hf] at hlo
            simp only at hlo
            have hLN := hnone.out hf
            obtain rfl : (5 : Int) = EE := by have := hEE.out; rw [hLN] at this; simpa using this
            obtain rfl : ([] : List Int) = GL := by have := hGL.out; rw [hLN] at this; simpa using this
            clear hLN
            rw [hlo]
            replace hlo := Lib.hid hlo
            have hBf := hBC.trans (hbl.mono hBCs)
            clear hl2
            go_wp2
            go_ret2
            exact LivRet.nil hBf
          | some k =>
            rw [hf] at hlo
            simp only at hlo
            have hnx := Lib.hid (hnext.out k hf)
            rw [hlo] at hl2 ⊢
            have j4 : ¬ (k : Int) < 0 := by omega
            have hown2 := hown.out
            have hbls := hbl.size
            have hla : (lst ++ [(k : Int)]).length = y + 1 := by rw [List.length_append, hlst.out]; rfl
            have hev : intE.all (lst ++ [(k : Int)]) = intE.all lst ++ [.int .i64 k] := by simp [Elt.all, intE]
            have hrn : ∀ z ∈ lst ++ [(k : Int)], 0 ≤ z ∧ z < 12 := fun z hz => by
              rcases List.mem_append.1 hz with h | h
              · exact hrng.out z h
              · obtain rfl := List.mem_singleton.1 h; omega
            replace hlo := Lib.hid hlo; replace hla := Lib.hid hla; replace hev := Lib.hid hev; replace hrn := Lib.hid hrn
            go_wp2_with (first | (at_builtin; obtain ⟨i0, hi, hz0, hz1, hz2⟩ := info_parts info_int; refine wpList_append_own _ rfl _ _ 36 rfl A2.heap.size 3 i0 (.int .i64 0) 1 8 Try.underlying36 hi hz0 hz1 hz2 rfl (by decide) _ _ _ rfl (hown2.alloc _) ⟨wr.heap.size, 0, none⟩ 1 1 [.int .i64 k] rfl rfl (news_new _ _ _) (by simp [Value.oneCell']) (by unfold maxLen; omega) (by omega) (by simp; omega) ?_; intro v1 w1 hown1 hgrow hnil))
            go_roundw
            case rel => exact ⟨y + 1, lst ++ [(k : Int)], by omega, by go_num, by rw [hev.out]; exact hown1, hla, Up.grown hbl hbls hown2 hgrow, hnx, hrn⟩
            case measure => exact meas hly
    · obtain rfl : y = WL.length := by omega
      have hfin : LL = some lst := by rw [← hfl.out, ← hWD.out]; exact hfir.out
      obtain ⟨s', c', rfl, _⟩ := owns_shape hown
      have hBf := hBC.trans (hbl.mono hBCs)
      have hown2 : World.ownsRow wr w.heap.size 3 1 (.slice s' lst.length c') lst.length (intE.all lst) := by
        have := hlst.out; rw [this]; exact owns_mono hown hBCs
      have hl3 : lst.length = WL.length := hlst.out
      replace hown2 := Lib.hid hown2; replace hl3 := Lib.hid hl3
      obtain rfl : (0 : Int) = EE := by have := hEE.out; rw [hfin] at this; simpa using this
      obtain rfl : lst = GL := by have := hGL.out; rw [hfin] at this; simpa using this
      replace hfin := Lib.hid hfin
      clear hown
      go_wp2
      go_ret2
      exact ⟨⟨s', c', by show _ = Ending.returned (.tuple #[.slice s' lst.length c', .int .i64 0]); rw [hl3.out]; rfl, hown2.out⟩, hBf⟩
end Go.Proofs.Ytbabdoafpljdbaa
