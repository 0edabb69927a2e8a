/- The column that comes first: the program. -/
import Derived.Test.YtbabdoafpljdbaaMd11
namespace Go.Proofs.Ytbabdoafpljdbaa
open Go.RowKit

/-- Which cells of a row are near the last one. -/
def nrow (r : Int) (l : List Int) (y wd : Nat) : List Bool := (List.range wd).map fun (x : Nat) => decide (y = 0) || nearB x (l.getD (y - 1) 0) r
theorem nrow_len (r : Int) (l : List Int) (y wd : Nat) : (nrow r l y wd).length = wd := by simp [nrow]
theorem nrow_at {r : Int} {l : List Int} {y wd x : Nat} (h : x < wd) : (nrow r l y wd).getD x false = (decide (y = 0) || nearB x (l.getD (y - 1) 0) r) := by
  rw [List.getD_eq_getElem?_getD, List.getElem?_eq_getElem (by rw [nrow_len]; exact h)]
  simp [nrow]
/-- The column that comes first, as far as a row: each number the least that is open and near the last one. -/
def firP (r : Int) (D : List (List Bool)) : Nat → Option (List Int)
  | 0 => some []
  | n + 1 => match firP r D n with
    | none => none
    | some l => match lowB (D.getD n []) (nrow r l n (D.getD n []).length) with
      | none => none
      | some k => some (l ++ [(k : Int)])
def firL (r : Int) (R : List (List Bool)) : Option (List Int) := firP r (endL r R) (endL r R).length
theorem firP_none {r : Int} {D : List (List Bool)} {n : Nat} (h : firP r D n = none) : ∀ m, n ≤ m → firP r D m = none := by
  intro m hm
  induction m with
  | zero => obtain rfl : n = 0 := by omega
            exact h
  | succ m ih =>
    by_cases e : n = m + 1
    · rw [← e]; exact h
    · rw [firP, ih (by omega)]
theorem firP_bad {r : Int} {D : List (List Bool)} {n : Nat} {l : List Int} (hn : n < D.length) (h : firP r D n = some l) (hb : lowB D[n] (nrow r l n D[n].length) = none) : firP r D (n + 1) = none := by
  have e : D.getD n [] = D[n] := by rw [List.getD_eq_getElem?_getD, List.getElem?_eq_getElem hn]; rfl
  rw [firP, h, e]; simp only [hb]
theorem firP_good {r : Int} {D : List (List Bool)} {n k : Nat} {l : List Int} (hn : n < D.length) (h : firP r D n = some l) (hb : lowB D[n] (nrow r l n D[n].length) = some k) : firP r D (n + 1) = some (l ++ [(k : Int)]) := by
  have e : D.getD n [] = D[n] := by rw [List.getD_eq_getElem?_getD, List.getElem?_eq_getElem hn]; rfl
  rw [firP, h, e]; simp only [hb]
set_option maxRecDepth 100000 in
set_option maxHeartbeats 2000000 in
theorem first_c (s : Option Addr) (cap : Nat) (R : List (List Bool)) (r wd : Nat) (w : World) (h : SlSS boolE w s R) (hl : 1 ≤ R.length ∧ R.length ≤ 8) (hw : ∀ row ∈ R, row.length = wd) (hwd : wd ≤ 12) (hr : r ≤ 3) :
    Calls Try.prog 60 #[.slice s R.length cap, .int .i64 r] w (LeftRet (firL r R) w) := by
  have c1 := Lib.hid (ends_c s cap R r wd w h hl hw hwd hr)
  have hDl := endL_len (r : Int) R
  have hDw := endL_rows (r : Int) hw
  have hbad := fun (n : Nat) (l : List Int) hn h hb => firP_none (firP_bad (r := r) (D := endL (r : Int) R) (n := n) (l := l) hn h hb) (endL (r : Int) R).length hn
  have hgood := fun (n k : Nat) (l : List Int) hn h hb => firP_good (r := r) (D := endL (r : Int) R) (n := n) (k := k) (l := l) hn h hb
  obtain ⟨LL, hLL⟩ : ∃ x, firL (r : Int) R = x := ⟨_, rfl⟩
  have hfl : firP (r : Int) (endL (r : Int) R) (endL (r : Int) R).length = LL := hLL
  simp only [hLL, hfl] at hbad ⊢
  obtain ⟨D, hD⟩ : ∃ x, endL (r : Int) R = x := ⟨_, rfl⟩
  simp only [hD] at c1 hDl hDw hbad hgood hfl
  have hDl8 : D.length ≤ 8 := by omega
  replace c1 := Lib.hid c1; replace hDl := Lib.hid hDl; replace hDw := Lib.hid hDw; replace hbad := Lib.hid hbad; replace hgood := Lib.hid hgood; replace hLL := Lib.hid hLL; replace hfl := Lib.hid hfl; replace hD := Lib.hid hD
  clear h hw hl
  go_enter Try.func60, Try.ntmps60
  go_upto_region 2 with (go_at_call 75; refine c1.out.out.mono ?_; clear c1; rintro e A1 ⟨s1, k1, ss1, rfl, ht1, hb1⟩)
  have hv1 := Lib.hid ht1.seen
  have hA1 := hb1.size
  clear ht1
  go_wp2
  go_loopw [7, 17] (fun v ii V => ∃ (y : Nat) (lst : List Int), y ≤ D.length ∧ ii = .int .i64 y ∧ V.ownsRow A1.heap.size 3 1 v y (intE.all lst) ∧ Hid (lst.length = y) ∧ Below A1.heap.size A1 V ∧ Hid (firP r D y = some lst) ∧ Hid (∀ z ∈ lst, 0 ≤ z ∧ z < 12)) (fun _ ii _ => D.length - (intOf ii).toNat)
  case atStart => exact ⟨0, [], by omega, rfl, World.ownsRow_nil _ _ _ _, rfl, Below.refl _ _, rfl, fun z h => by cases h⟩
  case round =>
    obtain ⟨y, lst, hy, rfl, hown, hlst, hbl, hfir, hrng⟩ := hrel
    by_cases hly : y < D.length
    · obtain ⟨bd, od, sd, cd, e1, hbd, q0, hsd, -, -⟩ := (up_of hbl hv1.out).at hly
      have hrd := hDw.out _ (List.getElem_mem hly)
      obtain ⟨b, hb⟩ : ∃ x, nrow r lst y D[y].length = x := ⟨_, rfl⟩
      have hbl2 : b.length = D[y].length := by rw [← hb, nrow_len]
      have hbat : ∀ x : Nat, x < D[y].length → b.getD x false = (decide (y = 0) || nearB x (lst.getD (y - 1) 0) r) := fun x hx => by rw [← hb]; exact nrow_at hx
      have hlow := lowD_low D[y] b
      have hlt := fun (n : Nat) (hn : n ≤ D[y].length) => lowD_lt D[y] b n hn
      have hstep : ∀ n, lowD D[y] b (n + 1) = if bothB D[y] b (D[y].length - (n + 1)) then ((D[y].length - (n + 1) : Nat) : Int) else lowD D[y] b n := fun n => rfl
      have hnone : lowB D[y] b = none → LL = none := fun h => hbad.out y lst hly hfir.out (hb ▸ h)
      have hnext : ∀ k : Nat, lowB D[y] b = some k → firP r D (y + 1) = some (lst ++ [(k : Int)]) := fun k h => hgood.out y k lst hly hfir.out (hb ▸ h)
      obtain ⟨a, ha⟩ : ∃ x, D[y] = x := ⟨_, rfl⟩
      simp only [ha] at q0 hsd hrd hlow hlt hstep hnone hnext hbl2 hbat
      have hal : a.length ≤ 12 := by omega
      have hpv : y ≠ 0 → ∃ m : Nat, (m : Int) = (y : Int) - 1 ∧ m + 1 = y ∧ ∃ (hm : m < lst.length), (0 ≤ lst[m] ∧ lst[m] < 12) ∧ lst.getD (y - 1) 0 = lst[m] := fun hi0 => by
        have hm : y - 1 < lst.length := by have := hlst.out; omega
        exact ⟨y - 1, by omega, by omega, hm, hrng.out _ (List.getElem_mem hm), by rw [List.getD_eq_getElem?_getD, List.getElem?_eq_getElem hm]; rfl⟩
      have i1 : (0 : Int) ≤ (y : Int) := by omega
      have i2 : (y : Int) < (D.length : Int) := by omega
      have w1 : IntKind.i64.wrap ((a.length : Int) - 1) = (a.length : Int) - 1 := i64_small (by omega)
      have w3 : IntKind.i64.wrap ((y : Int) - 1) = (y : Int) - 1 := i64_small (by omega)
      obtain ⟨s0, c0, rfl, _⟩ := owns_shape hown
      have hsv : SlS intE wr s0 lst := SlS.of_own (cap := c0) (E := intE) (by have := hlst.out; rw [this]; exact hown)
      replace ha := Lib.hid ha; replace hb := Lib.hid hb; replace hrd := Lib.hid hrd; replace hlow := Lib.hid hlow; replace hlt := Lib.hid hlt; replace hstep := Lib.hid hstep; replace hnone := Lib.hid hnone; replace hnext := Lib.hid hnext; replace hbl2 := Lib.hid hbl2; replace hbat := Lib.hid hbat; replace hpv := Lib.hid hpv; replace hsd := Lib.hid hsd; replace hown := Lib.hid hown; replace hsv := Lib.hid hsv
      subst e1
      go_wp2
      go_loop [10, 11] (fun k x => ∃ n : Nat, n ≤ a.length ∧ x = .int .i64 ((a.length : Int) - 1 - n) ∧ k = .int .i64 (lowD a b n)) (fun _ x => (intOf x + 1).toNat)
      case atStart => exact ⟨0, by omega, by congr 1; omega, rfl⟩
      case round =>
        obtain ⟨n, hn, rfl, rfl⟩ := hrel
        by_cases hln : n < a.length
        · obtain ⟨m, hm, hm2⟩ : ∃ m : Nat, (m : Int) = (a.length : Int) - 1 - n ∧ m = a.length - (n + 1) := ⟨a.length - (n + 1), by omega, rfl⟩
          have hma : m < a.length := by omega
          obtain ⟨ba, oa, ea, hba, p0⟩ := hsd.out.bool_at hma
          have hs := hstep.out n
          have hbo : bothB a b m = (a[m] && (decide (y = 0) || nearB m (lst.getD (y - 1) 0) r)) := by
            rw [← hbat.out m hma]; simp [bothB, List.getElem?_eq_getElem hma]
          rw [← hm2, hbo] at hs
          rw [← hm]
          obtain ⟨x1, hx1⟩ : ∃ x, a[m] = x := ⟨_, rfl⟩
          obtain ⟨K, hK⟩ : ∃ x, lowD a b n = x := ⟨_, rfl⟩
          rw [hx1] at p0 hs
          rw [hK] at hs ⊢
          have j1 : (0 : Int) ≤ (m : Int) := by omega
          have j2 : (m : Int) < (a.length : Int) := by omega
          have w2 : IntKind.i64.wrap ((m : Int) - 1) = (m : Int) - 1 := i64_small (by omega)
          replace hm2 := Lib.hid hm2; replace hbo := Lib.hid hbo; replace hx1 := Lib.hid hx1; replace hK := Lib.hid hK; replace hm := Lib.hid hm
          subst ea
          cases x1
          · simp only [Bool.false_and, Bool.false_eq_true, if_false] at hs
            replace hs := Lib.hid hs
            go_wp2
            go_round
            case rel => exact ⟨n + 1, by omega, by have := hm.out; congr 1; omega, by rw [hs.out]⟩
            case measure => simp [intOf] <;> omega
          · by_cases hy0 : y = 0
            · have hs2 : lowD a b (n + 1) = m := by rw [hs]; simp [hy0]
              have k0 : ((y : Int) == 0) = true := by rw [hy0]; rfl
              replace hs2 := Lib.hid hs2; replace hy0 := Lib.hid hy0
              clear hs
              go_wp2
              go_round
              case rel => exact ⟨n + 1, by omega, by have := hm.out; congr 1; omega, by rw [hs2.out]⟩
              case measure => simp [intOf] <;> omega
            · obtain ⟨q, hq1, hq3, hq, hqr, hq2⟩ := hpv.out hy0
              obtain ⟨bo, oo, eo, hbo2, r0⟩ := hsv.out.int_at hq
              rw [hq2] at hs
              obtain ⟨z, hz⟩ : ∃ z, lst[q] = z := ⟨_, rfl⟩
              rw [hz] at r0 hqr hs
              have k0 : ((y : Int) == 0) = false := by rw [beq_eq_false_iff_ne]; omega
              have k1 : (0 : Int) ≤ (q : Int) := by omega
              have k2 : (q : Int) < (y : Int) := by omega
              have w4 : IntKind.i64.wrap ((y : Int) - 1) = (q : Int) := by rw [hq1]; exact i64_small (by omega)
              have hd : decide (y = 0) = false := decide_eq_false hy0
              rw [hd] at hs
              replace hz := Lib.hid hz; replace hq1 := Lib.hid hq1; replace hq3 := Lib.hid hq3; replace hq2 := Lib.hid hq2
              clear w3 hd hy0
              subst eo
              have hnc := fun V => near_c (m : Int) z r V (by omega) (by omega) (by omega)
              cases hnr : nearB (m : Int) z r
              all_goals
                simp only [hnr, Bool.true_and, Bool.or_false, Bool.or_true, Bool.false_eq_true, if_false, if_true] at hs hnc
                replace hs := Lib.hid hs; replace hnc := Lib.hid hnc
                clear hnr
                go_wp2_with (first | (go_at_call 63; refine (hnc.out _).mono ?_; rintro e w' ⟨rfl, rfl⟩))
                go_round
                case rel => exact ⟨n + 1, by omega, by have := hm.out; congr 1; omega, by rw [hs.out]⟩
                case measure => simp [intOf] <;> omega
        · obtain rfl : n = a.length := by omega
          have j1 : ¬ (0 : Int) ≤ (a.length : Int) - 1 - (a.length : Int) := by omega
          have hlo := hlow.out
          have hl2 := hlt.out a.length (Nat.le_refl _)
          cases hf : lowB a b with
          | none =>
            rw [hf] at hlo
            simp only at hlo
            obtain rfl := hnone.out hf
            rw [hlo]
            replace hlo := Lib.hid hlo
            have hBf := hb1.trans (hbl.mono hA1)
            clear hl2
            go_wp2
            go_ret2
            exact ⟨⟨none, 0, rfl, World.ownsRow_nil _ _ _ _⟩, hBf⟩
          | some k =>
            rw [hf] at hlo
            simp only at hlo
            have hnx := Lib.hid (hnext.out k hf)
            rw [hlo] at hl2 ⊢
            have j4 : ¬ (k : Int) < 0 := by omega
            have hown2 := hown.out
            have hbls := hbl.size
            have hla : (lst ++ [(k : Int)]).length = y + 1 := by rw [List.length_append, hlst.out]; rfl
            have hev : intE.all (lst ++ [(k : Int)]) = intE.all lst ++ [.int .i64 k] := by simp [Elt.all, intE]
            have hrn : ∀ z ∈ lst ++ [(k : Int)], 0 ≤ z ∧ z < 12 := fun z hz => by
              rcases List.mem_append.1 hz with h | h
              · exact hrng.out z h
              · obtain rfl := List.mem_singleton.1 h; omega
            replace hlo := Lib.hid hlo; replace hla := Lib.hid hla; replace hev := Lib.hid hev; replace hrn := Lib.hid hrn
            go_wp2_with (first | (at_builtin; obtain ⟨i0, hi, hz0, hz1, hz2⟩ := info_parts info_int; refine wpList_append_own _ rfl _ _ 36 rfl A1.heap.size 3 i0 (.int .i64 0) 1 8 Try.underlying36 hi hz0 hz1 hz2 rfl (by decide) _ _ _ rfl (hown2.alloc _) ⟨wr.heap.size, 0, none⟩ 1 1 [.int .i64 k] rfl rfl (news_new _ _ _) (by simp [Value.oneCell']) (by unfold maxLen; omega) (by omega) (by simp; omega) ?_; intro v1 w1 hown1 hgrow hnil))
            go_roundw
            case rel => exact ⟨y + 1, lst ++ [(k : Int)], by omega, by go_num, by rw [hev.out]; exact hown1, hla, Up.grown hbl hbls hown2 hgrow, hnx, hrn⟩
            case measure => exact meas hly
    · obtain rfl : y = D.length := by omega
      have hfin : LL = some lst := by rw [← hfl.out]; exact hfir.out
      obtain ⟨s', c', rfl, _⟩ := owns_shape hown
      have hBf := hb1.trans (hbl.mono hA1)
      have hown2 : World.ownsRow wr w.heap.size 3 1 (.slice s' lst.length c') lst.length (intE.all lst) := by
        have := hlst.out; rw [this]; exact owns_mono hown hA1
      have hl3 : lst.length = D.length := hlst.out
      replace hown2 := Lib.hid hown2; replace hl3 := Lib.hid hl3
      subst hfin
      clear hown
      go_wp2
      go_ret2
      exact ⟨⟨s', c', by show _ = Ending.returned (.tuple #[.slice s' lst.length c', .bool true]); rw [hl3.out]; rfl, hown2.out⟩, hBf⟩
end Go.Proofs.Ytbabdoafpljdbaa
