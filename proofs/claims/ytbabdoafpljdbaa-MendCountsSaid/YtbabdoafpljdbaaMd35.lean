/- The leftmost column: the reference. -/
import Derived.Test.YtbabdoafpljdbaaMd31
namespace Go.Proofs.Ytbabdoafpljdbaa
open Go.RowKit

def revS (ss : List Sv) (y : Nat) : List Sv := ss.reverse.take y ++ List.replicate (ss.length - y) ⟨none, 0, 0⟩
theorem revS_len (ss : List Sv) {y : Nat} (h : y ≤ ss.length) : (revS ss y).length = ss.length := by simp [revS]; omega
theorem revS_all (ss : List Sv) : revS ss ss.length = ss.reverse := by
  unfold revS
  rw [Nat.sub_self, List.take_of_length_le (by simp)]; simp
theorem revS_set (ss : List Sv) {y : Nat} (h : y < ss.length) : (revS ss y).set y (ss[ss.length - 1 - y]'(by omega)) = revS ss (y + 1) := by
  unfold revS
  have hl : (ss.reverse.take y).length = y := by rw [List.length_take, List.length_reverse]; omega
  have hy : y < ss.reverse.length := by simpa using h
  rw [List.set_append_right _ _ (by omega), hl, Nat.sub_self, show ss.length - y = (ss.length - (y + 1)) + 1 by omega, List.replicate_succ, List.set_cons_zero, List.take_succ_eq_append_getElem hy, List.append_assoc, List.getElem_reverse]
  rfl
theorem SlS.sv_at {w : World} {s : Option Addr} {l : List Sv} (c : SlS svE w s l) {i : Nat} (h : i < l.length) : ∃ b off, s = some ⟨b, off, none⟩ ∧ b < w.heap.size ∧ w.cell? ⟨b, off + i, none⟩ = some (.slice l[i].addr l[i].len l[i].cap) := by
  obtain ⟨b, off, e, hb, hc⟩ := c.at h
  have := hc 0 _ rfl
  simp only [svE, Nat.mul_one, Nat.add_zero] at this
  exact ⟨b, off, e, hb, this⟩
def LmRet (o : Option (List Int)) (w : World) (e : Ending) (w' : World) : Prop :=
  (∃ s cap, e = .returned (.slice s (o.getD []).length cap) ∧ (o = none → s = none ∧ cap = 0) ∧ w'.ownsRow w.heap.size 3 1 (.slice s (o.getD []).length cap) (o.getD []).length (intE.all (o.getD []))) ∧ Below w.heap.size w w'
set_option maxRecDepth 100000 in
set_option maxHeartbeats 2000000 in
theorem rleftmost_c (s : Option Addr) (cap : Nat) (R : List (List Bool)) (r wd : Nat) (w : World) (h : SlSS boolE w s R) (hl : 1 ≤ R.length ∧ R.length ≤ 8) (hw : ∀ row ∈ R, row.length = wd) (hwd : 1 ≤ wd ∧ wd ≤ 12) (hr : r ≤ 3) :
    Calls Try.prog 65 #[.slice s R.length cap, .int .i64 r] w (LmRet (leftL r R) w) := by
  have c1 := ways_c s cap R r wd w h hl hw hwd hr
  have hRl : R.reverse.length = R.length := List.length_reverse
  have hRw : ∀ row ∈ R.reverse, row.length = wd := fun row hr => hw row (List.mem_reverse.1 hr)
  have c2 := fun V s c (h : SlSS boolE V s R.reverse) => ways_c s c R.reverse r wd V h (by omega) hRw hwd hr
  unfold TbiRet at c1 c2
  simp only [hRl] at c2
  have hDl := endL_len (r : Int) R
  have hUl : (endL (r : Int) R.reverse).reverse.length = R.length := by rw [List.length_reverse, endL_len, List.length_reverse]
  have hW1l := wayL_len (r : Int) R
  have hW2l := wayL_len (r : Int) R.reverse
  rw [hRl] at hW2l
  have hW1w := wayL_rows (r : Int) hw
  have hW2w := wayL_rows (r : Int) hRw
  have hP1 := pos_way r R
  have hP2 := pos_way r R.reverse
  have hDp : ∀ y (hy : y < (endL (r : Int) R).length) (hy' : y < (wayL (r : Int) R).length), (endL (r : Int) R)[y] = posR (wayL (r : Int) R)[y] := fun y hy hy' => by simp only [← hP1, posL, List.getElem_map]
  have hUp : ∀ y (hy : y < (endL (r : Int) R.reverse).reverse.length) (hy' : R.length - 1 - y < (wayL (r : Int) R.reverse).length), (endL (r : Int) R.reverse).reverse[y] = posR (wayL (r : Int) R.reverse)[R.length - 1 - y] := fun y hy hy' => by
    rw [List.getElem_reverse]
    simp only [← hP2, posL, List.getElem_map, List.length_map, hW2l]
  have hLn := fun (j : Nat) hj hh => (show leftL r R = none from lowL_none (A := endL (r : Int) R) (B := (endL (r : Int) R.reverse).reverse) (j := j) hj (by rw [hDl, hUl]) hh)
  have hLs := fun (l : List Int) h1 hh => (show leftL r R = some l from lowL_some (A := endL (r : Int) R) (B := (endL (r : Int) R.reverse).reverse) (l := l) (by rw [hDl, hUl]) h1 hh)
  obtain ⟨LL, hLL⟩ : ∃ x, leftL (r : Int) R = x := ⟨_, rfl⟩
  simp only [hLL] at hLn hLs ⊢
  obtain ⟨D, hD⟩ : ∃ x, endL (r : Int) R = x := ⟨_, rfl⟩
  obtain ⟨U, hU⟩ : ∃ x, (endL (r : Int) R.reverse).reverse = x := ⟨_, rfl⟩
  obtain ⟨P, hP⟩ : ∃ x, wayL (r : Int) R = x := ⟨_, rfl⟩
  obtain ⟨Q, hQ⟩ : ∃ x, wayL (r : Int) R.reverse = x := ⟨_, rfl⟩
  simp only [hD, hU, hP, hQ] at c1 c2 hDl hUl hW1l hW2l hW1w hW2w hDp hUp hLn hLs
  have h0 := Lib.hid h
  obtain ⟨ss, h1, h2, h3⟩ := h
  have hview := fun V (hb : Below w.heap.size w V) s' (h : SlS svE V s' ss.reverse) => SlSS.rev_view (E := boolE) (W := V) h2 (fun i a b => ⟨(h3 i a b).1, (h3 i a b).2.1.up hb, (h3 i a b).2.2⟩) h
  have hrl := fun (y : Nat) hy => revS_len ss (y := y) hy
  have hrs : ∀ (y m : Nat) (_ : y < R.length) (hm : m < ss.length), m = R.length - 1 - y → (revS ss y).set y ss[m] = revS ss (y + 1) := fun y m hy hm e => by
    subst e
    have := revS_set ss (y := y) (by omega)
    simp only [h2] at this
    exact this
  have hra := revS_all ss
  have hr0 : revS ss 0 = List.replicate ss.length ⟨none, 0, 0⟩ := by simp [revS]
  simp only [h2] at hrl hra hr0
  have hssl := h2
  have hh1 := h1
  obtain ⟨hl1, hl8⟩ := hl
  have hRwd := fun (y : Nat) (hy : y < R.length) => hw _ (List.getElem_mem hy)
  replace c1 := Lib.hid c1; replace c2 := Lib.hid c2; replace hDl := Lib.hid hDl; replace hUl := Lib.hid hUl; replace hW1l := Lib.hid hW1l; replace hW2l := Lib.hid hW2l; replace hW1w := Lib.hid hW1w; replace hW2w := Lib.hid hW2w; replace hDp := Lib.hid hDp; replace hUp := Lib.hid hUp; replace hLn := Lib.hid hLn; replace hLs := Lib.hid hLs; replace hLL := Lib.hid hLL; replace hD := Lib.hid hD; replace hU := Lib.hid hU; replace hP := Lib.hid hP; replace hQ := Lib.hid hQ; replace hview := Lib.hid hview; replace hrl := Lib.hid hrl; replace hrs := Lib.hid hrs; replace hra := Lib.hid hra; replace hr0 := Lib.hid hr0; replace hssl := Lib.hid hssl; replace hh1 := Lib.hid hh1; replace hRwd := Lib.hid hRwd
  clear h1 h2 h3 hw hRl hRw hP1 hP2
  go_enter Try.func65, Try.ntmps65
  go_upto_region 2 with (go_at_call 61; refine c1.out.mono ?_; clear c1; rintro e A1 ⟨⟨s1, k1, rfl, hv1⟩, hb1⟩)
  replace hv1 := Lib.hid hv1
  have hA1 := hb1.size
  have hmk := run_make_fields R.length (by omega) A1
  have hb0 : Below A1.heap.size A1 (A1.alloc (.cells (List.replicate R.length (Value.slice none 0 0)).toArray 75)) := (Below.refl _ A1).alloc (Nat.le_refl _) _
  have ho0 : (A1.alloc (.cells (List.replicate R.length (Value.slice none 0 0)).toArray 75)).ownsRow A1.heap.size 75 1 (.slice (some ⟨A1.heap.size, 0, none⟩) R.length R.length) R.length (svE.all (revS ss 0)) := by
    rw [hr0.out, rep_all]
    have ht := Tbl.made (E := boolE) (T := 75) (t := 4) (base := A1.heap.size) (k := R.length) (heap_alloc_new A1 (.cells (List.replicate R.length (Value.slice none 0 0)).toArray 75)) (Nat.le_refl _) (by omega)
    have := ht.out
    rw [rep_all, List.length_replicate] at this
    exact this
  obtain ⟨X0, hX0⟩ : ∃ x, A1.alloc (.cells (List.replicate R.length (Value.slice none 0 0)).toArray 75) = x := ⟨_, rfl⟩
  rw [hX0] at hb0 ho0 hmk
  replace hX0 := Lib.hid hX0; replace ho0 := Lib.hid ho0; replace hb0 := Lib.hid hb0
  go_wp2
  go_loopw [21] (fun ii V => ∃ y : Nat, y ≤ R.length ∧ ii = .int .i64 y ∧ V.ownsRow A1.heap.size 75 1 (.slice (some ⟨A1.heap.size, 0, none⟩) R.length R.length) R.length (svE.all (revS ss y)) ∧ Below A1.heap.size A1 V) (fun ii _ => R.length - (intOf ii).toNat)
  case atStart => exact ⟨0, by omega, rfl, ho0.out, hb0.out⟩
  case round =>
    clear ho0 hb0
    obtain ⟨y, hy, rfl, hown, hbl⟩ := hrel
    have hbw := hb1.trans (hbl.mono hA1)
    by_cases hly : y < R.length
    · obtain ⟨m, hm1, hm2⟩ : ∃ m : Nat, (m : Int) = (R.length : Int) - 1 - y ∧ m = R.length - 1 - y := ⟨R.length - 1 - y, by omega, rfl⟩
      have hmR : m < R.length := by omega
      have hms : m < ss.length := by have := hssl.out; omega
      obtain ⟨bd, od, ed, hbd, q0⟩ := hh1.out.sv_at hms
      replace q0 := Up.cell hbw q0
      have hset := hrs.out y m hly hms hm2
      have hln := hrl.out y hy
      obtain ⟨x, hx⟩ : ∃ x, ss[m] = x := ⟨_, rfl⟩
      rw [hx] at hset q0
      have hsd := hown.stored y (.slice x.addr x.len x.cap)
      rw [svE_set, hset] at hsd
      have hst := hsd.1
      have hfz := World.ownsRow.frozenAt hown y
      have hyl : y < (revS ss y).length := by omega
      have hcell := owns_cell hown (svE_at _ hyl)
      obtain ⟨z, hz⟩ : ∃ z, (revS ss y)[y]'hyl = z := ⟨_, rfl⟩
      rw [hz] at hcell
      have hbl2 := hbl.setCell (p := ⟨A1.heap.size, y, none⟩) (Nat.le_refl _) (.slice x.addr x.len x.cap)
      have i1 : (0 : Int) ≤ (y : Int) := by omega
      have i2 : (y : Int) < (R.length : Int) := by omega
      have i3 : (0 : Int) ≤ (m : Int) := by omega
      have i4 : (m : Int) < (R.length : Int) := by omega
      have w1 : IntKind.i64.wrap ((R.length : Int) - 1) = (R.length : Int) - 1 := i64_small (by omega)
      have w2 : IntKind.i64.wrap ((R.length : Int) - 1 - (y : Int)) = (m : Int) := by rw [← hm1]; exact i64_small (by omega)
      replace hst := Lib.hid hst; replace hbl2 := Lib.hid hbl2; replace hset := Lib.hid hset; replace hln := Lib.hid hln; replace hx := Lib.hid hx; replace hz := Lib.hid hz; replace hm1 := Lib.hid hm1; replace hm2 := Lib.hid hm2
      subst ed
      clear hown hsd
      go_wp2
      go_roundw
      case rel => exact ⟨y + 1, by omega, by go_num, hst.out, hbl2.out⟩
      case measure => exact meas hly
    obtain rfl : y = R.length := by omega
    rw [hra.out] at hown
    have hsv := SlS.of_own (E := svE) (cap := R.length) (l := ss.reverse) (by rw [List.length_reverse, hssl.out]; exact hown)
    have hvR := hview.out wr hbw _ hsv
    have d2 := c2.out wr _ R.length hvR
    have hbws := hbw.size
    have hv1' := up_of hbl hv1.out
    replace d2 := Lib.hid d2; replace hv1' := Lib.hid hv1'
    clear hown hsv hvR hv1
    obtain ⟨N0, rfl⟩ : ∃ N0, N0 = wr := ⟨wr, rfl⟩
    go_upto_region 9 with (go_at_call 61; refine d2.out.mono ?_; clear d2; rintro e A2 ⟨⟨s2, k2, rfl, hv2⟩, hb2⟩)
    replace hv1' := Lib.hid (up_of hb2 hv1'.out)
    replace hv2 := Lib.hid hv2
    have hBC := hbw.trans (hb2.mono hbws)
    have hBCs := hBC.size
    clear hb2 hbl hbw
    go_wp2
    go_loopw [9, 41] (fun v ii V => ∃ (y : Nat) (lst : List Int), y ≤ R.length ∧ ii = .int .i64 y ∧ V.ownsRow A2.heap.size 3 1 v y (intE.all lst) ∧ Hid (lst.length = y) ∧ Below A2.heap.size A2 V ∧ Hid (∀ j (h : j < D.length) (h' : j < U.length) (h'' : j < lst.length), ∃ k : Nat, lowB D[j] U[j] = some k ∧ lst[j] = k)) (fun _ ii _ => R.length - (intOf ii).toNat)
    case atStart => exact ⟨0, [], by omega, rfl, World.ownsRow_nil _ _ _ _, rfl, Below.refl _ _, fun j _ _ h => absurd h (by simp)⟩
    case round =>
      obtain ⟨y, lst, hy, rfl, hown, hlst, hbl, hall⟩ := hrel
      by_cases hly : y < R.length
      · have hyD : y < D.length := by have := hDl.out; omega
        have hyU : y < U.length := by have := hUl.out; omega
        have hyP : y < P.length := by have := hW1l.out; omega
        obtain ⟨m, hm1, hm2⟩ : ∃ m : Nat, (m : Int) = (R.length : Int) - 1 - y ∧ m = R.length - 1 - y := ⟨R.length - 1 - y, by omega, rfl⟩
        have hmQ : m < Q.length := by have := hW2l.out; omega
        obtain ⟨bf, off, sf, cf, e0, hbf, f0, hsf, -, -⟩ := (up_of (hBC.trans (hbl.mono hBCs)) h0.out).at hly
        obtain ⟨bd, od, sd, cd, e1, hbd, q0, hsd, -, -⟩ := (up_of hbl hv1'.out).at hyP
        obtain ⟨bu, ou, su, cu, e2, hbu, u0, hsu, -, -⟩ := (up_of hbl hv2.out).at hmQ
        have hrf := hRwd.out y hly
        have hrd := hW1w.out _ (List.getElem_mem hyP)
        have hru := hW2w.out _ (List.getElem_mem hmQ)
        have hDy := hDp.out y hyD hyP
        have hUy := hUp.out y hyU (by rw [← hm2]; exact hmQ)
        simp only [← hm2] at hUy
        have hlow := lowU_low D[y] U[y]
        have hlt := fun (n : Nat) => lowU_lt D[y] U[y] n
        have hstep := fun n => lowU_succ D[y] U[y] n
        have hnone : lowB D[y] U[y] = none → LL = none := fun h => hLn.out y hyD (fun i h1 h2 e => by subst e; exact h)
        have hnext : ∀ k : Nat, lowB D[y] U[y] = some k → (∀ j (h : j < D.length) (h' : j < U.length) (h'' : j < (lst ++ [(k : Int)]).length), ∃ k' : Nat, lowB D[j] U[j] = some k' ∧ (lst ++ [(k : Int)])[j] = k') := fun k hk j h h' h'' => by
          rw [List.length_append, hlst.out] at h''
          simp only [List.length_cons, List.length_nil] at h''
          by_cases hj : j < lst.length
          · rw [List.getElem_append_left hj]; exact hall.out j h h' hj
          · have : j = y := by have := hlst.out; omega
            subst this
            refine ⟨k, hk, ?_⟩
            rw [List.getElem_append_right (by omega)]; simp
        obtain ⟨a, ha⟩ : ∃ x, D[y] = x := ⟨_, rfl⟩
        obtain ⟨b, hb⟩ : ∃ x, U[y] = x := ⟨_, rfl⟩
        obtain ⟨p, hp⟩ : ∃ x, P[y] = x := ⟨_, rfl⟩
        obtain ⟨q, hq⟩ : ∃ x, Q[m] = x := ⟨_, rfl⟩
        simp only [ha] at hlow hlt hstep hnone hnext hDy
        simp only [hb] at hlow hlt hstep hnone hnext hUy
        simp only [hp] at q0 hsd hrd hDy
        simp only [hq] at u0 hsu hru hUy
        have hbo : ∀ x (hx : x < p.length) (hx' : x < q.length), bothB a b x = (decide (0 < p[x]) && decide (0 < q[x])) := fun x hx hx' => by
          unfold bothB
          rw [hDy, hUy, posR_at, posR_at, List.getD_eq_getElem?_getD, List.getElem?_eq_getElem hx, List.getD_eq_getElem?_getD, List.getElem?_eq_getElem hx']; rfl
        have hal : a.length = wd := by rw [hDy]; simp [posR, hrd]
        rw [hal] at hlow
        have i1 : (0 : Int) ≤ (y : Int) := by omega
        have i2 : (y : Int) < (R.length : Int) := by omega
        have i3 : (0 : Int) ≤ (m : Int) := by omega
        have i4 : (m : Int) < (R.length : Int) := by omega
        have hl0 := lowU_zero a b
        have w1 : IntKind.i64.wrap ((R.length : Int) - 1) = (R.length : Int) - 1 := i64_small (by omega)
        have w2 : IntKind.i64.wrap ((R.length : Int) - 1 - (y : Int)) = (m : Int) := by rw [← hm1]; exact i64_small (by omega)
        obtain ⟨NP, hNP⟩ : ∃ n, P.length = n := ⟨_, rfl⟩
        have hNR : NP = R.length := by rw [← hNP]; exact hW1l.out
        have hwd12 : wd ≤ 12 := hwd.2
        rw [hrf] at f0
        rw [hrd] at q0
        rw [hru] at u0
        replace ha := Lib.hid ha; replace hb := Lib.hid hb; replace hp := Lib.hid hp; replace hq := Lib.hid hq; replace hDy := Lib.hid hDy; replace hUy := Lib.hid hUy; replace hrf := Lib.hid hrf; replace hrd := Lib.hid hrd; replace hru := Lib.hid hru; replace hlow := Lib.hid hlow; replace hlt := Lib.hid hlt; replace hstep := Lib.hid hstep; replace hnone := Lib.hid hnone; replace hnext := Lib.hid hnext; replace hbo := Lib.hid hbo; replace hal := Lib.hid hal; replace hsd := Lib.hid hsd; replace hsu := Lib.hid hsu; replace hown := Lib.hid hown; replace hl0 := Lib.hid hl0; replace hm1 := Lib.hid hm1; replace hm2 := Lib.hid hm2; replace hNP := Lib.hid hNP; replace hNR := Lib.hid hNR
        have hP9 : P.length = R.length := hW1l.out
        have hQ9 : Q.length = R.length := hW2l.out
        rw [hP9]
        rw [hQ9]
        replace hP9 := Lib.hid hP9; replace hQ9 := Lib.hid hQ9
        subst e0 e1 e2
        clear hsf
        go_wp2
        go_loop [11, 49] (fun k x => ∃ n : Nat, n ≤ wd ∧ x = .int .i64 n ∧ k = .int .i64 (lowU a b n)) (fun _ x => wd - (intOf x).toNat)
        case atStart => exact ⟨0, by omega, rfl, by rw [hl0.out]⟩
        case round =>
          obtain ⟨n, hn, rfl, rfl⟩ := hrel
          by_cases hln : n < wd
          · have hnp : n < p.length := by have := hrd.out; omega
            have hnq : n < q.length := by have := hru.out; omega
            obtain ⟨ba, oa, ea, hba, p0⟩ := hsd.out.int_at hnp
            obtain ⟨bb, ob, eb, hbb, r0⟩ := hsu.out.int_at hnq
            have hs := hstep.out n
            rw [hbo.out n hnp hnq] at hs
            obtain ⟨x1, hx1⟩ : ∃ x, p[n] = x := ⟨_, rfl⟩
            obtain ⟨x2, hx2⟩ : ∃ x, q[n] = x := ⟨_, rfl⟩
            obtain ⟨K, hK⟩ : ∃ x, lowU a b n = x := ⟨_, rfl⟩
            rw [hx1] at p0 hs
            rw [hx2] at r0 hs
            rw [hK] at hs ⊢
            have hKm : K < 0 → K = -1 := fun h => by have := (hlt.out n).1; rw [hK] at this; omega
            have j1 : (0 : Int) ≤ (n : Int) := by omega
            have j2 : (n : Int) < (wd : Int) := by omega
            replace hx1 := Lib.hid hx1; replace hx2 := Lib.hid hx2; replace hK := Lib.hid hK
            subst ea eb
            by_cases hK0 : K < 0
            case neg =>
              rw [if_neg hK0] at hs
              replace hs := Lib.hid hs
              clear hKm
              go_wp2
              go_round
              case rel => exact ⟨n + 1, by omega, by go_num, by rw [hs.out]⟩
              case measure => exact meas hln
            rw [if_pos hK0] at hs
            have hKm := hKm hK0
            by_cases hx0 : 0 < x1
            case neg =>
              have hs2 : lowU a b (n + 1) = -1 := by rw [hs]; simp [hx0]
              replace hs2 := Lib.hid hs2; replace hKm := Lib.hid hKm
              clear hs
              go_wp2
              go_round
              case rel => exact ⟨n + 1, by omega, by go_num, by rw [hs2.out, hKm.out]⟩
              case measure => exact meas hln
            by_cases hx3 : 0 < x2
            case neg =>
              have hs2 : lowU a b (n + 1) = -1 := by rw [hs]; simp [hx3]
              replace hs2 := Lib.hid hs2; replace hKm := Lib.hid hKm
              clear hs
              go_wp2
              go_round
              case rel => exact ⟨n + 1, by omega, by go_num, by rw [hs2.out, hKm.out]⟩
              case measure => exact meas hln
            have hs2 : lowU a b (n + 1) = n := by rw [hs]; simp [hx0, hx3]
            replace hs2 := Lib.hid hs2; replace hKm := Lib.hid hKm
            clear hs
            go_wp2
            go_round
            case rel => exact ⟨n + 1, by omega, by go_num, by rw [hs2.out]⟩
            case measure => exact meas hln
          · obtain rfl : n = wd := by omega
            have hlo := hlow.out
            have hl2 := hlt.out n
            cases hf : lowB a b with
            | none =>
              rw [hf] at hlo
              simp only at hlo
              obtain rfl := hnone.out hf
              rw [hlo]
              replace hlo := Lib.hid hlo
              have hBf := hBC.trans (hbl.mono hBCs)
              clear hl2
              go_wp2
              go_ret
              exact ⟨⟨none, 0, rfl, fun _ => ⟨rfl, rfl⟩, World.ownsRow_nil _ _ _ _⟩, hBf⟩
            | some k =>
              rw [hf] at hlo
              simp only at hlo
              have hnx := Lib.hid (hnext.out k hf)
              rw [hlo] at hl2 ⊢
              have j4 : ¬ (k : Int) < 0 := by omega
              have hown2 := hown.out
              have hbls := hbl.size
              have hla : (lst ++ [(k : Int)]).length = y + 1 := by rw [List.length_append, hlst.out]; rfl
              have hev : intE.all (lst ++ [(k : Int)]) = intE.all lst ++ [.int .i64 k] := by simp [Elt.all, intE]
              replace hlo := Lib.hid hlo; replace hla := Lib.hid hla; replace hev := Lib.hid hev
              go_wp2_with (first | (at_builtin; obtain ⟨i0, hi, hz0, hz1, hz2⟩ := info_parts info_int; refine wpList_append_own _ rfl _ _ 36 rfl A2.heap.size 3 i0 (.int .i64 0) 1 8 Try.underlying36 hi hz0 hz1 hz2 rfl (by decide) _ _ _ rfl (hown2.alloc _) ⟨wr.heap.size, 0, none⟩ 1 1 [.int .i64 k] rfl rfl (news_new _ _ _) (by simp [Value.oneCell']) (by unfold maxLen; omega) (by omega) (by simp; omega) ?_; intro v1 w1 hown1 hgrow hnil))
              go_roundw
              case rel => exact ⟨y + 1, lst ++ [(k : Int)], by omega, by go_num, by rw [hev.out]; exact hown1, hla, Up.grown hbl hbls hown2 hgrow, hnx⟩
              case measure => exact meas hly
      · obtain rfl : y = R.length := by omega
        have hfin := hLs.out lst (by have := hlst.out; have := hDl.out; omega) (fun i h1 h2 h3 => hall.out i h1 h2 h3)
        obtain ⟨s', c', rfl, _⟩ := owns_shape hown
        have hBf := hBC.trans (hbl.mono hBCs)
        have hown2 : World.ownsRow wr w.heap.size 3 1 (.slice s' lst.length c') lst.length (intE.all lst) := by
          have := hlst.out; rw [this]; exact owns_mono hown hBCs
        have hl3 : lst.length = R.length := hlst.out
        replace hown2 := Lib.hid hown2; replace hl3 := Lib.hid hl3
        subst hfin
        clear hown
        go_wp2
        go_ret
        exact ⟨⟨s', c', by show _ = Ending.returned (.slice s' lst.length c'); rw [hl3.out]; rfl, (fun h => by cases h), hown2.out⟩, hBf⟩
end Go.Proofs.Ytbabdoafpljdbaa
