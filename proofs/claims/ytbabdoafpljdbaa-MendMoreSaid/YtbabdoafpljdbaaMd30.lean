/- How many columns there are from each cell on: the reference's ways. -/
import Derived.Test.YtbabdoafpljdbaaMd29
namespace Go.Proofs.Ytbabdoafpljdbaa
open Go.RowKit

/-! ### The table between the rounds -/
def Rout (W P : List (List Int)) (m : Nat) : Prop := P.length = W.length ∧ ∀ j, m ≤ j → P[j]? = W[j]?
def Rst (W P : List (List Int)) (m : Nat) (row : List Int) : Prop := P.length = W.length ∧ (∀ j, m < j → P[j]? = W[j]?) ∧ P[m]? = some row
theorem Rout.put {W P : List (List Int)} {m : Nat} (h : Rout W P (m + 1)) (hm : m < W.length) (row : List Int) : Rst W (P.set m row) m row :=
  ⟨by rw [List.length_set]; exact h.1, fun j hj => by rw [List.getElem?_set_ne (by omega)]; exact h.2 j (by omega), by rw [List.getElem?_set_self (by rw [h.1]; exact hm)]⟩
theorem Rst.set {W P : List (List Int)} {m : Nat} {row : List Int} (h : Rst W P m row) (hm : m < W.length) (row' : List Int) : Rst W (P.set m row') m row' :=
  ⟨by rw [List.length_set]; exact h.1, fun j hj => by rw [List.getElem?_set_ne (by omega)]; exact h.2.1 j hj, by rw [List.getElem?_set_self (by rw [h.1]; exact hm)]⟩
theorem Rst.done {W P : List (List Int)} {m : Nat} (hm : m < W.length) (h : Rst W P m W[m]) : Rout W P m :=
  ⟨h.1, fun j hj => by
    by_cases e : m = j
    · subst e; rw [h.2.2, List.getElem?_eq_getElem hm]
    · exact h.2.1 j (by omega)⟩
theorem Rout.all {W P : List (List Int)} (h : Rout W P 0) : P = W := List.ext_getElem? fun j => h.2 j (by omega)
theorem Rout.none {W P : List (List Int)} (h : P.length = W.length) : Rout W P W.length := ⟨h, fun j hj => by rw [List.getElem?_eq_none (by omega), List.getElem?_eq_none hj]⟩
theorem Rst.row {W P : List (List Int)} {m : Nat} {row : List Int} (h : Rst W P m row) : ∃ hm : m < P.length, P[m] = row := List.getElem?_eq_some_iff.1 h.2.2
theorem Rst.below {W P : List (List Int)} {m : Nat} {row : List Int} (h : Rst W P m row) {j : Nat} (hj : m < j) (hl : j < W.length) : ∃ hm : j < P.length, P[j] = W[j] := List.getElem?_eq_some_iff.1 (by rw [h.2.1 j hj, List.getElem?_eq_getElem hl])
def mixI (L : List Int) (x : Nat) : List Int := L.take x ++ List.replicate (L.length - x) 0
theorem mixI_zero (L : List Int) : mixI L 0 = List.replicate L.length 0 := by simp [mixI]
theorem mixI_all (L : List Int) : mixI L L.length = L := by simp [mixI]
theorem mixI_len (L : List Int) {x : Nat} (h : x ≤ L.length) : (mixI L x).length = L.length := by simp [mixI]; omega
theorem mixI_set0 (L : List Int) {x : Nat} (h : x < L.length) : (mixI L x).set x 0 = mixI L x := by
  unfold mixI
  have hl : (L.take x).length = x := by rw [List.length_take]; omega
  rw [List.set_append_right _ _ (by omega), hl, Nat.sub_self, show L.length - x = (L.length - x - 1) + 1 by omega, List.replicate_succ, List.set_cons_zero]
theorem mixI_set (L : List Int) {x : Nat} (h : x < L.length) : (mixI L x).set x L[x] = mixI L (x + 1) := by
  unfold mixI
  have hl : (L.take x).length = x := by rw [List.length_take]; omega
  rw [List.set_append_right _ _ (by omega), hl, Nat.sub_self, show L.length - x = (L.length - (x + 1)) + 1 by omega, List.replicate_succ, List.set_cons_zero, List.take_succ_eq_append_getElem h, List.append_assoc]
  rfl
section
variable {T t : Nat} {V V' : World} {base : Nat} {n cap b : Nat} {ss : List Sv}
theorem Tbl.rowI {R : List (List Int)} (h : Tbl intE T t V base (.slice (some ⟨b, 0, none⟩) n cap) ss R) {i : Nat} (hi : i < R.length) (hp : 0 < R[i].length) :
    ∃ gi ci, ∃ (hs : i < ss.length), ss[i] = ⟨some ⟨gi, 0, none⟩, R[i].length, ci⟩ ∧ base ≤ gi ∧ gi < V.heap.size := by
  obtain ⟨b, _, hb, _, hs, hc, hv⟩ := h.head hi
  have hrow := h.row i hi hs
  rw [hv] at hrow
  obtain ⟨gi, e, h1, h2⟩ := own_ex hrow hp
  refine ⟨gi, ss[i].cap, hs, ?_, h1, h2⟩
  rcases hq : ss[i] with ⟨a, l, c⟩
  rw [hq] at hv e
  simp only [Sv.val, Value.slice.injEq] at hv e
  rw [e, hv.2.1]
theorem Tbl.atI {R : List (List Int)} (h : Tbl intE T t V base (.slice (some ⟨b, 0, none⟩) n cap) ss R) {i : Nat} (hi : i < R.length) (hs : i < ss.length) {gi ci m : Nat} (e : ss[i] = ⟨some ⟨gi, 0, none⟩, m, ci⟩) :
    m = R[i].length ∧ (base ≤ gi ∧ gi < V.heap.size) ∧ V.cell? ⟨b, i, none⟩ = some (.slice (some ⟨gi, 0, none⟩) m ci) ∧ ∀ j (hj : j < R[i].length), V.cell? ⟨gi, j, none⟩ = some (.int .i64 R[i][j]) ∧ V.frozen? ⟨gi, j, none⟩ = false ∧
      (∀ x, Tbl intE T t (V.setCell ⟨gi, j, none⟩ (.int .i64 x)) base (.slice (some ⟨b, 0, none⟩) n cap) ss (R.set i (R[i].set j x))) := by
  obtain ⟨b', eb, hb, _, hs', hc, hv⟩ := h.head hi
  cases eb
  have hrow := h.row i hi hs
  rw [hv] at hrow
  have hm : m = R[i].length := by
    rw [e] at hv
    simp only [Sv.val, Value.slice.injEq] at hv
    exact hv.2.1
  subst hm
  have ea : ss[i].addr = some ⟨gi, 0, none⟩ := by rw [e]
  have ec : ss[i].cap = ci := by rw [e]
  rw [ea, ec] at hc hrow hv
  have hg := hrow.lt gi rfl
  refine ⟨rfl, hg, hc, fun j hj => ⟨owns_cell hrow (intE_at _ hj), World.ownsRow.frozenAt hrow j, fun x => ?_⟩⟩
  have hst := hrow.stored j (.int .i64 x)
  rw [intE_set] at hst
  refine h.set hs (L := R[i].set j x) (V' := V.setCell ⟨gi, j, none⟩ (.int .i64 x)) ?_ ?_
  · rw [hv]; exact hst.2
  · rw [hv, List.length_set]; exact hst.1
end
/-- New tables of numbers, out of a call. -/
def TbiRet (R : List (List Int)) (w : World) (e : Ending) (w' : World) : Prop :=
  (∃ s cap, e = .returned (.slice s R.length cap) ∧ SlSS intE w' s R) ∧ Below w.heap.size w w'
set_option maxRecDepth 100000 in
set_option maxHeartbeats 2000000 in
theorem ways_c (s : Option Addr) (cap : Nat) (R : List (List Bool)) (r wd : Nat) (w : World) (h : SlSS boolE w s R) (hl : 1 ≤ R.length ∧ R.length ≤ 8) (hw : ∀ row ∈ R, row.length = wd) (hwd : 1 ≤ wd ∧ wd ≤ 12) (hr : r ≤ 3) :
    Calls Try.prog 61 #[.slice s R.length cap, .int .i64 r] w (TbiRet (wayL r R) w) := by
  have hWl := wayL_len (r : Int) R
  have hWr := wayL_rows (r : Int) hw
  have hWb : ∀ row ∈ wayL (r : Int) R, ∀ z ∈ row, 0 ≤ z ∧ z ≤ 429981696 := fun row hr z hz => by
    have h1 := wayL_bnd (r : Int) (R := R) (fun x hx => by rw [hw x hx]; omega) row hr z hz
    have h2 := pow_le (a := R.length) (b := 8) hl.2
    have h3 : ((12 ^ 8 : Nat) : Int) = 429981696 := by decide
    omega
  have hlast : ∀ m (hm : m < R.length) (hm' : m < (wayL (r : Int) R).length), m + 1 = R.length → ∀ x (hx : x < wd) (hx1 : x < ((wayL (r : Int) R)[m]).length) (hx2 : x < R[m].length), (wayL (r : Int) R)[m][x] = if R[m][x] then 1 else 0 := fun m hm hm' e x hx hx1 hx2 => by
    have := wayL_last (r : Int) hm e
    simp only [this]
    rw [wayRow_at hx2]
  have hnext : ∀ m (hm : m + 1 < R.length) (hm' : m + 1 < (wayL (r : Int) R).length), ∀ x (hx : x < wd) (hx1 : x < ((wayL (r : Int) R)[m]'(by omega)).length) (hx2 : x < (R[m]'(by omega)).length), ((wayL (r : Int) R)[m]'(by omega))[x] = if (R[m]'(by omega))[x] then nsum r ((wayL (r : Int) R)[m + 1]) x wd else 0 := fun m hm hm' x hx hx1 hx2 => by
    obtain ⟨T, e⟩ := wayL_next (r : Int) hm
    simp only [e]
    rw [wayRow_at hx2]
    simp only
    rw [hWr _ (List.getElem_mem hm')]
  obtain ⟨W, hW⟩ : ∃ x, wayL (r : Int) R = x := ⟨_, rfl⟩
  simp only [hW] at hWl hWr hWb hlast hnext ⊢
  have hH : R.length ≤ 8 := hl.2
  have hH1 : 1 ≤ R.length := hl.1
  obtain ⟨hwd1, hwd2⟩ := hwd
  have hRw := fun (m : Nat) (hm : m < R.length) => hw _ (List.getElem_mem hm)
  have hWw := fun (m : Nat) (hm : m < W.length) => hWr _ (List.getElem_mem hm)
  have w0 : IntKind.i64.wrap ((R.length : Int) - 1) = (R.length : Int) - 1 := i64_small (by omega)
  have h0 := Lib.hid h
  replace hWl := Lib.hid hWl; replace hWr := Lib.hid hWr; replace hWb := Lib.hid hWb; replace hlast := Lib.hid hlast; replace hnext := Lib.hid hnext; replace hW := Lib.hid hW; replace hRw := Lib.hid hRw; replace hWw := Lib.hid hWw
  clear h hw hl
  go_enter Try.func61, Try.ntmps61
  have hmk := run_make_tabs R.length (by omega) w
  have hb0 : Below w.heap.size w (w.alloc (.cells (List.replicate R.length (Value.slice none 0 0)).toArray 36)) := (Below.refl _ w).alloc (Nat.le_refl _) _
  have ht0 : Tbl intE 36 3 (w.alloc (.cells (List.replicate R.length (Value.slice none 0 0)).toArray 36)) w.heap.size (.slice (some ⟨w.heap.size, 0, none⟩) R.length R.length) (List.replicate R.length ⟨none, 0, 0⟩) (List.replicate R.length []) :=
    Tbl.made (heap_alloc_new w _) (Nat.le_refl _) (by omega)
  have hsz0 : w.heap.size < (w.alloc (.cells (List.replicate R.length (Value.slice none 0 0)).toArray 36)).heap.size := by simp
  have hro0 : Rout W (List.replicate R.length []) R.length := by rw [← hWl.out]; exact Rout.none (by simp)
  obtain ⟨X0, hX0⟩ : ∃ x, w.alloc (.cells (List.replicate R.length (Value.slice none 0 0)).toArray 36) = x := ⟨_, rfl⟩
  rw [hX0] at hb0 ht0 hmk hsz0
  replace hX0 := Lib.hid hX0; replace ht0 := Lib.hid ht0; replace hb0 := Lib.hid hb0; replace hro0 := Lib.hid hro0
  go_wp2
  go_loopw [6] (fun ii V => ∃ (m : Nat) (ss : List Sv) (P : List (List Int)), m ≤ R.length ∧ ii = .int .i64 ((m : Int) - 1) ∧ Tbl intE 36 3 V w.heap.size (.slice (some ⟨w.heap.size, 0, none⟩) R.length R.length) ss P ∧ Below w.heap.size w V ∧ w.heap.size < V.heap.size ∧ Hid (Rout W P m)) (fun ii _ => (intOf ii + 1).toNat)
  case atStart => exact ⟨R.length, _, _, by omega, rfl, ht0.out, hb0.out, hsz0, hro0⟩
  case round =>
    clear ht0 hb0 hsz0 hro0
    obtain ⟨m1, ss, P, hm1, rfl, htb, hbl, hszl, hro⟩ := hrel
    by_cases hm0 : m1 = 0
    · subst hm0
      have hPW : P = W := hro.out.all
      subst hPW
      have hfin := htb.seen
      have hlen : P.length = R.length := hWl.out
      replace hfin := Lib.hid hfin; replace hlen := Lib.hid hlen
      clear htb
      go_wp2
      go_ret
      exact ⟨⟨some ⟨w.heap.size, 0, none⟩, R.length, by rw [hlen.out]; rfl, hfin.out⟩, hbl⟩
    obtain ⟨m, rfl⟩ : ∃ m, m1 = m + 1 := ⟨m1 - 1, by omega⟩
    have hm : m < R.length := by omega
    have hmW : m < W.length := by have := hWl.out; omega
    have hmP : m < P.length := by have := hro.out.1; omega
    have em : (((m + 1 : Nat) : Int) - 1) = (m : Int) := by omega
    rw [em]
    obtain ⟨bd, od, sd, cd, e1, hbd, q0, hsd, -, -⟩ := h0.out.at hm
    have q0w := q0
    replace q0 := Up.cell hbl q0
    have hbdl := World.block_lt_of_cell? _ _ q0
    have hrl := hRw.out m hm
    have hwl := hWw.out m hmW
    have i1 : (0 : Int) ≤ (m : Int) := by omega
    have i2 : (m : Int) < (R.length : Int) := by omega
    have wm : IntKind.i64.wrap ((m : Int) - 1) = (m : Int) - 1 := i64_small (by omega)
    have hput := fun row => hro.out.put hmW row
    have hmb := run_make_ints wd (by omega) wr
    have bb : Below wr.heap.size wr (wr.alloc (.cells (zs wd).toArray 3)) := (Below.refl _ wr).alloc (Nat.le_refl _) _
    have htb1 := up_of bb htb
    have hbs := hbl.size
    have hbl1 := hbl.trans (bb.mono hbs)
    have hox := own_zeros wr wd (by omega)
    have hsN : ∀ j (hj : j < ss.length) g, ss[j].val.ownBlock = some g → g < wr.heap.size := fun j hj g e => (htb.lt hj e).2
    obtain ⟨b2, e2, _, hfz2, hs2, hc2, _⟩ := htb1.head (i := m) hmP
    cases e2
    have hlr : (List.replicate wd (0 : Int)).length = wd := List.length_replicate
    have hp := Tbl.puts htb1 (i := m) hmP (L := List.replicate wd 0) (by rw [hlr]; exact hox) hszl hsN hbs
    rw [hlr] at hp
    have hbl2 := hbl1.setCell (p := ⟨w.heap.size, m, none⟩) (Nat.le_refl _) (.slice (some ⟨wr.heap.size, 0, none⟩) wd wd)
    have hsw : (wr.alloc (.cells (zs wd).toArray 3)).setCell ⟨w.heap.size, m, none⟩ (.slice (some ⟨wr.heap.size, 0, none⟩) wd wd) = (wr.setCell ⟨w.heap.size, m, none⟩ (.slice (some ⟨wr.heap.size, 0, none⟩) wd wd)).alloc (.cells (zs wd).toArray 3) := by
      rw [World.setCell_alloc_past _ _ _ _ hszl]
    rw [hsw] at hp hbl2
    have q0N := Up.cell hbl2 q0w
    clear q0w
    have hst := hput (List.replicate wd 0)
    obtain ⟨L, hL⟩ : ∃ x, W[m] = x := ⟨_, rfl⟩
    have hdone : ∀ P', Rst W P' m L → Rout W P' m := fun P' h => Rst.done hmW (hL ▸ h)
    have hrset : ∀ P' row row', Rst W P' m row → Rst W (P'.set m row') m row' := fun P' row row' h => h.set hmW row'
    simp only [hL] at hwl
    have hmz := mixI_zero L
    rw [hwl] at hmz
    rw [← hmz] at hp hst
    have hma : mixI L wd = L := by rw [← hwl]; exact mixI_all L
    have hml : ∀ x, x ≤ wd → (mixI L x).length = wd := fun x hx => by rw [← hwl]; exact mixI_len L (by omega)
    have hms0 : ∀ x, x < wd → (mixI L x).set x 0 = mixI L x := fun x hx => mixI_set0 L (by omega)
    have hms : ∀ x v (hx : x < wd), L.getD x 0 = v → (mixI L x).set x v = mixI L (x + 1) := fun x v hx e => by
      have hxl : x < L.length := by omega
      rw [List.getD_eq_getElem?_getD, List.getElem?_eq_getElem hxl] at e
      simp only [Option.getD_some] at e
      rw [← e]; exact mixI_set L hxl
    have hLx : ∀ x (hx : x < wd) (hx2 : x < R[m].length), L.getD x 0 = W[m][x]'(by rw [hL]; omega) := fun x hx hx2 => by
      rw [List.getD_eq_getElem?_getD, List.getElem?_eq_getElem (by omega)]; simp [hL]
    replace hsw := Lib.hid hsw
    replace hp := Lib.hid hp; replace hbl2 := Lib.hid hbl2; replace hst := Lib.hid hst; replace hL := Lib.hid hL; replace hdone := Lib.hid hdone; replace hrset := Lib.hid hrset; replace hput := Lib.hid hput; replace hmz := Lib.hid hmz; replace hma := Lib.hid hma; replace hml := Lib.hid hml; replace hms0 := Lib.hid hms0; replace hms := Lib.hid hms; replace hLx := Lib.hid hLx; replace hwl := Lib.hid hwl; replace hsN := Lib.hid hsN; replace hsd := Lib.hid hsd; replace hlr := Lib.hid hlr
    have hrl2 : R[m].length = wd := hrl
    rw [hrl2] at q0 q0N
    replace hrl := Lib.hid hrl
    replace em := Lib.hid em
    subst e1
    clear htb bb htb1 hbl1 hox hrl2
    go_wp2
    go_loopw [35] (fun ii V => ∃ (x : Nat) (ss : List Sv) (P : List (List Int)), x ≤ wd ∧ ii = .int .i64 x ∧ Tbl intE 36 3 V w.heap.size (.slice (some ⟨w.heap.size, 0, none⟩) R.length R.length) ss P ∧ Below w.heap.size w V ∧ w.heap.size < V.heap.size ∧ Hid (Rst W P m (mixI L x))) (fun ii _ => wd - (intOf ii).toNat)
    case atStart => exact ⟨0, _, _, by omega, rfl, hp.out, hbl2.out, by simpa [World.setCell] using Nat.lt_succ_of_lt hszl, hst⟩
    case round =>
      clear hp hbl2 hst q0 q0N hc2 hfz2 hbl hszl hmb hro hput
      obtain ⟨x, ss, P, hx, rfl, htb, hbl, hszl, hst⟩ := hrel
      by_cases hlx : x < wd
      case neg =>
        obtain rfl : x = wd := by omega
        have hro : Rout W P m := hdone.out P (hma.out ▸ hst.out)
        replace hro := Lib.hid hro
        replace htb := Lib.hid htb
        go_wp2
        go_roundw
        case rel => exact ⟨m, ss, P, by omega, rfl, htb.out, hbl, hszl, hro⟩
        case measure => simp [intOf] <;> omega
      obtain ⟨hmP, hrow⟩ := hst.out.row
      have hlP : P.length = R.length := by rw [hst.out.1, hWl.out]
      have hmx := hml.out x (by omega)
      have hlrow : P[m].length = wd := by rw [hrow]; exact hmx
      have hxR : x < R[m].length := by rw [hrl.out]; exact hlx
      obtain ⟨ba, oa, ea, hba, p0⟩ := hsd.out.bool_at hxR
      replace p0 := Up.cell hbl p0
      have hval := hLx.out x hlx hxR
      have j1 : (0 : Int) ≤ (x : Int) := by omega
      have j2 : (x : Int) < (wd : Int) := by omega
      have hs0 := hms0.out x hlx
      have hsx := fun v => hms.out x v hlx
      obtain ⟨gi, ci, hsi, egi, -, -⟩ := htb.rowI hmP (by omega)
      rw [hlrow] at egi
      by_cases hlastm : m + 1 = R.length
      · have hv := hval.trans (hlast.out m hm hmW hlastm x hlx (by rw [hL.out, hwl.out]; exact hlx) hxR)
        have k0 : ((m : Int) == (R.length : Int) - 1) = true := by rw [beq_iff_eq]; omega
        obtain ⟨bv, hbv⟩ : ∃ z, R[m][x] = z := ⟨_, rfl⟩
        rw [hbv] at hv p0
        replace hbv := Lib.hid hbv
        cases bv
        · have hn := hsx 0 (by simpa using hv)
          rw [hs0] at hn
          have hst2 : Rst W P m (mixI L (x + 1)) := hn ▸ hst.out
          replace hst2 := Lib.hid hst2; replace htb := Lib.hid htb
          replace hn := Lib.hid hn; replace hv := Lib.hid hv; replace hval := Lib.hid hval; replace hs0 := Lib.hid hs0; replace hrow := Lib.hid hrow; replace hlrow := Lib.hid hlrow; replace hlP := Lib.hid hlP; replace hmx := Lib.hid hmx; replace egi := Lib.hid egi; replace hlastm := Lib.hid hlastm
          subst ea
          go_wp2
          go_roundw
          case rel => exact ⟨x + 1, ss, P, by omega, by go_num, htb.out, hbl, hszl, hst2⟩
          case measure => exact meas hlx
        · have hn := hsx 1 (by simpa using hv)
          obtain ⟨-, hgi, qh, qa⟩ := htb.atI hmP hsi egi
          obtain ⟨q1, qf, qs⟩ := qa x (by omega)
          have htb2 := qs 1
          rw [hrow, hn] at htb2
          have hst2 := hrset.out P _ (mixI L (x + 1)) hst.out
          have hbl2 := hbl.setCell (p := ⟨gi, x, none⟩) hgi.1 (.int .i64 1)
          obtain ⟨v0, hv0⟩ : ∃ z, P[m][x]'(by omega) = z := ⟨_, rfl⟩
          rw [hv0] at q1
          have hsz2 : w.heap.size < (wr.setCell ⟨gi, x, none⟩ (.int .i64 1)).heap.size := by simpa [World.setCell] using hszl
          replace hst2 := Lib.hid hst2; replace htb2 := Lib.hid htb2; replace hbl2 := Lib.hid hbl2; replace hsz2 := Lib.hid hsz2
          replace hn := Lib.hid hn; replace hv := Lib.hid hv; replace hval := Lib.hid hval; replace hs0 := Lib.hid hs0; replace hrow := Lib.hid hrow; replace hlrow := Lib.hid hlrow; replace hlP := Lib.hid hlP; replace hmx := Lib.hid hmx; replace egi := Lib.hid egi; replace hv0 := Lib.hid hv0; replace hlastm := Lib.hid hlastm
          clear qs qa htb
          subst ea
          go_wp2
          go_roundw
          case rel => exact ⟨x + 1, ss, P.set m (mixI L (x + 1)), by omega, by go_num, htb2.out, hbl2.out, hsz2.out, hst2⟩
          case measure => exact meas hlx
      · have hm1' : m + 1 < R.length := by omega
        have hmW1 : m + 1 < W.length := by have := hWl.out; omega
        have hv := hval.trans (hnext.out m hm1' hmW1 x hlx (by rw [hL.out, hwl.out]; exact hlx) hxR)
        have k0 : ((m : Int) == (R.length : Int) - 1) = false := by rw [beq_eq_false_iff_ne]; omega
        obtain ⟨bv, hbv⟩ : ∃ z, R[m][x] = z := ⟨_, rfl⟩
        rw [hbv] at hv p0
        replace hbv := Lib.hid hbv
        cases bv
        · have hn := hsx 0 (by simpa using hv)
          rw [hs0] at hn
          have hst2 : Rst W P m (mixI L (x + 1)) := hn ▸ hst.out
          replace hst2 := Lib.hid hst2; replace htb := Lib.hid htb
          replace hn := Lib.hid hn; replace hv := Lib.hid hv; replace hval := Lib.hid hval; replace hs0 := Lib.hid hs0; replace hrow := Lib.hid hrow; replace hlrow := Lib.hid hlrow; replace hlP := Lib.hid hlP; replace hmx := Lib.hid hmx; replace egi := Lib.hid egi
          subst ea
          go_wp2
          go_roundw
          case rel => exact ⟨x + 1, ss, P, by omega, by go_num, htb.out, hbl, hszl, hst2⟩
          case measure => exact meas hlx
        · obtain ⟨hmP1, hrow1⟩ := hst.out.below (j := m + 1) (by omega) hmW1
          have hwl1 := hWw.out (m + 1) hmW1
          have hwb1 := hWb.out _ (List.getElem_mem hmW1)
          have hlrow1 : P[m + 1].length = wd := by rw [hrow1]; exact hwl1
          obtain ⟨gj, cj, hsj, egj, -, -⟩ := htb.rowI hmP1 (by omega)
          rw [hlrow1] at egj
          obtain ⟨-, hgj, qj, -⟩ := htb.atI hmP1 hsj egj
          obtain ⟨O, hO⟩ : ∃ o, W[m + 1] = o := ⟨_, rfl⟩
          simp only [hO] at hv hrow1 hwl1 hwb1
          simp only [if_true] at hv
          have hPO : P[m + 1] = O := hrow1
          have hon : ∀ k, k < wd → ∃ hk : k < O.length, 0 ≤ O[k] ∧ O[k] ≤ 429981696 := fun k hk => ⟨by omega, hwb1 _ (List.getElem_mem _)⟩
          have hnb := fun k => nsum_bnd (r := (r : Int)) (o := O) (B := 429981696) (by omega) hwb1 (x : Int) k
          have hns : ∀ k (hk : k < O.length), nsum (r : Int) O x (k + 1) = nsum (r : Int) O x k + (if nearB x k r then O[k] else 0) := fun k hk => by
            rw [nsum, List.getD_eq_getElem?_getD, List.getElem?_eq_getElem hk]; rfl
          have hn := hsx _ hv
          have htb0 : Tbl intE 36 3 wr w.heap.size (.slice (some ⟨w.heap.size, 0, none⟩) R.length R.length) ss (P.set m ((mixI L x).set x 0)) := by
            rw [hs0, ← hrow, List.set_getElem_self]; exact htb
          have hst2 := hrset.out P _ (mixI L (x + 1)) hst.out
          have i3 : (0 : Int) ≤ (m : Int) + 1 := by omega
          have i4 : (m : Int) + 1 < (R.length : Int) := by omega
          have wm1 : IntKind.i64.wrap ((m : Int) + 1) = (m : Int) + 1 := i64_small (by omega)
          have en : (m + 1 : Nat) = m + 1 := rfl
          have hsl : ∀ v, ((mixI L x).set x v).length = wd := fun v => by rw [List.length_set]; exact hmx
          have hsv : ∀ v v', ((mixI L x).set x v).set x v' = (mixI L x).set x v' := fun v v' => List.set_set ..
          have hsa : ∀ v (h : x < ((mixI L x).set x v).length), ((mixI L x).set x v)[x] = v := fun v h => List.getElem_set_self ..
          obtain ⟨MX, hMX⟩ : ∃ z, mixI L x = z := ⟨_, rfl⟩
          simp only [hMX] at htb0 hsl hsv hsa hn
          replace hv := Lib.hid hv; replace hval := Lib.hid hval; replace hs0 := Lib.hid hs0; replace hrow := Lib.hid hrow; replace hlrow := Lib.hid hlrow; replace hlP := Lib.hid hlP; replace hmx := Lib.hid hmx; replace egi := Lib.hid egi; replace egj := Lib.hid egj; replace hrow1 := Lib.hid hrow1; replace hwl1 := Lib.hid hwl1; replace hwb1 := Lib.hid hwb1; replace hlrow1 := Lib.hid hlrow1; replace hO := Lib.hid hO; replace hPO := Lib.hid hPO; replace hon := Lib.hid hon; replace hnb := Lib.hid hnb; replace hns := Lib.hid hns; replace hn := Lib.hid hn; replace hst2 := Lib.hid hst2; replace hsl := Lib.hid hsl; replace hsv := Lib.hid hsv; replace hsa := Lib.hid hsa; replace hMX := Lib.hid hMX; replace hst := Lib.hid hst; replace htb0 := Lib.hid htb0
          clear htb hsx
          subst ea
          go_wp2
          go_loopw [46] (fun kk V => ∃ (k : Nat) (v : Int), k ≤ wd ∧ kk = .int .i64 k ∧ Tbl intE 36 3 V w.heap.size (.slice (some ⟨w.heap.size, 0, none⟩) R.length R.length) ss (P.set m (MX.set x v)) ∧ Below w.heap.size w V ∧ w.heap.size < V.heap.size ∧ Hid (v = nsum r O x k)) (fun kk _ => wd - (intOf kk).toNat)
          case atStart => exact ⟨0, 0, by omega, rfl, htb0.out, hbl, hszl, rfl⟩
          case round =>
            clear htb0 hbl hszl hgj qj p0
            obtain ⟨k, v, hk, rfl, htb, hbl, hszl, hvk⟩ := hrel
            by_cases hlk : k < wd
            · obtain ⟨hkO, hO1, hO2⟩ := hon.out k hlk
              have hstep := hns.out k hkO
              have hb1 := hnb.out k
              rw [← hvk.out] at hstep hb1
              have hlset : (P.set m (MX.set x v)).length = R.length := by rw [List.length_set]; exact hlP.out
              have hmS : m < (P.set m (MX.set x v)).length := by omega
              have hmS1 : m + 1 < (P.set m (MX.set x v)).length := by omega
              have er : (P.set m (MX.set x v))[m] = MX.set x v := List.getElem_set_self ..
              have er1 : (P.set m (MX.set x v))[m + 1] = O := by rw [List.getElem_set_ne (by omega)]; exact hPO.out
              obtain ⟨-, hgi, qh, qa⟩ := htb.atI hmS hsi egi.out
              obtain ⟨-, -, qh1, qa1⟩ := htb.atI hmS1 hsj egj.out
              obtain ⟨q1, qf, qs⟩ := qa x (by rw [er, hsl.out]; exact hlx)
              obtain ⟨q2, -, -⟩ := qa1 k (by rw [er1]; exact hkO)
              simp only [er, hsa.out, hsv.out, List.set_set] at q1 qs
              simp only [er1] at q2
              obtain ⟨z, hz⟩ : ∃ z, O[k] = z := ⟨_, rfl⟩
              rw [hz] at q2 hO1 hO2 hstep
              have k1 : (0 : Int) ≤ (k : Int) := by omega
              have k2 : (k : Int) < (wd : Int) := by omega
              have hbk : v ≤ 5159780352 := by have := hb1.2; omega
              have wv : IntKind.i64.wrap (v + z) = v + z := i64_small (by omega)
              have hnc := fun V => rnear_c (x : Int) (k : Int) r V (by omega) (by omega)
              replace hz := Lib.hid hz; replace er := Lib.hid er; replace er1 := Lib.hid er1; replace hlset := Lib.hid hlset; replace hb1 := Lib.hid hb1
              clear qa qa1
              cases hnr : nearB (x : Int) (k : Int) r
              · simp only [hnr, Bool.false_eq_true, if_false, Int.add_zero] at hstep hnc
                replace hstep := Lib.hid hstep; replace hnc := Lib.hid hnc; replace htb := Lib.hid htb
                clear hnr qs
                go_wp2_with (first | (go_at_call 62; refine (hnc.out _).mono ?_; rintro e w' ⟨rfl, rfl⟩))
                go_roundw
                case rel => exact ⟨k + 1, v, by omega, by go_num, htb.out, hbl, hszl, hstep.out.symm⟩
                case measure => exact meas hlk
              · simp only [hnr, if_true] at hstep hnc
                have htb2 := qs (v + z)
                have hbl2 := hbl.setCell (p := ⟨gi, x, none⟩) hgi.1 (.int .i64 (v + z))
                have hsz2 : w.heap.size < (wr.setCell ⟨gi, x, none⟩ (.int .i64 (v + z))).heap.size := by simpa [World.setCell] using hszl
                replace hstep := Lib.hid hstep; replace hnc := Lib.hid hnc; replace htb2 := Lib.hid htb2; replace hbl2 := Lib.hid hbl2; replace hsz2 := Lib.hid hsz2
                clear hnr qs htb
                go_wp2_with (first | (go_at_call 62; refine (hnc.out _).mono ?_; rintro e w' ⟨rfl, rfl⟩))
                go_roundw
                case rel => exact ⟨k + 1, v + z, by omega, by go_num, htb2.out, hbl2.out, hsz2.out, hstep.out.symm⟩
                case measure => exact meas hlk
            · obtain rfl : k = wd := by omega
              have hn2 := hn.out
              rw [← hvk.out] at hn2
              rw [hn2] at htb
              replace htb := Lib.hid htb; replace hn2 := Lib.hid hn2
              go_wp2
              go_roundw
              case rel => exact ⟨x + 1, ss, P.set m (mixI L (x + 1)), by omega, by go_num, htb.out, hbl, hszl, hst2⟩
              case measure => exact meas hlx
end Go.Proofs.Ytbabdoafpljdbaa
