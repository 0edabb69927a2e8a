/- Columns from the left: the program. -/
import Derived.Test.YtbabdoafpljdbaaMd9
import Derived.Lib.SliceRun
namespace Go.Proofs.Ytbabdoafpljdbaa
open Go.RowKit

def cpy (R : List (List Bool)) (y : Nat) : List (List Bool) := R.take y ++ List.replicate (R.length - y) []
theorem cpy_len (R : List (List Bool)) {y : Nat} (hy : y ≤ R.length) : (cpy R y).length = R.length := by simp [cpy]; omega
theorem cpy_zero (R : List (List Bool)) : cpy R 0 = List.replicate R.length [] := by simp [cpy]
theorem cpy_all (R : List (List Bool)) : cpy R R.length = R := by simp [cpy]
theorem cpy_set (R : List (List Bool)) {y : Nat} (hy : y < R.length) : (cpy R y).set y R[y] = cpy R (y + 1) := by
  unfold cpy
  have hl : (R.take y).length = y := by rw [List.length_take]; omega
  obtain ⟨m, hm⟩ : ∃ m, R.length - y = m + 1 := ⟨R.length - y - 1, by omega⟩
  rw [List.set_append_right _ _ (by omega), hl, Nat.sub_self, hm, show R.length - (y + 1) = m by omega, List.replicate_succ, List.set_cons_zero, List.take_succ_eq_append_getElem hy, List.append_assoc]
  rfl
theorem info_ints : (Try.prog.info? 36).map (fun i => (i.zero, i.size, i.bytes)) = some (some (.slice none 0 0), 1, 24) := by kernel_rfl
def lenOf : Value → Nat
  | .slice _ n _ => n
  | _ => 0
/-- What holds between the columns: the rows that are left over, the columns that have come. -/
structure ColI (w A V : World) (H : Nat) (v : Value) (ss : List Sv) (P : List (List Bool)) (ss2 : List Sv) (cols : List (List Int)) : Prop where
  tb : Tbl boolE 75 4 V w.heap.size (.slice (some ⟨w.heap.size, 0, none⟩) H H) ss P
  lo : ∀ j (hj : j < ss.length) g, ss[j].val.ownBlock = some g → g < A.heap.size
  out : V.ownsRow A.heap.size 36 1 v cols.length (svE.all ss2)
  inn : Inn intE V v ss2 cols
  hi : ∀ x ∈ ss2, ∀ b o, x.addr = some ⟨b, o, none⟩ → A.heap.size ≤ b
  be : Below w.heap.size w V
  sz : w.heap.size < A.heap.size ∧ A.heap.size ≤ V.heap.size
theorem Tbl.low {α : Type} {E : Elt α} {T t base : Nat} {V V' : World} {n : Nat} {v : Value} {ss : List Sv} {R : List (List α)} (h : Tbl E T t V base v ss R) (ho : ∀ g, v.ownBlock = some g → g < n) (hi : ∀ j (hj : j < ss.length) g, ss[j].val.ownBlock = some g → g < n) (hb : ∀ b, b < n → V'.heap[b]? = V.heap[b]?) : Tbl E T t V' base v ss R :=
  ⟨own_upto h.out fun b e => hb b (ho b e), h.len, fun i h1 h2 => own_upto (h.row i h1 h2) fun b e => hb b (hi i h2 b e), h.off, h.apart⟩
theorem Inn.high {α : Type} {E : Elt α} {V V' : World} {n : Nat} {v : Value} {ss : List Sv} {K : List (List α)} (h : Inn E V v ss K) (hi : ∀ x ∈ ss, ∀ b o, x.addr = some ⟨b, o, none⟩ → n ≤ b) (hs : V.heap.size ≤ V'.heap.size) (hb : ∀ b, n ≤ b → b < V.heap.size → V'.heap[b]? = V.heap[b]?) : Inn E V' v ss K :=
  ⟨h.len, fun i h1 h2 => ⟨(h.row i h1 h2).1, (h.row i h1 h2).2.1.block hs fun b o e hlt => hb b (hi _ (List.getElem_mem h2) b o e) hlt, (h.row i h1 h2).2.2⟩, fun x hx b o e => ⟨Nat.lt_of_lt_of_le (h.apart x hx b o e).1 hs, (h.apart x hx b o e).2⟩⟩
/-- A row is cleared up to a place. -/
theorem ColI.cut {w A V : World} {H : Nat} {v : Value} {ss : List Sv} {P : List (List Bool)} {ss2 : List Sv} {cols : List (List Int)} (h : ColI w A V H v ss P ss2 cols) {i k : Nat} (hi : i < P.length) (hk : k < P[i].length) :
    ∃ gi ci, gi < A.heap.size ∧ V.cell? ⟨w.heap.size, i, none⟩ = some (.slice (some ⟨gi, 0, none⟩) P[i].length ci) ∧ (∀ j, j < P[i].length → (V.cell? ⟨gi, j, none⟩).isSome = true) ∧ (∀ j, V.frozen? ⟨gi, j, none⟩ = false) ∧ P[i].length ≤ ci ∧
      ColI w A (V.setCells gi 0 (List.replicate (k + 1) (.bool false))) H v ss (P.set i (cutRow P[i] k)) ss2 cols ∧ V.grownBy (V.setCells gi 0 (List.replicate (k + 1) (.bool false))) (some gi) := by
  obtain ⟨b, e, hb, _, hs, hc, hv⟩ := h.tb.head hi
  cases e
  have hrow := h.tb.row i hi hs
  have hrow0 := hrow
  rw [hv] at hrow
  obtain ⟨gi, e2, h1, h2⟩ := own_ex hrow (by omega)
  have hcap := (own_cap hrow).1
  rw [e2] at hc hrow hv
  have hlo := h.lo i hs gi (by rw [hv]; rfl)
  have hst := own_setCells (List.replicate (k + 1) (Value.bool false)) 0 _ _ hrow
  rw [layV_cut _ hk] at hst
  have hsz := h.sz
  have hob := fun j (hj : A.heap.size ≤ j) (hlt : j < V.heap.size) => hst.2.block j hlt (fun e => by injection e with e; omega)
  have hvo : ∀ g, v.ownBlock = some g → g ≠ gi := fun g e eg => by have := (h.out.lt g e).1; omega
  refine ⟨gi, _, hlo, hc, fun j hj => ?_, fun j => World.ownsRow.frozenAt hrow j, hcap, ⟨?_, h.lo, ?_, ?_, h.hi, ?_, ⟨hsz.1, Nat.le_trans hsz.2 hst.2.size⟩⟩, hst.2⟩
  · rw [owns_cell hrow (boolE_at _ hj)]; rfl
  · refine h.tb.set hs (L := cutRow P[i] k) (by rw [hv]; exact hst.2) ?_
    rw [hv, cutRow_len]; exact hst.1
  · exact own_upto h.out fun g e => hst.2.block g (h.out.lt g e).2 (fun e2 => by injection e2 with e2; exact hvo g e e2)
  · exact h.inn.high h.hi hst.2.size hob
  · exact h.be.grown hst.2 h.be.size (fun j hj => by cases hj; exact h1)
set_option maxRecDepth 100000 in
set_option maxHeartbeats 2000000 in
theorem columns_c (s : Option Addr) (cap : Nat) (R : List (List Bool)) (r wd : Nat) (w : World) (h : SlSS boolE w s R) (hl : 1 ≤ R.length ∧ R.length ≤ 8) (hw : ∀ row ∈ R, row.length = wd) (hwd : wd ≤ 12) (hr : r ≤ 3) :
    Calls Try.prog 56 #[.slice s R.length cap, .int .i64 r] w fun e w' => (∃ s' c', e = .returned (.slice s' (colsM r 13 R).length c') ∧ SlSS intE w' s' (colsM r 13 R) ∧ (colsM r 13 R).length ≤ 13) ∧ Below w.heap.size w w' := by
  have h0 := Lib.hid h
  have hc0 := cpy_zero R
  have hca := cpy_all R
  have hcs := fun (y : Nat) (hy : y < R.length) => cpy_set R hy
  have hcl := fun (y : Nat) (hy : y ≤ R.length) => cpy_len R hy
  have hlv : liveN R < 13 := by
    unfold liveN
    rw [headD_at (by omega)]
    have h1 := List.length_filter_le id R[0]
    have h2 := hw _ (List.getElem_mem (show 0 < R.length by omega))
    omega
  have hmk := run_make_rows R.length (by omega) w
  have hb0 : Below w.heap.size w (w.alloc (.cells (List.replicate R.length (Value.slice none 0 0)).toArray 75)) := (Below.refl _ w).alloc (Nat.le_refl _) _
  have ht0 : Tbl boolE 75 4 (w.alloc (.cells (List.replicate R.length (Value.slice none 0 0)).toArray 75)) w.heap.size (.slice (some ⟨w.heap.size, 0, none⟩) R.length R.length) (List.replicate R.length ⟨none, 0, 0⟩) (cpy R 0) := by
    rw [hc0]; exact Tbl.made (heap_alloc_new w _) (Nat.le_refl _) (by omega)
  obtain ⟨X0, hX0⟩ : ∃ x, w.alloc (.cells (List.replicate R.length (Value.slice none 0 0)).toArray 75) = x := ⟨_, rfl⟩
  rw [hX0] at hb0 ht0 hmk
  obtain ⟨COLS, hCOLS⟩ : ∃ x, colsM (r : Int) 13 R = x := ⟨_, rfl⟩
  rw [hCOLS]
  replace hX0 := Lib.hid hX0; replace ht0 := Lib.hid ht0; replace hb0 := Lib.hid hb0; replace hc0 := Lib.hid hc0; replace hca := Lib.hid hca; replace hcs := Lib.hid hcs; replace hcl := Lib.hid hcl; replace hlv := Lib.hid hlv; replace hCOLS := Lib.hid hCOLS; replace hw := Lib.hid hw
  clear h
  go_enter Try.func56, Try.ntmps56
  go_wp2
  go_loopw [18] (fun ii V => ∃ (y : Nat) (ss : List Sv), y ≤ R.length ∧ ii = .int .i64 y ∧ Tbl boolE 75 4 V w.heap.size (.slice (some ⟨w.heap.size, 0, none⟩) R.length R.length) ss (cpy R y) ∧ Below w.heap.size w V) (fun ii _ => R.length - (intOf ii).toNat)
  case atStart => exact ⟨0, _, by omega, rfl, ht0.out, hb0.out⟩
  case round =>
    clear ht0 hb0
    obtain ⟨y, ss, hy, rfl, htb, hbl⟩ := hrel
    have hbls := hbl.size
    by_cases hly : y < R.length
    · obtain ⟨bk, ok, sa, sc, e1, hbk, x0, hsl, hnn, -⟩ := (up_of hbl h0.out).at hly
      have hrl := hw.out _ (List.getElem_mem hly)
      have hset := hcs.out y hly
      have hln := hcl.out y hy
      have hiP : y < (cpy R y).length := by rw [hln]; exact hly
      obtain ⟨row, hrow⟩ : ∃ x, R[y] = x := ⟨_, rfl⟩
      rw [hrow] at x0 hsl hrl hset
      have hcl1 := bool_clone sa sc row _ hsl hnn (by omega)
      have hsN : ∀ j (hj : j < ss.length) g, ss[j].val.ownBlock = some g → g < wr.heap.size := fun j hj g e => (htb.lt hj e).2
      have hwlt : w.heap.size < wr.heap.size := by
        obtain ⟨b, e, hb, _⟩ := htb.head hiP
        cases e; exact hb.2
      have i1 : (0 : Int) ≤ (y : Int) := by omega
      have i2 : (y : Int) < (R.length : Int) := by omega
      replace htb := Lib.hid htb; replace hcl1 := Lib.hid hcl1; replace hset := Lib.hid hset; replace hrl := Lib.hid hrl; replace hrow := Lib.hid hrow; replace hsN := Lib.hid hsN; replace hln := Lib.hid hln
      subst e1
      clear hsl hnn
      go_wp2_with (go_at_call 71; refine hcl1.out.mono ?_; rintro e V2 ⟨sx, cx, rfl, hox, hbx⟩; have htb2 := up_of hbx htb.out; have hbl2 := hbl.trans (hbx.mono hbls); obtain ⟨b2, e2, _, hfz2, hs2, hc2, _⟩ := htb2.head (i := y) hiP; cases e2)
      go_roundw
      case rel =>
        have hp := Tbl.puts htb2 (i := y) hiP (L := row) hox hwlt hsN.out hbls
        rw [hset.out] at hp
        exact ⟨y + 1, _, by omega, by go_num, hp, hbl2.setCell (by simp) _⟩
      case measure => exact meas hly
    · obtain rfl : y = R.length := by omega
      rw [hca.out] at htb
      have hwlt : w.heap.size < wr.heap.size := by
        obtain ⟨b, e, hb, _⟩ := htb.head (i := 0) (by omega)
        cases e; exact hb.2
      obtain ⟨A, hA⟩ : ∃ A : World, A = wr := ⟨_, rfl⟩
      subst hA
      have hI : ColI w A A R.length (.slice none 0 0) ss R [] [] := ⟨htb, fun j hj g e => (htb.lt hj e).2, World.ownsRow_nil _ _ _ _, Inn.nil, fun x hx => by simp at hx, hbl, hwlt, Nat.le_refl _⟩
      replace hI := Lib.hid hI
      clear htb hbl
      go_wp2
      go_loopw [8] (fun v V => ∃ (P : List (List Bool)) (ss : List Sv) (cols : List (List Int)) (ss2 : List Sv) (n : Nat), ColI w A V R.length v ss P ss2 cols ∧ Hid (liveN P < n) ∧ Hid (COLS = cols ++ colsM r n P) ∧ Hid (∀ row ∈ P, row.length = wd) ∧ Hid (P.length = R.length) ∧ cols.length + n = 13) (fun v _ => 13 - lenOf v)
      case atStart => exact ⟨R, ss, [], [], 13, hI.out, hlv, hCOLS.out.symm, hw, rfl, rfl⟩
      case round =>
        clear hI
        obtain ⟨P, ss, cols, ss2, n, hI, hlive, hcol, hPw, hPl, hcn⟩ := hrel
        have hlm := leftmost_c (some ⟨w.heap.size, 0, none⟩) R.length P r wd _ hI.tb.seen (by have := hPl.out; omega) hPw.out hwd hr
        rw [hPl.out] at hlm
        have hu8 : lenOf u8 = cols.length := by obtain ⟨s8, c8, e8, _⟩ := owns_shape hI.out; rw [e8]; rfl
        replace hu8 := Lib.hid hu8
        obtain ⟨n, rfl⟩ : ∃ m, n = m + 1 := ⟨n - 1, by have := hlive.out; omega⟩
        obtain ⟨V, hV⟩ : ∃ V : World, V = wr := ⟨_, rfl⟩
        subst hV
        cases hlf : leftL (r : Int) P with
        | none =>
          rw [hlf] at hlm
          have hce : COLS = cols := by rw [hcol.out, colsM_none hlf, List.append_nil]
          subst hce
          have hIo := hI.out
          obtain ⟨s', c', rfl, _⟩ := owns_shape hI.out
          have hsl := hI.inn
          have hbe := hI.be
          have h2 : ss2.length = COLS.length := hI.inn.len
          have hIo2 : V.ownsRow A.heap.size 36 1 (.slice s' ss2.length c') ss2.length (svE.all ss2) := by rw [h2]; exact hIo
          have hin2 : Inn intE V (.slice s' ss2.length c') ss2 COLS := by rw [h2]; exact hsl
          have hview := Inn.view hin2 hIo2
          have hwV := hbe.size
          have hcn2 : COLS.length ≤ 13 := by omega
          replace hlm := Lib.hid hlm; replace hview := Lib.hid hview; replace hbe := Lib.hid hbe
          clear hI hIo hsl hIo2 hin2 hlf hCOLS hcol
          go_wp2_with (go_at_call 72; refine hlm.out.mono ?_; rintro e V1 ⟨⟨s3, k3, rfl, hown⟩, hb1⟩)
          go_ret
          exact ⟨⟨s', c', rfl, up_of hb1 hview.out, hcn2⟩, hbe.out.trans (hb1.mono hwV)⟩
        | some c =>
          rw [hlf] at hlm
          obtain ⟨hcl0, hcv⟩ := leftL_is hPw.out hlf
          have hless := live_less hPw.out (by have := hPl.out; omega) hlf
          have hcm : colsM (r : Int) (n + 1) P = c :: colsM (r : Int) n (cutP P c) := colsM_succ hlf
          have hcu0 := cutTo_zero P c
          have hcuS := fun (y : Nat) (hy : y < P.length) (hc : y < c.length) => cutTo_set (P := P) (c := c) hy hc
          have hcuR := fun (y : Nat) (hy : y < P.length) => cutTo_row (P := P) (c := c) (n := y) hy (Nat.le_refl _)
          have hcuL := fun (y : Nat) => cutTo_len P c y
          have hcuW := fun (y : Nat) => cutP_rows (P := P) (c := c) (n := y) hPw.out
          have hcuE : cutTo P c P.length = cutP P c := rfl
          have hsz := hI.sz
          have hcn2 : cols.length ≤ 12 := by omega
          replace hlm := Lib.hid hlm; replace hcl0 := Lib.hid hcl0; replace hcv := Lib.hid hcv; replace hless := Lib.hid hless; replace hcm := Lib.hid hcm; replace hcu0 := Lib.hid hcu0; replace hcuS := Lib.hid hcuS; replace hcuR := Lib.hid hcuR; replace hcuL := Lib.hid hcuL; replace hcuW := Lib.hid hcuW; replace hcuE := Lib.hid hcuE; replace hI := Lib.hid hI
          clear hlf
          go_upto_region 11 with (go_at_call 72; refine hlm.out.mono ?_; rintro e V1 ⟨⟨s3, k3, rfl, hown⟩, hb1⟩)
          simp only [Option.getD_some] at hown
          have hsc := SlS.of_own (E := intE) hown
          have hcp := own_cap hown
          have hbl1 : ∀ b o, s3 = some ⟨b, o, none⟩ → V.heap.size ≤ b ∧ b < V1.heap.size := fun b o e => hown.lt b (by rw [e]; rfl)
          have hout1 := up_of hb1 hI.out.out
          have hinn1 := up_of hb1 hI.out.inn
          have htb1 := up_of hb1 hI.out.tb
          have hV1s := hb1.size
          have hown0 := hI.out.out
          have hpush : ∀ o w1 v1, (V1.alloc o).grownBy w1 u8.ownBlock → (v1.ownBlock = u8.ownBlock ∨ v1.ownBlock = some (V1.alloc o).heap.size) → w1.ownsRow A.heap.size 36 1 v1 (cols.length + 1) (svE.all ss2 ++ [.slice s3 c.length k3]) →
              ColI w A w1 R.length v1 ss P (ss2 ++ [⟨s3, c.length, k3⟩]) (cols ++ [c]) ∧ SlS intE w1 s3 c := fun o w1 v1 g1 g2 g3 => by
            have bb := (Below.refl V1.heap.size V1).alloc (Nat.le_refl _) o
            have hne : ∀ b, u8.ownBlock = some b → A.heap.size ≤ b ∧ b < V.heap.size := fun b e => hown0.lt b e
            have hin2 := Inn.push (up_of bb hinn1) g1 g2 (up_of bb hsc) hcp.2 hcp.1 (fun b o e => ⟨by have := (hbl1 b o e).2; simp; omega, fun e2 => by have := hne b e2; have := (hbl1 b o e).1; omega⟩)
            have hold : ∀ b, b < A.heap.size → w1.heap[b]? = V1.heap[b]? := fun b hb => (g1.block b (by simp; omega) (fun e => by have := hne b e.symm; omega)).trans (heap_alloc_old V1 o (by omega))
            have hg1s := g1.size
            simp at hg1s
            refine ⟨⟨Tbl.low htb1 (fun g e => by simp only [Value.ownBlock, Option.some.injEq] at e; omega) hI.out.lo hold, hI.out.lo, by rw [List.length_append, svE_snoc]; exact g3, hin2, fun x hx b o e => ?_, ((hI.out.be.trans (hb1.mono (by omega))).alloc (by omega) o).grown g1 (by simp; omega) (fun j hj => by have := hne j hj; omega), ⟨hsz.1, by omega⟩⟩, ?_⟩
            · rcases List.mem_append.1 hx with hx | hx
              · exact hI.out.hi x hx b o e
              · obtain rfl := List.mem_singleton.1 hx
                have := (hbl1 b o e).1; omega
            · exact (up_of bb hsc).block g1.size fun b o e hb => g1.block b hb (fun e2 => by have := hne b e2.symm; have := (hbl1 b o e).1; omega)
          have hhi : ∀ b o, s3 = some ⟨b, o, none⟩ → A.heap.size ≤ b := fun b o e => by have := (hbl1 b o e).1; omega
          replace hpush := Lib.hid hpush; replace hhi := Lib.hid hhi
          have hout2 := Lib.hid hout1
          clear hown hsc hcp hbl1 hout1 hinn1 htb1 hown0
          go_upto_region 12 with (first | (at_builtin; obtain ⟨i0, hi0, hz0, hz1, hz2⟩ := info_parts info_ints; refine wpList_append_own_at _ rfl _ _ 40 rfl A.heap.size 36 i0 _ 1 24 Try.underlying40 hi0 hz0 hz1 hz2 rfl (by decide) _ _ _ rfl (hout2.out.alloc _) ⟨V1.heap.size, 0, none⟩ 1 1 [.slice s3 c.length k3] rfl rfl (news_new _ _ _) (by simp [Value.oneCell']) (by unfold maxLen; omega) (by omega) (by simp; omega) ?_; intro v1 w1 hown1 hgrow hnil hat1))
          obtain ⟨hJ, hsc⟩ := hpush.out _ _ _ hgrow hat1 hown1
          clear hown1 hgrow hnil hat1 hpush hout2 hI
          rw [← hcu0.out] at hJ
          replace hJ := Lib.hid hJ; replace hsc := Lib.hid hsc
          go_wp2
          go_loopw [44] (fun ii V => ∃ y : Nat, y ≤ c.length ∧ ii = .int .i64 y ∧ ColI w A V R.length v1 ss (cutTo P c y) (ss2 ++ [⟨s3, c.length, k3⟩]) (cols ++ [c]) ∧ SlS intE V s3 c) (fun ii _ => c.length - (intOf ii).toNat)
          case atStart => exact ⟨0, by omega, rfl, hJ.out, hsc.out⟩
          case round =>
            clear hJ hsc
            obtain ⟨y, hy, rfl, hJ, hsc⟩ := hrel
            by_cases hly : y < c.length
            · have hyP : y < P.length := by have := hcl0.out; omega
              have hyR : y < R.length := by have := hPl.out; omega
              obtain ⟨k, hk, _, hck⟩ := hcv.out y hyP hly
              obtain ⟨bc, oc, ec, hbc, q0⟩ := hsc.int_at hly
              have hset := hcuS.out y hyP hly
              have hrw := hcuR.out y hyP
              have hrowl := hPw.out _ (List.getElem_mem hyP)
              rw [hck] at q0 hset
              have hiP : y < (cutTo P c y).length := by rw [hcuL.out]; exact hyP
              have hkP : k < ((cutTo P c y)[y]'hiP).length := by rw [hrw, hrowl]; exact hk
              obtain ⟨gi, ci, hgi, x0, xc, xf, hcap, hcut, hgr⟩ := hJ.cut hiP hkP
              simp only [hrw] at x0 xc hcap hcut
              rw [hset] at hcut
              simp only [hrowl] at x0 xc hcap
              have hsc2 : SlS intE (World.setCells _ gi 0 (List.replicate (k + 1) (.bool false))) s3 c := hsc.block hgr.size fun b o e hb => hgr.block b hb (fun e2 => by injection e2 with e2; have := hhi.out b o e; omega)
              have hrun : ∀ ty, (Builtin.clear_ #[75] ty #[.slice (some ⟨gi, 0, none⟩) (k + 1) ci]).run Try.prog wr = .ok (.tuple #[]) (wr.setCells gi 0 (List.replicate (k + 1) (.bool false))) := fun ty => Lib.run_clear_slice wr 75 4 ty (.bool false) Try.underlying75 (fun w => by kernel_rfl) rfl rfl gi 0 (k + 1) ci (by omega) (fun j hj => by rw [Nat.zero_add]; exact xc j (by omega)) (fun j hj => xf _)
              obtain ⟨X, hX⟩ : ∃ X, wr.setCells gi 0 (List.replicate (k + 1) (.bool false)) = X := ⟨_, rfl⟩
              rw [hX] at hcut hsc2
              simp only [hX] at hrun
              have i1 : (0 : Int) ≤ (y : Int) := by omega
              have i2 : (y : Int) < (c.length : Int) := by omega
              have i3 : (y : Int) < (R.length : Int) := by omega
              have i4 : (0 : Int) ≤ (k : Int) + 1 := by omega
              have i5 : (k : Int) + 1 ≤ (ci : Int) := by omega
              have w1' : IntKind.i64.wrap ((k : Int) + 1) = (k : Int) + 1 := i64_small (by omega)
              have w2' : ((k : Int) + 1).toNat = k + 1 := by omega
              replace hcut := Lib.hid hcut; replace hsc2 := Lib.hid hsc2; replace hset := Lib.hid hset; replace hrw := Lib.hid hrw; replace hck := Lib.hid hck; replace hX := Lib.hid hX; replace hrowl := Lib.hid hrowl
              subst ec
              clear hJ hsc hgr xc xf
              go_wp2
              go_roundw
              case rel => exact ⟨y + 1, by omega, by go_num, hcut.out, hsc2.out⟩
              case measure => exact meas hly
            · obtain rfl : y = c.length := by omega
              have e1 : cutTo P c c.length = cutP P c := by rw [hcl0.out]; exact hcuE.out
              rw [e1] at hJ
              have hlen : (cols ++ [c]).length = cols.length + 1 := by simp
              have hcolN : COLS = (cols ++ [c]) ++ colsM r n (cutP P c) := by rw [hcol.out, hcm.out, List.append_assoc]; rfl
              have hW2 : ∀ row ∈ cutP P c, row.length = wd := hcuW.out P.length
              have hPl2 : (cutP P c).length = R.length := by unfold cutP; rw [hcuL.out]; exact hPl.out
              have hliv2 : liveN (cutP P c) < n := by have := hless.out; have := hlive.out; omega
              have hv1 : lenOf v1 = cols.length + 1 := by obtain ⟨s9, c9, e9, _⟩ := owns_shape hJ.out; rw [e9]; simp [lenOf]
              replace hJ := Lib.hid hJ; replace hcolN := Lib.hid hcolN; replace hW2 := Lib.hid hW2; replace hPl2 := Lib.hid hPl2; replace hliv2 := Lib.hid hliv2; replace hlen := Lib.hid hlen; replace hv1 := Lib.hid hv1; replace e1 := Lib.hid e1
              clear hsc
              go_wp2
              go_roundw
              case rel => exact ⟨cutP P c, ss, cols ++ [c], ss2 ++ [⟨s3, c.length, k3⟩], n, hJ.out, hliv2, hcolN, hW2, hPl2, by have := hlen.out; omega⟩
              case measure => rw [hv1.out, hu8.out]; omega
end Go.Proofs.Ytbabdoafpljdbaa
