/- The rows of a valid grid: the reference. -/
import Derived.Test.YtbabdoafpljdbaaMd13
namespace Go.Proofs.Ytbabdoafpljdbaa
open Go.RowKit

def tfb (n u : Nat) : List Bool := List.replicate u true ++ List.replicate (n - u) false
theorem tfb_len {n u : Nat} (h : u ≤ n) : (tfb n u).length = n := by simp [tfb]; omega
theorem tfb_zero (n : Nat) : tfb n 0 = List.replicate n false := by simp [tfb]
theorem tfb_all (n : Nat) : tfb n n = List.replicate n true := by simp [tfb]
theorem tfb_at {n u : Nat} (h : u < n) : (tfb n u)[u]'(by rw [tfb_len (by omega)]; exact h) = false := by
  unfold tfb
  rw [List.getElem_append_right (by simp)]; simp
theorem tfb_set {n u : Nat} (h : u < n) : (tfb n u).set u true = tfb n (u + 1) := by
  unfold tfb
  obtain ⟨m, hm⟩ : ∃ m, n - u = m + 1 := ⟨n - u - 1, by omega⟩
  rw [List.set_append_right _ _ (by simp), List.length_replicate, Nat.sub_self, hm, show n - (u + 1) = m by omega, List.replicate_succ, List.set_cons_zero, List.replicate_succ']
  simp
def stgX (h : Nat) (T : List Bool) (i : Nat) (row : List Bool) : List (List Bool) := (stg h T i).set i row
theorem stgX_len {h i : Nat} (T row : List Bool) (hi : i ≤ h) : (stgX h T i row).length = h := by unfold stgX; rw [List.length_set, stg_len T hi]
theorem stgX_row {h i : Nat} (T row : List Bool) (hi : i < h) : (stgX h T i row)[i]'(by rw [stgX_len T row (by omega)]; exact hi) = row := by simp [stgX]
theorem stgX_set (h i : Nat) (T row row' : List Bool) (_hi : i < h) : (stgX h T i row).set i row' = stgX h T i row' := by simp [stgX]
theorem tf_tfb (n : Nat) : tf n 0 = boolE.all (List.replicate n false) := by
  unfold tf
  simp only [List.replicate_zero, List.nil_append, Nat.sub_zero]
  induction n with
  | zero => rfl
  | succ n ih => rw [List.replicate_succ, List.replicate_succ, ih]; rfl
theorem own_tf (V : World) (n : Nat) (hn : n ≤ 1000000) : (V.alloc (.cells (tf n 0).toArray 4)).ownsRow V.heap.size 4 1 (.slice (some ⟨V.heap.size, 0, none⟩) n n) n (boolE.all (List.replicate n false)) := by
  have hl : (boolE.all (List.replicate n false)).length = n := by rw [Elt.all_len]; simp [boolE]
  rw [tf_tfb]
  exact ⟨by rw [hl, Nat.mul_one], .inr ⟨V.heap.size, n, _, rfl, Nat.le_refl _, heap_alloc_new V _, Nat.le_refl _, by unfold maxLen; omega, by simp [hl], List.take_of_length_le (by simp [hl])⟩⟩
theorem run_make_fields (n : Nat) (hn : n ≤ 1000000) (w : World) : (Instr.makeSlice 68 (.int .i64 n) (.int .i64 n)).run Try.prog w = .ok (.slice (some ⟨w.heap.size, 0, none⟩) n n) (w.alloc (.cells (List.replicate n (Value.slice none 0 0)).toArray 75)) := by
  obtain ⟨i, hi, hz, hs, hb⟩ := info_parts info_row
  have h := run_makeSlice (P := Try.prog) (w := w) 68 75 i _ Try.underlying68 hi hz .i64 .i64 n n (by omega) (by omega) (by rw [hs]; omega) (by rw [hb]; omega) (by omega)
  rw [h, hs]
  have e : madeCells (Value.cells (.slice none 0 0)) ((n : Int).toNat * 1) = (List.replicate n (Value.slice none 0 0)).toArray := by
    apply Array.ext
    · simp [size_madeCells]
    · intro j h1 h2
      simp [madeCells, Value.cells, Nat.mod_one]
  rw [e]
  simp
set_option maxRecDepth 100000 in
set_option maxHeartbeats 2000000 in
theorem fieldOf_c (wd ht : Nat) (s : Option Addr) (cap : Nat) (F : List Cel) (w : World) (h : Cels w s cap F) (hv : gvB wd ht F = true) :
    Calls Try.prog 51 #[.agg #[.int .i64 wd, .int .i64 ht, .slice s F.length cap]] w (TblRet (fld wd ht F) w) := by
  obtain ⟨hW, hH, hF, hon⟩ := gv_facts hv
  clear hv
  have hx0 := tfb_zero wd
  have hxa := tfb_all wd
  have hxs := fun (x : Nat) (hx : x < wd) => tfb_set hx
  have hxl := fun (x : Nat) (hx : x ≤ wd) => tfb_len hx
  have hTl : (List.replicate wd true).length = wd := List.length_replicate
  have hT0 : stg ht (List.replicate wd true) 0 = List.replicate ht [] := by simp [stg]
  have hTs := fun (i : Nat) (hi : i < ht) => stg_set (h := ht) (i := i) (List.replicate wd true) hi
  have hTn := fun (i : Nat) (hi : i ≤ ht) => stg_len (h := ht) (i := i) (List.replicate wd true) hi
  have hTa := stg_all wd ht
  obtain ⟨T, hT⟩ : ∃ x, List.replicate wd true = x := ⟨_, rfl⟩
  simp only [hT] at hxa hTl hT0 hTs hTn hTa
  have hFn := fld_len wd ht F
  have hfs := fun (k : Nat) (hk : k < F.length) (cx cy : Nat) (hx : cx < wd) (hy : cy < ht) (e : F[k] = ⟨cx, cy⟩) => (show fld wd ht (F.take (k + 1)) = (fld wd ht (F.take k)).set cy (((fld wd ht (F.take k))[cy]'(by rw [fld_len]; exact hy)).set cx false) by rw [List.take_succ_eq_append_getElem hk, e]; exact fld_snoc hx hy)
  have hfl := fun (k : Nat) => fld_len wd ht (F.take k)
  have hfr := fun (k cy : Nat) (hy : cy < ht) => (show ((fld wd ht (F.take k))[cy]'(by rw [fld_len]; exact hy)).length = wd by rw [fld_row hy]; simp)
  have hf0 : fld wd ht (F.take 0) = fld wd ht [] := rfl
  have hfa : fld wd ht (F.take F.length) = fld wd ht F := by rw [List.take_length]
  replace hx0 := Lib.hid hx0; replace hxa := Lib.hid hxa; replace hxs := Lib.hid hxs; replace hxl := Lib.hid hxl; replace hTl := Lib.hid hTl; replace hT0 := Lib.hid hT0; replace hTs := Lib.hid hTs; replace hTn := Lib.hid hTn; replace hTa := Lib.hid hTa; replace hT := Lib.hid hT; replace hFn := Lib.hid hFn; replace hfs := Lib.hid hfs; replace hfl := Lib.hid hfl; replace hfr := Lib.hid hfr; replace hf0 := Lib.hid hf0; replace hfa := Lib.hid hfa; replace hon := Lib.hid hon
  have hFl : F.length ≤ 9223372036854775807 := by omega
  have h0 := Lib.hid h.sl
  clear h
  go_enter Try.func51, Try.ntmps51
  go_upto_region 1 with (fail)
  refine wp_world fun W HW => ?_
  have hB : Below w.heap.size w W := by rw [HW.out]; (repeat (first | exact Below.refl _ _ | refine Below.alloc ?_ (by simp; try omega) _ | refine Below.setCell ?_ (by simp) _ | refine Below.drew ?_))
  have g0 : W.cell? ⟨w.heap.size, 0, none⟩ = some (.int .i64 wd) := by rw [HW.out]; simp [go_sem]
  have g1 : W.cell? ⟨w.heap.size, 1, none⟩ = some (.int .i64 ht) := by rw [HW.out]; simp [go_sem]
  have g2 : W.cell? ⟨w.heap.size, 2, none⟩ = some (.slice s F.length cap) := by rw [HW.out]; simp [go_sem]
  have gl : w.heap.size < W.heap.size := World.block_lt_of_cell? W _ g0
  have hmk := run_make_fields ht (by omega) W
  have hb0 : Below W.heap.size W (W.alloc (.cells (List.replicate ht (Value.slice none 0 0)).toArray 75)) := (Below.refl _ W).alloc (Nat.le_refl _) _
  have ht0 : Tbl boolE 75 4 (W.alloc (.cells (List.replicate ht (Value.slice none 0 0)).toArray 75)) W.heap.size (.slice (some ⟨W.heap.size, 0, none⟩) ht ht) (List.replicate ht ⟨none, 0, 0⟩) (stg ht T 0) := by
    rw [hT0.out]; exact Tbl.made (heap_alloc_new W _) (Nat.le_refl _) (by omega)
  obtain ⟨X0, hX0⟩ : ∃ x, W.alloc (.cells (List.replicate ht (Value.slice none 0 0)).toArray 75) = x := ⟨_, rfl⟩
  rw [hX0] at hb0 ht0 hmk
  replace hX0 := Lib.hid hX0; replace ht0 := Lib.hid ht0; replace hb0 := Lib.hid hb0
  go_wp2
  go_loopw [13] (fun ii V => ∃ (i : Nat) (ss : List Sv), i ≤ ht ∧ ii = .int .i64 i ∧ Tbl boolE 75 4 V W.heap.size (.slice (some ⟨W.heap.size, 0, none⟩) ht ht) ss (stg ht T i) ∧ Below W.heap.size W V) (fun ii _ => ht - (intOf ii).toNat)
  case atStart => exact ⟨0, _, by omega, rfl, ht0.out, hb0.out⟩
  case round =>
    clear ht0 hb0
    obtain ⟨i, ss, hi, rfl, htb, hbl⟩ := hrel
    replace g0 := Up.cell hbl g0
    replace g1 := Up.cell hbl g1
    replace g2 := Up.cell hbl g2
    have gl2 := World.block_lt_of_cell? _ _ g0
    have hbs := hbl.size
    have hln := hTn.out i hi
    by_cases hlt : i < ht
    · have hset := hTs.out i hlt
      have i4 : (0 : Int) ≤ (i : Int) := by omega
      have i5 : (i : Int) < (ht : Int) := by omega
      have hmb := run_make_bools wd (by omega) wr
      have bb : Below wr.heap.size wr (wr.alloc (.cells (tf wd 0).toArray 4)) := (Below.refl _ wr).alloc (Nat.le_refl _) _
      have htb1 := up_of bb htb
      have hbl1 := hbl.trans (bb.mono hbs)
      have hox := own_tf wr wd (by omega)
      have hsN : ∀ j (hj : j < ss.length) g, ss[j].val.ownBlock = some g → g < wr.heap.size := fun j hj g e => (htb.lt hj e).2
      have hiR : i < (stg ht T i).length := by rw [hln]; exact hlt
      have hwl : W.heap.size < wr.heap.size := by
        obtain ⟨b, e, hb, _⟩ := htb.head hiR
        cases e; exact hb.2
      obtain ⟨b2, e2, _, hfz2, hs2, hc2, _⟩ := htb1.head (i := i) hiR
      cases e2
      have hlr : (List.replicate wd false).length = wd := List.length_replicate
      have hp := Tbl.puts htb1 (i := i) hiR (L := List.replicate wd false) (by rw [hlr]; exact hox) hwl hsN hbs
      rw [hlr, ← hx0.out] at hp
      have hbl2 := hbl1.setCell (p := ⟨W.heap.size, i, none⟩) (Nat.le_refl _) (.slice (some ⟨wr.heap.size, 0, none⟩) wd wd)
      have hsw : (wr.alloc (.cells (tf wd 0).toArray 4)).setCell ⟨W.heap.size, i, none⟩ (.slice (some ⟨wr.heap.size, 0, none⟩) wd wd) = (wr.setCell ⟨W.heap.size, i, none⟩ (.slice (some ⟨wr.heap.size, 0, none⟩) wd wd)).alloc (.cells (tf wd 0).toArray 4) := by
        rw [World.setCell_alloc_past _ _ _ _ hwl]
      rw [hsw] at hp hbl2
      have hsX := fun (x : Nat) => stgX_len (h := ht) (i := i) T (tfb wd x) (Nat.le_of_lt hlt)
      have hiX0 : i < ((stg ht T i).set i (tfb wd 0)).length := by rw [List.length_set]; exact hiR
      have hcN := hp.head hiX0
      have hrN : ((stg ht T i).set i (tfb wd 0))[i] = tfb wd 0 := by simp
      obtain ⟨bN, eN, _, _, _, hcN, _⟩ := hcN
      cases eN
      have hl0 := hxl.out 0 (by omega)
      simp only [List.getElem_set_self, hl0] at hcN
      clear hsw hsX hrN hl0
      replace hsN := Lib.hid hsN; replace hset := Lib.hid hset
      have hsx := fun (x : Nat) (hx : x < wd) => stgX_set ht i T (tfb wd x) (tfb wd (x + 1)) hlt
      have hsr := fun (x : Nat) => stgX_row (h := ht) (i := i) T (tfb wd x) hlt
      have hsl := fun (x : Nat) => stgX_len (h := ht) (i := i) T (tfb wd x) (Nat.le_of_lt hlt)
      have hxt := fun (x : Nat) (hx : x < wd) => tfb_at hx
      replace hsx := Lib.hid hsx; replace hsr := Lib.hid hsr; replace hsl := Lib.hid hsl; replace hxt := Lib.hid hxt; replace hp := Lib.hid hp; replace hbl2 := Lib.hid hbl2
      clear htb bb htb1 hbl1 hox
      go_wp2
      go_loopw [27] (fun ii V => ∃ (x : Nat) (ss2 : List Sv), x ≤ wd ∧ ii = .int .i64 x ∧ Tbl boolE 75 4 V W.heap.size (.slice (some ⟨W.heap.size, 0, none⟩) ht ht) ss2 (stgX ht T i (tfb wd x)) ∧ Below W.heap.size W V) (fun ii _ => wd - (intOf ii).toNat)
      case atStart => exact ⟨0, _, by omega, rfl, hp.out, hbl2.out⟩
      case round =>
        clear hp hbl2 g0 g1 g2 hc2 hfz2 hbl hcN
        obtain ⟨x, ss2, hx, rfl, htb, hbl⟩ := hrel
        by_cases hlx : x < wd
        · have hiX : i < (stgX ht T i (tfb wd x)).length := by rw [hsl.out]; exact hlt
          have hxX : x < ((stgX ht T i (tfb wd x))[i]'hiX).length := by rw [hsr.out, hxl.out x hx]; exact hlx
          obtain ⟨b3, gi, ci, e3, _, hgg, q0, q1, qf, pset, _⟩ := htb.cell (i := i) (j := x) hiX hxX
          cases e3
          have hps := pset true
          have hl2 := hxl.out x hx
          simp only [hsr.out] at q0 q1 hps
          rw [hxs.out x hlx, hsx.out x hlx] at hps
          simp only [hl2] at q0
          have hblN := hbl.setCell (p := ⟨gi, x, none⟩) hgg.1 (.bool true)
          obtain ⟨bv, hbv⟩ : ∃ v, (tfb wd x)[x]'(by rw [hl2]; exact hlx) = v := ⟨_, rfl⟩
          simp only [hbv] at q1
          have j1 : (0 : Int) ≤ (x : Int) := by omega
          have j2 : (x : Int) < (wd : Int) := by omega
          replace hps := Lib.hid hps; replace hblN := Lib.hid hblN; replace hbv := Lib.hid hbv
          clear pset htb hbl
          go_wp2
          go_roundw
          case rel => exact ⟨x + 1, ss2, by omega, by go_num, hps.out, hblN.out⟩
          case measure => exact meas hlx
        · obtain rfl : x = wd := by omega
          rw [hxa.out] at htb
          have e9 : stgX ht T i T = stg ht T (i + 1) := hset.out
          rw [e9] at htb
          replace htb := Lib.hid htb
          clear e9
          go_wp2
          go_roundw
          case rel => exact ⟨i + 1, ss2, by omega, by go_num, htb.out, hbl⟩
          case measure => exact meas hlt
    · obtain rfl : i = ht := by omega
      rw [hTa.out, ← hf0.out] at htb
      replace htb := Lib.hid htb
      replace hbl := Lib.hid hbl
      go_wp2
      go_loopw [41] (fun ii V => ∃ (k : Nat) (ss : List Sv), k ≤ F.length ∧ ii = .int .i64 k ∧ Tbl boolE 75 4 V W.heap.size (.slice (some ⟨W.heap.size, 0, none⟩) i i) ss (fld wd i (F.take k)) ∧ Below W.heap.size W V) (fun ii _ => F.length - (intOf ii).toNat)
      case atStart => exact ⟨0, _, by omega, rfl, htb.out, hbl.out⟩
      case round =>
        clear htb hbl
        obtain ⟨k, ss, hk, rfl, htb, hbl⟩ := hrel
        have hbw := hB.trans (hbl.mono hB.size)
        by_cases hlk : k < F.length
        · obtain ⟨bk, ok, rfl, hbk, x0, x1⟩ := (up_of hbw h0.out).cel_at hlk
          have hc := hon.out _ (List.getElem_mem hlk)
          obtain ⟨cx, cy, hcxy, hcx, hcy⟩ : ∃ cx cy : Nat, F[k] = ⟨cx, cy⟩ ∧ cx < wd ∧ cy < i := ⟨F[k].x.toNat, F[k].y.toNat, by
            rcases hq : F[k] with ⟨a, b⟩
            rw [hq] at hc
            simp only at hc ⊢
            rw [Cel.mk.injEq]
            omega, by omega, by omega⟩
          have hsn := hfs.out k hlk cx cy hcx hcy hcxy
          have hl1 := hfl.out k
          have hl2 := hfr.out k cy hcy
          rw [hcxy] at x0 x1
          simp only at x0 x1
          replace hcxy := Lib.hid hcxy
          have i4 : (0 : Int) ≤ (k : Int) := by omega
          have i5 : (k : Int) < (F.length : Int) := by omega
          have j1 : (0 : Int) ≤ (cx : Int) := by omega
          have j2 : (cx : Int) < (wd : Int) := by omega
          have j3 : (0 : Int) ≤ (cy : Int) := by omega
          have j4 : (cy : Int) < (i : Int) := by omega
          obtain ⟨R, hR⟩ : ∃ x, fld wd i (F.take k) = x := ⟨_, rfl⟩
          simp only [hR] at hsn hl1 hl2 htb
          replace hR := Lib.hid hR; replace hsn := Lib.hid hsn
          replace htb := Lib.hid htb; replace hbl := Lib.hid hbl
          go_upto_region 15 with (fail)
          refine wp_world fun Y HY => ?_
          have hY : Below wr.heap.size wr Y := by rw [HY.out]; (repeat (first | exact Below.refl _ _ | refine Below.alloc ?_ (by simp; try omega) _ | refine Below.setCell ?_ (by simp) _ | refine Below.drew ?_))
          have c0 : Y.cell? ⟨wr.heap.size, 0, none⟩ = some (.int .i64 cx) := by rw [HY.out]; simp [go_sem]
          have c1 : Y.cell? ⟨wr.heap.size, 1, none⟩ = some (.int .i64 cy) := by rw [HY.out]; simp [go_sem]
          have cl : wr.heap.size < Y.heap.size := World.block_lt_of_cell? Y _ c0
          try replace hB := up_of hY hB
          try replace g0 := up_of hY g0
          try replace g1 := up_of hY g1
          try replace g2 := up_of hY g2
          try replace gl := up_of hY gl
          have htbY := up_of hY htb.out
          have htbD : Tbl boolE 75 4 Y.drew W.heap.size (.slice (some ⟨W.heap.size, 0, none⟩) i i) ss R := htbY.upto fun _ _ _ => rfl
          have hyR : cy < R.length := by omega
          have hxR : cx < R[cy].length := by omega
          obtain ⟨b2, gi, ci, e2, hbb, hgg, q0, q1, qf, -, hbg⟩ := htbY.cell (i := cy) (j := cx) hyR hxR
          cases e2
          obtain ⟨b3, gi3, ci3, e3, -, -, p0, -, -, pset, -⟩ := htbD.cell (i := cy) (j := cx) hyR hxR
          cases e3
          have hgi : gi3 = gi := by
            have : Y.drew.cell? ⟨W.heap.size, cy, none⟩ = Y.cell? ⟨W.heap.size, cy, none⟩ := rfl
            rw [this, q0] at p0
            simp at p0
            exact p0.1.symm
          rw [hgi] at pset
          have hps := Lib.hid (pset false)
          have hrl : R[cy].length = wd := hl2
          have hblY := Lib.hid (hbl.out.trans ((hY.drew).mono hbl.out.size))
          clear p0 pset hgi htbD htbY
          obtain ⟨LL, hLL⟩ : ∃ x, R[cy].length = x := ⟨_, rfl⟩
          obtain ⟨BV, hBV⟩ : ∃ x, R[cy][cx] = x := ⟨_, rfl⟩
          rw [hLL] at q0 hrl
          rw [hBV] at q1
          replace hLL := Lib.hid hLL; replace hBV := Lib.hid hBV
          go_region
          all_goals
            go_wp2
            go_roundw
            case rel => exact ⟨k + 1, ss, by omega, by go_num, by rw [hsn.out]; exact hps.out, hblY.out.setCell hgg.1 _⟩
            case measure => exact meas hlk
        · obtain rfl : k = F.length := by omega
          rw [hfa.out] at htb
          have hfin := htb.mono (b' := w.heap.size) (by have := hB.size; omega)
          have hFl2 : (fld wd i F).length = i := hFn.out
          replace hfin := Lib.hid hfin
          clear htb
          go_wp2
          go_ret
          exact ⟨some ⟨W.heap.size, 0, none⟩, i, ss, by rw [hFl2]; rfl, by rw [hFl2]; exact hfin.out, hbw⟩
end Go.Proofs.Ytbabdoafpljdbaa
