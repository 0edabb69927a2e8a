/- The rows of a valid grid: the program. -/
import Derived.Test.YtbabdoafpljdbaaMd2
import Derived.Test.YtbabdoafpljdbaaTblB
namespace Go.Proofs.Ytbabdoafpljdbaa
open Go.RowKit

def stg (h : Nat) (T : List Bool) (i : Nat) : List (List Bool) := List.replicate i T ++ List.replicate (h - i) []
theorem stg_len {h i : Nat} (T : List Bool) (hi : i ≤ h) : (stg h T i).length = h := by simp [stg]; omega
theorem stg_set {h i : Nat} (T : List Bool) (hi : i < h) : (stg h T i).set i T = stg h T (i + 1) := by
  unfold stg
  rw [List.set_append_right _ _ (by simp), List.length_replicate, Nat.sub_self]
  obtain ⟨m, hm⟩ : ∃ m, h - i = m + 1 := ⟨h - i - 1, by omega⟩
  rw [hm, show h - (i + 1) = m by omega, List.replicate_succ, List.set_cons_zero, List.replicate_succ']
  simp
theorem stg_all (w h : Nat) : stg h (List.replicate w true) h = fld w h [] := by simp [stg, fld_nil]
theorem run_make_rows (n : Nat) (hn : n ≤ 1000000) (w : World) : (Instr.makeSlice 63 (.int .i64 n) (.int .i64 n)).run Try.prog w = .ok (.slice (some ⟨w.heap.size, 0, none⟩) n n) (w.alloc (.cells (List.replicate n (Value.slice none 0 0)).toArray 75)) := by
  obtain ⟨i, hi, hz, hs, hb⟩ := info_parts info_row
  have h := run_makeSlice (P := Try.prog) (w := w) 63 75 i _ Try.underlying63 hi hz .i64 .i64 n n (by omega) (by omega) (by rw [hs]; omega) (by rw [hb]; omega) (by omega)
  rw [h, hs]
  have e : madeCells (Value.cells (.slice none 0 0)) ((n : Int).toNat * 1) = (List.replicate n (Value.slice none 0 0)).toArray := by
    apply Array.ext
    · simp [size_madeCells]
    · intro j h1 h2
      simp [madeCells, Value.cells, Nat.mod_one]
  rw [e]
  simp
/-- New rows, out of a call. -/
def TblRet (R : List (List Bool)) (w : World) (e : Ending) (w' : World) : Prop :=
  ∃ s cap ss, e = .returned (.slice s R.length cap) ∧ Tbl boolE 75 4 w' w.heap.size (.slice s R.length cap) ss R ∧ Below w.heap.size w w'
set_option maxRecDepth 100000 in
set_option maxHeartbeats 2000000 in
theorem rowsOf_c (wd ht : Nat) (s : Option Addr) (cap : Nat) (F : List Cel) (w : World) (h : Cels w s cap F) (hv : gvB wd ht F = true) :
    Calls Try.prog 69 #[.agg #[.int .i64 wd, .int .i64 ht, .slice s F.length cap]] w (TblRet (fld wd ht F) w) := by
  obtain ⟨hW, hH, hF, hon⟩ := gv_facts hv
  clear hv
  have hrep := fun V b (hc : V.cell? ⟨b, 0, none⟩ = some (.bool true)) => repeat_c b wd V hc (by omega)
  have hTl : (List.replicate wd true).length = wd := List.length_replicate
  have hT0 : stg ht (List.replicate wd true) 0 = List.replicate ht [] := by simp [stg]
  have hTs := fun (i : Nat) (hi : i < ht) => stg_set (h := ht) (i := i) (List.replicate wd true) hi
  have hTn := fun (i : Nat) (hi : i ≤ ht) => stg_len (h := ht) (i := i) (List.replicate wd true) hi
  have hTa := stg_all wd ht
  obtain ⟨T, hT⟩ : ∃ x, List.replicate wd true = x := ⟨_, rfl⟩
  simp only [hT] at hrep hTl hT0 hTs hTn hTa
  have hFn := fld_len wd ht F
  have hfs := fun (k : Nat) (hk : k < F.length) (cx cy : Nat) (hx : cx < wd) (hy : cy < ht) (e : F[k] = ⟨cx, cy⟩) => (show fld wd ht (F.take (k + 1)) = (fld wd ht (F.take k)).set cy (((fld wd ht (F.take k))[cy]'(by rw [fld_len]; exact hy)).set cx false) by rw [List.take_succ_eq_append_getElem hk, e]; exact fld_snoc hx hy)
  have hfl := fun (k : Nat) => fld_len wd ht (F.take k)
  have hfr := fun (k cy : Nat) (hy : cy < ht) => (show ((fld wd ht (F.take k))[cy]'(by rw [fld_len]; exact hy)).length = wd by rw [fld_row hy]; simp)
  have hf0 : fld wd ht (F.take 0) = fld wd ht [] := rfl
  have hfa : fld wd ht (F.take F.length) = fld wd ht F := by rw [List.take_length]
  replace hrep := Lib.hid hrep; replace hTl := Lib.hid hTl; replace hT0 := Lib.hid hT0; replace hTs := Lib.hid hTs; replace hTn := Lib.hid hTn; replace hTa := Lib.hid hTa; replace hT := Lib.hid hT; replace hFn := Lib.hid hFn; replace hfs := Lib.hid hfs; replace hfl := Lib.hid hfl; replace hfr := Lib.hid hfr; replace hf0 := Lib.hid hf0; replace hfa := Lib.hid hfa; replace hon := Lib.hid hon
  have hFl : F.length ≤ 9223372036854775807 := by omega
  have h0 := Lib.hid h.sl
  clear h
  go_enter Try.func69, Try.ntmps69
  go_upto_region 1 with (fail)
  refine wp_world fun W HW => ?_
  have hB : Below w.heap.size w W := by rw [HW.out]; (repeat (first | exact Below.refl _ _ | refine Below.alloc ?_ (by simp; try omega) _ | refine Below.setCell ?_ (by simp) _ | refine Below.drew ?_))
  have g0 : W.cell? ⟨w.heap.size, 0, none⟩ = some (.int .i64 wd) := by rw [HW.out]; simp [go_sem]
  have g1 : W.cell? ⟨w.heap.size, 1, none⟩ = some (.int .i64 ht) := by rw [HW.out]; simp [go_sem]
  have g2 : W.cell? ⟨w.heap.size, 2, none⟩ = some (.slice s F.length cap) := by rw [HW.out]; simp [go_sem]
  have gl : w.heap.size < W.heap.size := World.block_lt_of_cell? W _ g0
  have hmk := run_make_rows ht (by omega) W
  have hb0 : Below W.heap.size W (W.alloc (.cells (List.replicate ht (Value.slice none 0 0)).toArray 75)) := (Below.refl _ W).alloc (Nat.le_refl _) _
  have ht0 : Tbl boolE 75 4 (W.alloc (.cells (List.replicate ht (Value.slice none 0 0)).toArray 75)) W.heap.size (.slice (some ⟨W.heap.size, 0, none⟩) ht ht) (List.replicate ht ⟨none, 0, 0⟩) (stg ht T 0) := by
    rw [hT0.out]; exact Tbl.made (heap_alloc_new W _) (Nat.le_refl _) (by omega)
  obtain ⟨X0, hX0⟩ : ∃ x, W.alloc (.cells (List.replicate ht (Value.slice none 0 0)).toArray 75) = x := ⟨_, rfl⟩
  rw [hX0] at hb0 ht0 hmk
  replace hX0 := Lib.hid hX0; replace ht0 := Lib.hid ht0; replace hb0 := Lib.hid hb0
  go_wp2
  go_loopw [12] (fun ii V => ∃ (i : Nat) (ss : List Sv), i ≤ ht ∧ ii = .int .i64 i ∧ Tbl boolE 75 4 V W.heap.size (.slice (some ⟨W.heap.size, 0, none⟩) ht ht) ss (stg ht T i) ∧ Below W.heap.size W V) (fun ii _ => ht - (intOf ii).toNat)
  case atStart => exact ⟨0, _, by omega, rfl, ht0.out, hb0.out⟩
  case round =>
    clear ht0 hb0
    obtain ⟨i, ss, hi, rfl, htb, hbl⟩ := hrel
    replace g0 := Up.cell hbl g0
    replace g1 := Up.cell hbl g1
    replace g2 := Up.cell hbl g2
    have gl2 := World.block_lt_of_cell? _ _ g0
    have hbs := hbl.size
    have hln := hTn.out i hi
    by_cases hlt : i < ht
    · have hset := hTs.out i hlt
      have i4 : (0 : Int) ≤ (i : Int) := by omega
      have i5 : (i : Int) < (ht : Int) := by omega
      have bb : Below wr.heap.size wr (wr.alloc (.cells #[.bool true] 4)) := (Below.refl _ wr).alloc (Nat.le_refl _) _
      have htb1 := Lib.hid (up_of bb htb)
      have hr1 := Lib.hid (hrep.out (wr.alloc (.cells #[.bool true] 4)) wr.heap.size (by simp [go_sem]))
      have hbl1 := Lib.hid (hbl.trans (bb.mono hbs))
      have hsN : ∀ j (hj : j < ss.length) g, ss[j].val.ownBlock = some g → g < wr.heap.size := fun j hj g e => (htb.lt hj e).2
      have hiR : i < (stg ht T i).length := by rw [hln]; exact hlt
      replace hsN := Lib.hid hsN; replace hset := Lib.hid hset
      clear htb bb
      go_wp2_with (go_at_call 79; refine hr1.out.mono ?_; rintro e V2 ⟨sx, cx, rfl, hox, hbx⟩; have htb2 := up_of hbx htb1.out; have hbl2 := hbl1.out.trans (hbx.mono (by simp; omega)); obtain ⟨b2, e2, _, hfz2, hs2, hc2, _⟩ := htb2.head (i := i) hiR; cases e2)
      go_roundw
      case rel =>
        have hp := Tbl.puts htb2 (i := i) hiR (L := T) hox (by simp; omega) (fun j hj g e => by have := hsN.out j hj g e; simp; omega) (by simp; omega)
        rw [hset.out] at hp
        exact ⟨i + 1, _, by omega, by go_num, hp, hbl2.setCell (by simp) _⟩
      case measure => exact meas hlt
    · obtain rfl : i = ht := by omega
      rw [hTa.out, ← hf0.out] at htb
      replace htb := Lib.hid htb
      replace hbl := Lib.hid hbl
      go_wp2
      go_loopw [26] (fun ii V => ∃ (k : Nat) (ss : List Sv), k ≤ F.length ∧ ii = .int .i64 k ∧ Tbl boolE 75 4 V W.heap.size (.slice (some ⟨W.heap.size, 0, none⟩) i i) ss (fld wd i (F.take k)) ∧ Below W.heap.size W V) (fun ii _ => F.length - (intOf ii).toNat)
      case atStart => exact ⟨0, _, by omega, rfl, htb.out, hbl.out⟩
      case round =>
        clear htb hbl
        obtain ⟨k, ss, hk, rfl, htb, hbl⟩ := hrel
        have hbw := hB.trans (hbl.mono hB.size)
        by_cases hlk : k < F.length
        · obtain ⟨bk, ok, rfl, hbk, x0, x1⟩ := (up_of hbw h0.out).cel_at hlk
          have hc := hon.out _ (List.getElem_mem hlk)
          obtain ⟨cx, cy, hcxy, hcx, hcy⟩ : ∃ cx cy : Nat, F[k] = ⟨cx, cy⟩ ∧ cx < wd ∧ cy < i := ⟨F[k].x.toNat, F[k].y.toNat, by
            rcases hq : F[k] with ⟨a, b⟩
            rw [hq] at hc
            simp only at hc ⊢
            rw [Cel.mk.injEq]
            omega, by omega, by omega⟩
          have hsn := hfs.out k hlk cx cy hcx hcy hcxy
          have hl1 := hfl.out k
          have hl2 := hfr.out k cy hcy
          rw [hcxy] at x0 x1
          simp only at x0 x1
          replace hcxy := Lib.hid hcxy
          have i4 : (0 : Int) ≤ (k : Int) := by omega
          have i5 : (k : Int) < (F.length : Int) := by omega
          have j1 : (0 : Int) ≤ (cx : Int) := by omega
          have j2 : (cx : Int) < (wd : Int) := by omega
          have j3 : (0 : Int) ≤ (cy : Int) := by omega
          have j4 : (cy : Int) < (i : Int) := by omega
          obtain ⟨R, hR⟩ : ∃ x, fld wd i (F.take k) = x := ⟨_, rfl⟩
          simp only [hR] at hsn hl1 hl2 htb
          replace hR := Lib.hid hR; replace hsn := Lib.hid hsn
          replace htb := Lib.hid htb; replace hbl := Lib.hid hbl
          go_upto_region 10 with (fail)
          refine wp_world fun Y HY => ?_
          have hY : Below wr.heap.size wr Y := by rw [HY.out]; (repeat (first | exact Below.refl _ _ | refine Below.alloc ?_ (by simp; try omega) _ | refine Below.setCell ?_ (by simp) _ | refine Below.drew ?_))
          have c0 : Y.cell? ⟨wr.heap.size, 0, none⟩ = some (.int .i64 cx) := by rw [HY.out]; simp [go_sem]
          have c1 : Y.cell? ⟨wr.heap.size, 1, none⟩ = some (.int .i64 cy) := by rw [HY.out]; simp [go_sem]
          have cl : wr.heap.size < Y.heap.size := World.block_lt_of_cell? Y _ c0
          try replace hB := up_of hY hB
          try replace g0 := up_of hY g0
          try replace g1 := up_of hY g1
          try replace g2 := up_of hY g2
          try replace gl := up_of hY gl
          have htbY := up_of hY htb.out
          have htbD : Tbl boolE 75 4 Y.drew W.heap.size (.slice (some ⟨W.heap.size, 0, none⟩) i i) ss R := htbY.upto fun _ _ _ => rfl
          have hyR : cy < R.length := by omega
          have hxR : cx < R[cy].length := by omega
          obtain ⟨b2, gi, ci, e2, hbb, hgg, q0, q1, qf, -, hbg⟩ := htbY.cell (i := cy) (j := cx) hyR hxR
          cases e2
          obtain ⟨b3, gi3, ci3, e3, -, -, p0, -, -, pset, -⟩ := htbD.cell (i := cy) (j := cx) hyR hxR
          cases e3
          have hgi : gi3 = gi := by
            have : Y.drew.cell? ⟨W.heap.size, cy, none⟩ = Y.cell? ⟨W.heap.size, cy, none⟩ := rfl
            rw [this, q0] at p0
            simp at p0
            exact p0.1.symm
          rw [hgi] at pset
          have hps := Lib.hid (pset false)
          have hrl : R[cy].length = wd := hl2
          have hblY := Lib.hid (hbl.out.trans ((hY.drew).mono hbl.out.size))
          clear p0 pset hgi htbD htbY
          obtain ⟨LL, hLL⟩ : ∃ x, R[cy].length = x := ⟨_, rfl⟩
          obtain ⟨BV, hBV⟩ : ∃ x, R[cy][cx] = x := ⟨_, rfl⟩
          rw [hLL] at q0 hrl
          rw [hBV] at q1
          replace hLL := Lib.hid hLL; replace hBV := Lib.hid hBV
          go_region
          all_goals
            go_wp2
            go_roundw
            case rel => exact ⟨k + 1, ss, by omega, by go_num, by rw [hsn.out]; exact hps.out, hblY.out.setCell hgg.1 _⟩
            case measure => exact meas hlk
        · obtain rfl : k = F.length := by omega
          rw [hfa.out] at htb
          have hfin := htb.mono (b' := w.heap.size) (by have := hB.size; omega)
          have hFl2 : (fld wd i F).length = i := hFn.out
          replace hfin := Lib.hid hfin
          clear htb
          go_wp2
          go_ret
          exact ⟨some ⟨W.heap.size, 0, none⟩, i, ss, by rw [hFl2]; rfl, by rw [hFl2]; exact hfin.out, hbw⟩
end Go.Proofs.Ytbabdoafpljdbaa
