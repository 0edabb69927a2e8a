/- How many columns can stand: the reference. -/
import Derived.Test.YtbabdoafpljdbaaMd35
namespace Go.Proofs.Ytbabdoafpljdbaa
open Go.RowKit

/-- The first j cells of a row are taken away. -/
def cutJ (row : List Bool) (j : Nat) : List Bool := row.mapIdx fun (x : Nat) b => b && decide (j ≤ x)
theorem cutJ_len (row : List Bool) (j : Nat) : (cutJ row j).length = row.length := by simp [cutJ]
theorem cutJ_zero (row : List Bool) : cutJ row 0 = row := by
  apply List.ext_getElem
  · simp [cutJ]
  · intro x h1 h2; simp [cutJ]
theorem cutJ_set (row : List Bool) (j : Nat) : (cutJ row j).set j false = cutJ row (j + 1) := by
  apply List.ext_getElem
  · simp [cutJ]
  · intro x h1 h2
    rw [List.getElem_set]
    by_cases e : j = x
    · subst e; simp [cutJ]
    · rw [if_neg e]
      simp only [cutJ, List.getElem_mapIdx]
      congr 1
      rw [decide_eq_decide]; omega
theorem cutJ_all (row : List Bool) (k : Nat) : cutJ row (k + 1) = cutRow row k := by
  unfold cutJ cutRow
  congr 1
  funext x b
  congr 1
  rw [decide_eq_decide]; omega
section
variable {T t : Nat} {V V' : World} {base : Nat} {n cap b : Nat} {ss : List Sv}
theorem Tbl.rowB {R : List (List Bool)} (h : Tbl boolE T t V base (.slice (some ⟨b, 0, none⟩) n cap) ss R) {i : Nat} (hi : i < R.length) (hp : 0 < R[i].length) :
    ∃ gi ci, ∃ (hs : i < ss.length), ss[i] = ⟨some ⟨gi, 0, none⟩, R[i].length, ci⟩ ∧ base ≤ gi ∧ gi < V.heap.size := by
  obtain ⟨b, _, hb, _, hs, hc, hv⟩ := h.head hi
  have hrow := h.row i hi hs
  rw [hv] at hrow
  obtain ⟨gi, e, h1, h2⟩ := own_ex hrow hp
  refine ⟨gi, ss[i].cap, hs, ?_, h1, h2⟩
  rcases hq : ss[i] with ⟨a, l, c⟩
  rw [hq] at hv e
  simp only [Sv.val, Value.slice.injEq] at hv e
  rw [e, hv.2.1]
theorem Tbl.atB {R : List (List Bool)} (h : Tbl boolE T t V base (.slice (some ⟨b, 0, none⟩) n cap) ss R) {i : Nat} (hi : i < R.length) (hs : i < ss.length) {gi ci m : Nat} (e : ss[i] = ⟨some ⟨gi, 0, none⟩, m, ci⟩) :
    m = R[i].length ∧ (base ≤ gi ∧ gi < V.heap.size) ∧ V.cell? ⟨b, i, none⟩ = some (.slice (some ⟨gi, 0, none⟩) m ci) ∧ ∀ j (hj : j < R[i].length), V.cell? ⟨gi, j, none⟩ = some (.bool R[i][j]) ∧ V.frozen? ⟨gi, j, none⟩ = false ∧
      (∀ x, Tbl boolE T t (V.setCell ⟨gi, j, none⟩ (.bool x)) base (.slice (some ⟨b, 0, none⟩) n cap) ss (R.set i (R[i].set j x))) := by
  obtain ⟨b', eb, hb, _, hs', hc, hv⟩ := h.head hi
  cases eb
  have hrow := h.row i hi hs
  rw [hv] at hrow
  have hm : m = R[i].length := by
    rw [e] at hv
    simp only [Sv.val, Value.slice.injEq] at hv
    exact hv.2.1
  subst hm
  have ea : ss[i].addr = some ⟨gi, 0, none⟩ := by rw [e]
  have ec : ss[i].cap = ci := by rw [e]
  rw [ea, ec] at hc hrow hv
  have hg := hrow.lt gi rfl
  refine ⟨rfl, hg, hc, fun j hj => ⟨owns_cell hrow (boolE_at _ hj), World.ownsRow.frozenAt hrow j, fun x => ?_⟩⟩
  have hst := hrow.stored j (.bool x)
  rw [boolE_set] at hst
  refine h.set hs (L := R[i].set j x) (V' := V.setCell ⟨gi, j, none⟩ (.bool x)) ?_ ?_
  · rw [hv]; exact hst.2
  · rw [hv, List.length_set]; exact hst.1
end
theorem sl_setCell {V : World} {s : Option Addr} {l : List Int} {g o : Nat} {v : Value} (h : SlS intE V s l) (hs : ∀ b o, s = some ⟨b, o, none⟩ → g < b) : SlS intE (V.setCell ⟨g, o, none⟩ v) s l :=
  h.block (by simp [World.setCell]) fun b o e _ => Below.heap_setCell V ⟨g, _, none⟩ v b (by have := hs b o e; show b ≠ g; omega)
set_option maxRecDepth 100000 in
set_option maxHeartbeats 2000000 in
theorem rMost_c (wd ht r : Int) (s : Option Addr) (cap : Nat) (F : List Cel) (w : World) (h : Cels w s cap F) :
    Calls Try.prog 39 #[.agg #[.int .i64 wd, .int .i64 ht, .slice s F.length cap], .int .i64 r] w fun e w' => e = .returned (.tuple #[.int .i64 ((clR wd ht F r).length : Nat), .int .i64 (opE wd ht F r)]) ∧ Below w.heap.size w w' := by
  have hop := fun V (h : Cels V s cap F) => asked_c wd ht r s cap F V h
  have hl := h.len
  by_cases h1 : opE wd ht F r = 0
  case neg =>
    rw [show (clR wd ht F r).length = 0 by simp [clR, h1]]
    obtain ⟨E, hE⟩ : ∃ E, opE wd ht F r = E := ⟨_, rfl⟩
    rw [hE] at hop h1 ⊢
    have h2 : (E != 0) = true := by simpa using h1
    replace hop := Lib.hid hop
    clear hE h1
    go_enter Try.func39, Try.ntmps39
    go_upto_region 1 with (fail)
    refine wp_world fun W HW => ?_
    have hB : Below w.heap.size w W := by rw [HW.out]; (repeat (first | exact Below.refl _ _ | refine Below.alloc ?_ (by simp; try omega) _ | refine Below.setCell ?_ (by simp) _ | refine Below.drew ?_))
    have g0 : W.cell? ⟨w.heap.size, 0, none⟩ = some (.int .i64 wd) := by rw [HW.out]; simp [go_sem]
    have g1 : W.cell? ⟨w.heap.size, 1, none⟩ = some (.int .i64 ht) := by rw [HW.out]; simp [go_sem]
    have g2 : W.cell? ⟨w.heap.size, 2, none⟩ = some (.slice s F.length cap) := by rw [HW.out]; simp [go_sem]
    have gl : w.heap.size < W.heap.size := World.block_lt_of_cell? W _ g0
    try replace h := up_of hB h
    go_wp2_with (first | (go_at_call 50; refine (hop.out _ h).mono ?_; rintro e W1 ⟨rfl, hb⟩; (try replace h := up_of hb h); (try replace hB := up_of hb hB); (try replace g0 := up_of hb g0); (try replace g1 := up_of hb g1); (try replace g2 := up_of hb g2); (try replace gl := up_of hb gl)))
    go_ret2
    exact ⟨rfl, hB⟩
  obtain ⟨hv, hr⟩ := opE_ok h1
  obtain ⟨f1, f2, f3⟩ := fld_facts hv
  obtain ⟨g1, g2, g3, -⟩ := gv_nat hv
  rw [show clR wd ht F r = colsM r 13 (fld wd.toNat ht.toNat F) by simp [clR, h1], h1]
  rw [h1] at hop
  obtain ⟨wd, rfl⟩ : ∃ n : Nat, wd = n := ⟨wd.toNat, g1.symm⟩
  obtain ⟨ht, rfl⟩ : ∃ n : Nat, ht = n := ⟨ht.toNat, g2.symm⟩
  simp only [Int.toNat_natCast] at f1 f2 f3 g3 ⊢
  obtain ⟨r, rfl⟩ : ∃ n : Nat, r = n := ⟨r.toNat, by omega⟩
  have hr3 : r ≤ 3 := by omega
  have hfo := fun V (h : Cels V s cap F) => (fieldOf_c wd ht s cap F V h hv).mono (R' := fun e w' => (∃ s cap ss, e = .returned (.slice s (fld wd ht F).length cap) ∧ Tbl boolE 75 4 w' V.heap.size (.slice s (fld wd ht F).length cap) ss (fld wd ht F)) ∧ Below V.heap.size V w') (fun e w' ⟨s, cap, ss, he, ht, hb⟩ => ⟨⟨s, cap, ss, he, ht⟩, hb⟩)
  have hlv : liveN (fld wd ht F) < 13 := by
    unfold liveN
    rw [headD_at (by omega)]
    have h1 := List.length_filter_le id (fld wd ht F)[0]
    have h2 := f2 _ (List.getElem_mem (show 0 < (fld wd ht F).length by omega))
    omega
  obtain ⟨R, hR⟩ : ∃ x, fld wd ht F = x := ⟨_, rfl⟩
  simp only [hR] at hfo f1 f2 hlv ⊢
  obtain ⟨C, hC⟩ : ∃ x, (colsM (r : Int) 13 R).length = x := ⟨_, rfl⟩
  rw [hC]
  obtain ⟨nw, hnw⟩ : ∃ n, wd = n := ⟨_, rfl⟩
  have f2 : ∀ row ∈ R, row.length = nw := hnw ▸ f2
  obtain ⟨hw1, hw2⟩ : 1 ≤ nw ∧ nw ≤ 12 := ⟨by omega, by omega⟩
  obtain ⟨f4, f5⟩ := f1
  replace hop := Lib.hid hop; replace hfo := Lib.hid hfo; replace hR := Lib.hid hR; replace hC := Lib.hid hC; replace hlv := Lib.hid hlv; replace f2 := Lib.hid f2; replace hnw := Lib.hid hnw
  clear h1 hv g1 g2
  go_enter Try.func39, Try.ntmps39
  go_upto_region 1 with (fail)
  refine wp_world fun W HW => ?_
  have hB : Below w.heap.size w W := by rw [HW.out]; (repeat (first | exact Below.refl _ _ | refine Below.alloc ?_ (by simp; try omega) _ | refine Below.setCell ?_ (by simp) _ | refine Below.drew ?_))
  have g0 : W.cell? ⟨w.heap.size, 0, none⟩ = some (.int .i64 wd) := by rw [HW.out]; simp [go_sem]
  have g1 : W.cell? ⟨w.heap.size, 1, none⟩ = some (.int .i64 ht) := by rw [HW.out]; simp [go_sem]
  have g2 : W.cell? ⟨w.heap.size, 2, none⟩ = some (.slice s F.length cap) := by rw [HW.out]; simp [go_sem]
  have gl : w.heap.size < W.heap.size := World.block_lt_of_cell? W _ g0
  try replace h := up_of hB h
  go_upto_region 4 with (first | (go_at_call 50; refine (hop.out _ h).mono ?_; rintro e W1 ⟨rfl, hb⟩; (try replace h := up_of hb h); (try replace hB := up_of hb hB); (try replace g0 := up_of hb g0); (try replace g1 := up_of hb g1); (try replace g2 := up_of hb g2); (try replace gl := up_of hb gl)))
  clear hb
  have hBs := hB.size
  go_upto_region 5 with (go_at_call 51; refine (hfo.out _ h).mono ?_; rintro e A1 ⟨⟨s1, k1, ss1, rfl, ht1⟩, hb1⟩)
  obtain ⟨gb, rfl, hgb, -⟩ := ht1.head (i := 0) (by omega)
  have hBA := hB.trans (hb1.mono hBs)
  have htb1 := ht1.mono hBs
  replace htb1 := Lib.hid htb1
  clear ht1 hb1
  go_wp2
  go_loopw [8] (fun v V => ∃ (P : List (List Bool)) (ss : List Sv) (n m : Nat), v = .int .i64 m ∧ Tbl boolE 75 4 V w.heap.size (.slice (some ⟨gb, 0, none⟩) R.length k1) ss P ∧ Below w.heap.size w V ∧ Hid (liveN P < n) ∧ Hid (C = m + (colsM r n P).length) ∧ Hid (∀ row ∈ P, row.length = nw) ∧ Hid (P.length = R.length) ∧ m + n = 13) (fun v _ => 13 - (intOf v).toNat)
  case atStart => exact ⟨R, ss1, 13, 0, rfl, htb1.out, hBA, hlv, by rw [hC.out]; show C = 0 + C; omega, f2, rfl, rfl⟩
  case round =>
    clear htb1 hBA
    obtain ⟨P, ss, n, m, rfl, htb, hbe, hlive, hcol, hPw, hPl, hmn⟩ := hrel
    have hlm := rleftmost_c (some ⟨gb, 0, none⟩) k1 P r nw _ htb.seen (by have := hPl.out; omega) hPw.out ⟨hw1, hw2⟩ hr3
    unfold LmRet at hlm
    rw [hPl.out] at hlm
    obtain ⟨n, rfl⟩ : ∃ j, n = j + 1 := ⟨n - 1, by have := hlive.out; omega⟩
    obtain ⟨V, rfl⟩ : ∃ V, V = wr := ⟨wr, rfl⟩
    have hbes := hbe.size
    cases hlf : leftL (r : Int) P with
    | none =>
      simp only [hlf, Option.getD_none, List.length_nil] at hlm
      have hce : m = C := by rw [hcol.out, colsM_none hlf]; rfl
      subst hce
      replace hlm := Lib.hid hlm
      clear hlf hcol htb hC
      have hq : ∀ w : World, (binOp .eql 36 (.slice none 0 0) (.slice none 0 0)).run Try.prog w = .ok (.bool true) w := fun w => Lib.run_eql_slice_nil w 36 3 _ _ _ _ _ Try.underlying36
      go_wp2_with (go_at_call 65; refine hlm.out.mono ?_; rintro e V1 ⟨⟨s3, k3, rfl, hnn, hown⟩, hb1⟩; obtain ⟨rfl, rfl⟩ := hnn trivial)
      go_ret2
      exact ⟨rfl, hbe.trans (hb1.mono hbes)⟩
    | some c =>
      simp only [hlf, Option.getD_some] at hlm
      obtain ⟨hcl0, hcv⟩ := leftL_is hPw.out hlf
      have hless := live_less hPw.out (by have := hPl.out; omega) hlf
      have hcm : colsM (r : Int) (n + 1) P = c :: colsM (r : Int) n (cutP P c) := colsM_succ hlf
      have hcu0 := cutTo_zero P c
      have hcuS := fun (y : Nat) (hy : y < P.length) (hc : y < c.length) => cutTo_set (P := P) (c := c) hy hc
      have hcuR := fun (y : Nat) (hy : y < P.length) => cutTo_row (P := P) (c := c) (n := y) hy (Nat.le_refl _)
      have hcuL := fun (y : Nat) => cutTo_len P c y
      have hcuW := fun (y : Nat) => cutP_rows (P := P) (c := c) (n := y) hPw.out
      have hcuE : cutTo P c P.length = cutP P c := rfl
      have hlo : ∀ j (hj : j < ss.length) g, ss[j].val.ownBlock = some g → g < V.heap.size := fun j hj g e => (htb.lt hj e).2
      have hc8 : c.length ≤ 8 ∧ 1 ≤ c.length := by have := hPl.out; omega
      replace hlm := Lib.hid hlm; replace hcl0 := Lib.hid hcl0; replace hcv := Lib.hid hcv; replace hless := Lib.hid hless; replace hcm := Lib.hid hcm; replace hcu0 := Lib.hid hcu0; replace hcuS := Lib.hid hcuS; replace hcuR := Lib.hid hcuR; replace hcuL := Lib.hid hcuL; replace hcuW := Lib.hid hcuW; replace hcuE := Lib.hid hcuE; replace hlo := Lib.hid hlo; replace htb := Lib.hid htb
      clear hlf
      go_upto_region 7 with (go_at_call 65; refine hlm.out.mono ?_; rintro e V1 ⟨⟨s3, k3, rfl, -, hown⟩, hb1⟩)
      have hsc := SlS.of_own (E := intE) hown
      obtain ⟨g3, rfl, hg3, -⟩ := own_ex hown (by omega)
      have hq : ∀ w : World, (binOp .eql 36 (.slice (some ⟨g3, 0, none⟩) c.length k3) (.slice none 0 0)).run Try.prog w = .ok (.bool false) w := fun w => Lib.run_eql_slice_nil w 36 3 _ _ _ _ _ Try.underlying36
      have htb1 := up_of hb1 htb.out
      rw [← hcu0.out] at htb1
      have hbe1 := hbe.trans (hb1.mono hbes)
      have wm : IntKind.i64.wrap ((m : Int) + 1) = (m : Int) + 1 := i64_small (by omega)
      replace htb1 := Lib.hid htb1; replace hsc := Lib.hid hsc; replace hbe1 := Lib.hid hbe1
      clear hown htb hbe hb1
      go_wp2
      go_loopw [31] (fun ii V => ∃ y : Nat, y ≤ c.length ∧ ii = .int .i64 y ∧ Tbl boolE 75 4 V w.heap.size (.slice (some ⟨gb, 0, none⟩) R.length k1) ss (cutTo P c y) ∧ Below w.heap.size w V ∧ SlS intE V (some ⟨g3, 0, none⟩) c) (fun ii _ => c.length - (intOf ii).toNat)
      case atStart => exact ⟨0, by omega, rfl, htb1.out, hbe1.out, hsc.out⟩
      case round =>
        clear htb1 hbe1 hsc
        obtain ⟨y, hy, rfl, htb, hbe, hsc⟩ := hrel
        by_cases hly : y < c.length
        · have hyP : y < P.length := by have := hcl0.out; omega
          have hyR : y < R.length := by have := hPl.out; omega
          obtain ⟨k, hk, _, hck⟩ := hcv.out y hyP hly
          obtain ⟨bc, oc, ec, hbc, q0⟩ := hsc.int_at hly
          have hset := hcuS.out y hyP hly
          have hrw := hcuR.out y hyP
          have hrowl := hPw.out _ (List.getElem_mem hyP)
          rw [hck] at q0 hset
          have hiP : y < (cutTo P c y).length := by rw [hcuL.out]; exact hyP
          have hrl2 : ((cutTo P c y)[y]'hiP).length = nw := by rw [hrw]; exact hrowl
          obtain ⟨gi, ci, hsi, egi, -, -⟩ := htb.rowB hiP (by omega)
          rw [hrl2] at egi
          have hgi3 : gi < g3 := by
            have := hlo.out y hsi gi (by rw [egi]; rfl)
            omega
          have e0 : (cutTo P c y).set y (cutJ P[y] 0) = cutTo P c y := by rw [cutJ_zero, ← hrw, List.set_getElem_self]
          have e1 : (cutTo P c y).set y (cutJ P[y] (k + 1)) = cutTo P c (y + 1) := by rw [cutJ_all]; exact hset
          have hjl := fun j => cutJ_len P[y] j
          simp only [hrowl] at hjl
          have hjs := fun j => cutJ_set P[y] j
          have hTl : (cutTo P c y).length = P.length := hcuL.out y
          obtain ⟨row, hrow⟩ : ∃ x, P[y] = x := ⟨_, rfl⟩
          obtain ⟨TT, hTT⟩ : ∃ x, cutTo P c y = x := ⟨_, rfl⟩
          simp only [hrow, hTT] at e0 e1 hjl hjs hTl htb
          rw [← e0] at htb
          have hyT : y < TT.length := by rw [hTl]; exact hyP
          have i1 : (0 : Int) ≤ (y : Int) := by omega
          have i2 : (y : Int) < (c.length : Int) := by omega
          have i3 : (y : Int) < (R.length : Int) := by omega
          have w1' : IntKind.i64.wrap ((k : Int) + 1) = (k : Int) + 1 := i64_small (by omega)
          replace hset := Lib.hid hset; replace hrw := Lib.hid hrw; replace hck := Lib.hid hck; replace hrowl := Lib.hid hrowl; replace hrl2 := Lib.hid hrl2; replace egi := Lib.hid egi; replace e0 := Lib.hid e0; replace e1 := Lib.hid e1; replace hjl := Lib.hid hjl; replace hjs := Lib.hid hjs; replace hTl := Lib.hid hTl; replace hrow := Lib.hid hrow; replace hTT := Lib.hid hTT; replace htb := Lib.hid htb; replace hsc := Lib.hid hsc; replace hbe := Lib.hid hbe
          cases ec
          rw [Nat.zero_add] at q0
          go_wp2
          go_loopw [38] (fun ii V => ∃ j : Nat, j ≤ k + 1 ∧ ii = .int .i64 j ∧ Tbl boolE 75 4 V w.heap.size (.slice (some ⟨gb, 0, none⟩) R.length k1) ss (TT.set y (cutJ row j)) ∧ Below w.heap.size w V ∧ SlS intE V (some ⟨g3, 0, none⟩) c) (fun ii _ => k + 1 - (intOf ii).toNat)
          case atStart => exact ⟨0, by omega, rfl, htb.out, hbe.out, hsc.out⟩
          case round =>
            clear htb hbe hsc q0
            obtain ⟨j, hj, rfl, htb, hbe, hsc⟩ := hrel
            by_cases hlj : j < k + 1
            · have hyS : y < (TT.set y (cutJ row j)).length := by rw [List.length_set]; exact hyT
              have er : (TT.set y (cutJ row j))[y]'hyS = cutJ row j := List.getElem_set_self ..
              obtain ⟨-, hgi, qh, qa⟩ := htb.atB hyS hsi egi.out
              have hjn : j < nw := by omega
              obtain ⟨q1, qf, qs⟩ := qa j (by rw [er, hjl.out]; exact hjn)
              have htb2 := qs false
              simp only [er, List.set_set, hjs.out] at htb2
              obtain ⟨v0, hv0⟩ : ∃ z, (TT.set y (cutJ row j))[y][j]'(by rw [er, hjl.out]; exact hjn) = z := ⟨_, rfl⟩
              rw [hv0] at q1
              have hbe2 := hbe.setCell (p := ⟨gi, j, none⟩) hgi.1 (.bool false)
              have hsc2 := sl_setCell (o := j) (v := .bool false) hsc (fun b o e => by cases e; exact hgi3)
              have j1 : (0 : Int) ≤ (j : Int) := by omega
              have j2 : (j : Int) < (nw : Int) := by omega
              have j3 : (j : Int) < (k : Int) + 1 := by omega
              replace htb2 := Lib.hid htb2; replace hbe2 := Lib.hid hbe2; replace hsc2 := Lib.hid hsc2; replace er := Lib.hid er; replace hv0 := Lib.hid hv0
              clear qs qa htb
              go_wp2
              go_roundw
              case rel => exact ⟨j + 1, by omega, by go_num, htb2.out, hbe2.out, hsc2.out⟩
              case measure => exact meas hlj
            · obtain rfl : j = k + 1 := by omega
              rw [e1.out] at htb
              have j3 : ¬ (((k + 1 : Nat)) : Int) < (k : Int) + 1 := by omega
              replace htb := Lib.hid htb; replace hsc := Lib.hid hsc
              go_wp2
              go_roundw
              case rel => exact ⟨y + 1, by omega, by go_num, htb.out, hbe, hsc.out⟩
              case measure => exact meas hly
        · obtain rfl : y = c.length := by omega
          have e1 : cutTo P c c.length = cutP P c := by rw [hcl0.out]; exact hcuE.out
          rw [e1] at htb
          have hcolN : C = ((m + 1 : Nat)) + (colsM r n (cutP P c)).length := by rw [hcol.out, hcm.out, List.length_cons]; omega
          have hW2 : ∀ row ∈ cutP P c, row.length = nw := hcuW.out P.length
          have hPl2 : (cutP P c).length = R.length := by unfold cutP; rw [hcuL.out]; exact hPl.out
          have hliv2 : liveN (cutP P c) < n := by have := hless.out; have := hlive.out; omega
          replace htb := Lib.hid htb; replace hcolN := Lib.hid hcolN; replace hW2 := Lib.hid hW2; replace hPl2 := Lib.hid hPl2; replace hliv2 := Lib.hid hliv2; replace e1 := Lib.hid e1
          clear hsc
          go_wp2
          go_roundw
          case rel => exact ⟨cutP P c, ss, n, m + 1, by go_num, htb.out, hbe, hliv2, hcolN, hW2, hPl2, by omega⟩
          case measure => simp [intOf] <;> omega
end Go.Proofs.Ytbabdoafpljdbaa
