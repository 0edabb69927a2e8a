/- By what numbers claims of a kernel collide: the reference. -/
import Derived.Test.YtgeoehokojijdaaMix12
import Derived.Test.YtgeoehokojijdaaMix20
namespace Go.Proofs.Ytgeoehokojijdaa
open Go.RowKit

def rowC (B : List Clm) (x : Clm) : List Int := (B.filter fun y => decide (x.cell = y.cell)).map fun y => y.time - x.time
def colD (A B : List Clm) : List Int := A.flatMap (rowC B)
theorem rowC_mem (D : List Int) (B : List Clm) (x : Clm) (n : Int) {j : Nat} (hj : j < B.length) :
    decide (n ∈ D ++ rowC (B.take (j + 1)) x) = (decide (n ∈ D ++ rowC (B.take j) x) || (decide (x.cell = B[j].cell) && decide (B[j].time - x.time = n))) := by
  have e : rowC (B.take (j + 1)) x = rowC (B.take j) x ++ (if x.cell = B[j].cell then [B[j].time - x.time] else []) := by
    unfold rowC
    rw [List.take_succ_eq_append_getElem hj, List.filter_append, List.map_append]
    congr 1
    by_cases h : x.cell = B[j].cell <;> simp [h]
  rw [e, ← List.append_assoc, Bool.eq_iff_iff, Bool.or_eq_true, decide_eq_true_iff, decide_eq_true_iff, Bool.and_eq_true, decide_eq_true_iff, decide_eq_true_iff, List.mem_append]
  refine or_congr Iff.rfl ?_
  by_cases h : x.cell = B[j].cell
  · rw [if_pos h]; simp [h, eq_comm]
  · rw [if_neg h]; simp [h]
theorem colD_end (A B : List Clm) {i : Nat} (hi : i < A.length) : colD (A.take i) B ++ rowC (B.take B.length) A[i] = colD (A.take (i + 1)) B := by
  unfold colD
  rw [List.take_length, List.take_succ_eq_append_getElem hi, List.flatMap_append]; simp
theorem rowC_zero (D : List Int) (B : List Clm) (x : Clm) : D ++ rowC (B.take 0) x = D := by simp [rowC]
/-- What has come of the list when the numbers below n + 1 are looked at. -/
def colTo (D : List Int) (n : Nat) : List Int := ((List.range n).filter fun (m : Nat) => decide ((m : Int) + 1 ∈ D)).map fun (m : Nat) => (m : Int) + 1
theorem colTo_succ (D : List Int) (n : Nat) : colTo D (n + 1) = colTo D n ++ (if (n : Int) + 1 ∈ D then [(n : Int) + 1] else []) := by
  unfold colTo
  rw [List.range_succ, List.filter_append, List.map_append]
  congr 1
  by_cases h : (n : Int) + 1 ∈ D <;> simp [h]
theorem colTo_len (D : List Int) (n : Nat) : (colTo D n).length ≤ n := by
  unfold colTo; rw [List.length_map]
  exact Nat.le_trans (List.length_filter_le _ _) (by simp)
def colE (l : List Clm) : Int := if kernB l then 0 else 90
def colL (l : List Clm) : List Int := if kernB l then colTo (colD l l) 50 else []
theorem kern_facts {l : List Clm} (h : kernB l = true) : l.length ≤ 20 ∧ ∀ c ∈ l, (0 ≤ c.cell ∧ c.cell ≤ 15) ∧ 0 ≤ c.time ∧ c.time ≤ 50 := by
  have hv : vldB [l] = true := by simp [vldB, bw, h]
  exact ⟨(vldB_l hv (by simp)).2.2, fun c hc => vldB_c hv (l := l) (by simp) hc⟩
set_option maxRecDepth 100000 in
set_option maxHeartbeats 2000000 in
theorem rCollide_c (s : Option Addr) (cap : Nat) (l : List Clm) (w : World) (h : SlS clmE w s l) (hl : l.length ≤ 9223372036854775807) (hcap : l.length ≤ cap) :
    Calls Try.prog 43 #[.slice s l.length cap] w (IntsErr (colL l) (colE l) w) := by
  have H := Lib.hid (rIsKernel_c s cap l w h hl hcap)
  cases h1 : kernB l
  · rw [show colL l = [] by simp [colL, h1], show colE l = 90 by simp [colE, h1]]
    rw [h1] at H
    clear h
    go_enter Try.func43, Try.ntmps43
    go_wp2_with (go_at_call 52; refine H.out.mono ?_; rintro e W1 ⟨rfl, hb⟩)
    go_ret2
    exact IntsErr.nil hb
  rw [h1] at H
  obtain ⟨hl20, hcl⟩ := kern_facts h1
  rw [show colL l = colTo (colD l l) 50 by simp [colL, h1], show colE l = 0 by simp [colE, h1]]
  have hdA := fun (i : Nat) hi => colD_end l l (i := i) hi
  have hdB := fun D x (n : Int) (j : Nat) hj => rowC_mem D l x n (j := j) hj
  have hd0 : colD (l.take 0) l = [] := rfl
  have hr0 := fun D x => rowC_zero D l x
  have hfs := fun n => colTo_succ (colD l l) n
  have hfl := fun n => colTo_len (colD l l) n
  have hfull : colD (l.take l.length) l = colD l l := by rw [List.take_length]
  obtain ⟨DD, hDD⟩ : ∃ D, colD l l = D := ⟨_, rfl⟩
  simp only [hDD] at hfs hfl hfull ⊢
  replace h := Lib.hid h; replace hcl := Lib.hid hcl; replace hdA := Lib.hid hdA; replace hdB := Lib.hid hdB; replace hd0 := Lib.hid hd0; replace hr0 := Lib.hid hr0; replace hfs := Lib.hid hfs; replace hfl := Lib.hid hfl; replace hfull := Lib.hid hfull; replace hDD := Lib.hid hDD
  clear h1
  go_enter Try.func43, Try.ntmps43
  go_upto_region 5 with (go_at_call 52; refine H.out.mono ?_; rintro e W1 ⟨rfl, hb⟩)
  clear H
  have hB := hb
  clear hb
  go_loopw [4, 5] (fun v ii V => ∃ n : Nat, n ≤ 50 ∧ ii = .int .i64 ((n : Int) + 1) ∧ V.ownsRow w.heap.size 3 1 v (colTo DD n).length (intE.all (colTo DD n)) ∧ Below w.heap.size w V) (fun _ ii _ => 51 - (intOf ii).toNat)
  case atStart => exact ⟨0, by omega, rfl, World.ownsRow_nil _ _ _ _, hB⟩
  case round =>
    clear hB
    obtain ⟨n, hn, rfl, hown, hB⟩ := hrel
    by_cases hlt : n < 50
    · have hfs1 := hfs.out n
      have hfl1 := hfl.out n
      have hBs := hB.size
      have k1 : (n : Int) + 1 ≤ 50 := by omega
      obtain ⟨N, hN⟩ : ∃ N : Int, (n : Int) + 1 = N := ⟨_, rfl⟩
      have hNb : 1 ≤ N ∧ N ≤ 50 := by omega
      rw [hN] at k1 hfs1 ⊢
      obtain ⟨wo, hwo⟩ : ∃ wo : World, wo = wr := ⟨_, rfl⟩
      subst hwo
      have hfalse : decide (N ∈ colD (l.take 0) l) = false := by rw [hd0.out]; simp
      replace hfalse := Lib.hid hfalse; replace hN := Lib.hid hN
      go_wp2
      go_loopw [6, 20] (fun c ii V => ∃ i : Nat, i ≤ l.length ∧ ii = .int .i64 i ∧ c = .bool (decide (N ∈ colD (l.take i) l)) ∧ Below wo.heap.size wo V) (fun _ ii _ => l.length - (intOf ii).toNat)
      case atStart => exact ⟨0, by omega, rfl, by rw [hfalse.out], Below.refl _ _⟩
      case round =>
        obtain ⟨i, hi, rfl, rfl, hR⟩ := hrel
        have hBR := hB.trans (hR.mono hBs)
        by_cases hli : i < l.length
        · obtain ⟨bx, ox, rfl, hbx, x0, x1⟩ := (up_of hBR h).out.clm_at hli
          have hxb := hcl.out _ (List.getElem_mem hli)
          have e2 := hdA.out i hli
          obtain ⟨x, hx⟩ : ∃ x, l[i] = x := ⟨_, rfl⟩
          rw [hx] at x0 x1 hxb e2
          replace hx := Lib.hid hx
          obtain ⟨D, hD⟩ : ∃ D, colD (l.take i) l = D := ⟨_, rfl⟩
          rw [hD] at e2 ⊢
          have e3 := hr0.out D x
          replace hD := Lib.hid hD; replace e2 := Lib.hid e2; replace e3 := Lib.hid e3
          have i4 : (0 : Int) ≤ (i : Int) := by omega
          have i5 : (i : Int) < (l.length : Int) := by omega
          go_upto_region 11 with (fail)
          refine wp_world fun Y HY => ?_
          have hY : Below wr.heap.size wr Y := by rw [HY.out]; (repeat (first | exact Below.refl _ _ | refine Below.alloc ?_ (by simp; try omega) _ | refine Below.setCell ?_ (by simp) _ | refine Below.drew ?_))
          have x0 : Y.cell? ⟨wr.heap.size, 0, none⟩ = some (.int .i64 x.cell) := by rw [HY.out]; simp [go_sem]
          have x1 : Y.cell? ⟨wr.heap.size, 1, none⟩ = some (.int .i64 x.time) := by rw [HY.out]; simp [go_sem]
          have xl : wr.heap.size < Y.heap.size := World.block_lt_of_cell? Y _ x0
          try replace hR := up_of hY hR
          try replace hBR := up_of hY hBR
          obtain ⟨cD, hcD⟩ : ∃ c, decide (N ∈ D) = c := ⟨_, rfl⟩
          rw [hcD]
          replace hcD := Lib.hid hcD
          go_wp2
          go_loopw [6, 26] (fun c ii V => ∃ j : Nat, j ≤ l.length ∧ ii = .int .i64 j ∧ c = .bool (decide (N ∈ D ++ rowC (l.take j) x)) ∧ Below Y.heap.size Y V) (fun _ ii _ => l.length - (intOf ii).toNat)
          case atStart => exact ⟨0, by omega, rfl, by rw [e3.out, hcD.out], Below.refl _ _⟩
          case round =>
            obtain ⟨j, hj, rfl, rfl, hR2⟩ := hrel
            have x0' := up_of hR2 x0
            have x1' := up_of hR2 x1
            have hBR2 := hBR.trans (hR2.mono hBR.size)
            by_cases hlj : j < l.length
            · obtain ⟨by_, oy, eb, hby, y0, y1⟩ := (up_of hBR2 h).out.clm_at hlj
              cases eb
              have hyb := hcl.out _ (List.getElem_mem hlj)
              have e4 := hdB.out D x N j hlj
              obtain ⟨y, hy⟩ : ∃ y, l[j] = y := ⟨_, rfl⟩
              rw [hy] at y0 y1 hyb e4
              replace hy := Lib.hid hy
              obtain ⟨c, hc⟩ : ∃ c, decide (N ∈ D ++ rowC (l.take j) x) = c := ⟨_, rfl⟩
              rw [hc] at e4
              rw [hc]
              have i6 : (0 : Int) ≤ (j : Int) := by omega
              have i7 : (j : Int) < (l.length : Int) := by omega
              have u1 := i64_small (n := y.time - x.time) (by omega)
              obtain ⟨E, hE⟩ : ∃ E, y.time - x.time = E := ⟨_, rfl⟩
              rw [hE] at e4
              rw [hE] at u1
              have u2 : IntKind.i64.wrap (y.time - x.time) = E := by rw [hE]; exact u1
              replace hE := Lib.hid hE
              clear hc u1
              go_upto_region 14 with (fail)
              refine wp_world fun Z HZ => ?_
              have hZ : Below wr.heap.size wr Z := by rw [HZ.out]; (repeat (first | exact Below.refl _ _ | refine Below.alloc ?_ (by simp; try omega) _ | refine Below.setCell ?_ (by simp) _ | refine Below.drew ?_))
              have y0 : Z.cell? ⟨wr.heap.size, 0, none⟩ = some (.int .i64 y.cell) := by rw [HZ.out]; simp [go_sem]
              have y1 : Z.cell? ⟨wr.heap.size, 1, none⟩ = some (.int .i64 y.time) := by rw [HZ.out]; simp [go_sem]
              have yl : wr.heap.size < Z.heap.size := World.block_lt_of_cell? Z _ y0
              try replace hR2 := up_of hZ hR2
              try replace x0' := up_of hZ x0'
              try replace x1' := up_of hZ x1'
              cases c
              · by_cases hxy : x.cell = y.cell
                · by_cases hEN : E = N
                  · have hbe : (E == N) = true := by simpa using hEN
                    have e5 : decide (N ∈ D ++ rowC (l.take (j + 1)) x) = true := by rw [e4]; simp [hxy, hEN]
                    rw [hxy] at x0'
                    replace e5 := Lib.hid e5
                    clear e4
                    go_wp2
                    go_roundw
                    case rel => exact ⟨j + 1, by omega, by go_num, by rw [e5.out], hR2⟩
                    case measure => exact meas hlj
                  · have hbe : (E == N) = false := by simpa using hEN
                    have e5 : decide (N ∈ D ++ rowC (l.take (j + 1)) x) = false := by rw [e4]; simp [hEN]
                    rw [hxy] at x0'
                    replace e5 := Lib.hid e5
                    clear e4 hEN
                    go_wp2
                    go_roundw
                    case rel => exact ⟨j + 1, by omega, by go_num, by rw [e5.out], hR2⟩
                    case measure => exact meas hlj
                · have hce : (x.cell == y.cell) = false := by simpa using hxy
                  have e5 : decide (N ∈ D ++ rowC (l.take (j + 1)) x) = false := by rw [e4]; simp [hxy]
                  replace e5 := Lib.hid e5
                  clear e4 hxy
                  go_wp2
                  go_roundw
                  case rel => exact ⟨j + 1, by omega, by go_num, by rw [e5.out], hR2⟩
                  case measure => exact meas hlj
              · have e5 : decide (N ∈ D ++ rowC (l.take (j + 1)) x) = true := by rw [e4]; simp
                replace e5 := Lib.hid e5
                clear e4
                go_wp2
                go_roundw
                case rel => exact ⟨j + 1, by omega, by go_num, by rw [e5.out], hR2⟩
                case measure => exact meas hlj
            · obtain rfl : j = l.length := by omega
              rw [e2.out]
              go_wp2
              go_roundw
              case rel => exact ⟨i + 1, by omega, by go_num, rfl, hR.trans (hR2.mono hR.size)⟩
              case measure => exact meas hli
        · obtain rfl : i = l.length := by omega
          rw [hfull.out]
          have hown2 := Up.owns hR hown
          have hBRs := hBR.size
          obtain ⟨F, hF⟩ : ∃ F, colTo DD n = F := ⟨_, rfl⟩
          rw [hF] at hown2 hfl1 hfs1
          have hwN := i64_small (n := N + 1) (by omega)
          clear hown
          by_cases hd : N ∈ DD
          · rw [decide_eq_true hd]
            rw [if_pos hd] at hfs1
            replace hfs1 := Lib.hid hfs1; replace hF := Lib.hid hF
            clear hd hfalse
            go_wp2_with (first | (at_builtin; obtain ⟨i0, hi, hz0, hz1, hz2⟩ := info_parts info_int; refine wpList_append_own _ rfl _ _ 28 rfl w.heap.size 3 i0 (.int .i64 0) 1 8 Try.underlying28 hi hz0 hz1 hz2 rfl (by decide) _ _ _ rfl (hown2.alloc _) ⟨wr.heap.size, 0, none⟩ 1 1 [.int .i64 N] rfl rfl (news_new _ _ _) (by simp [Value.oneCell']) (by unfold maxLen; omega) (by omega) (by simp; omega) ?_; intro v1 w1 hown1 hgrow hnil))
            go_roundw
            case rel => exact ⟨n + 1, by omega, by rw [← hN.out]; go_num, by rw [hfs1.out, Elt.all_append, Elt.all_single, List.length_append]; exact hown1, Up.grown hBR hBRs hown2 hgrow⟩
            case measure => (simp [intOf]) <;> omega
          · rw [decide_eq_false hd]
            rw [if_neg hd, List.append_nil] at hfs1
            replace hfs1 := Lib.hid hfs1; replace hF := Lib.hid hF
            clear hd hfalse
            go_wp2
            go_roundw
            case rel => exact ⟨n + 1, by omega, by rw [← hN.out]; go_num, by rw [hfs1.out]; exact hown2, hBR⟩
            case measure => (simp [intOf]) <;> omega
    · obtain rfl : n = 50 := by omega
      obtain ⟨s', c', rfl, _⟩ := owns_shape hown
      go_wp2
      go_ret2
      exact ⟨⟨s', c', rfl, hown⟩, hB⟩
end Go.Proofs.Ytgeoehokojijdaa
