/- By what numbers claims of a kernel collide: the program. -/
import Derived.Test.YtgeoehokojijdaaMix39
namespace Go.Proofs.Ytgeoehokojijdaa
open Go.RowKit

def rowP (B : List Clm) (x : Clm) : List Int := (B.filter fun y => decide (x.cell = y.cell ∧ 0 < x.time - y.time)).map fun y => x.time - y.time
def posA (A B : List Clm) : List Int := A.flatMap (rowP B)
theorem rowP_take (B : List Clm) (x : Clm) {j : Nat} (hj : j < B.length) : rowP (B.take (j + 1)) x = rowP (B.take j) x ++ (if x.cell = B[j].cell ∧ 0 < x.time - B[j].time then [x.time - B[j].time] else []) := by
  unfold rowP
  rw [List.take_succ_eq_append_getElem hj, List.filter_append, List.map_append]
  congr 1
  by_cases h : x.cell = B[j].cell ∧ 0 < x.time - B[j].time
  · rw [if_pos h, List.filter_cons, if_pos (by rw [decide_eq_true_iff]; exact h)]; rfl
  · rw [if_neg h, List.filter_cons, if_neg (by rw [decide_eq_true_iff]; exact h)]; rfl
theorem rowP_le (B : List Clm) (x : Clm) : (rowP B x).length ≤ B.length := by
  unfold rowP; rw [List.length_map]; exact List.length_filter_le _ _
theorem posA_le (B : List Clm) (hB : B.length ≤ 20) : ∀ A : List Clm, (posA A B).length ≤ 20 * A.length
  | [] => Nat.le_refl _
  | x :: A => by
    have ih := posA_le B hB A
    have h1 := rowP_le B x
    have e : posA (x :: A) B = rowP B x ++ posA A B := rfl
    rw [e, List.length_append, List.length_cons]; omega
theorem posA_end (A B : List Clm) {i : Nat} (hi : i < A.length) : posA (A.take i) B ++ rowP (B.take B.length) A[i] = posA (A.take (i + 1)) B := by
  unfold posA
  rw [List.take_length, List.take_succ_eq_append_getElem hi, List.flatMap_append]; simp
def colS (l : List Clm) : List Int := if kernB l then Lib.compact ((posA l l).mergeSort fun x y => decide (x ≤ y)) else []
set_option maxRecDepth 100000 in
set_option maxHeartbeats 2000000 in
theorem Collide_s (s : Option Addr) (cap : Nat) (l : List Clm) (w : World) (h : SlS clmE w s l) (hl : l.length ≤ 9223372036854775807) :
    Calls Try.prog 42 #[.slice s l.length cap] w (IntsErr (colS l) (colE l) w) := by
  have H := Lib.hid (isKernel_c s cap l w h hl)
  cases h1 : kernB l
  · rw [show colS l = [] by simp [colS, h1], show colE l = 90 by simp [colE, h1]]
    rw [h1] at H
    clear h
    go_enter Try.func42, Try.ntmps42
    go_wp2_with (go_at_call 61; refine H.out.mono ?_; rintro e W1 ⟨rfl, hb⟩)
    go_ret2
    exact IntsErr.nil hb
  rw [h1] at H
  obtain ⟨hl20, hcl⟩ := kern_facts h1
  rw [show colS l = Lib.compact ((posA l l).mergeSort fun x y => decide (x ≤ y)) by simp [colS, h1], show colE l = 0 by simp [colE, h1]]
  have hPe := fun (i : Nat) hi => posA_end l l (i := i) hi
  have hPt := fun x (j : Nat) hj => rowP_take l x (j := j) hj
  have hP0 : posA (l.take 0) l = [] := rfl
  have hPz : ∀ D x, D ++ rowP (l.take 0) x = D := fun D x => by simp [rowP]
  have hPl : ∀ i, (posA (l.take i) l).length ≤ 400 := fun i => by
    have h2 := posA_le l hl20 (l.take i)
    have h3 : (l.take i).length ≤ l.length := by rw [List.length_take]; omega
    omega
  have hRl : ∀ j x, (rowP (l.take j) x).length ≤ 20 := fun j x => by
    have h2 := rowP_le (l.take j) x
    have h3 : (l.take j).length ≤ l.length := by rw [List.length_take]; omega
    omega
  have hfull : posA (l.take l.length) l = posA l l := by rw [List.take_length]
  obtain ⟨PP, hPP⟩ : ∃ D, posA l l = D := ⟨_, rfl⟩
  obtain ⟨RES, hRES⟩ : ∃ D, Lib.compact (PP.mergeSort fun x y => decide (x ≤ y)) = D := ⟨_, rfl⟩
  rw [hPP] at hfull ⊢
  rw [hRES]
  replace h := Lib.hid h; replace hcl := Lib.hid hcl; replace hPe := Lib.hid hPe; replace hPt := Lib.hid hPt; replace hP0 := Lib.hid hP0; replace hPz := Lib.hid hPz; replace hPl := Lib.hid hPl; replace hRl := Lib.hid hRl; replace hfull := Lib.hid hfull; replace hPP := Lib.hid hPP; replace hRES := Lib.hid hRES
  clear h1
  go_enter Try.func42, Try.ntmps42
  go_upto_region 5 with (go_at_call 61; refine H.out.mono ?_; rintro e W1 ⟨rfl, hb⟩)
  clear H
  have hB := hb
  clear hb
  go_loopw [4, 15] (fun v ii V => ∃ i : Nat, i ≤ l.length ∧ ii = .int .i64 i ∧ V.ownsRow w.heap.size 3 1 v (posA (l.take i) l).length (intE.all (posA (l.take i) l)) ∧ Below w.heap.size w V) (fun _ ii _ => l.length - (intOf ii).toNat)
  case atStart => exact ⟨0, by omega, rfl, World.ownsRow_nil _ _ _ _, hB⟩
  case round =>
    clear hB
    obtain ⟨i, hi, rfl, hown, hB⟩ := hrel
    by_cases hli : i < l.length
    · obtain ⟨bx, ox, rfl, hbx, x0, x1⟩ := (up_of hB h).out.clm_at hli
      have hxb := hcl.out _ (List.getElem_mem hli)
      have e2 := hPe.out i hli
      have hDl := hPl.out i
      obtain ⟨x, hx⟩ : ∃ x, l[i] = x := ⟨_, rfl⟩
      rw [hx] at x0 x1 hxb e2
      replace hx := Lib.hid hx
      obtain ⟨D, hD⟩ : ∃ D, posA (l.take i) l = D := ⟨_, rfl⟩
      rw [hD] at e2 hown hDl
      have e3 := hPz.out D x
      rw [← e3] at hown
      replace hD := Lib.hid hD; replace e2 := Lib.hid e2; replace e3 := Lib.hid e3
      have i4 : (0 : Int) ≤ (i : Int) := by omega
      have i5 : (i : Int) < (l.length : Int) := by omega
      obtain ⟨wo, hwo⟩ : ∃ wo : World, wo = wr := ⟨_, rfl⟩
      subst hwo
      have hvb00 := fun z hz => (hown.lt z hz).2
      replace hown := Lib.hid hown
      go_upto_region 7 with (fail)
      refine wp_world fun Y HY => ?_
      have hY : Below wo.heap.size wo Y := by rw [HY.out]; (repeat (first | exact Below.refl _ _ | refine Below.alloc ?_ (by simp; try omega) _ | refine Below.setCell ?_ (by simp) _ | refine Below.drew ?_))
      have x0 : Y.cell? ⟨wo.heap.size, 0, none⟩ = some (.int .i64 x.cell) := by rw [HY.out]; simp [go_sem]
      have x1 : Y.cell? ⟨wo.heap.size, 1, none⟩ = some (.int .i64 x.time) := by rw [HY.out]; simp [go_sem]
      have xl : wo.heap.size < Y.heap.size := World.block_lt_of_cell? Y _ x0
      try replace hB := up_of hY hB
      try replace hown := up_of hY hown
      have hown0 := hown.out
      have hxl := World.block_lt_of_cell? Y _ x0
      have hwb : w.heap.size ≤ Y.heap.size := hB.size
      have hvb0 : ∀ z, _ = some z → z ≠ wo.heap.size := fun z hz => by have := hvb00 z hz; omega
      clear hvb00
      go_wp2
      go_loopw [4, 21] (fun v ii V => ∃ j : Nat, j ≤ l.length ∧ ii = .int .i64 j ∧ V.ownsRow w.heap.size 3 1 v (D ++ rowP (l.take j) x).length (intE.all (D ++ rowP (l.take j) x)) ∧ Below w.heap.size w V ∧ V.cell? ⟨wo.heap.size, 0, none⟩ = some (.int .i64 x.cell) ∧ V.cell? ⟨wo.heap.size, 1, none⟩ = some (.int .i64 x.time) ∧ (∀ z, v.ownBlock = some z → z ≠ wo.heap.size)) (fun _ ii _ => l.length - (intOf ii).toNat)
      case atStart => exact ⟨0, by omega, rfl, hown0, hB, x0, x1, hvb0⟩
      case round =>
        clear hown0 hvb0 x0 x1 hown hxl
        obtain ⟨j, hj, rfl, hown, hB, x0, x1, hvb⟩ := hrel
        by_cases hlj : j < l.length
        · obtain ⟨by_, oy, eb, hby, y0, y1⟩ := (up_of hB h).out.clm_at hlj
          cases eb
          have hyb := hcl.out _ (List.getElem_mem hlj)
          have e4 := hPt.out x j hlj
          have hRl1 := hRl.out j x
          obtain ⟨y, hy⟩ : ∃ y, l[j] = y := ⟨_, rfl⟩
          rw [hy] at y0 y1 hyb e4
          replace hy := Lib.hid hy
          obtain ⟨E, hE⟩ : ∃ E, x.time - y.time = E := ⟨_, rfl⟩
          have u1 : IntKind.i64.wrap (x.time - y.time) = E := by rw [i64_small (by omega)]; exact hE
          rw [hE] at e4
          replace hE := Lib.hid hE
          have i6 : (0 : Int) ≤ (j : Int) := by omega
          have i7 : (j : Int) < (l.length : Int) := by omega
          obtain ⟨Q, hQ⟩ : ∃ Q, D ++ rowP (l.take j) x = Q := ⟨_, rfl⟩
          have e6 : D ++ rowP (l.take (j + 1)) x = Q ++ (if x.cell = y.cell ∧ 0 < E then [E] else []) := by rw [e4, ← List.append_assoc, hQ]
          have hQl : Q.length ≤ 420 := by rw [← hQ, List.length_append]; omega
          rw [hQ] at hown
          replace hQ := Lib.hid hQ
          have hxl := World.block_lt_of_cell? _ _ x0
          have hxl2 : wo.heap.size < (World.heap _).size := hxl
          replace hown := Lib.hid hown
          clear e4
          go_upto_region 10 with (fail)
          refine wp_world fun Z HZ => ?_
          have hZ : Below wr.heap.size wr Z := by rw [HZ.out]; (repeat (first | exact Below.refl _ _ | refine Below.alloc ?_ (by simp; try omega) _ | refine Below.setCell ?_ (by simp) _ | refine Below.drew ?_))
          have y0 : Z.cell? ⟨wr.heap.size, 0, none⟩ = some (.int .i64 y.cell) := by rw [HZ.out]; simp [go_sem]
          have y1 : Z.cell? ⟨wr.heap.size, 1, none⟩ = some (.int .i64 y.time) := by rw [HZ.out]; simp [go_sem]
          have yl : wr.heap.size < Z.heap.size := World.block_lt_of_cell? Z _ y0
          try replace hB := up_of hZ hB
          try replace hown := up_of hZ hown
          try replace x0 := up_of hZ x0
          try replace x1 := up_of hZ x1
          have hZs := hB.size
          have hbZ := World.block_lt_of_cell? Z _ x0
          have hown2 := hown.out
          by_cases hxy : x.cell = y.cell
          · rw [hxy] at x0
            by_cases hEp : 0 < E
            · rw [if_pos ⟨hxy, hEp⟩] at e6
              replace e6 := Lib.hid e6
              go_wp2_with (first | (at_builtin; obtain ⟨i0, hi0, hz0, hz1, hz2⟩ := info_parts info_int; refine wpList_append_own_at _ rfl _ _ 28 rfl w.heap.size 3 i0 _ 1 8 Try.underlying28 hi0 hz0 hz1 hz2 rfl (by decide) _ _ _ rfl (hown2.alloc _) ⟨Z.heap.size, 0, none⟩ 1 1 [.int .i64 E] rfl rfl (news_new _ _ _) (by simp [Value.oneCell']) (by unfold maxLen; omega) (by omega) (by simp; omega) ?_; intro v1 w1 hown1 hgrow hnil hat1))
              have hbk : w1.heap[wo.heap.size]? = Z.heap[wo.heap.size]? := by
                rw [hgrow.block wo.heap.size (by simp; exact Nat.lt_succ_of_lt hbZ) (fun e => hvb wo.heap.size e.symm rfl)]
                exact heap_alloc_old Z _ hbZ
              have k0 : w1.cell? ⟨wo.heap.size, 0, none⟩ = some (.int .i64 y.cell) := by
                unfold World.cell? at x0 ⊢; rw [hbk]; exact x0
              have k1 : w1.cell? ⟨wo.heap.size, 1, none⟩ = some (.int .i64 x.time) := by
                unfold World.cell? at x1 ⊢; rw [hbk]; exact x1
              have k2 : ∀ z, v1.ownBlock = some z → z ≠ wo.heap.size := fun z hz => by
                rcases hat1 with e | e
                · exact hvb z (e.symm.trans hz)
                · rw [hz] at e; simp at e; omega
              refine ⟨⟨v1, _, _, _, ⟨j + 1, by omega, by go_num, ?_, ?_, k0, k1, k2⟩, rfl, rfl, rfl, rfl⟩, meas hlj⟩
              · rw [← List.length_append, e6.out, List.length_append, show intE.all (Q ++ [E]) = intE.all Q ++ [.int .i64 E] by simp [Elt.all, intE]]; exact hown1
              · exact (hB.alloc (by omega) _).grown hgrow (by simp; omega) (fun k hk => (hown2.lt k hk).1)
            · rw [if_neg (fun hh => hEp hh.2), List.append_nil] at e6
              replace e6 := Lib.hid e6
              go_wp2
              go_roundw
              case rel => exact ⟨j + 1, by omega, by go_num, by rw [e6.out]; exact hown2, hB, by rw [hxy]; exact x0, x1, hvb⟩
              case measure => exact meas hlj
          · rw [if_neg (fun hh => hxy hh.1), List.append_nil] at e6
            replace e6 := Lib.hid e6
            have hce : (x.cell == y.cell) = false := by simpa using hxy
            go_wp2
            go_roundw
            case rel => exact ⟨j + 1, by omega, by go_num, by rw [e6.out]; exact hown2, hB, x0, x1, hvb⟩
            case measure => exact meas hlj
        · obtain rfl : j = l.length := by omega
          rw [e2.out] at hown
          go_wp2
          go_roundw
          case rel => exact ⟨i + 1, by omega, by go_num, hown, hB⟩
          case measure => exact meas hli
    · obtain rfl : i = l.length := by omega
      rw [hfull.out] at hown
      have hPPl := hPl.out l.length
      rw [hfull.out] at hPPl
      obtain ⟨s', c', rfl, _⟩ := owns_shape hown
      have hBs := hB.size
      have hlen : (PP.mergeSort fun x y => decide (x ≤ y)).length = PP.length := List.length_mergeSort _
      have hS := sortI_c w.heap.size c' s' PP _ hown hBs (by omega)
      obtain ⟨SS, hSS⟩ : ∃ x, (PP.mergeSort fun x y => decide (x ≤ y)) = x := ⟨_, rfl⟩
      have hres := hRES.out
      rw [hSS] at hS hlen hres
      have hC := fun V (ho : World.ownsRow V w.heap.size 3 1 (.slice s' PP.length c') PP.length (intE.all SS)) (hb : w.heap.size ≤ V.heap.size) => compactI_c w.heap.size c' s' SS V (by rw [hlen]; exact ho) hb (by omega)
      simp only [hlen, hres] at hC
      replace hS := Lib.hid hS; replace hC := Lib.hid hC; replace hlen := Lib.hid hlen; replace hres := Lib.hid hres; replace hSS := Lib.hid hSS
      clear hown
      go_wp2_with (first | (go_at_call 64; refine hS.out.mono ?_; rintro e A2 ⟨rfl, ho2, hb2⟩; have hs2 : w.heap.size ≤ A2.heap.size := Nat.le_trans hBs hb2.size) | (go_at_call 65; refine (hC.out _ ho2 hs2).mono ?_; rintro e A3 ⟨rfl, ho3, hb3⟩))
      go_ret2
      exact ⟨⟨s', c', rfl, ho3⟩, (hB.trans hb2).trans hb3⟩
end Go.Proofs.Ytgeoehokojijdaa
