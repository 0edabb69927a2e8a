/- How many cells live in each row: both. -/
import Derived.Test.YtbabdoafpljdbaaMd14
import Derived.Test.YtbabdoafpljdbaaMd15
namespace Go.Proofs.Ytbabdoafpljdbaa
open Go.RowKit

def livN (row : List Bool) : Int := ((row.filter id).length : Nat)
def livL (R : List (List Bool)) : List Int := R.map livN
def livR (wd ht : Int) (F : List Cel) : List Int := if gvB wd ht F then livL (fld wd.toNat ht.toNat F) else []
def livE (wd ht : Int) (F : List Cel) : Int := if gvB wd ht F then 0 else 70
theorem livL_snoc {R : List (List Bool)} {y : Nat} (h : y < R.length) : livL (R.take (y + 1)) = livL (R.take y) ++ [livN R[y]] := by
  rw [List.take_succ_eq_append_getElem h, livL, List.map_append]; rfl
theorem livN_snoc {row : List Bool} {x : Nat} (h : x < row.length) : livN (row.take (x + 1)) = if row[x] then livN (row.take x) + 1 else livN (row.take x) := by
  rw [List.take_succ_eq_append_getElem h, livN, List.filter_append, List.length_append]
  cases hb : row[x] <;> simp [livN]
theorem livN_le (row : List Bool) : 0 ≤ livN row ∧ livN row ≤ row.length := by
  unfold livN
  have := List.length_filter_le id row
  omega
/-- A list of numbers of one's own and an error. -/
def LivRet (L : List Int) (er : Int) (w : World) (e : Ending) (w' : World) : Prop :=
  (∃ s cap, e = .returned (.tuple #[.slice s L.length cap, .int .i64 er]) ∧ w'.ownsRow w.heap.size 3 1 (.slice s L.length cap) L.length (intE.all L)) ∧ Below w.heap.size w w'
theorem LivRet.nil {w w' : World} {er : Int} (hB : Below w.heap.size w w') : LivRet [] er w (.returned (.tuple #[.slice none 0 0, .int .i64 er])) w' := ⟨⟨none, 0, rfl, World.ownsRow_nil _ _ _ _⟩, hB⟩
set_option maxRecDepth 100000 in
set_option maxHeartbeats 2000000 in
theorem Living_c (wd ht : Int) (s : Option Addr) (cap : Nat) (F : List Cel) (w : World) (h : Cels w s cap F) :
    Calls Try.prog 30 #[.agg #[.int .i64 wd, .int .i64 ht, .slice s F.length cap]] w (LivRet (livR wd ht F) (livE wd ht F) w) := by
  have hFl := h.len
  have hop := fun V (h : Cels V s cap F) => opened_c wd ht 0 s cap F V h
  cases h1 : gvB wd ht F
  case false =>
    have e0 : opE wd ht F 0 = 70 := by simp [opE, h1]
    rw [show opR wd ht F 0 = [] by simp [opR, e0], e0] at hop
    rw [show livR wd ht F = [] by simp [livR, h1], show livE wd ht F = 70 by simp [livE, h1]]
    replace hop := Lib.hid hop
    clear h1 e0
    go_enter Try.func30, Try.ntmps30
    go_upto_region 1 with (fail)
    refine wp_world fun W HW => ?_
    have hB : Below w.heap.size w W := by rw [HW.out]; (repeat (first | exact Below.refl _ _ | refine Below.alloc ?_ (by simp; try omega) _ | refine Below.setCell ?_ (by simp) _ | refine Below.drew ?_))
    have g0 : W.cell? ⟨w.heap.size, 0, none⟩ = some (.int .i64 wd) := by rw [HW.out]; simp [go_sem]
    have g1 : W.cell? ⟨w.heap.size, 1, none⟩ = some (.int .i64 ht) := by rw [HW.out]; simp [go_sem]
    have g2 : W.cell? ⟨w.heap.size, 2, none⟩ = some (.slice s F.length cap) := by rw [HW.out]; simp [go_sem]
    have gl : w.heap.size < W.heap.size := World.block_lt_of_cell? W _ g0
    try replace h := up_of hB h
    have hBs := hB.size
    go_wp2_with (go_at_call 48; refine (hop.out _ h).mono ?_; rintro e A1 ⟨⟨s1, k1, ss1, rfl, ht1⟩, hb⟩)
    go_ret2
    exact LivRet.nil (hB.trans (hb.mono hBs))
  have e0 : opE wd ht F 0 = 0 := by simp [opE, h1, bw]
  rw [show opR wd ht F 0 = fld wd.toNat ht.toNat F by simp [opR, e0], e0] at hop
  rw [show livR wd ht F = livL (fld wd.toNat ht.toNat F) by simp [livR, h1], show livE wd ht F = 0 by simp [livE, h1]]
  obtain ⟨f1, f2, f3⟩ := fld_facts h1
  obtain ⟨R, hR⟩ : ∃ x, fld wd.toNat ht.toNat F = x := ⟨_, rfl⟩
  obtain ⟨nw, hnw⟩ : ∃ n, wd.toNat = n := ⟨_, rfl⟩
  simp only [hR] at hop f1 f2 ⊢
  rw [hnw] at f2 f3
  replace hop := Lib.hid hop; replace hR := Lib.hid hR; replace hnw := Lib.hid hnw; replace f2 := Lib.hid f2
  clear h1 e0
  go_enter Try.func30, Try.ntmps30
  go_upto_region 1 with (fail)
  refine wp_world fun W HW => ?_
  have hB : Below w.heap.size w W := by rw [HW.out]; (repeat (first | exact Below.refl _ _ | refine Below.alloc ?_ (by simp; try omega) _ | refine Below.setCell ?_ (by simp) _ | refine Below.drew ?_))
  have g0 : W.cell? ⟨w.heap.size, 0, none⟩ = some (.int .i64 wd) := by rw [HW.out]; simp [go_sem]
  have g1 : W.cell? ⟨w.heap.size, 1, none⟩ = some (.int .i64 ht) := by rw [HW.out]; simp [go_sem]
  have g2 : W.cell? ⟨w.heap.size, 2, none⟩ = some (.slice s F.length cap) := by rw [HW.out]; simp [go_sem]
  have gl : w.heap.size < W.heap.size := World.block_lt_of_cell? W _ g0
  try replace h := up_of hB h
  have hBs := hB.size
  go_upto_region 2 with (go_at_call 48; refine (hop.out _ h).mono ?_; rintro e A1 ⟨⟨s1, k1, ss1, rfl, ht1⟩, hb⟩)
  have hv1 := Lib.hid ht1.seen
  have hBA := hB.trans (hb.mono hBs)
  have hAs := hBA.size
  clear ht1 hb
  go_wp2
  go_loopw [6, 22] (fun v ii V => ∃ (y : Nat) (lst : List Int), y ≤ R.length ∧ ii = .int .i64 y ∧ V.ownsRow A1.heap.size 3 1 v y (intE.all lst) ∧ Hid (lst = livL (R.take y)) ∧ Below A1.heap.size A1 V) (fun _ ii _ => R.length - (intOf ii).toNat)
  case atStart => exact ⟨0, [], by omega, rfl, World.ownsRow_nil _ _ _ _, rfl, Below.refl _ _⟩
  case round =>
    obtain ⟨y, lst, hy, rfl, hown, hlst, hbl⟩ := hrel
    by_cases hly : y < R.length
    · obtain ⟨bd, od, sd, cd, e1, hbd, q0, hsd, -, -⟩ := (up_of hbl hv1.out).at hly
      have hrd := f2.out _ (List.getElem_mem hly)
      have hsn := livL_snoc hly
      rw [← hlst.out] at hsn
      have hnx := fun (x : Nat) (hx : x < R[y].length) => livN_snoc hx
      have hle := fun x => livN_le (R[y].take x)
      obtain ⟨a, ha⟩ : ∃ x, R[y] = x := ⟨_, rfl⟩
      simp only [ha] at q0 hsd hrd hsn hnx hle
      have hal : a.length ≤ 12 := by omega
      have i1 : (0 : Int) ≤ (y : Int) := by omega
      have i2 : (y : Int) < (R.length : Int) := by omega
      have hz : livN (a.take 0) = 0 := by simp [livN]
      have hle2 : ∀ x, livN (a.take x) ≤ 12 := fun x => by
        have := (hle x).2
        rw [List.length_take] at this
        omega
      have hta : livN (a.take a.length) = livN a := by rw [List.take_length]
      replace ha := Lib.hid ha; replace hrd := Lib.hid hrd; replace hsn := Lib.hid hsn; replace hnx := Lib.hid hnx; replace hle := Lib.hid hle; replace hle2 := Lib.hid hle2; replace hz := Lib.hid hz; replace hta := Lib.hid hta; replace hown := Lib.hid hown; replace hsd := Lib.hid hsd
      subst e1
      go_wp2
      go_loop [9, 28] (fun n xx => ∃ (x : Nat) (m : Int), x ≤ a.length ∧ xx = .int .i64 x ∧ n = .int .i64 m ∧ Hid (livN (a.take x) = m)) (fun _ xx => a.length - (intOf xx).toNat)
      case atStart => exact ⟨0, 0, by omega, rfl, rfl, hz⟩
      case round =>
        obtain ⟨x, m, hx, rfl, rfl, hm⟩ := hrel
        by_cases hlx : x < a.length
        · obtain ⟨ba, oa, ea, hba, p0⟩ := hsd.out.bool_at hlx
          have hs := hnx.out x hlx
          have hm1 := (hle.out x).1
          have hm2 := hle2.out x
          rw [hm.out] at hs hm1 hm2
          obtain ⟨b, hb⟩ : ∃ b, a[x] = b := ⟨_, rfl⟩
          rw [hb] at p0 hs
          have j1 : (0 : Int) ≤ (x : Int) := by omega
          have j2 : (x : Int) < (a.length : Int) := by omega
          have w1 := i64_small (n := m + 1) (by omega)
          replace hb := Lib.hid hb
          subst ea
          cases b
          · simp only [Bool.false_eq_true, if_false] at hs
            replace hs := Lib.hid hs
            go_wp2
            go_round
            case rel => exact ⟨x + 1, m, by omega, by go_num, rfl, hs⟩
            case measure => exact meas hlx
          · simp only [if_true] at hs
            replace hs := Lib.hid hs
            go_wp2
            go_round
            case rel => exact ⟨x + 1, m + 1, by omega, by go_num, rfl, hs⟩
            case measure => exact meas hlx
        · obtain rfl : x = a.length := by omega
          have hmv : livN a = m := by rw [← hta.out, hm.out]
          have hm2 := hle2.out a.length
          have hm1 := (hle.out a.length).1
          rw [hm.out] at hm2 hm1
          have hown2 := hown.out
          have hbls := hbl.size
          have hsn2 := hsn.out
          rw [hmv] at hsn2
          have hev : intE.all (lst ++ [m]) = intE.all lst ++ [.int .i64 m] := by simp [Elt.all, intE]
          replace hev := Lib.hid hev; replace hmv := Lib.hid hmv; replace hsn2 := Lib.hid hsn2
          go_wp2_with (first | (at_builtin; obtain ⟨i0, hi, hz0, hz1, hz2⟩ := info_parts info_int; refine wpList_append_own _ rfl _ _ 36 rfl A1.heap.size 3 i0 (.int .i64 0) 1 8 Try.underlying36 hi hz0 hz1 hz2 rfl (by decide) _ _ _ rfl (hown2.alloc _) ⟨wr.heap.size, 0, none⟩ 1 1 [.int .i64 m] rfl rfl (news_new _ _ _) (by simp [Value.oneCell']) (by unfold maxLen; omega) (by omega) (by simp; omega) ?_; intro v1 w1 hown1 hgrow hnil))
          go_roundw
          case rel => exact ⟨y + 1, lst ++ [m], by omega, by go_num, by rw [hev.out]; exact hown1, Lib.hid hsn2.out.symm, Up.grown hbl hbls hown2 hgrow⟩
          case measure => exact meas hly
    · obtain rfl : y = R.length := by omega
      obtain ⟨s', c', rfl, _⟩ := owns_shape hown
      have hBf := hBA.trans (hbl.mono hAs)
      have hfin : lst = livL R := by rw [hlst.out, List.take_length]
      have hll : (livL R).length = R.length := by simp [livL]
      have hown2 : World.ownsRow wr w.heap.size 3 1 (.slice s' (livL R).length c') (livL R).length (intE.all (livL R)) := by
        rw [hll, ← hfin]; exact owns_mono hown hAs
      replace hown2 := Lib.hid hown2; replace hll := Lib.hid hll; replace hfin := Lib.hid hfin
      clear hown
      go_wp2
      go_ret2
      exact ⟨⟨s', c', by show _ = Ending.returned (.tuple #[.slice s' (livL R).length c', .int .i64 0]); rw [hll.out]; rfl, hown2.out⟩, hBf⟩
set_option maxRecDepth 100000 in
set_option maxHeartbeats 2000000 in
theorem rLiving_c (wd ht : Int) (s : Option Addr) (cap : Nat) (F : List Cel) (w : World) (h : Cels w s cap F) :
    Calls Try.prog 31 #[.agg #[.int .i64 wd, .int .i64 ht, .slice s F.length cap]] w (LivRet (livR wd ht F) (livE wd ht F) w) := by
  have hFl := h.len
  have hva := fun V (h : Cels V s cap F) => rValid_c wd ht s cap F V h
  cases h1 : gvB wd ht F
  case false =>
    rw [h1] at hva
    rw [show livR wd ht F = [] by simp [livR, h1], show livE wd ht F = 70 by simp [livE, h1]]
    replace hva := Lib.hid hva
    clear h1
    go_enter Try.func31, Try.ntmps31
    go_upto_region 1 with (fail)
    refine wp_world fun W HW => ?_
    have hB : Below w.heap.size w W := by rw [HW.out]; (repeat (first | exact Below.refl _ _ | refine Below.alloc ?_ (by simp; try omega) _ | refine Below.setCell ?_ (by simp) _ | refine Below.drew ?_))
    have g0 : W.cell? ⟨w.heap.size, 0, none⟩ = some (.int .i64 wd) := by rw [HW.out]; simp [go_sem]
    have g1 : W.cell? ⟨w.heap.size, 1, none⟩ = some (.int .i64 ht) := by rw [HW.out]; simp [go_sem]
    have g2 : W.cell? ⟨w.heap.size, 2, none⟩ = some (.slice s F.length cap) := by rw [HW.out]; simp [go_sem]
    have gl : w.heap.size < W.heap.size := World.block_lt_of_cell? W _ g0
    try replace h := up_of hB h
    go_wp2_with (first | (go_at_call 14; refine (hva.out _ h).mono ?_; rintro e W1 ⟨rfl, hb⟩; (try replace h := up_of hb h); (try replace hB := up_of hb hB); (try replace g0 := up_of hb g0); (try replace g1 := up_of hb g1); (try replace g2 := up_of hb g2); (try replace gl := up_of hb gl)))
    go_ret2
    exact LivRet.nil hB
  rw [h1] at hva
  rw [show livR wd ht F = livL (fld wd.toNat ht.toNat F) by simp [livR, h1], show livE wd ht F = 0 by simp [livE, h1]]
  obtain ⟨f1, f2, f3⟩ := fld_facts h1
  obtain ⟨g1, g2, -⟩ := gv_nat h1
  obtain ⟨wd, rfl⟩ : ∃ n : Nat, wd = n := ⟨wd.toNat, g1.symm⟩
  obtain ⟨ht, rfl⟩ : ∃ n : Nat, ht = n := ⟨ht.toNat, g2.symm⟩
  simp only [Int.toNat_natCast] at f1 f2 f3 ⊢
  have hfo := fun V (h : Cels V s cap F) => fieldOf_c wd ht s cap F V h h1
  obtain ⟨R, hR⟩ : ∃ x, fld wd ht F = x := ⟨_, rfl⟩
  obtain ⟨nw, hnw⟩ : ∃ n, wd = n := ⟨_, rfl⟩
  simp only [hR] at hfo f1 f2 ⊢
  have f2 : ∀ row ∈ R, row.length = nw := hnw ▸ f2
  rw [hnw] at f3
  replace hva := Lib.hid hva; replace hfo := Lib.hid hfo; replace hR := Lib.hid hR; replace hnw := Lib.hid hnw; replace f2 := Lib.hid f2
  clear h1 g1 g2
  go_enter Try.func31, Try.ntmps31
  go_upto_region 1 with (fail)
  refine wp_world fun W HW => ?_
  have hB : Below w.heap.size w W := by rw [HW.out]; (repeat (first | exact Below.refl _ _ | refine Below.alloc ?_ (by simp; try omega) _ | refine Below.setCell ?_ (by simp) _ | refine Below.drew ?_))
  have g0 : W.cell? ⟨w.heap.size, 0, none⟩ = some (.int .i64 wd) := by rw [HW.out]; simp [go_sem]
  have g1 : W.cell? ⟨w.heap.size, 1, none⟩ = some (.int .i64 ht) := by rw [HW.out]; simp [go_sem]
  have g2 : W.cell? ⟨w.heap.size, 2, none⟩ = some (.slice s F.length cap) := by rw [HW.out]; simp [go_sem]
  have gl : w.heap.size < W.heap.size := World.block_lt_of_cell? W _ g0
  try replace h := up_of hB h
  go_upto_region 4 with (first | (go_at_call 14; refine (hva.out _ h).mono ?_; rintro e W1 ⟨rfl, hb⟩; (try replace h := up_of hb h); (try replace hB := up_of hb hB); (try replace g0 := up_of hb g0); (try replace g1 := up_of hb g1); (try replace g2 := up_of hb g2); (try replace gl := up_of hb gl)))
  clear hb
  have hBs := hB.size
  go_upto_region 5 with (go_at_call 51; refine (hfo.out _ h).mono ?_; rintro e A1 ⟨s1, k1, ss1, rfl, ht1, hb⟩)
  have hv1 := Lib.hid ht1.seen
  have hBA := hB.trans (hb.mono hBs)
  have hAs := hBA.size
  clear ht1 hb
  go_wp2
  go_loopw [4, 16] (fun v ii V => ∃ (y : Nat) (lst : List Int), y ≤ R.length ∧ ii = .int .i64 y ∧ V.ownsRow A1.heap.size 3 1 v y (intE.all lst) ∧ Hid (lst = livL (R.take y)) ∧ Below A1.heap.size A1 V) (fun _ ii _ => R.length - (intOf ii).toNat)
  case atStart => exact ⟨0, [], by omega, rfl, World.ownsRow_nil _ _ _ _, rfl, Below.refl _ _⟩
  case round =>
    obtain ⟨y, lst, hy, rfl, hown, hlst, hbl⟩ := hrel
    by_cases hly : y < R.length
    · obtain ⟨bd, od, sd, cd, e1, hbd, q0, hsd, -, -⟩ := (up_of hbl hv1.out).at hly
      have hrd := f2.out _ (List.getElem_mem hly)
      have hsn := livL_snoc hly
      rw [← hlst.out] at hsn
      have hnx := fun (x : Nat) (hx : x < R[y].length) => livN_snoc hx
      have hle := fun x => livN_le (R[y].take x)
      obtain ⟨a, ha⟩ : ∃ x, R[y] = x := ⟨_, rfl⟩
      simp only [ha] at q0 hsd hrd hsn hnx hle
      have hal : a.length ≤ 12 := by omega
      have i1 : (0 : Int) ≤ (y : Int) := by omega
      have i2 : (y : Int) < (R.length : Int) := by omega
      have hz : livN (a.take 0) = 0 := by simp [livN]
      have hle2 : ∀ x, livN (a.take x) ≤ 12 := fun x => by
        have := (hle x).2
        rw [List.length_take] at this
        omega
      have hta : livN (a.take a.length) = livN a := by rw [List.take_length]
      replace ha := Lib.hid ha; replace hrd := Lib.hid hrd; replace hsn := Lib.hid hsn; replace hnx := Lib.hid hnx; replace hle := Lib.hid hle; replace hle2 := Lib.hid hle2; replace hz := Lib.hid hz; replace hta := Lib.hid hta; replace hown := Lib.hid hown; replace hsd := Lib.hid hsd
      subst e1
      go_wp2
      go_loop [7, 22] (fun n xx => ∃ (x : Nat) (m : Int), x ≤ a.length ∧ xx = .int .i64 x ∧ n = .int .i64 m ∧ Hid (livN (a.take x) = m)) (fun _ xx => a.length - (intOf xx).toNat)
      case atStart => exact ⟨0, 0, by omega, rfl, rfl, hz⟩
      case round =>
        obtain ⟨x, m, hx, rfl, rfl, hm⟩ := hrel
        by_cases hlx : x < a.length
        · obtain ⟨ba, oa, ea, hba, p0⟩ := hsd.out.bool_at hlx
          have hs := hnx.out x hlx
          have hm1 := (hle.out x).1
          have hm2 := hle2.out x
          rw [hm.out] at hs hm1 hm2
          obtain ⟨b, hb⟩ : ∃ b, a[x] = b := ⟨_, rfl⟩
          rw [hb] at p0 hs
          have j1 : (0 : Int) ≤ (x : Int) := by omega
          have j2 : (x : Int) < (a.length : Int) := by omega
          have w1 := i64_small (n := m + 1) (by omega)
          replace hb := Lib.hid hb
          subst ea
          cases b
          · simp only [Bool.false_eq_true, if_false] at hs
            replace hs := Lib.hid hs
            go_wp2
            go_round
            case rel => exact ⟨x + 1, m, by omega, by go_num, rfl, hs⟩
            case measure => exact meas hlx
          · simp only [if_true] at hs
            replace hs := Lib.hid hs
            go_wp2
            go_round
            case rel => exact ⟨x + 1, m + 1, by omega, by go_num, rfl, hs⟩
            case measure => exact meas hlx
        · obtain rfl : x = a.length := by omega
          have hmv : livN a = m := by rw [← hta.out, hm.out]
          have hm2 := hle2.out a.length
          have hm1 := (hle.out a.length).1
          rw [hm.out] at hm2 hm1
          have hown2 := hown.out
          have hbls := hbl.size
          have hsn2 := hsn.out
          rw [hmv] at hsn2
          have hev : intE.all (lst ++ [m]) = intE.all lst ++ [.int .i64 m] := by simp [Elt.all, intE]
          replace hev := Lib.hid hev; replace hmv := Lib.hid hmv; replace hsn2 := Lib.hid hsn2
          go_wp2_with (first | (at_builtin; obtain ⟨i0, hi, hz0, hz1, hz2⟩ := info_parts info_int; refine wpList_append_own _ rfl _ _ 36 rfl A1.heap.size 3 i0 (.int .i64 0) 1 8 Try.underlying36 hi hz0 hz1 hz2 rfl (by decide) _ _ _ rfl (hown2.alloc _) ⟨wr.heap.size, 0, none⟩ 1 1 [.int .i64 m] rfl rfl (news_new _ _ _) (by simp [Value.oneCell']) (by unfold maxLen; omega) (by omega) (by simp; omega) ?_; intro v1 w1 hown1 hgrow hnil))
          go_roundw
          case rel => exact ⟨y + 1, lst ++ [m], by omega, by go_num, by rw [hev.out]; exact hown1, Lib.hid hsn2.out.symm, Up.grown hbl hbls hown2 hgrow⟩
          case measure => exact meas hly
    · obtain rfl : y = R.length := by omega
      obtain ⟨s', c', rfl, _⟩ := owns_shape hown
      have hBf := hBA.trans (hbl.mono hAs)
      have hfin : lst = livL R := by rw [hlst.out, List.take_length]
      have hll : (livL R).length = R.length := by simp [livL]
      have hown2 : World.ownsRow wr w.heap.size 3 1 (.slice s' (livL R).length c') (livL R).length (intE.all (livL R)) := by
        rw [hll, ← hfin]; exact owns_mono hown hAs
      replace hown2 := Lib.hid hown2; replace hll := Lib.hid hll; replace hfin := Lib.hid hfin
      clear hown
      go_wp2
      go_ret2
      exact ⟨⟨s', c', by show _ = Ending.returned (.tuple #[.slice s' (livL R).length c', .int .i64 0]); rw [hll.out]; rfl, hown2.out⟩, hBf⟩
end Go.Proofs.Ytbabdoafpljdbaa
