/- Whether a cell lives: both. -/
import Derived.Test.YtbabdoafpljdbaaMd14
import Derived.Test.YtbabdoafpljdbaaMd15
import Derived.Test.YtbabdoafpljdbaaMd22
import Derived.Test.YtbabdoafpljdbaaHeld
namespace Go.Proofs.Ytbabdoafpljdbaa
open Go.RowKit

def lvE (wd ht : Int) (F : List Cel) (c : Cel) : Int := if gvB wd ht F then (if onB wd ht c then 0 else 2) else 70
def lvB (wd ht : Int) (F : List Cel) (c : Cel) : Bool := if lvE wd ht F c = 0 then !decide (c ∈ F) else false
def LvRet (wd ht : Int) (F : List Cel) (c : Cel) (w : World) (e : Ending) (w' : World) : Prop := e = .returned (.tuple #[.bool (lvB wd ht F c), .int .i64 (lvE wd ht F c)]) ∧ Below w.heap.size w w'
set_option maxRecDepth 100000 in
set_option maxHeartbeats 400000 in
theorem Lives_c (wd ht : Int) (s : Option Addr) (cap : Nat) (F : List Cel) (c : Cel) (w : World) (h : Cels w s cap F) :
    Calls Try.prog 27 #[.agg #[.int .i64 wd, .int .i64 ht, .slice s F.length cap], .agg #[.int .i64 c.x, .int .i64 c.y]] w (LvRet wd ht F c w) := by
  have hva := fun V (h : Cels V s cap F) => valid_c wd ht s cap F V h
  have hFl := h.len
  unfold LvRet
  cases h1 : gvB wd ht F
  case false =>
    have e0 : lvE wd ht F c = 70 := by simp [lvE, h1]
    have e1 : lvB wd ht F c = false := by simp [lvB, e0]
    rw [e0, e1]
    rw [h1] at hva
    replace hva := Lib.hid hva
    clear h1 e0 e1
    go_enter Try.func27, Try.ntmps27
    go_upto_region 1 with (fail)
    refine wp_world fun W HW => ?_
    have hB : Below w.heap.size w W := by rw [HW.out]; (repeat (first | exact Below.refl _ _ | refine Below.alloc ?_ (by simp; try omega) _ | refine Below.setCell ?_ (by simp) _ | refine Below.drew ?_))
    have g0 : W.cell? ⟨w.heap.size, 0, none⟩ = some (.int .i64 wd) := by rw [HW.out]; simp [go_sem]
    have g1 : W.cell? ⟨w.heap.size, 1, none⟩ = some (.int .i64 ht) := by rw [HW.out]; simp [go_sem]
    have g2 : W.cell? ⟨w.heap.size, 2, none⟩ = some (.slice s F.length cap) := by rw [HW.out]; simp [go_sem]
    have gl : w.heap.size < W.heap.size := World.block_lt_of_cell? W _ g0
    have c0 : W.cell? ⟨w.heap.size + 1, 0, none⟩ = some (.int .i64 c.x) := by rw [HW.out]; simp [go_sem]
    have c1 : W.cell? ⟨w.heap.size + 1, 1, none⟩ = some (.int .i64 c.y) := by rw [HW.out]; simp [go_sem]
    have cl : w.heap.size + 1 < W.heap.size := World.block_lt_of_cell? W _ c0
    try replace h := up_of hB h
    go_wp2_with (first | (go_at_call 29; refine (hva.out _ h).mono ?_; rintro e W1 ⟨rfl, hb⟩; (try replace h := up_of hb h); (try replace hB := up_of hb hB); (try replace g0 := up_of hb g0); (try replace g1 := up_of hb g1); (try replace g2 := up_of hb g2); (try replace gl := up_of hb gl); (try replace c0 := up_of hb c0); (try replace c1 := up_of hb c1); (try replace cl := up_of hb cl)))
    go_ret2
    exact ⟨rfl, hB⟩
  rw [h1] at hva
  have hvf := gv_facts h1
  obtain ⟨hW, hH, -, -⟩ := hvf
  have con := fun V => on_c wd ht s F.length cap c V hW hH
  cases h4 : onB wd ht c
  case false =>
    have e0 : lvE wd ht F c = 2 := by simp [lvE, h1, h4]
    have e1 : lvB wd ht F c = false := by simp [lvB, e0]
    rw [e0, e1]
    rw [h4] at con
    replace hva := Lib.hid hva; replace con := Lib.hid con
    clear h1 e0 e1 h4
    go_enter Try.func27, Try.ntmps27
    go_upto_region 1 with (fail)
    refine wp_world fun W HW => ?_
    have hB : Below w.heap.size w W := by rw [HW.out]; (repeat (first | exact Below.refl _ _ | refine Below.alloc ?_ (by simp; try omega) _ | refine Below.setCell ?_ (by simp) _ | refine Below.drew ?_))
    have g0 : W.cell? ⟨w.heap.size, 0, none⟩ = some (.int .i64 wd) := by rw [HW.out]; simp [go_sem]
    have g1 : W.cell? ⟨w.heap.size, 1, none⟩ = some (.int .i64 ht) := by rw [HW.out]; simp [go_sem]
    have g2 : W.cell? ⟨w.heap.size, 2, none⟩ = some (.slice s F.length cap) := by rw [HW.out]; simp [go_sem]
    have gl : w.heap.size < W.heap.size := World.block_lt_of_cell? W _ g0
    have c0 : W.cell? ⟨w.heap.size + 1, 0, none⟩ = some (.int .i64 c.x) := by rw [HW.out]; simp [go_sem]
    have c1 : W.cell? ⟨w.heap.size + 1, 1, none⟩ = some (.int .i64 c.y) := by rw [HW.out]; simp [go_sem]
    have cl : w.heap.size + 1 < W.heap.size := World.block_lt_of_cell? W _ c0
    try replace h := up_of hB h
    go_wp2_with (first | (go_at_call 29; refine (hva.out _ h).mono ?_; rintro e W1 ⟨rfl, hb⟩; (try replace h := up_of hb h); (try replace hB := up_of hb hB); (try replace g0 := up_of hb g0); (try replace g1 := up_of hb g1); (try replace g2 := up_of hb g2); (try replace gl := up_of hb gl); (try replace c0 := up_of hb c0); (try replace c1 := up_of hb c1); (try replace cl := up_of hb cl)) | (go_at_call 46; refine (con.out _).mono ?_; rintro e W1 ⟨rfl, hb⟩; (try replace h := up_of hb h); (try replace hB := up_of hb hB); (try replace g0 := up_of hb g0); (try replace g1 := up_of hb g1); (try replace g2 := up_of hb g2); (try replace gl := up_of hb gl); (try replace c0 := up_of hb c0); (try replace c1 := up_of hb c1); (try replace cl := up_of hb cl)))
    go_ret2
    exact ⟨rfl, hB⟩
  have e0 : lvE wd ht F c = 0 := by simp [lvE, h1, h4]
  have e1 : lvB wd ht F c = !decide (c ∈ F) := by simp [lvB, e0]
  rw [e0, e1]
  have ccn := fun V (h : SlS celE V s F) => cel_contains s cap F c V h hFl
  obtain ⟨B, hB0⟩ : ∃ n, decide (c ∈ F) = n := ⟨_, rfl⟩
  rw [hB0]
  simp only [hB0] at ccn
  rw [h4] at con
  replace hva := Lib.hid hva; replace con := Lib.hid con; replace ccn := Lib.hid ccn
  clear h1 e0 e1 h4 hB0
  go_enter Try.func27, Try.ntmps27
  go_upto_region 1 with (fail)
  refine wp_world fun W HW => ?_
  have hB : Below w.heap.size w W := by rw [HW.out]; (repeat (first | exact Below.refl _ _ | refine Below.alloc ?_ (by simp; try omega) _ | refine Below.setCell ?_ (by simp) _ | refine Below.drew ?_))
  have g0 : W.cell? ⟨w.heap.size, 0, none⟩ = some (.int .i64 wd) := by rw [HW.out]; simp [go_sem]
  have g1 : W.cell? ⟨w.heap.size, 1, none⟩ = some (.int .i64 ht) := by rw [HW.out]; simp [go_sem]
  have g2 : W.cell? ⟨w.heap.size, 2, none⟩ = some (.slice s F.length cap) := by rw [HW.out]; simp [go_sem]
  have gl : w.heap.size < W.heap.size := World.block_lt_of_cell? W _ g0
  have c0 : W.cell? ⟨w.heap.size + 1, 0, none⟩ = some (.int .i64 c.x) := by rw [HW.out]; simp [go_sem]
  have c1 : W.cell? ⟨w.heap.size + 1, 1, none⟩ = some (.int .i64 c.y) := by rw [HW.out]; simp [go_sem]
  have cl : w.heap.size + 1 < W.heap.size := World.block_lt_of_cell? W _ c0
  try replace h := up_of hB h
  go_wp2_with (first | (go_at_call 29; refine (hva.out _ h).mono ?_; rintro e W1 ⟨rfl, hb⟩; (try replace h := up_of hb h); (try replace hB := up_of hb hB); (try replace g0 := up_of hb g0); (try replace g1 := up_of hb g1); (try replace g2 := up_of hb g2); (try replace gl := up_of hb gl); (try replace c0 := up_of hb c0); (try replace c1 := up_of hb c1); (try replace cl := up_of hb cl)) | (go_at_call 46; refine (con.out _).mono ?_; rintro e W1 ⟨rfl, hb⟩; (try replace h := up_of hb h); (try replace hB := up_of hb hB); (try replace g0 := up_of hb g0); (try replace g1 := up_of hb g1); (try replace g2 := up_of hb g2); (try replace gl := up_of hb gl); (try replace c0 := up_of hb c0); (try replace c1 := up_of hb c1); (try replace cl := up_of hb cl)) | (go_at_call 57; refine (ccn.out _ h.sl).mono ?_; rintro e W1 ⟨rfl, hb⟩; (try replace h := up_of hb h); (try replace hB := up_of hb hB); (try replace g0 := up_of hb g0); (try replace g1 := up_of hb g1); (try replace g2 := up_of hb g2); (try replace gl := up_of hb gl); (try replace c0 := up_of hb c0); (try replace c1 := up_of hb c1); (try replace cl := up_of hb cl)))
  go_ret2
  exact ⟨rfl, hB⟩
set_option maxRecDepth 100000 in
set_option maxHeartbeats 1000000 in
theorem rLives_c (wd ht : Int) (s : Option Addr) (cap : Nat) (F : List Cel) (c : Cel) (w : World) (h : Cels w s cap F) :
    Calls Try.prog 28 #[.agg #[.int .i64 wd, .int .i64 ht, .slice s F.length cap], .agg #[.int .i64 c.x, .int .i64 c.y]] w (LvRet wd ht F c w) := by
  have hva := fun V (h : Cels V s cap F) => rValid_c wd ht s cap F V h
  have hFl := h.len
  unfold LvRet
  cases h1 : gvB wd ht F
  case false =>
    have e0 : lvE wd ht F c = 70 := by simp [lvE, h1]
    have e1 : lvB wd ht F c = false := by simp [lvB, e0]
    rw [e0, e1]
    rw [h1] at hva
    replace hva := Lib.hid hva
    clear h1 e0 e1
    go_enter Try.func28, Try.ntmps28
    go_upto_region 1 with (fail)
    refine wp_world fun W HW => ?_
    have hB : Below w.heap.size w W := by rw [HW.out]; (repeat (first | exact Below.refl _ _ | refine Below.alloc ?_ (by simp; try omega) _ | refine Below.setCell ?_ (by simp) _ | refine Below.drew ?_))
    have g0 : W.cell? ⟨w.heap.size, 0, none⟩ = some (.int .i64 wd) := by rw [HW.out]; simp [go_sem]
    have g1 : W.cell? ⟨w.heap.size, 1, none⟩ = some (.int .i64 ht) := by rw [HW.out]; simp [go_sem]
    have g2 : W.cell? ⟨w.heap.size, 2, none⟩ = some (.slice s F.length cap) := by rw [HW.out]; simp [go_sem]
    have gl : w.heap.size < W.heap.size := World.block_lt_of_cell? W _ g0
    have c0 : W.cell? ⟨w.heap.size + 1, 0, none⟩ = some (.int .i64 c.x) := by rw [HW.out]; simp [go_sem]
    have c1 : W.cell? ⟨w.heap.size + 1, 1, none⟩ = some (.int .i64 c.y) := by rw [HW.out]; simp [go_sem]
    have cl : w.heap.size + 1 < W.heap.size := World.block_lt_of_cell? W _ c0
    try replace h := up_of hB h
    go_wp2_with (first | (go_at_call 14; refine (hva.out _ h).mono ?_; rintro e W1 ⟨rfl, hb⟩; (try replace h := up_of hb h); (try replace hB := up_of hb hB); (try replace g0 := up_of hb g0); (try replace g1 := up_of hb g1); (try replace g2 := up_of hb g2); (try replace gl := up_of hb gl); (try replace c0 := up_of hb c0); (try replace c1 := up_of hb c1); (try replace cl := up_of hb cl)))
    go_ret2
    exact ⟨rfl, hB⟩
  rw [h1] at hva
  have con := fun V => ron_c wd ht s F.length cap c V
  cases h4 : onB wd ht c
  case false =>
    have e0 : lvE wd ht F c = 2 := by simp [lvE, h1, h4]
    have e1 : lvB wd ht F c = false := by simp [lvB, e0]
    rw [e0, e1]
    rw [h4] at con
    replace hva := Lib.hid hva; replace con := Lib.hid con
    clear h1 e0 e1 h4
    go_enter Try.func28, Try.ntmps28
    go_upto_region 1 with (fail)
    refine wp_world fun W HW => ?_
    have hB : Below w.heap.size w W := by rw [HW.out]; (repeat (first | exact Below.refl _ _ | refine Below.alloc ?_ (by simp; try omega) _ | refine Below.setCell ?_ (by simp) _ | refine Below.drew ?_))
    have g0 : W.cell? ⟨w.heap.size, 0, none⟩ = some (.int .i64 wd) := by rw [HW.out]; simp [go_sem]
    have g1 : W.cell? ⟨w.heap.size, 1, none⟩ = some (.int .i64 ht) := by rw [HW.out]; simp [go_sem]
    have g2 : W.cell? ⟨w.heap.size, 2, none⟩ = some (.slice s F.length cap) := by rw [HW.out]; simp [go_sem]
    have gl : w.heap.size < W.heap.size := World.block_lt_of_cell? W _ g0
    have c0 : W.cell? ⟨w.heap.size + 1, 0, none⟩ = some (.int .i64 c.x) := by rw [HW.out]; simp [go_sem]
    have c1 : W.cell? ⟨w.heap.size + 1, 1, none⟩ = some (.int .i64 c.y) := by rw [HW.out]; simp [go_sem]
    have cl : w.heap.size + 1 < W.heap.size := World.block_lt_of_cell? W _ c0
    try replace h := up_of hB h
    go_wp2_with (first | (go_at_call 14; refine (hva.out _ h).mono ?_; rintro e W1 ⟨rfl, hb⟩; (try replace h := up_of hb h); (try replace hB := up_of hb hB); (try replace g0 := up_of hb g0); (try replace g1 := up_of hb g1); (try replace g2 := up_of hb g2); (try replace gl := up_of hb gl); (try replace c0 := up_of hb c0); (try replace c1 := up_of hb c1); (try replace cl := up_of hb cl)) | (go_at_call 45; refine (con.out _).mono ?_; rintro e W1 ⟨rfl, hb⟩; (try replace h := up_of hb h); (try replace hB := up_of hb hB); (try replace g0 := up_of hb g0); (try replace g1 := up_of hb g1); (try replace g2 := up_of hb g2); (try replace gl := up_of hb gl); (try replace c0 := up_of hb c0); (try replace c1 := up_of hb c1); (try replace cl := up_of hb cl)))
    go_ret2
    exact ⟨rfl, hB⟩
  have e0 : lvE wd ht F c = 0 := by simp [lvE, h1, h4]
  have e1 : lvB wd ht F c = !decide (c ∈ F) := by simp [lvB, e0]
  rw [e0, e1]
  rw [h4] at con
  obtain ⟨g1, g2, -⟩ := gv_nat h1
  obtain ⟨wd, rfl⟩ : ∃ n : Nat, wd = n := ⟨wd.toNat, g1.symm⟩
  obtain ⟨ht, rfl⟩ : ∃ n : Nat, ht = n := ⟨ht.toNat, g2.symm⟩
  have hcb : (0 ≤ c.x ∧ c.x < wd) ∧ (0 ≤ c.y ∧ c.y < ht) := by
    rw [onB, Bool.and_eq_true] at h4
    have := bw_iff.1 h4.1
    have := bw_iff.1 h4.2
    omega
  obtain ⟨cx, cy⟩ := c
  simp only at hcb con ⊢
  obtain ⟨x, rfl⟩ : ∃ n : Nat, cx = n := ⟨cx.toNat, by omega⟩
  obtain ⟨y, rfl⟩ : ∃ n : Nat, cy = n := ⟨cy.toNat, by omega⟩
  have hx : x < wd := by omega
  have hy : y < ht := by omega
  have hfo := fun V (h : Cels V s cap F) => (fieldOf_c wd ht s cap F V h h1).mono (R' := fun e w' => (∃ s cap ss, e = .returned (.slice s (fld wd ht F).length cap) ∧ Tbl boolE 75 4 w' V.heap.size (.slice s (fld wd ht F).length cap) ss (fld wd ht F)) ∧ Below V.heap.size V w') (fun e w' ⟨s, cap, ss, he, ht, hb⟩ => ⟨⟨s, cap, ss, he, ht⟩, hb⟩)
  have hfl := fld_len wd ht F
  have hyl : y < (fld wd ht F).length := by rw [hfl]; exact hy
  have hrow : (fld wd ht F)[y] = (List.range wd).map fun (x : Nat) => !decide ((⟨x, y⟩ : Cel) ∈ F) := fld_row hy
  have hxl : x < (fld wd ht F)[y].length := by rw [hrow]; simpa using hx
  have hcell : (fld wd ht F)[y][x] = !decide ((⟨x, y⟩ : Cel) ∈ F) := by simp [hrow]
  obtain ⟨R, hR⟩ : ∃ x, fld wd ht F = x := ⟨_, rfl⟩
  obtain ⟨B, hB0⟩ : ∃ n, decide ((⟨x, y⟩ : Cel) ∈ F) = n := ⟨_, rfl⟩
  rw [hB0] at hcell ⊢
  simp only [hR] at hfo hfl hyl hrow hxl hcell
  have hrl : R[y].length = wd := by rw [hrow]; simp
  have i1 : (0 : Int) ≤ (x : Int) := by omega
  have i2 : (x : Int) < (wd : Int) := by omega
  have i3 : (0 : Int) ≤ (y : Int) := by omega
  have i4 : (y : Int) < (R.length : Int) := by omega
  have i5 : (x : Int) < (R[y].length : Int) := by omega
  replace hva := Lib.hid hva; replace con := Lib.hid con; replace hfo := Lib.hid hfo; replace hcell := Lib.hid hcell; replace hfl := Lib.hid hfl; replace hrl := Lib.hid hrl; replace hR := Lib.hid hR
  clear h1 e0 e1 h4 hB0 hrow g1 g2 hcb
  go_enter Try.func28, Try.ntmps28
  go_upto_region 1 with (fail)
  refine wp_world fun W HW => ?_
  have hB : Below w.heap.size w W := by rw [HW.out]; (repeat (first | exact Below.refl _ _ | refine Below.alloc ?_ (by simp; try omega) _ | refine Below.setCell ?_ (by simp) _ | refine Below.drew ?_))
  have g0 : W.cell? ⟨w.heap.size, 0, none⟩ = some (.int .i64 wd) := by rw [HW.out]; simp [go_sem]
  have g1 : W.cell? ⟨w.heap.size, 1, none⟩ = some (.int .i64 ht) := by rw [HW.out]; simp [go_sem]
  have g2 : W.cell? ⟨w.heap.size, 2, none⟩ = some (.slice s F.length cap) := by rw [HW.out]; simp [go_sem]
  have gl : w.heap.size < W.heap.size := World.block_lt_of_cell? W _ g0
  have c0 : W.cell? ⟨w.heap.size + 1, 0, none⟩ = some (.int .i64 x) := by rw [HW.out]; simp [go_sem]
  have c1 : W.cell? ⟨w.heap.size + 1, 1, none⟩ = some (.int .i64 y) := by rw [HW.out]; simp [go_sem]
  have cl : w.heap.size + 1 < W.heap.size := World.block_lt_of_cell? W _ c0
  try replace h := up_of hB h
  go_upto_region 5 with (first | (go_at_call 14; refine (hva.out _ h).mono ?_; rintro e W1 ⟨rfl, hb⟩; (try replace h := up_of hb h); (try replace hB := up_of hb hB); (try replace g0 := up_of hb g0); (try replace g1 := up_of hb g1); (try replace g2 := up_of hb g2); (try replace gl := up_of hb gl); (try replace c0 := up_of hb c0); (try replace c1 := up_of hb c1); (try replace cl := up_of hb cl)) | (go_at_call 45; refine (con.out _).mono ?_; rintro e W1 ⟨rfl, hb⟩; (try replace h := up_of hb h); (try replace hB := up_of hb hB); (try replace g0 := up_of hb g0); (try replace g1 := up_of hb g1); (try replace g2 := up_of hb g2); (try replace gl := up_of hb gl); (try replace c0 := up_of hb c0); (try replace c1 := up_of hb c1); (try replace cl := up_of hb cl)))
  clear hb
  refine wpL.region (m := 11) (S := fun V => V.cell? ⟨w.heap.size, 0, none⟩ = some (.int .i64 wd) ∧ V.cell? ⟨w.heap.size, 1, none⟩ = some (.int .i64 ht) ∧ V.cell? ⟨w.heap.size, 2, none⟩ = some (.slice s F.length cap) ∧ V.cell? ⟨w.heap.size + 1, 0, none⟩ = some (.int .i64 x) ∧ V.cell? ⟨w.heap.size + 1, 1, none⟩ = some (.int .i64 y)) (by kernel_rfl) ?_ (fun hHeld => ?_)
  (focus ((first | exact ⟨g0, g1, g2, c0, c1⟩ | ((first | (with_reducible exact ⟨g0, g1, g2, c0, c1⟩) | ((try dsimp only); (repeat' apply And.intro) <;> (repeat (first | (with_reducible assumption) | (with_reducible refine cell_set (by simp; try omega) ?_) | (with_reducible refine cell_drew ?_) | (with_reducible refine cell_alloc ?_ _))))))); done))
  refine wpL.take' (i := 0) rfl (by kernel_rfl) (by kernel_rfl) (by kernel_rfl) (by kernel_rfl) (by decide) (by kernel_rfl) (by assumption) ?_
  apply Exists.intro; refine ⟨fun _ _ _ h => h, Or.inl ⟨by rfl, fun V hV => ?_⟩, ?_⟩
  (focus ((try dsimp only at hV); go_simp; (try (with_reducible rfl)); done))
  try simp only [Act.put, List.setIfInBounds_toArray, List.set_cons_zero, List.set_cons_succ]
  refine wpL.take' (i := 2) rfl (by kernel_rfl) (by kernel_rfl) (by kernel_rfl) (by kernel_rfl) (by decide) (by kernel_rfl) (by assumption) ?_
  apply Exists.intro; refine ⟨fun _ _ _ h => h, Or.inl ⟨by rfl, fun V hV => ?_⟩, ?_⟩
  (focus ((try dsimp only at hV); go_simp; (try (with_reducible rfl)); done))
  try simp only [Act.put, List.setIfInBounds_toArray, List.set_cons_zero, List.set_cons_succ]
  refine wpL.take' (i := 3) rfl (by kernel_rfl) (by kernel_rfl) (by kernel_rfl) (by kernel_rfl) (by decide) (by kernel_rfl) (by assumption) ?_
  apply Exists.intro; refine ⟨fun _ _ _ h => h, Or.inl ⟨by rfl, fun V hV => ?_⟩, ?_⟩
  (focus ((try dsimp only at hV); go_simp; (try (with_reducible rfl)); done))
  try simp only [Act.put, List.setIfInBounds_toArray, List.set_cons_zero, List.set_cons_succ]
  refine wpL.take' (i := 6) rfl (by kernel_rfl) (by kernel_rfl) (by kernel_rfl) (by kernel_rfl) (by decide) (by kernel_rfl) (by assumption) ?_
  apply Exists.intro; refine ⟨fun _ _ _ h => h, Or.inl ⟨by rfl, fun V hV => ?_⟩, ?_⟩
  (focus ((try dsimp only at hV); go_simp; (try (with_reducible rfl)); done))
  try simp only [Act.put, List.setIfInBounds_toArray, List.set_cons_zero, List.set_cons_succ]
  refine wpL.take' (i := 7) rfl (by kernel_rfl) (by kernel_rfl) (by kernel_rfl) (by kernel_rfl) (by decide) (by kernel_rfl) (by assumption) ?_
  apply Exists.intro; refine ⟨fun _ _ _ h => h, Or.inl ⟨by rfl, fun V hV => ?_⟩, ?_⟩
  (focus ((try dsimp only at hV); go_simp; (try (with_reducible rfl)); done))
  try simp only [Act.put, List.setIfInBounds_toArray, List.set_cons_zero, List.set_cons_succ]
  refine wpL.one (i := 1) (by kernel_rfl) rfl fun K hK => ?_
  rw [if_pos (by rfl)]
  go_simp
  ((first | (go_at_call 51; refine calls_below (W0 := W1) ?_ fun hpre => ?_; (repeat (first | exact Below.refl _ _ | refine Below.alloc ?_ (by simp; try omega) _ | refine Below.drew ?_)); refine (hfo.out _ (up_of hpre h)).mono ?_; rintro e N1 ⟨⟨s1, k1, ss1, rfl, ht1⟩, hb1⟩; have hb := Up.trans hpre hb1; clear hpre; (first | have hs_N1 := below_alloc_lt hb1 | have hs_N1 := below_alloc_lt (drewB hb1) | skip); have gl_N1 := gl; have cl_N1 := cl; (try replace h := up_of hb h); (try replace hB := up_of hb hB); (try replace g0 := up_of hb g0); (try replace g1 := up_of hb g1); (try replace g2 := up_of hb g2); (try replace gl := up_of hb gl); (try replace c0 := up_of hb c0); (try replace c1 := up_of hb c1); (try replace cl := up_of hb cl); (first | have nB := new_up hb1 | have nB := new_up (drewB hb1) | (try replace nB := up_of hb nB)); obtain ⟨tb, tg, tc, te, _, _, q0, q1, -⟩ := ht1.cell hyl hxl; cases te; rw [hcell.out] at q1)))
  try clear hHeld
  refine hK.out _ _ ?_ (fun hHeld => ?_)
  (focus ((first | exact ⟨g0, g1, g2, c0, c1⟩ | ((first | (with_reducible exact ⟨g0, g1, g2, c0, c1⟩) | ((try dsimp only); (repeat' apply And.intro) <;> (repeat (first | (with_reducible assumption) | (with_reducible refine cell_set (by simp; try omega) ?_) | (with_reducible refine cell_drew ?_) | (with_reducible refine cell_alloc ?_ _))))))); done))
  clear hK K
  try simp only [Act.put, List.setIfInBounds_toArray, List.set_cons_zero, List.set_cons_succ]
  refine wpL.take' (i := 4) rfl (by kernel_rfl) (by kernel_rfl) (by kernel_rfl) (by kernel_rfl) (by decide) (by kernel_rfl) (by assumption) ?_
  apply Exists.intro; refine ⟨fun _ _ _ h => h, Or.inl ⟨by rfl, fun V hV => ?_⟩, ?_⟩
  (focus ((try dsimp only at hV); go_simp; (try (with_reducible rfl)); done))
  try simp only [Act.put, List.setIfInBounds_toArray, List.set_cons_zero, List.set_cons_succ]
  refine wpL.one (i := 5) (by kernel_rfl) rfl fun K hK => ?_
  rw [if_pos (by rfl)]
  go_simp
  try clear hHeld
  refine hK.out _ _ ?_ (fun hHeld => ?_)
  (focus ((first | exact ⟨g0, g1, g2, c0, c1⟩ | ((first | (with_reducible exact ⟨g0, g1, g2, c0, c1⟩) | ((try dsimp only); (repeat' apply And.intro) <;> (repeat (first | (with_reducible assumption) | (with_reducible refine cell_set (by simp; try omega) ?_) | (with_reducible refine cell_drew ?_) | (with_reducible refine cell_alloc ?_ _))))))); done))
  clear hK K
  try simp only [Act.put, List.setIfInBounds_toArray, List.set_cons_zero, List.set_cons_succ]
  refine wpL.take' (i := 8) rfl (by kernel_rfl) (by kernel_rfl) (by kernel_rfl) (by kernel_rfl) (by decide) (by kernel_rfl) (by assumption) ?_
  apply Exists.intro; refine ⟨fun _ _ _ h => h, Or.inl ⟨by rfl, fun V hV => ?_⟩, ?_⟩
  (focus ((try dsimp only at hV); go_simp; (try (with_reducible rfl)); done))
  try simp only [Act.put, List.setIfInBounds_toArray, List.set_cons_zero, List.set_cons_succ]
  refine wpL.one (i := 9) (by kernel_rfl) rfl fun K hK => ?_
  rw [if_pos (by rfl)]
  go_simp
  try clear hHeld
  refine hK.out _ _ ?_ (fun hHeld => ?_)
  (focus ((first | exact ⟨g0, g1, g2, c0, c1⟩ | ((first | (with_reducible exact ⟨g0, g1, g2, c0, c1⟩) | ((try dsimp only); (repeat' apply And.intro) <;> (repeat (first | (with_reducible assumption) | (with_reducible refine cell_set (by simp; try omega) ?_) | (with_reducible refine cell_drew ?_) | (with_reducible refine cell_alloc ?_ _))))))); done))
  clear hK K
  try simp only [Act.put, List.setIfInBounds_toArray, List.set_cons_zero, List.set_cons_succ]
  refine wpL.take' (i := 10) rfl (by kernel_rfl) (by kernel_rfl) (by kernel_rfl) (by kernel_rfl) (by decide) (by kernel_rfl) (by assumption) ?_
  apply Exists.intro; refine ⟨fun _ _ _ h => h, Or.inl ⟨by rfl, fun V hV => ?_⟩, ?_⟩
  (focus ((try dsimp only at hV); go_simp; (try (with_reducible rfl)); done))
  try simp only [Act.put, List.setIfInBounds_toArray, List.set_cons_zero, List.set_cons_succ]
  refine wpL.last (by kernel_rfl) (by kernel_rfl) rfl fun K hK => ?_
  rw [if_pos (by rfl)]
  go_simp
  refine hK.out _ _ (wpL.fin (by kernel_rfl) ?_ _)
  clear hK K
  try simp only [Act.put, List.setIfInBounds_toArray, List.set_cons_zero, List.set_cons_succ]
  all_goals
    go_wp2
    go_ret2
    first | exact ⟨rfl, hB⟩ | exact ⟨rfl, hB.drew⟩
end Go.Proofs.Ytbabdoafpljdbaa
