/- The most columns that stand: the program; the sanity check. -/
import Derived.Test.YtbabdoafpljdbaaMd10
namespace Go.Proofs.Ytbabdoafpljdbaa
open Go.RowKit

def opE (wd ht : Int) (F : List Cel) (r : Int) : Int := if gvB wd ht F then (if bw 0 r 3 then 0 else 2) else 70
def opR (wd ht : Int) (F : List Cel) (r : Int) : List (List Bool) := if opE wd ht F r = 0 then fld wd.toNat ht.toNat F else []
theorem opE_ok {wd ht r : Int} {F : List Cel} (h : opE wd ht F r = 0) : gvB wd ht F = true ∧ 0 ≤ r ∧ r ≤ 3 := by
  unfold opE at h
  split at h
  · rename_i h1
    split at h
    · rename_i h2; exact ⟨h1, bw_iff.1 h2⟩
    · cases h
  · cases h
/-- What opened hands back. -/
def OpRet (R : List (List Bool)) (er : Int) (w : World) (e : Ending) (w' : World) : Prop :=
  (∃ s cap ss, e = .returned (.tuple #[.slice s R.length cap, .int .i64 er]) ∧ Tbl boolE 75 4 w' w.heap.size (.slice s R.length cap) ss R) ∧ Below w.heap.size w w'
theorem OpRet.nil {w w' : World} {er : Int} (hB : Below w.heap.size w w') : OpRet [] er w (.returned (.tuple #[.slice none 0 0, .int .i64 er])) w' := ⟨⟨none, 0, [], rfl, Tbl.nil⟩, hB⟩
set_option maxRecDepth 100000 in
set_option maxHeartbeats 1000000 in
theorem opened_c (wd ht r : Int) (s : Option Addr) (cap : Nat) (F : List Cel) (w : World) (h : Cels w s cap F) :
    Calls Try.prog 48 #[.agg #[.int .i64 wd, .int .i64 ht, .slice s F.length cap], .int .i64 r] w (OpRet (opR wd ht F r) (opE wd ht F r) w) := by
  have hva := fun V (h : Cels V s cap F) => valid_c wd ht s cap F V h
  have hl := h.len
  cases h1 : gvB wd ht F
  · have e0 : opE wd ht F r = 70 := by simp [opE, h1]
    rw [show opR wd ht F r = [] by simp [opR, e0], e0]
    rw [h1] at hva
    replace hva := Lib.hid hva
    go_enter Try.func48, Try.ntmps48
    go_upto_region 1 with (fail)
    refine wp_world fun W HW => ?_
    have hB : Below w.heap.size w W := by rw [HW.out]; (repeat (first | exact Below.refl _ _ | refine Below.alloc ?_ (by simp; try omega) _ | refine Below.setCell ?_ (by simp) _ | refine Below.drew ?_))
    have g0 : W.cell? ⟨w.heap.size, 0, none⟩ = some (.int .i64 wd) := by rw [HW.out]; simp [go_sem]
    have g1 : W.cell? ⟨w.heap.size, 1, none⟩ = some (.int .i64 ht) := by rw [HW.out]; simp [go_sem]
    have g2 : W.cell? ⟨w.heap.size, 2, none⟩ = some (.slice s F.length cap) := by rw [HW.out]; simp [go_sem]
    have gl : w.heap.size < W.heap.size := World.block_lt_of_cell? W _ g0
    try replace h := up_of hB h
    go_wp2_with (first | (go_at_call 29; refine (hva.out _ h).mono ?_; rintro e W1 ⟨rfl, hb⟩; (try replace h := up_of hb h); (try replace hB := up_of hb hB); (try replace g0 := up_of hb g0); (try replace g1 := up_of hb g1); (try replace g2 := up_of hb g2); (try replace gl := up_of hb gl)))
    go_ret2
    exact OpRet.nil hB
  rw [h1] at hva
  cases h2 : bw 0 r 3
  · have e0 : opE wd ht F r = 2 := by simp [opE, h1, h2]
    rw [show opR wd ht F r = [] by simp [opR, e0], e0]
    replace hva := Lib.hid hva
    clear h1 e0
    go_enter Try.func48, Try.ntmps48
    go_upto_region 1 with (fail)
    refine wp_world fun W HW => ?_
    have hB : Below w.heap.size w W := by rw [HW.out]; (repeat (first | exact Below.refl _ _ | refine Below.alloc ?_ (by simp; try omega) _ | refine Below.setCell ?_ (by simp) _ | refine Below.drew ?_))
    have g0 : W.cell? ⟨w.heap.size, 0, none⟩ = some (.int .i64 wd) := by rw [HW.out]; simp [go_sem]
    have g1 : W.cell? ⟨w.heap.size, 1, none⟩ = some (.int .i64 ht) := by rw [HW.out]; simp [go_sem]
    have g2 : W.cell? ⟨w.heap.size, 2, none⟩ = some (.slice s F.length cap) := by rw [HW.out]; simp [go_sem]
    have gl : w.heap.size < W.heap.size := World.block_lt_of_cell? W _ g0
    try replace h := up_of hB h
    go_wp2_with (first | (go_at_call 29; refine (hva.out _ h).mono ?_; rintro e W1 ⟨rfl, hb⟩; (try replace h := up_of hb h); (try replace hB := up_of hb hB); (try replace g0 := up_of hb g0); (try replace g1 := up_of hb g1); (try replace g2 := up_of hb g2); (try replace gl := up_of hb gl)) | (go_at_call 53; refine (between_c _ _ _ _).mono ?_; rintro e w' ⟨rfl, rfl⟩))
    go_ret2
    exact OpRet.nil hB
  have e0 : opE wd ht F r = 0 := by simp [opE, h1, h2]
  rw [show opR wd ht F r = fld wd.toNat ht.toNat F by simp [opR, e0], e0]
  obtain ⟨hW, hH, hF, hon⟩ := gv_facts h1
  obtain ⟨wd, rfl⟩ : ∃ n : Nat, wd = n := ⟨wd.toNat, by omega⟩
  obtain ⟨ht, rfl⟩ : ∃ n : Nat, ht = n := ⟨ht.toNat, by omega⟩
  have hro := fun V (h : Cels V s cap F) => rowsOf_c wd ht s cap F V h h1
  simp only [Int.toNat_natCast]
  obtain ⟨R, hR⟩ : ∃ x, fld wd ht F = x := ⟨_, rfl⟩
  simp only [hR] at hro ⊢
  replace hva := Lib.hid hva; replace hro := Lib.hid hro; replace hR := Lib.hid hR
  clear h1 e0 hon hW hH
  go_enter Try.func48, Try.ntmps48
  go_upto_region 1 with (fail)
  refine wp_world fun W HW => ?_
  have hB : Below w.heap.size w W := by rw [HW.out]; (repeat (first | exact Below.refl _ _ | refine Below.alloc ?_ (by simp; try omega) _ | refine Below.setCell ?_ (by simp) _ | refine Below.drew ?_))
  have g0 : W.cell? ⟨w.heap.size, 0, none⟩ = some (.int .i64 wd) := by rw [HW.out]; simp [go_sem]
  have g1 : W.cell? ⟨w.heap.size, 1, none⟩ = some (.int .i64 ht) := by rw [HW.out]; simp [go_sem]
  have g2 : W.cell? ⟨w.heap.size, 2, none⟩ = some (.slice s F.length cap) := by rw [HW.out]; simp [go_sem]
  have gl : w.heap.size < W.heap.size := World.block_lt_of_cell? W _ g0
  try replace h := up_of hB h
  go_upto_region 3 with (first | (go_at_call 29; refine (hva.out _ h).mono ?_; rintro e W1 ⟨rfl, hb⟩; (try replace h := up_of hb h); (try replace hB := up_of hb hB); (try replace g0 := up_of hb g0); (try replace g1 := up_of hb g1); (try replace g2 := up_of hb g2); (try replace gl := up_of hb gl)))
  have hr1 := Lib.hid (hro.out _ h)
  have hBs := hB.size
  go_wp2_with (first | (go_at_call 53; refine (between_c _ _ _ _).mono ?_; rintro e w' ⟨rfl, rfl⟩) | (go_at_call 69; refine hr1.out.mono ?_; rintro e A2 ⟨s1, k1, ss1, rfl, ht1, hb2⟩))
  go_ret2
  exact ⟨⟨s1, k1, ss1, rfl, ht1.mono hBs⟩, hB.trans (hb2.mono hBs)⟩
/-- The columns that are returned. -/
def clR (wd ht : Int) (F : List Cel) (r : Int) : List (List Int) := if opE wd ht F r = 0 then colsM r 13 (fld wd.toNat ht.toNat F) else []
theorem fld_facts {wd ht : Int} {F : List Cel} (h : gvB wd ht F = true) : (1 ≤ (fld wd.toNat ht.toNat F).length ∧ (fld wd.toNat ht.toNat F).length ≤ 8) ∧ (∀ row ∈ fld wd.toNat ht.toNat F, row.length = wd.toNat) ∧ wd.toNat ≤ 12 := by
  obtain ⟨hW, hH, _, _⟩ := gv_facts h
  rw [fld_len]
  refine ⟨by omega, fun row hr => ?_, by omega⟩
  obtain ⟨y, hy, rfl⟩ := List.getElem_of_mem hr
  rw [fld_len] at hy
  rw [fld_row hy]; simp
/-- Columns and an error, out of a call. -/
def ColRet (C : List (List Int)) (er : Int) (w : World) (e : Ending) (w' : World) : Prop :=
  (∃ s cap, e = .returned (.tuple #[.slice s C.length cap, .int .i64 er]) ∧ SlSS intE w' s C ∧ C.length ≤ 13) ∧ Below w.heap.size w w'
set_option maxRecDepth 100000 in
set_option maxHeartbeats 1000000 in
theorem Columns_c (wd ht r : Int) (s : Option Addr) (cap : Nat) (F : List Cel) (w : World) (h : Cels w s cap F) :
    Calls Try.prog 26 #[.agg #[.int .i64 wd, .int .i64 ht, .slice s F.length cap], .int .i64 r] w (ColRet (clR wd ht F r) (opE wd ht F r) w) := by
  have hop := fun V (h : Cels V s cap F) => opened_c wd ht r s cap F V h
  have hl := h.len
  by_cases h1 : opE wd ht F r = 0
  case neg =>
    rw [show clR wd ht F r = [] by simp [clR, h1]]
    rw [show opR wd ht F r = [] by simp [opR, h1]] at hop
    obtain ⟨E, hE⟩ : ∃ E, opE wd ht F r = E := ⟨_, rfl⟩
    rw [hE] at hop h1 ⊢
    have h2 : (E != 0) = true := by simpa using h1
    replace hop := Lib.hid hop
    clear hE h1
    go_enter Try.func26, Try.ntmps26
    go_upto_region 1 with (fail)
    refine wp_world fun W HW => ?_
    have hB : Below w.heap.size w W := by rw [HW.out]; (repeat (first | exact Below.refl _ _ | refine Below.alloc ?_ (by simp; try omega) _ | refine Below.setCell ?_ (by simp) _ | refine Below.drew ?_))
    have g0 : W.cell? ⟨w.heap.size, 0, none⟩ = some (.int .i64 wd) := by rw [HW.out]; simp [go_sem]
    have g1 : W.cell? ⟨w.heap.size, 1, none⟩ = some (.int .i64 ht) := by rw [HW.out]; simp [go_sem]
    have g2 : W.cell? ⟨w.heap.size, 2, none⟩ = some (.slice s F.length cap) := by rw [HW.out]; simp [go_sem]
    have gl : w.heap.size < W.heap.size := World.block_lt_of_cell? W _ g0
    try replace h := up_of hB h
    have hBs := hB.size
    go_wp2_with (go_at_call 48; refine (hop.out _ h).mono ?_; rintro e A1 ⟨⟨s1, k1, ss1, rfl, ht1⟩, hb⟩)
    go_ret2
    exact ⟨⟨none, 0, rfl, SlSS.nil, by simp⟩, hB.trans (hb.mono hBs)⟩
  obtain ⟨hv, hr⟩ := opE_ok h1
  obtain ⟨f1, f2, f3⟩ := fld_facts hv
  rw [show clR wd ht F r = colsM r 13 (fld wd.toNat ht.toNat F) by simp [clR, h1], h1]
  rw [show opR wd ht F r = fld wd.toNat ht.toNat F by simp [opR, h1], h1] at hop
  obtain ⟨r, rfl⟩ : ∃ n : Nat, r = n := ⟨r.toNat, by omega⟩
  have hcol := fun V s c (h : SlSS boolE V s (fld wd.toNat ht.toNat F)) => columns_c s c (fld wd.toNat ht.toNat F) r wd.toNat V h f1 f2 f3 (by omega)
  obtain ⟨R, hR⟩ : ∃ x, fld wd.toNat ht.toNat F = x := ⟨_, rfl⟩
  simp only [hR] at hop hcol ⊢
  obtain ⟨C, hC⟩ : ∃ x, colsM (r : Int) 13 R = x := ⟨_, rfl⟩
  simp only [hC] at hcol ⊢
  replace hop := Lib.hid hop; replace hcol := Lib.hid hcol; replace hR := Lib.hid hR; replace hC := Lib.hid hC
  clear h1 hv f1 f2 f3
  go_enter Try.func26, Try.ntmps26
  go_upto_region 1 with (fail)
  refine wp_world fun W HW => ?_
  have hB : Below w.heap.size w W := by rw [HW.out]; (repeat (first | exact Below.refl _ _ | refine Below.alloc ?_ (by simp; try omega) _ | refine Below.setCell ?_ (by simp) _ | refine Below.drew ?_))
  have g0 : W.cell? ⟨w.heap.size, 0, none⟩ = some (.int .i64 wd) := by rw [HW.out]; simp [go_sem]
  have g1 : W.cell? ⟨w.heap.size, 1, none⟩ = some (.int .i64 ht) := by rw [HW.out]; simp [go_sem]
  have g2 : W.cell? ⟨w.heap.size, 2, none⟩ = some (.slice s F.length cap) := by rw [HW.out]; simp [go_sem]
  have gl : w.heap.size < W.heap.size := World.block_lt_of_cell? W _ g0
  try replace h := up_of hB h
  have hBs := hB.size
  go_upto_region 2 with (go_at_call 48; refine (hop.out _ h).mono ?_; rintro e A1 ⟨⟨s1, k1, ss1, rfl, ht1⟩, hb⟩)
  have hc1 := Lib.hid (hcol.out _ _ k1 ht1.seen)
  have hBA := hB.trans (hb.mono hBs)
  have hAs := hBA.size
  clear ht1 hb
  go_wp2_with (go_at_call 56; refine hc1.out.mono ?_; rintro e A2 ⟨⟨s2, k2, rfl, hv2, hl2⟩, hb2⟩)
  go_ret2
  exact ⟨⟨s2, k2, rfl, hv2, hl2⟩, hBA.trans (hb2.mono hAs)⟩
set_option maxRecDepth 100000 in
theorem Most_c (wd ht r : Int) (s : Option Addr) (cap : Nat) (F : List Cel) (w : World) (h : Cels w s cap F) :
    Calls Try.prog 16 #[.agg #[.int .i64 wd, .int .i64 ht, .slice s F.length cap], .int .i64 r] w fun e w' => e = .returned (.tuple #[.int .i64 ((clR wd ht F r).length : Nat), .int .i64 (opE wd ht F r)]) ∧ Below w.heap.size w w' := by
  have hop := Lib.hid fun V (h : Cels V s cap F) => Columns_c wd ht r s cap F V h
  have hl := h.len
  obtain ⟨E, hE⟩ : ∃ E, opE wd ht F r = E := ⟨_, rfl⟩
  obtain ⟨C, hC⟩ : ∃ E, clR wd ht F r = E := ⟨_, rfl⟩
  rw [hE, hC] at hop ⊢
  replace hE := Lib.hid hE; replace hC := Lib.hid hC
  go_enter Try.func16, Try.ntmps16
  go_upto_region 1 with (fail)
  refine wp_world fun W HW => ?_
  have hB : Below w.heap.size w W := by rw [HW.out]; (repeat (first | exact Below.refl _ _ | refine Below.alloc ?_ (by simp; try omega) _ | refine Below.setCell ?_ (by simp) _ | refine Below.drew ?_))
  have g0 : W.cell? ⟨w.heap.size, 0, none⟩ = some (.int .i64 wd) := by rw [HW.out]; simp [go_sem]
  have g1 : W.cell? ⟨w.heap.size, 1, none⟩ = some (.int .i64 ht) := by rw [HW.out]; simp [go_sem]
  have g2 : W.cell? ⟨w.heap.size, 2, none⟩ = some (.slice s F.length cap) := by rw [HW.out]; simp [go_sem]
  have gl : w.heap.size < W.heap.size := World.block_lt_of_cell? W _ g0
  try replace h := up_of hB h
  have hBs := hB.size
  go_wp2_with (go_at_call 26; refine (hop.out _ h).mono ?_; rintro e A1 ⟨⟨s1, k1, rfl, hv1, hl1⟩, hb⟩)
  go_ret2
  exact ⟨rfl, hB.trans (hb.mono hBs)⟩
end Go.Proofs.Ytbabdoafpljdbaa
