/- Whether a list is a column of a grid: both. -/
import Derived.Test.YtbabdoafpljdbaaMd14
namespace Go.Proofs.Ytbabdoafpljdbaa
open Go.RowKit

def icB (wd ht : Int) (F : List Cel) (r : Int) (c : List Int) : Bool := if opE wd ht F r = 0 then isColB (fld wd.toNat ht.toNat F) r c else false
theorem gv_nat {wd ht : Int} {F : List Cel} (h : gvB wd ht F = true) : ((wd.toNat : Nat) : Int) = wd ∧ ((ht.toNat : Nat) : Int) = ht ∧ 1 ≤ wd.toNat ∧ wd.toNat ≤ 12 ∧ 1 ≤ ht.toNat ∧ ht.toNat ≤ 8 := by
  obtain ⟨h1, h2, _⟩ := gv_facts h
  omega
set_option maxRecDepth 100000 in
set_option maxHeartbeats 1000000 in
theorem IsColumn_c (wd ht r : Int) (s : Option Addr) (cap : Nat) (F : List Cel) (t : Option Addr) (ct : Nat) (c : List Int) (w : World) (h : Cels w s cap F) (g : SlS intE w t c) (hc : c.length ≤ 100) (hcb : ∀ n ∈ c, -9223372036854775808 ≤ n ∧ n ≤ 9223372036854775807) :
    Calls Try.prog 19 #[.agg #[.int .i64 wd, .int .i64 ht, .slice s F.length cap], .int .i64 r, .slice t c.length ct] w fun e w' => e = .returned (.tuple #[.bool (icB wd ht F r c), .int .i64 (opE wd ht F r)]) ∧ Below w.heap.size w w' := by
  have hop := fun V (h : Cels V s cap F) => opened_c wd ht r s cap F V h
  have hl := h.len
  by_cases h1 : opE wd ht F r = 0
  case neg =>
    rw [show icB wd ht F r c = false by simp [icB, h1]]
    rw [show opR wd ht F r = [] by simp [opR, h1]] at hop
    obtain ⟨E, hE⟩ : ∃ E, opE wd ht F r = E := ⟨_, rfl⟩
    rw [hE] at hop h1 ⊢
    have h2 : (E != 0) = true := by simpa using h1
    replace hop := Lib.hid hop
    clear hE h1
    go_enter Try.func19, Try.ntmps19
    go_upto_region 1 with (fail)
    refine wp_world fun W HW => ?_
    have hB : Below w.heap.size w W := by rw [HW.out]; (repeat (first | exact Below.refl _ _ | refine Below.alloc ?_ (by simp; try omega) _ | refine Below.setCell ?_ (by simp) _ | refine Below.drew ?_))
    have g0 : W.cell? ⟨w.heap.size, 0, none⟩ = some (.int .i64 wd) := by rw [HW.out]; simp [go_sem]
    have g1 : W.cell? ⟨w.heap.size, 1, none⟩ = some (.int .i64 ht) := by rw [HW.out]; simp [go_sem]
    have g2 : W.cell? ⟨w.heap.size, 2, none⟩ = some (.slice s F.length cap) := by rw [HW.out]; simp [go_sem]
    have gl : w.heap.size < W.heap.size := World.block_lt_of_cell? W _ g0
    try replace h := up_of hB h
    have hBs := hB.size
    go_wp2_with (go_at_call 48; refine (hop.out _ h).mono ?_; rintro e A1 ⟨⟨s1, k1, ss1, rfl, ht1⟩, hb⟩)
    go_ret2
    exact ⟨rfl, hB.trans (hb.mono hBs)⟩
  obtain ⟨hv, hr⟩ := opE_ok h1
  obtain ⟨f1, f2, f3⟩ := fld_facts hv
  obtain ⟨-, -, g1, -, -, -⟩ := gv_nat hv
  rw [show icB wd ht F r c = isColB (fld wd.toNat ht.toNat F) r c by simp [icB, h1], h1]
  rw [show opR wd ht F r = fld wd.toNat ht.toNat F by simp [opR, h1], h1] at hop
  have hcol := fun V s k (h : SlSS boolE V s (fld wd.toNat ht.toNat F)) (g : SlS intE V t c) => isColumn_c s k (fld wd.toNat ht.toNat F) r wd.toNat t ct c V h g f1.2 f2 ⟨g1, f3⟩ hr hc hcb
  obtain ⟨R, hR⟩ : ∃ x, fld wd.toNat ht.toNat F = x := ⟨_, rfl⟩
  simp only [hR] at hop hcol ⊢
  obtain ⟨C, hC⟩ : ∃ x, isColB R r c = x := ⟨_, rfl⟩
  simp only [hC] at hcol ⊢
  replace hop := Lib.hid hop; replace hcol := Lib.hid hcol; replace hR := Lib.hid hR; replace hC := Lib.hid hC; replace hcb := Lib.hid hcb
  clear h1 hv f1 f2 f3 g1
  go_enter Try.func19, Try.ntmps19
  go_upto_region 1 with (fail)
  refine wp_world fun W HW => ?_
  have hB : Below w.heap.size w W := by rw [HW.out]; (repeat (first | exact Below.refl _ _ | refine Below.alloc ?_ (by simp; try omega) _ | refine Below.setCell ?_ (by simp) _ | refine Below.drew ?_))
  have b0 : W.cell? ⟨w.heap.size, 0, none⟩ = some (.int .i64 wd) := by rw [HW.out]; simp [go_sem]
  have b1 : W.cell? ⟨w.heap.size, 1, none⟩ = some (.int .i64 ht) := by rw [HW.out]; simp [go_sem]
  have b2 : W.cell? ⟨w.heap.size, 2, none⟩ = some (.slice s F.length cap) := by rw [HW.out]; simp [go_sem]
  have bl : w.heap.size < W.heap.size := World.block_lt_of_cell? W _ b0
  try replace h := up_of hB h
  try replace g := up_of hB g
  have hBs := hB.size
  go_upto_region 2 with (go_at_call 48; refine (hop.out _ h).mono ?_; rintro e A1 ⟨⟨s1, k1, ss1, rfl, ht1⟩, hb⟩)
  have hc1 := Lib.hid (hcol.out _ _ k1 ht1.seen (g.up hb))
  have hBA := hB.trans (hb.mono hBs)
  have hAs := hBA.size
  clear ht1 hb
  go_wp2_with (go_at_call 49; refine hc1.out.mono ?_; rintro e A2 ⟨rfl, hb2⟩)
  go_ret2
  exact ⟨rfl, hBA.trans (hb2.mono hAs)⟩
set_option maxRecDepth 100000 in
set_option maxHeartbeats 1000000 in
theorem rIsColumn_c (wd ht r : Int) (s : Option Addr) (cap : Nat) (F : List Cel) (t : Option Addr) (ct : Nat) (c : List Int) (w : World) (h : Cels w s cap F) (g : SlS intE w t c) (hc : c.length ≤ 100) (hcb : ∀ n ∈ c, -9223372036854775808 ≤ n ∧ n ≤ 9223372036854775807) :
    Calls Try.prog 20 #[.agg #[.int .i64 wd, .int .i64 ht, .slice s F.length cap], .int .i64 r, .slice t c.length ct] w fun e w' => e = .returned (.tuple #[.bool (icB wd ht F r c), .int .i64 (opE wd ht F r)]) ∧ Below w.heap.size w w' := by
  have hop := fun V (h : Cels V s cap F) => asked_c wd ht r s cap F V h
  have hl := h.len
  by_cases h1 : opE wd ht F r = 0
  case neg =>
    rw [show icB wd ht F r c = false by simp [icB, h1]]
    obtain ⟨E, hE⟩ : ∃ E, opE wd ht F r = E := ⟨_, rfl⟩
    rw [hE] at hop h1 ⊢
    have h2 : (E != 0) = true := by simpa using h1
    replace hop := Lib.hid hop
    clear hE h1
    go_enter Try.func20, Try.ntmps20
    go_upto_region 1 with (fail)
    refine wp_world fun W HW => ?_
    have hB : Below w.heap.size w W := by rw [HW.out]; (repeat (first | exact Below.refl _ _ | refine Below.alloc ?_ (by simp; try omega) _ | refine Below.setCell ?_ (by simp) _ | refine Below.drew ?_))
    have g0 : W.cell? ⟨w.heap.size, 0, none⟩ = some (.int .i64 wd) := by rw [HW.out]; simp [go_sem]
    have g1 : W.cell? ⟨w.heap.size, 1, none⟩ = some (.int .i64 ht) := by rw [HW.out]; simp [go_sem]
    have g2 : W.cell? ⟨w.heap.size, 2, none⟩ = some (.slice s F.length cap) := by rw [HW.out]; simp [go_sem]
    have gl : w.heap.size < W.heap.size := World.block_lt_of_cell? W _ g0
    try replace h := up_of hB h
    go_wp2_with (first | (go_at_call 50; refine (hop.out _ h).mono ?_; rintro e W1 ⟨rfl, hb⟩; (try replace h := up_of hb h); (try replace hB := up_of hb hB); (try replace g0 := up_of hb g0); (try replace g1 := up_of hb g1); (try replace g2 := up_of hb g2); (try replace gl := up_of hb gl)))
    go_ret2
    exact ⟨rfl, hB⟩
  obtain ⟨hv, hr⟩ := opE_ok h1
  obtain ⟨f1, f2, f3⟩ := fld_facts hv
  obtain ⟨g1, g2, g3, -, -, -⟩ := gv_nat hv
  rw [show icB wd ht F r c = isColB (fld wd.toNat ht.toNat F) r c by simp [icB, h1], h1]
  rw [h1] at hop
  obtain ⟨wd, rfl⟩ : ∃ n : Nat, wd = n := ⟨wd.toNat, g1.symm⟩
  obtain ⟨ht, rfl⟩ : ∃ n : Nat, ht = n := ⟨ht.toNat, g2.symm⟩
  simp only [Int.toNat_natCast] at f1 f2 f3 g3 ⊢
  have hfo := fun V (h : Cels V s cap F) => fieldOf_c wd ht s cap F V h hv
  have hcol := fun V s k (h : SlSS boolE V s (fld wd ht F)) (g : SlS intE V t c) => rIsCol_c s k (fld wd ht F) r wd t ct c V h g f1.2 f2 ⟨g3, f3⟩ hr hc hcb
  obtain ⟨R, hR⟩ : ∃ x, fld wd ht F = x := ⟨_, rfl⟩
  simp only [hR] at hfo hcol ⊢
  obtain ⟨C, hC⟩ : ∃ x, isColB R r c = x := ⟨_, rfl⟩
  simp only [hC] at hcol ⊢
  replace hop := Lib.hid hop; replace hfo := Lib.hid hfo; replace hcol := Lib.hid hcol; replace hR := Lib.hid hR; replace hC := Lib.hid hC; replace hcb := Lib.hid hcb
  clear h1 hv f1 f2 f3 g1 g2 g3
  go_enter Try.func20, Try.ntmps20
  go_upto_region 1 with (fail)
  refine wp_world fun W HW => ?_
  have hB : Below w.heap.size w W := by rw [HW.out]; (repeat (first | exact Below.refl _ _ | refine Below.alloc ?_ (by simp; try omega) _ | refine Below.setCell ?_ (by simp) _ | refine Below.drew ?_))
  have b0 : W.cell? ⟨w.heap.size, 0, none⟩ = some (.int .i64 wd) := by rw [HW.out]; simp [go_sem]
  have b1 : W.cell? ⟨w.heap.size, 1, none⟩ = some (.int .i64 ht) := by rw [HW.out]; simp [go_sem]
  have b2 : W.cell? ⟨w.heap.size, 2, none⟩ = some (.slice s F.length cap) := by rw [HW.out]; simp [go_sem]
  have bl : w.heap.size < W.heap.size := World.block_lt_of_cell? W _ b0
  try replace h := up_of hB h
  try replace g := up_of hB g
  go_upto_region 4 with (first | (go_at_call 50; refine (hop.out _ h).mono ?_; rintro e W1 ⟨rfl, hb⟩; (try replace h := up_of hb h); (try replace g := up_of hb g); (try replace hB := up_of hb hB); (try replace b0 := up_of hb b0); (try replace b1 := up_of hb b1); (try replace b2 := up_of hb b2); (try replace bl := up_of hb bl)))
  have hBs := hB.size
  go_wp2_with (first
    | (go_at_call 51; refine (hfo.out _ h).mono ?_; rintro e A1 ⟨s1, k1, ss1, rfl, ht1, hb⟩
       have hc1 := Lib.hid (hcol.out _ _ k1 ht1.seen (g.up hb))
       have hBA := hB.trans (hb.mono hBs)
       have hAs := hBA.size
       clear ht1 hb)
    | (go_at_call 52; refine hc1.out.mono ?_; rintro e A2 ⟨rfl, hb2⟩))
  go_ret2
  exact ⟨rfl, hBA.trans (hb2.mono hAs)⟩
end Go.Proofs.Ytbabdoafpljdbaa
