/- MendCounts: the walk. -/
import Derived.Test.YtbabdoafpljdbaaMd32
import Derived.Test.YtbabdoafpljdbaaMd34
import Derived.Test.YtbabdoafpljdbaaMd36
import Derived.Test.YtbabdoafpljdbaaMd22
import Derived.Test.YtbabdoafpljdbaaMdOpen
namespace Go.Proofs.Ytbabdoafpljdbaa
open Go.RowKit

theorem firP_len {r : Int} {D : List (List Bool)} : ∀ {n : Nat} {l : List Int}, firP r D n = some l → l.length = n
  | 0, l, h => by simp only [firP, Option.some.injEq] at h; subst h; rfl
  | n + 1, l, h => by
    rw [firP] at h
    cases h1 : firP r D n with
    | none => rw [h1] at h; cases h
    | some l1 =>
      rw [h1] at h
      simp only at h
      have ih := firP_len h1
      split at h
      · cases h
      · simp only [Option.some.injEq] at h; subst h
        rw [List.length_append, ih]; rfl
theorem frL_len (wd ht : Int) (F : List Cel) (r : Int) : (frL wd ht F r).length ≤ 8 := by
  unfold frL
  split
  · rename_i h
    obtain ⟨h1, -⟩ := opE_ok h
    obtain ⟨f1, -⟩ := fld_facts h1
    cases h2 : firL r (fld wd.toNat ht.toNat F) with
    | none => simp
    | some l =>
      have := firP_len h2
      rw [endL_len] at this
      simp only [Option.getD_some]; omega
  · simp
set_option maxRecDepth 100000 in
set_option maxHeartbeats 2000000 in
theorem MendCounts_w (wd ht : Int) (s : Option Addr) (cap : Nat) (F : List Cel) (r : Int) (w : World) (h : Cels w s cap F) (_ : I64 wd) (_ : I64 ht) (_ : ∀ c ∈ F, I64 c.x ∧ I64 c.y) (_ : I64 r) :
    Calls Try.prog 8 #[.agg #[.int .i64 wd, .int .i64 ht, .slice s F.length cap], .int .i64 r] w fun e w' => e = .returned (.bool true) ∧ Below w.heap.size w w' := by
  have hFl := h.len
  have hwi := fun W => wide_c wd ht s cap F.length W
  by_cases h200 : 200 < F.length
  · simp only [h200, decide_true] at hwi
    replace hwi := Lib.hid hwi
    go_enter Try.func8, Try.ntmps8
    go_upto_region 1 with (fail)
    refine wp_world fun W HW => ?_
    have hB : Below w.heap.size w W := by rw [HW.out]; (repeat (first | exact Below.refl _ _ | refine Below.alloc ?_ (by simp; try omega) _ | refine Below.setCell ?_ (by simp) _ | refine Below.drew ?_))
    have bx0 : W.cell? ⟨w.heap.size, 0, none⟩ = some (.int .i64 wd) := by rw [HW.out]; simp [go_sem]
    have bx1 : W.cell? ⟨w.heap.size, 1, none⟩ = some (.int .i64 ht) := by rw [HW.out]; simp [go_sem]
    have bx2 : W.cell? ⟨w.heap.size, 2, none⟩ = some (.slice s F.length cap) := by rw [HW.out]; simp [go_sem]
    have bxl : w.heap.size < W.heap.size := World.block_lt_of_cell? W _ bx0
    try replace h := up_of hB h
    go_wp2_with (first | (go_at_call 13; refine (hwi.out _).mono ?_; rintro e W1 ⟨rfl, hb⟩; (try replace h := up_of hb h); (try replace hB := up_of hb hB); (try replace bx0 := up_of hb bx0); (try replace bx1 := up_of hb bx1); (try replace bx2 := up_of hb bx2); (try replace bxl := up_of hb bxl)) | (go_at_call 15; refine (Awake_c _).mono ?_; rintro e W1 ⟨rfl, hb⟩; (try replace h := up_of hb h); (try replace hB := up_of hb hB); (try replace bx0 := up_of hb bx0); (try replace bx1 := up_of hb bx1); (try replace bx2 := up_of hb bx2); (try replace bxl := up_of hb bxl)))
    go_ret
    exact ⟨rfl, hB⟩
  simp only [h200, decide_false] at hwi
  have c1 := fun V (h : Cels V s cap F) => First_c wd ht r s cap F V h
  have c2 := fun V (h : Cels V s cap F) => rFirst_c wd ht r s cap F V h
  have c3 := fun V (h : Cels V s cap F) => Count_c wd ht r s cap F V h
  have c4 := fun V (h : Cels V s cap F) => rCount_c wd ht r s cap F V h
  have c5 := fun V (h : Cels V s cap F) => Most_c wd ht r s cap F V h
  have c6 := fun V (h : Cels V s cap F) => rMost_c wd ht r s cap F V h
  have hll : (frL wd ht F r).length ≤ 9223372036854775807 := Nat.le_trans (frL_len wd ht F r) (by decide)
  unfold LivRet at c1 c2
  obtain ⟨L, hL⟩ : ∃ x, frL wd ht F r = x := ⟨_, rfl⟩
  obtain ⟨E1, hE1⟩ : ∃ x, frE wd ht F r = x := ⟨_, rfl⟩
  obtain ⟨E, hE⟩ : ∃ x, opE wd ht F r = x := ⟨_, rfl⟩
  obtain ⟨N, hN⟩ : ∃ x, ctN wd ht F r = x := ⟨_, rfl⟩
  obtain ⟨M, hM⟩ : ∃ x : Int, ((clR wd ht F r).length : Nat) = x := ⟨_, rfl⟩
  simp only [hL, hE1] at c1 c2 hll
  simp only [hN, hE] at c3 c4
  simp only [hM, hE] at c5 c6
  clear hL hE1 hE hN hM h200
  have n1 : (E1 != E1) = false := by simp
  have n2 : (E != E) = false := by simp
  have n3 : (N != N) = false := by simp
  have n4 : (M == M) = true := by simp
  have n5 : (E == E) = true := by simp
  have c9 := fun V s1 k1 s2 k2 (h1 : SlS intE V s1 L) (h2 : SlS intE V s2 L) => SameInts_eq s1 s2 k1 k2 L V h1 h2 hll
  replace hwi := Lib.hid hwi; replace c1 := Lib.hid c1; replace c2 := Lib.hid c2; replace c3 := Lib.hid c3; replace c4 := Lib.hid c4; replace c5 := Lib.hid c5; replace c6 := Lib.hid c6; replace c9 := Lib.hid c9
  go_enter Try.func8, Try.ntmps8
  go_upto_region 1 with (fail)
  refine wp_world fun W HW => ?_
  have hB : Below w.heap.size w W := by rw [HW.out]; (repeat (first | exact Below.refl _ _ | refine Below.alloc ?_ (by simp; try omega) _ | refine Below.setCell ?_ (by simp) _ | refine Below.drew ?_))
  have bx0 : W.cell? ⟨w.heap.size, 0, none⟩ = some (.int .i64 wd) := by rw [HW.out]; simp [go_sem]
  have bx1 : W.cell? ⟨w.heap.size, 1, none⟩ = some (.int .i64 ht) := by rw [HW.out]; simp [go_sem]
  have bx2 : W.cell? ⟨w.heap.size, 2, none⟩ = some (.slice s F.length cap) := by rw [HW.out]; simp [go_sem]
  have bxl : w.heap.size < W.heap.size := World.block_lt_of_cell? W _ bx0
  try replace h := up_of hB h
  go_upto_region 4 with (first | (go_at_call 13; refine (hwi.out _).mono ?_; rintro e W1 ⟨rfl, hb⟩; (try replace h := up_of hb h); (try replace hB := up_of hb hB); (try replace bx0 := up_of hb bx0); (try replace bx1 := up_of hb bx1); (try replace bx2 := up_of hb bx2); (try replace bxl := up_of hb bxl)) | (go_at_call 35; refine (c1.out _ h).mono ?_; rintro e A1 ⟨⟨s1, k1, rfl, ho1⟩, hb⟩; (try replace h := up_of hb h); (try replace hB := up_of hb hB); (try replace bx0 := up_of hb bx0); (try replace bx1 := up_of hb bx1); (try replace bx2 := up_of hb bx2); (try replace bxl := up_of hb bxl)))
  have v1 := SlS.of_own (E := intE) ho1
  clear ho1 hb
  go_upto_region 5 with (first | (go_at_call 36; refine (c2.out _ h).mono ?_; rintro e A2 ⟨⟨s2, k2, rfl, ho2⟩, hb⟩; (try replace h := up_of hb h); (try replace hB := up_of hb hB); (try replace bx0 := up_of hb bx0); (try replace bx1 := up_of hb bx1); (try replace bx2 := up_of hb bx2); (try replace bxl := up_of hb bxl); (try replace v1 := up_of hb v1)))
  have v2 := SlS.of_own (E := intE) ho2
  clear ho2 hb
  go_upto_region 7 with (first | (go_at_call 32; refine (c9.out _ s1 k1 s2 k2 v1 v2).mono ?_; rintro e W1 ⟨rfl, hb⟩; (try replace h := up_of hb h); (try replace hB := up_of hb hB); (try replace bx0 := up_of hb bx0); (try replace bx1 := up_of hb bx1); (try replace bx2 := up_of hb bx2); (try replace bxl := up_of hb bxl); (try replace v1 := up_of hb v1); (try replace v2 := up_of hb v2)))
  clear v1 v2 hb
  go_wp2_with (first | (go_at_call 37; refine (c3.out _ h).mono ?_; rintro e W1 ⟨rfl, hb⟩; (try replace h := up_of hb h); (try replace hB := up_of hb hB); (try replace bx0 := up_of hb bx0); (try replace bx1 := up_of hb bx1); (try replace bx2 := up_of hb bx2); (try replace bxl := up_of hb bxl)) | (go_at_call 38; refine (c4.out _ h).mono ?_; rintro e W1 ⟨rfl, hb⟩; (try replace h := up_of hb h); (try replace hB := up_of hb hB); (try replace bx0 := up_of hb bx0); (try replace bx1 := up_of hb bx1); (try replace bx2 := up_of hb bx2); (try replace bxl := up_of hb bxl)) | (go_at_call 16; refine (c5.out _ h).mono ?_; rintro e W1 ⟨rfl, hb⟩; (try replace h := up_of hb h); (try replace hB := up_of hb hB); (try replace bx0 := up_of hb bx0); (try replace bx1 := up_of hb bx1); (try replace bx2 := up_of hb bx2); (try replace bxl := up_of hb bxl)) | (go_at_call 39; refine (c6.out _ h).mono ?_; rintro e W1 ⟨rfl, hb⟩; (try replace h := up_of hb h); (try replace hB := up_of hb hB); (try replace bx0 := up_of hb bx0); (try replace bx1 := up_of hb bx1); (try replace bx2 := up_of hb bx2); (try replace bxl := up_of hb bxl)) | (go_at_call 15; refine (Awake_c _).mono ?_; rintro e W1 ⟨rfl, hb⟩; (try replace h := up_of hb h); (try replace hB := up_of hb hB); (try replace bx0 := up_of hb bx0); (try replace bx1 := up_of hb bx1); (try replace bx2 := up_of hb bx2); (try replace bxl := up_of hb bxl)))
  go_ret
  exact ⟨rfl, hB⟩
end Go.Proofs.Ytbabdoafpljdbaa
