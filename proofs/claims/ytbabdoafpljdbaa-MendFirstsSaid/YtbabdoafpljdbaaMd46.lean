/- MendFirsts: the walk. -/
import Derived.Test.YtbabdoafpljdbaaMdLaw3
import Derived.Test.YtbabdoafpljdbaaMd34
import Derived.Test.YtbabdoafpljdbaaMd15
import Derived.Test.YtbabdoafpljdbaaMdOpen
import Derived.BigRegion
namespace Go.Proofs.Ytbabdoafpljdbaa
open Go.RowKit

set_option maxRecDepth 100000 in
set_option maxHeartbeats 4000000 in
theorem MendFirsts_w (wd ht : Int) (s : Option Addr) (cap : Nat) (F : List Cel) (r : Int) (t : Option Addr) (ct : Nat) (c : List Int) (w : World) (h : Cels w s cap F) (_ : I64 wd) (_ : I64 ht) (_ : ∀ c ∈ F, I64 c.x ∧ I64 c.y) (_ : I64 r) (gi : Ints w t c) (_ : t = none → ct = 0) (_ : c.length ≤ ct) (hcw : ∀ n ∈ c, I64 n) :
    Calls Try.prog 9 #[.agg #[.int .i64 wd, .int .i64 ht, .slice s F.length cap], .int .i64 r, .slice t c.length ct] w fun e w' => e = .returned (.bool true) ∧ Below w.heap.size w w' := by
  have g := gi.sl
  have gl := gi.len
  have hFl := h.len
  clear gi
  have hwi := fun W => wide_c wd ht s cap F.length W
  by_cases h200 : 200 < F.length
  · simp only [h200, decide_true] at hwi
    replace hwi := Lib.hid hwi
    go_enter Try.func9, Try.ntmps9
    go_upto_region 1 with (fail)
    refine wp_world fun W HW => ?_
    have hB : Below w.heap.size w W := by rw [HW.out]; (repeat (first | exact Below.refl _ _ | refine Below.alloc ?_ (by simp; try omega) _ | refine Below.setCell ?_ (by simp) _ | refine Below.drew ?_))
    have b0 : W.cell? ⟨w.heap.size, 0, none⟩ = some (.int .i64 wd) := by rw [HW.out]; simp [go_sem]
    have b1 : W.cell? ⟨w.heap.size, 1, none⟩ = some (.int .i64 ht) := by rw [HW.out]; simp [go_sem]
    have b2 : W.cell? ⟨w.heap.size, 2, none⟩ = some (.slice s F.length cap) := by rw [HW.out]; simp [go_sem]
    have bl : w.heap.size < W.heap.size := World.block_lt_of_cell? W _ b0
    try replace h := up_of hB h
    try replace g := up_of hB g
    go_wp2_with (first | (go_at_call 13; refine (hwi.out _).mono ?_; rintro e W1 ⟨rfl, hb⟩; (try replace h := up_of hb h); (try replace g := up_of hb g); (try replace hB := up_of hb hB); (try replace b0 := up_of hb b0); (try replace b1 := up_of hb b1); (try replace b2 := up_of hb b2); (try replace bl := up_of hb bl)) | (go_at_call 15; refine (Awake_c _).mono ?_; rintro e W1 ⟨rfl, hb⟩; (try replace h := up_of hb h); (try replace g := up_of hb g); (try replace hB := up_of hb hB); (try replace b0 := up_of hb b0); (try replace b1 := up_of hb b1); (try replace b2 := up_of hb b2); (try replace bl := up_of hb bl)))
    go_ret
    exact ⟨rfl, hB⟩
  simp only [h200, decide_false] at hwi
  by_cases h100 : 100 < c.length
  · replace hwi := Lib.hid hwi
    have h41 : (100 : Int) < (c.length : Int) := by omega
    go_enter Try.func9, Try.ntmps9
    go_upto_region 1 with (fail)
    refine wp_world fun W HW => ?_
    have hB : Below w.heap.size w W := by rw [HW.out]; (repeat (first | exact Below.refl _ _ | refine Below.alloc ?_ (by simp; try omega) _ | refine Below.setCell ?_ (by simp) _ | refine Below.drew ?_))
    have b0 : W.cell? ⟨w.heap.size, 0, none⟩ = some (.int .i64 wd) := by rw [HW.out]; simp [go_sem]
    have b1 : W.cell? ⟨w.heap.size, 1, none⟩ = some (.int .i64 ht) := by rw [HW.out]; simp [go_sem]
    have b2 : W.cell? ⟨w.heap.size, 2, none⟩ = some (.slice s F.length cap) := by rw [HW.out]; simp [go_sem]
    have bl : w.heap.size < W.heap.size := World.block_lt_of_cell? W _ b0
    try replace h := up_of hB h
    try replace g := up_of hB g
    go_wp2_with (first | (go_at_call 13; refine (hwi.out _).mono ?_; rintro e W1 ⟨rfl, hb⟩; (try replace h := up_of hb h); (try replace g := up_of hb g); (try replace hB := up_of hb hB); (try replace b0 := up_of hb b0); (try replace b1 := up_of hb b1); (try replace b2 := up_of hb b2); (try replace bl := up_of hb bl)) | (go_at_call 15; refine (Awake_c _).mono ?_; rintro e W1 ⟨rfl, hb⟩; (try replace h := up_of hb h); (try replace g := up_of hb g); (try replace hB := up_of hb hB); (try replace b0 := up_of hb b0); (try replace b1 := up_of hb b1); (try replace b2 := up_of hb b2); (try replace bl := up_of hb bl)))
    go_ret
    exact ⟨rfl, hB⟩
  have h41 : ¬ (100 : Int) < (c.length : Int) := by omega
  have c1 := fun V (h : Cels V s cap F) => First_c wd ht r s cap F V h
  have c2 := fun V (h : Cels V s cap F) (g : SlS intE V t c) => IsColumn_c wd ht r s cap F t ct c V h g (by omega) hcw
  have c3 := fun V (h : Cels V s cap F) => Count_c wd ht r s cap F V h
  have c4 := fun V (h : Cels V s cap F) => Most_c wd ht r s cap F V h
  unfold LivRet at c1
  have hwi2 := hwi
  replace hwi := Lib.hid hwi
  clear hwi2
  by_cases h1 : opE wd ht F r = 0
  case neg =>
    have e1 : frE wd ht F r = opE wd ht F r := by simp [frE, h1]
    obtain ⟨E, hE⟩ : ∃ x, opE wd ht F r = x := ⟨_, rfl⟩
    obtain ⟨L, hL⟩ : ∃ x, frL wd ht F r = x := ⟨_, rfl⟩
    obtain ⟨B, hB0⟩ : ∃ x, icB wd ht F r c = x := ⟨_, rfl⟩
    obtain ⟨N, hN⟩ : ∃ x, ctN wd ht F r = x := ⟨_, rfl⟩
    obtain ⟨M, hM⟩ : ∃ x, (clR wd ht F r).length = x := ⟨_, rfl⟩
    simp only [e1, hE, hL] at c1
    simp only [hB0, hE] at c2
    simp only [hN, hE] at c3
    simp only [hM, hE] at c4
    rw [hE] at h1
    have n1 : (E != E) = false := by simp
    have n2 : (E != 0) = true := by simpa using h1
    have n3 : (E == E) = true := by simp
    replace c1 := Lib.hid c1; replace c2 := Lib.hid c2; replace c3 := Lib.hid c3; replace c4 := Lib.hid c4
    clear e1 hE hL hB0 hN hM h1 h100 h200
    go_enter Try.func9, Try.ntmps9
    go_upto_region 1 with (fail)
    refine wp_world fun W HW => ?_
    have hB : Below w.heap.size w W := by rw [HW.out]; (repeat (first | exact Below.refl _ _ | refine Below.alloc ?_ (by simp; try omega) _ | refine Below.setCell ?_ (by simp) _ | refine Below.drew ?_))
    have b0 : W.cell? ⟨w.heap.size, 0, none⟩ = some (.int .i64 wd) := by rw [HW.out]; simp [go_sem]
    have b1 : W.cell? ⟨w.heap.size, 1, none⟩ = some (.int .i64 ht) := by rw [HW.out]; simp [go_sem]
    have b2 : W.cell? ⟨w.heap.size, 2, none⟩ = some (.slice s F.length cap) := by rw [HW.out]; simp [go_sem]
    have bl : w.heap.size < W.heap.size := World.block_lt_of_cell? W _ b0
    try replace h := up_of hB h
    try replace g := up_of hB g
    go_upto_region 4 with (first | (go_at_call 13; refine (hwi.out _).mono ?_; rintro e W1 ⟨rfl, hb⟩; (try replace h := up_of hb h); (try replace g := up_of hb g); (try replace hB := up_of hb hB); (try replace b0 := up_of hb b0); (try replace b1 := up_of hb b1); (try replace b2 := up_of hb b2); (try replace bl := up_of hb bl)) | (go_at_call 35; refine (c1.out _ h).mono ?_; rintro e A1 ⟨⟨s1, k1, rfl, ho1⟩, hb⟩; (try replace h := up_of hb h); (try replace g := up_of hb g); (try replace hB := up_of hb hB); (try replace b0 := up_of hb b0); (try replace b1 := up_of hb b1); (try replace b2 := up_of hb b2); (try replace bl := up_of hb bl)))
    clear ho1 hb
    go_wp2_with (first | (go_at_call 19; refine (c2.out _ h g).mono ?_; rintro e W1 ⟨rfl, hb⟩; (try replace h := up_of hb h); (try replace g := up_of hb g); (try replace hB := up_of hb hB); (try replace b0 := up_of hb b0); (try replace b1 := up_of hb b1); (try replace b2 := up_of hb b2); (try replace bl := up_of hb bl)) | (go_at_call 37; refine (c3.out _ h).mono ?_; rintro e W1 ⟨rfl, hb⟩; (try replace h := up_of hb h); (try replace g := up_of hb g); (try replace hB := up_of hb hB); (try replace b0 := up_of hb b0); (try replace b1 := up_of hb b1); (try replace b2 := up_of hb b2); (try replace bl := up_of hb bl)) | (go_at_call 16; refine (c4.out _ h).mono ?_; rintro e W1 ⟨rfl, hb⟩; (try replace h := up_of hb h); (try replace g := up_of hb g); (try replace hB := up_of hb hB); (try replace b0 := up_of hb b0); (try replace b1 := up_of hb b1); (try replace b2 := up_of hb b2); (try replace bl := up_of hb bl)) | (go_at_call 15; refine (Awake_c _).mono ?_; rintro e W1 ⟨rfl, hb⟩; (try replace h := up_of hb h); (try replace g := up_of hb g); (try replace hB := up_of hb hB); (try replace b0 := up_of hb b0); (try replace b1 := up_of hb b1); (try replace b2 := up_of hb b2); (try replace bl := up_of hb bl)))
    go_ret
    exact ⟨rfl, hB⟩
  have hv := (opE_ok h1).1
  rw [h1] at c2 c3 c4
  by_cases h5 : frE wd ht F r = 0
  case neg =>
    obtain ⟨e5, e6, e7, e8⟩ := first_none h1 h5 c
    obtain ⟨L, hL⟩ : ∃ x, frL wd ht F r = x := ⟨_, rfl⟩
    rw [e5, hL] at c1
    rw [e8] at c2
    rw [e6] at c3
    rw [e7] at c4
    replace c1 := Lib.hid c1; replace c2 := Lib.hid c2; replace c3 := Lib.hid c3; replace c4 := Lib.hid c4
    clear e5 e6 e7 e8 hL h1 h5 h100 h200 hv
    go_enter Try.func9, Try.ntmps9
    go_upto_region 1 with (fail)
    refine wp_world fun W HW => ?_
    have hB : Below w.heap.size w W := by rw [HW.out]; (repeat (first | exact Below.refl _ _ | refine Below.alloc ?_ (by simp; try omega) _ | refine Below.setCell ?_ (by simp) _ | refine Below.drew ?_))
    have b0 : W.cell? ⟨w.heap.size, 0, none⟩ = some (.int .i64 wd) := by rw [HW.out]; simp [go_sem]
    have b1 : W.cell? ⟨w.heap.size, 1, none⟩ = some (.int .i64 ht) := by rw [HW.out]; simp [go_sem]
    have b2 : W.cell? ⟨w.heap.size, 2, none⟩ = some (.slice s F.length cap) := by rw [HW.out]; simp [go_sem]
    have bl : w.heap.size < W.heap.size := World.block_lt_of_cell? W _ b0
    try replace h := up_of hB h
    try replace g := up_of hB g
    go_upto_region 4 with (first | (go_at_call 13; refine (hwi.out _).mono ?_; rintro e W1 ⟨rfl, hb⟩; (try replace h := up_of hb h); (try replace g := up_of hb g); (try replace hB := up_of hb hB); (try replace b0 := up_of hb b0); (try replace b1 := up_of hb b1); (try replace b2 := up_of hb b2); (try replace bl := up_of hb bl)) | (go_at_call 35; refine (c1.out _ h).mono ?_; rintro e A1 ⟨⟨s1, k1, rfl, ho1⟩, hb⟩; (try replace h := up_of hb h); (try replace g := up_of hb g); (try replace hB := up_of hb hB); (try replace b0 := up_of hb b0); (try replace b1 := up_of hb b1); (try replace b2 := up_of hb b2); (try replace bl := up_of hb bl)))
    clear ho1 hb
    go_wp2_with (first | (go_at_call 19; refine (c2.out _ h g).mono ?_; rintro e W1 ⟨rfl, hb⟩; (try replace h := up_of hb h); (try replace g := up_of hb g); (try replace hB := up_of hb hB); (try replace b0 := up_of hb b0); (try replace b1 := up_of hb b1); (try replace b2 := up_of hb b2); (try replace bl := up_of hb bl)) | (go_at_call 37; refine (c3.out _ h).mono ?_; rintro e W1 ⟨rfl, hb⟩; (try replace h := up_of hb h); (try replace g := up_of hb g); (try replace hB := up_of hb hB); (try replace b0 := up_of hb b0); (try replace b1 := up_of hb b1); (try replace b2 := up_of hb b2); (try replace bl := up_of hb bl)) | (go_at_call 16; refine (c4.out _ h).mono ?_; rintro e W1 ⟨rfl, hb⟩; (try replace h := up_of hb h); (try replace g := up_of hb g); (try replace hB := up_of hb hB); (try replace b0 := up_of hb b0); (try replace b1 := up_of hb b1); (try replace b2 := up_of hb b2); (try replace bl := up_of hb bl)) | (go_at_call 15; refine (Awake_c _).mono ?_; rintro e W1 ⟨rfl, hb⟩; (try replace h := up_of hb h); (try replace g := up_of hb g); (try replace hB := up_of hb hB); (try replace b0 := up_of hb b0); (try replace b1 := up_of hb b1); (try replace b2 := up_of hb b2); (try replace bl := up_of hb bl)))
    go_ret
    exact ⟨rfl, hB⟩
  obtain ⟨z1, z2, z3, z4, z5, z6⟩ := first_ok h1 h5
  obtain ⟨g1, g2, -, -, -, g8⟩ := gv_nat hv
  have c5 := fun V s1 k1 (h : Cels V s cap F) (v : SlS intE V s1 (frL wd ht F r)) => IsColumn_c wd ht r s cap F s1 k1 (frL wd ht F r) V h v (by omega) (fun n hn => by have := z5 n hn; omega)
  rw [h1, z2] at c5
  rw [h5] at c1
  have z6c := z6 c
  obtain ⟨L, hL⟩ : ∃ x, frL wd ht F r = x := ⟨_, rfl⟩
  obtain ⟨B, hB0⟩ : ∃ x, icB wd ht F r c = x := ⟨_, rfl⟩
  obtain ⟨N, hN⟩ : ∃ x, ctN wd ht F r = x := ⟨_, rfl⟩
  obtain ⟨M, hM⟩ : ∃ x, (clR wd ht F r).length = x := ⟨_, rfl⟩
  simp only [hL] at c1 c5 z1 z6c
  simp only [hB0] at c2 z6c
  simp only [hN] at c3 z4
  simp only [hM] at c4 z3 z4
  have hLh : ((L.length : Int) != ht) = false := by rw [bne_eq_false_iff_eq]; omega
  have m1 : ¬ N < 1 := by omega
  have m2 : ¬ (M : Int) < 1 := by omega
  have m2' : ¬ M < 1 := by omega
  have m2'' : ¬ M = 0 := by omega
  have m3 : ¬ N < (M : Int) := by omega
  have hLn : L.length = ht.toNat := z1
  replace c1 := Lib.hid c1; replace c2 := Lib.hid c2; replace c3 := Lib.hid c3; replace c4 := Lib.hid c4; replace c5 := Lib.hid c5; replace hLn := Lib.hid hLn; replace z6c := Lib.hid z6c
  clear hL hB0 hN hM h1 h5 h100 h200 hv z1 z2 z3 z4 z5 z6 g1 g2 g8
  go_enter Try.func9, Try.ntmps9
  go_upto_region 1 with (fail)
  refine wp_world fun W HW => ?_
  have hB : Below w.heap.size w W := by rw [HW.out]; (repeat (first | exact Below.refl _ _ | refine Below.alloc ?_ (by simp; try omega) _ | refine Below.setCell ?_ (by simp) _ | refine Below.drew ?_))
  have b0 : W.cell? ⟨w.heap.size, 0, none⟩ = some (.int .i64 wd) := by rw [HW.out]; simp [go_sem]
  have b1 : W.cell? ⟨w.heap.size, 1, none⟩ = some (.int .i64 ht) := by rw [HW.out]; simp [go_sem]
  have b2 : W.cell? ⟨w.heap.size, 2, none⟩ = some (.slice s F.length cap) := by rw [HW.out]; simp [go_sem]
  have bl : w.heap.size < W.heap.size := World.block_lt_of_cell? W _ b0
  try replace h := up_of hB h
  try replace g := up_of hB g
  go_upto_region 4 with (first | (go_at_call 13; refine (hwi.out _).mono ?_; rintro e W1 ⟨rfl, hb⟩; (try replace h := up_of hb h); (try replace g := up_of hb g); (try replace hB := up_of hb hB); (try replace b0 := up_of hb b0); (try replace b1 := up_of hb b1); (try replace b2 := up_of hb b2); (try replace bl := up_of hb bl)) | (go_at_call 35; refine (c1.out _ h).mono ?_; rintro e A1 ⟨⟨s1, k1, rfl, ho1⟩, hb⟩; (try replace h := up_of hb h); (try replace g := up_of hb g); (try replace hB := up_of hb hB); (try replace b0 := up_of hb b0); (try replace b1 := up_of hb b1); (try replace b2 := up_of hb b2); (try replace bl := up_of hb bl)))
  have v1 := SlS.of_own (E := intE) ho1
  clear ho1 hb
  go_upto_region 5 with (first | (go_at_call 19; refine (c2.out _ h g).mono ?_; rintro e W1 ⟨rfl, hb⟩; (try replace h := up_of hb h); (try replace g := up_of hb g); (try replace hB := up_of hb hB); (try replace b0 := up_of hb b0); (try replace b1 := up_of hb b1); (try replace b2 := up_of hb b2); (try replace bl := up_of hb bl); (try replace v1 := up_of hb v1)))
  go_upto_region 12 with (first | (go_at_call 37; refine (c3.out _ h).mono ?_; rintro e W1 ⟨rfl, hb⟩; (try replace h := up_of hb h); (try replace g := up_of hb g); (try replace hB := up_of hb hB); (try replace b0 := up_of hb b0); (try replace b1 := up_of hb b1); (try replace b2 := up_of hb b2); (try replace bl := up_of hb bl); (try replace v1 := up_of hb v1)) | (go_at_call 16; refine (c4.out _ h).mono ?_; rintro e W1 ⟨rfl, hb⟩; (try replace h := up_of hb h); (try replace g := up_of hb g); (try replace hB := up_of hb hB); (try replace b0 := up_of hb b0); (try replace b1 := up_of hb b1); (try replace b2 := up_of hb b2); (try replace bl := up_of hb bl); (try replace v1 := up_of hb v1)) | (go_at_call 19; refine (c5.out _ s1 k1 h v1).mono ?_; rintro e W1 ⟨rfl, hb⟩; (try replace h := up_of hb h); (try replace g := up_of hb g); (try replace hB := up_of hb hB); (try replace b0 := up_of hb b0); (try replace b1 := up_of hb b1); (try replace b2 := up_of hb b2); (try replace bl := up_of hb bl); (try replace v1 := up_of hb v1)))
  cases B
  · go_wp2_with (first | (go_at_call 15; refine (Awake_c _).mono ?_; rintro e W1 ⟨rfl, hb⟩; (try replace h := up_of hb h); (try replace g := up_of hb g); (try replace hB := up_of hb hB); (try replace b0 := up_of hb b0); (try replace b1 := up_of hb b1); (try replace b2 := up_of hb b2); (try replace bl := up_of hb bl); (try replace v1 := up_of hb v1)))
    go_ret
    exact ⟨rfl, hB⟩
  · obtain ⟨hcl, hmin⟩ := z6c.out rfl
    have hc100 : c.length ≤ 100 := by omega
    replace hmin := Lib.hid hmin; replace hcl := Lib.hid hcl
    have hg0 := Lib.hid g; have hv0 := Lib.hid v1; have hBs := hB.size
    clear z6c c1 c2 c3 c4 c5 g v1 hb
    obtain ⟨N0, rfl⟩ : ∃ N0, N0 = W1 := ⟨W1, rfl⟩
    go_wp2
    go_loopw [136] (fun jj V => ∃ j : Nat, j ≤ c.length ∧ jj = .int .i64 j ∧ Below N0.heap.size N0 V ∧ Hid (∀ i, i < j → L.getD i 0 = c.getD i 0)) (fun jj _ => c.length - (intOf jj).toNat)
    case atStart => exact ⟨0, by omega, rfl, Below.refl _ _, fun i h => absurd h (by omega)⟩
    case round =>
      clear b0 b1 b2 bl
      obtain ⟨j, hj, rfl, hbl, heq⟩ := hrel
      have hBl := hB.trans (hbl.mono hBs)
      by_cases hlj : j < c.length
      · have hjL : j < L.length := by have := hcl.out; omega
        obtain ⟨ba, oa, ea, hba, p0⟩ := (up_of hbl hg0.out).int_at hlj
        obtain ⟨bb, ob, eb, hbb, q0⟩ := (up_of hbl hv0.out).int_at hjL
        have hm := hmin.out j hlj heq.out
        have e1 : c.getD j 0 = c[j] := by rw [List.getD_eq_getElem?_getD, List.getElem?_eq_getElem hlj]; rfl
        have e2 : L.getD j 0 = L[j] := by rw [List.getD_eq_getElem?_getD, List.getElem?_eq_getElem hjL]; rfl
        rw [e1, e2] at hm
        obtain ⟨x, hx⟩ : ∃ z, c[j] = z := ⟨_, rfl⟩
        obtain ⟨y, hy⟩ : ∃ z, L[j] = z := ⟨_, rfl⟩
        rw [hx] at p0 hm e1
        rw [hy] at q0 hm e2
        have j1 : (0 : Int) ≤ (j : Int) := by omega
        have j2 : (j : Int) < (c.length : Int) := by omega
        have j3 : (j : Int) < (L.length : Int) := by omega
        replace hx := Lib.hid hx; replace hy := Lib.hid hy; replace e1 := Lib.hid e1; replace e2 := Lib.hid e2; replace hm := Lib.hid hm
        subst ea eb
        by_cases hxy : y = x
        · have k5 : (y != x) = false := by simpa using hxy
          have hn : ∀ i, i < j + 1 → L.getD i 0 = c.getD i 0 := fun i hi => by
            rcases Nat.lt_succ_iff_lt_or_eq.1 hi with h | h
            · exact heq.out i h
            · subst h; rw [e1.out, e2.out]; exact hxy
          replace hxy := Lib.hid hxy; replace hn := Lib.hid hn
          go_upto_region 19 with (fail)
          try have ld_p0 := World.block_lt_of_cell? _ _ p0
          try have ld_q0 := World.block_lt_of_cell? _ _ q0
          refine region_q (by kernel_rfl) (by kernel_rfl) ?_
          dsimp only [List.toList_toArray]
          repeat (first
           | go_big_quiet_skip
           | (go_big_quiet_want
              first
              | (refine qq_det ?_
                 apply Exists.intro; refine ⟨fun W' hW' => ?_, ?_⟩
                 (· have hk := cellB hW'; go_simp; try (first | rfl | rw [if_pos (by omega)]))
                 simp only [Act.put, List.setIfInBounds_toArray, List.set_cons_zero, List.set_cons_succ]; go_big_quiet_on)))
          refine wpQuiet_nil ?_
          intro W1 hb
          try replace hbl := up_of hb hbl
          try replace hBl := up_of hb hBl
          try replace p0 := up_of hb p0
          try replace q0 := up_of hb q0
          go_wp2
          go_roundw
          case rel => exact ⟨j + 1, by omega, by go_num, hbl, hn⟩
          case measure => exact meas hlj
        · have k5 : (y != x) = true := by simpa using hxy
          have k6 : decide (y < x) = true := decide_eq_true (hm.out hxy)
          replace hxy := Lib.hid hxy
          go_upto_region 19 with (fail)
          try have ld_p0 := World.block_lt_of_cell? _ _ p0
          try have ld_q0 := World.block_lt_of_cell? _ _ q0
          refine region_q (by kernel_rfl) (by kernel_rfl) ?_
          dsimp only [List.toList_toArray]
          repeat (first
           | go_big_quiet_skip
           | (go_big_quiet_want
              first
              | (refine qq_det ?_
                 apply Exists.intro; refine ⟨fun W' hW' => ?_, ?_⟩
                 (· have hk := cellB hW'; go_simp; try (first | rfl | rw [if_pos (by omega)]))
                 simp only [Act.put, List.setIfInBounds_toArray, List.set_cons_zero, List.set_cons_succ]; go_big_quiet_on)))
          refine wpQuiet_nil ?_
          intro W1 hb
          try replace hbl := up_of hb hbl
          try replace hBl := up_of hb hBl
          try replace p0 := up_of hb p0
          try replace q0 := up_of hb q0
          go_upto_region 20 with (fail)
          try have ld_p0 := World.block_lt_of_cell? _ _ p0
          try have ld_q0 := World.block_lt_of_cell? _ _ q0
          refine region_q (by kernel_rfl) (by kernel_rfl) ?_
          dsimp only [List.toList_toArray]
          repeat (first
           | go_big_quiet_skip
           | (go_big_quiet_want
              first
              | (refine qq_det ?_
                 apply Exists.intro; refine ⟨fun W' hW' => ?_, ?_⟩
                 (· have hk := cellB hW'; go_simp; try (first | rfl | rw [if_pos (by omega)]))
                 simp only [Act.put, List.setIfInBounds_toArray, List.set_cons_zero, List.set_cons_succ]; go_big_quiet_on)
              | (refine qq_call ?_
                 apply Exists.intro; apply Exists.intro; refine ⟨fun W' hW' => ?_, ?_⟩
                 (· have hk := cellB hW'; go_simp; exact ⟨rfl, rfl⟩)
                 apply Exists.intro; refine ⟨fun W' hW' => ?_, ?_⟩
                 (· first | (go_at_call 15; exact qc hW' (Awake_c _)))
                 simp only [Act.put, List.setIfInBounds_toArray, List.set_cons_zero, List.set_cons_succ]; go_big_quiet_on)))
          refine wpQuiet_nil ?_
          intro W1 hb
          try replace hbl := up_of hb hbl
          try replace hBl := up_of hb hBl
          try replace p0 := up_of hb p0
          try replace q0 := up_of hb q0
          go_wp2
          go_ret
          exact ⟨rfl, hBl⟩
      · obtain rfl : j = c.length := by omega
        go_wp2_with (first | (go_at_call 15; refine (Awake_c _).mono ?_; rintro e W1 ⟨rfl, hb⟩; (try replace hBl := up_of hb hBl)))
        go_ret
        exact ⟨rfl, hBl⟩
end Go.Proofs.Ytbabdoafpljdbaa
