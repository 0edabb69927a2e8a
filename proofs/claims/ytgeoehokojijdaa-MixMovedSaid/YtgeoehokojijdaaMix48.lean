/- The walk of MixMoved. -/
import Derived.Test.YtgeoehokojijdaaMix45
import Derived.Test.YtgeoehokojijdaaMix14
import Derived.Test.YtgeoehokojijdaaMix37
namespace Go.Proofs.Ytgeoehokojijdaa
open Go.RowKit

theorem sh_vals {k : List (List Clm)} (hv : vldB k = true) (q d : Int) : shE k q d = 2 ∨ (shE k q d = 0 ∧ (0 ≤ q ∧ q ≤ k.length - 1) ∧ (-50 ≤ d ∧ d ≤ 50) ∧ vldB (shiftK k q d) = true) := by
  unfold shE
  rw [if_pos hv]
  cases h1 : bw 0 q (k.length - 1)
  · left; simp
  · cases h2 : bw (-50) d 50
    · left; simp
    · cases h3 : vldB (shiftK k q d)
      · left; simp
      · right; exact ⟨by simp, bw_iff.1 h1, bw_iff.1 h2, rfl⟩
theorem sh_back {k : List (List Clm)} (hv : vldB k = true) {q d : Int} (hq : 0 ≤ q ∧ q ≤ k.length - 1) (hd : -50 ≤ d ∧ d ≤ 50) (hm : vldB (shiftK k q d) = true) : shE (shiftK k q d) q (-d) = 0 ∧ shR (shiftK k q d) q (-d) = k := by
  have e : shE (shiftK k q d) q (-d) = 0 := by
    unfold shE
    rw [shift_len, shift_back]
    have h1 : bw 0 q (k.length - 1) = true := bw_iff.2 hq
    have h2 : bw (-50) (-d) 50 = true := bw_iff.2 (by omega)
    simp [hm, hv, h1, h2]
  exact ⟨e, by unfold shR; rw [if_pos e, shift_back]⟩
theorem lst_shift {k : List (List Clm)} (hv : vldB k = true) {q d : Int} (hm : vldB (shiftK k q d) = true) : lstV (shiftK k q d) = lstV k ∧ lstE (shiftK k q d) = lstE k ∧ bndV (shiftK k q d) = bndV k ∧ bndE (shiftK k q d) = 0 ∧ bndE k = 0 := by
  refine ⟨?_, ?_, ?_, ?_, ?_⟩
  · unfold lstV; rw [hv, hm, least_shift]
  · unfold lstE; rw [hv, hm, least_shift]
  · unfold bndV; rw [hv, hm, bnd_shift]
  · simp [bndE, hm]
  · simp [bndE, hv]
set_option maxRecDepth 100000 in
set_option maxHeartbeats 2000000 in
theorem MixMoved_c (s : Option Addr) (cap : Nat) (k : List (List Clm)) (q d : Int) (w : World) (h : Ker w s cap k) (hq : -9223372036854775808 ≤ q ∧ q ≤ 9223372036854775807) (hd : -9223372036854775808 ≤ d ∧ d ≤ 9223372036854775807) :
    Calls Try.prog 14 #[.slice s k.length cap, .int .i64 q, .int .i64 d] w fun e w' => e = .returned (.bool true) ∧ Below w.heap.size w w' := by
  have hkl := h.len
  have hln := h.lens
  have hlo := fun W (h : Ker W s cap k) => Long_c s cap k W h
  have hva := fun W (h : Ker W s cap k) => rValid_c s cap k W h
  cases h1 : longB k
  case true =>
    rw [h1] at hlo
    replace hlo := Lib.hid hlo
    clear h1 hva
    go_enter Try.func14, Try.ntmps14
    go_wp2_with (first | (go_at_call 16; refine (hlo.out _ h).mono ?_; rintro e w' ⟨rfl, rfl⟩) | (go_at_call 17; refine (Awake_c _).mono ?_; rintro e W1 ⟨rfl, hb⟩; (try replace h := up_of hb h)))
    go_ret
    exact ⟨rfl, hb⟩
  rw [h1] at hlo
  clear h1
  cases h2 : vldB k
  case false =>
    rw [h2] at hva
    replace hlo := Lib.hid hlo; replace hva := Lib.hid hva
    clear h2
    go_enter Try.func14, Try.ntmps14
    go_upto_region 2 with (first | (go_at_call 16; refine (hlo.out _ h).mono ?_; rintro e w' ⟨rfl, rfl⟩) | (go_at_call 27; refine (hva.out _ h).mono ?_; rintro e W1 ⟨rfl, hb⟩; (try replace h := up_of hb h)))
    have hB := hb
    clear hb
    go_wp2_with (first | (go_at_call 17; refine (Awake_c _).mono ?_; rintro e W1 ⟨rfl, hb⟩; (try replace h := up_of hb h); (try replace hB := up_of hb hB)))
    go_ret
    exact ⟨rfl, hB⟩
  rw [h2] at hva
  have hk3 := vldB_k h2
  replace hlo := Lib.hid hlo; replace hva := Lib.hid hva
  have c1 := fun W (h : Ker W s cap k) => Shifted_c s cap k q d W h hq hd
  rcases sh_vals h2 q d with e0 | ⟨e0, hqb, hdb, hm⟩
  · rw [sh_none (by rw [e0]; decide), e0] at c1
    replace c1 := Lib.hid c1
    clear e0 h2
    go_enter Try.func14, Try.ntmps14
    go_upto_region 3 with (first | (go_at_call 16; refine (hlo.out _ h).mono ?_; rintro e w' ⟨rfl, rfl⟩) | (go_at_call 27; refine (hva.out _ h).mono ?_; rintro e W1 ⟨rfl, hb⟩; (try replace h := up_of hb h)))
    have hB := hb
    clear hb
    go_upto_region 4 with (first | (go_at_call 40; refine (c1.out _ h).mono ?_; rintro e A1 ⟨⟨s3, k3, rfl, hk1⟩, hb⟩; (try replace h := up_of hb h); (try replace hB := up_of hb hB)))
    clear hb
    go_wp2_with (first | (go_at_call 17; refine (Awake_c _).mono ?_; rintro e W1 ⟨rfl, hb⟩; (try replace h := up_of hb h); (try replace hB := up_of hb hB)))
    go_ret
    exact ⟨rfl, hB⟩
  rw [show shR k q d = shiftK k q d by simp [shR, e0], e0] at c1
  obtain ⟨b0, b1⟩ := sh_back h2 hqb hdb hm
  obtain ⟨l1, l2, l3, l4, l5⟩ := lst_shift h2 hm
  obtain ⟨q, rfl⟩ : ∃ n : Nat, q = n := ⟨q.toNat, by omega⟩
  have hqk : q < k.length := by omega
  have hML := shift_len k q d
  have hqM : q < (shiftK k q d).length := by omega
  have hMq : (shiftK k q d)[q] = k[q].map (addT d) := by rw [shift_at hqk, if_pos rfl]
  have hkq : kernB k[q] = true := by
    simp only [vldB, Bool.and_eq_true, List.all_eq_true] at h2; exact h2.2 _ (List.getElem_mem hqk)
  have hkM : kernB (shiftK k q d)[q] = true := by
    simp only [vldB, Bool.and_eq_true, List.all_eq_true] at hm; exact hm.2 _ (List.getElem_mem hqM)
  have hcol : colS (shiftK k q d)[q] = colS k[q] := by rw [hMq]; exact colS_map hkq (by rw [← hMq]; exact hkM)
  have hMl : (shiftK k q d)[q].length ≤ 9223372036854775807 := by rw [hMq, List.length_map]; exact hln _ (List.getElem_mem hqk)
  have c2 := fun W s1 c1 (h : Ker W s1 c1 (shiftK k q d)) => Shifted_c s1 c1 (shiftK k q d) q (-d) W h hq (by omega)
  rw [b0, b1] at c2
  have c3 := fun s1 c1 W (h1 : Ker W s1 c1 k) (h2 : Ker W s cap k) => Same_eq s1 s c1 cap k W h1 h2
  have c4 := fun W (h : Ker W s cap k) => Bound_c s cap k W h
  have c5 := fun W s1 c1 (h : Ker W s1 c1 (shiftK k q d)) => Bound_c s1 c1 (shiftK k q d) W h
  have c6 := fun W (h : Ker W s cap k) => Least_c s cap k W h
  have c7 := fun W s1 c1 (h : Ker W s1 c1 (shiftK k q d)) => Least_c s1 c1 (shiftK k q d) W h
  have c8 := fun W s1 c1 (h : SlS clmE W s1 k[q]) => Collide_s s1 c1 k[q] W h (hln _ (List.getElem_mem hqk))
  have c9 := fun W s1 c1 (h : SlS clmE W s1 (shiftK k q d)[q]) => Collide_s s1 c1 (shiftK k q d)[q] W h hMl
  rw [show colE k[q] = 0 by simp [colE, hkq]] at c8
  rw [show colE (shiftK k q d)[q] = 0 by simp [colE, hkM], hcol] at c9
  have ca := fun s1 s2 c1 c2 W (h1 : SlS intE W s1 (colS k[q])) (h2 : SlS intE W s2 (colS k[q])) => SameInts_eq s1 s2 c1 c2 (colS k[q]) W h1 h2 (by have := colS_len k[q]; omega)
  rw [l5] at c4
  rw [l3, l4] at c5
  rw [l1, l2] at c7
  have hNl := colS_len k[q]
  obtain ⟨M, hM⟩ : ∃ x, shiftK k q d = x := ⟨_, rfl⟩
  obtain ⟨NUM, hNUM⟩ : ∃ x, colS k[q] = x := ⟨_, rfl⟩
  obtain ⟨BV, hBV⟩ : ∃ x, bndV k = x := ⟨_, rfl⟩
  obtain ⟨LV, hLV⟩ : ∃ x, lstV k = x := ⟨_, rfl⟩
  obtain ⟨LE, hLE⟩ : ∃ x, lstE k = x := ⟨_, rfl⟩
  obtain ⟨L1, hL1⟩ : ∃ x, lstL k = x := ⟨_, rfl⟩
  obtain ⟨L2, hL2⟩ : ∃ x, lstL (shiftK k q d) = x := ⟨_, rfl⟩
  rw [hL2] at c7
  rw [hL1] at c6
  simp only [hM] at c1 c2 c5 c7 c9 hML hqM
  rw [hBV] at c4 c5
  rw [hLV, hLE] at c6 c7
  rw [hNUM] at c8 c9 ca hNl
  have hwn : IntKind.i64.wrap (-d) = -d := i64_small (by omega)
  have hmk : ((M.length : Int) != (k.length : Int)) = false := by rw [hML]; simp
  have i1 : (0 : Int) ≤ (q : Int) := by omega
  have i2 : (q : Int) < (k.length : Int) := by omega
  have i3 : (q : Int) < (M.length : Int) := by omega
  replace c1 := Lib.hid c1; replace c2 := Lib.hid c2; replace c3 := Lib.hid c3; replace c4 := Lib.hid c4; replace c5 := Lib.hid c5; replace c6 := Lib.hid c6; replace c7 := Lib.hid c7; replace c8 := Lib.hid c8; replace c9 := Lib.hid c9; replace ca := Lib.hid ca; replace hML := Lib.hid hML
  clear h2 hq hd e0 hm b0 b1 l1 l2 l3 l4 l5 hMq hkq hkM hcol hMl hNUM hBV hLV hLE hL1 hL2 hln
  go_enter Try.func14, Try.ntmps14
  go_upto_region 3 with (first | (go_at_call 16; refine (hlo.out _ h).mono ?_; rintro e w' ⟨rfl, rfl⟩) | (go_at_call 27; refine (hva.out _ h).mono ?_; rintro e W1 ⟨rfl, hb⟩; (try replace h := up_of hb h)))
  have hB := hb
  clear hb
  go_upto_region 4 with (first | (go_at_call 40; refine (c1.out _ h).mono ?_; rintro e A1 ⟨⟨s3, k3, rfl, hk1⟩, hb⟩; (try replace h := up_of hb h); (try replace hB := up_of hb hB)))
  clear hb
  go_upto_region 7 with (first | (go_at_call 40; refine (c2.out _ _ _ hk1).mono ?_; rintro e A2 ⟨⟨s4, k4, rfl, hk2⟩, hb⟩; (try replace h := up_of hb h); (try replace hB := up_of hb hB); (try replace hk1 := up_of hb hk1)))
  clear hb
  go_upto_region 9 with (first | (go_at_call 44; refine (c3.out _ _ _ hk2 h).mono ?_; rintro e A3 ⟨rfl, hb⟩; (try replace h := up_of hb h); (try replace hB := up_of hb hB); (try replace hk1 := up_of hb hk1); (try replace hk2 := up_of hb hk2)))
  clear hb
  go_upto_region 10 with (first | (go_at_call 18; refine (c4.out _ h).mono ?_; rintro e A4 ⟨rfl, hb⟩; (try replace h := up_of hb h); (try replace hB := up_of hb hB); (try replace hk1 := up_of hb hk1); (try replace hk2 := up_of hb hk2)))
  clear hb
  go_upto_region 13 with (first | (go_at_call 18; refine (c5.out _ _ _ hk1).mono ?_; rintro e A5 ⟨rfl, hb⟩; (try replace h := up_of hb h); (try replace hB := up_of hb hB); (try replace hk1 := up_of hb hk1); (try replace hk2 := up_of hb hk2)))
  clear hb
  go_upto_region 14 with (first | (go_at_call 20; refine (c6.out _ h).mono ?_; rintro e A6 ⟨⟨s5, k5, rfl, hown⟩, hb⟩; (try replace h := up_of hb h); (try replace hB := up_of hb hB); (try replace hk1 := up_of hb hk1); (try replace hk2 := up_of hb hk2)))
  clear hb hown
  go_upto_region 15 with (first | (go_at_call 20; refine (c7.out _ _ _ hk1).mono ?_; rintro e A7 ⟨⟨s6, k6, rfl, hown⟩, hb⟩; (try replace h := up_of hb h); (try replace hB := up_of hb hB); (try replace hk1 := up_of hb hk1); (try replace hk2 := up_of hb hk2)))
  clear hb hown
  obtain ⟨bk, ok, s1, e1, rfl, hbk, x0, hsl, -, -⟩ := h.ss.at hqk
  go_upto_region 16 with (first | (go_at_call 42; refine (c8.out _ _ _ hsl).mono ?_; rintro e A8 ⟨⟨s7, k7, rfl, hown⟩, hb⟩; (try replace h := up_of hb h); (try replace hB := up_of hb hB); (try replace hk1 := up_of hb hk1); (try replace hk2 := up_of hb hk2); (try replace x0 := up_of hb x0); (try replace hsl := up_of hb hsl)))
  have i7 := SlS.of_own (E := intE) hown
  clear hb hown
  obtain ⟨bm, om, s2, e2, rfl, hbm, y0, hsm, -, -⟩ := hk1.ss.at hqM
  go_upto_region 17 with (first | (go_at_call 42; refine (c9.out _ _ _ hsm).mono ?_; rintro e A9 ⟨⟨s8, k8, rfl, hown⟩, hb⟩; (try replace h := up_of hb h); (try replace hB := up_of hb hB); (try replace hk1 := up_of hb hk1); (try replace hk2 := up_of hb hk2); (try replace x0 := up_of hb x0); (try replace hsl := up_of hb hsl); (try replace i7 := up_of hb i7); (try replace y0 := up_of hb y0); (try replace hsm := up_of hb hsm)))
  have i8 := SlS.of_own (E := intE) hown
  clear hb hown
  go_wp2_with (first | (go_at_call 22; refine (ca.out _ _ _ _ _ i7 i8).mono ?_; rintro e W1 ⟨rfl, hb⟩; (try replace h := up_of hb h); (try replace hB := up_of hb hB); (try replace hk1 := up_of hb hk1); (try replace hk2 := up_of hb hk2); (try replace x0 := up_of hb x0); (try replace hsl := up_of hb hsl); (try replace i7 := up_of hb i7); (try replace y0 := up_of hb y0); (try replace hsm := up_of hb hsm); (try replace i8 := up_of hb i8)) | (go_at_call 17; refine (Awake_c _).mono ?_; rintro e W1 ⟨rfl, hb⟩; (try replace h := up_of hb h); (try replace hB := up_of hb hB); (try replace hk1 := up_of hb hk1); (try replace hk2 := up_of hb hk2); (try replace x0 := up_of hb x0); (try replace hsl := up_of hb hsl); (try replace i7 := up_of hb i7); (try replace y0 := up_of hb y0); (try replace hsm := up_of hb hsm); (try replace i8 := up_of hb i8)))
  go_ret
  exact ⟨rfl, hB⟩
end Go.Proofs.Ytgeoehokojijdaa
