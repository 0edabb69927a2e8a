/- The reference's Refutes. -/
import Derived.Test.YtfebkccdcbkdiaaPoly28
namespace Go.Proofs.Ytfebkccdcbkdiaa
open Go.RowKit

theorem right_bad {m : List Int} {k : Nat} (hk : k < m.length) (h : m[k] < 0 ∨ 1000000000000 < m[k]) : rightB m = false := by
  unfold rightB; rw [List.all_eq_false]
  exact ⟨_, List.getElem_mem hk, by simp [bw]; omega⟩
theorem right_good {m : List Int} (h : ∀ j (hj : j < m.length), bw 0 m[j] 1000000000000 = true) : rightB m = true := by
  unfold rightB; rw [List.all_eq_true]
  intro x hx
  obtain ⟨j, hj, rfl⟩ := List.getElem_of_mem hx
  exact h j hj

set_option maxRecDepth 100000 in
set_option maxHeartbeats 2000000 in
theorem rRefutes_c (n : Int) (s : Option Addr) (cs : Nat) (l : List Iq) (t : Option Addr) (ct : Nat) (m : List Int) (w : World) (h : Dom w s l) (hc : s = none → cs = 0) (ht : SlS intE w t m) (hm : m.length ≤ 9223372036854775807) :
    Calls Try.prog 38 #[.agg #[.int .i64 n, .slice s l.length cs], .slice t m.length ct] w (BoolRet (refV n l m) (refE n l m) w) := by
  replace hc := Lib.hid hc
  cases h1 : validB n l
  · rw [show refV n l m = false by simp [refV, refE, h1], show refE n l m = 10 by simp [refE, h1]]
    go_enter Try.func38, Try.ntmps38
    go_upto_region 1 with (fail)
    refine wp_world fun W HW => ?_
    have hB : Below w.heap.size w W := by rw [HW.out]; (repeat (first | exact Below.refl _ _ | refine Below.alloc ?_ (by simp; try omega) _ | refine Below.setCell ?_ (by simp) _ | refine Below.drew ?_))
    have d0 : W.cell? ⟨w.heap.size, 0, none⟩ = some (.int .i64 n) := by rw [HW.out]; simp [go_sem]
    have d1 : W.cell? ⟨w.heap.size, 1, none⟩ = some (.slice s l.length cs) := by rw [HW.out]; simp [go_sem]
    have dl : w.heap.size < W.heap.size := World.block_lt_of_cell? W _ d0
    try replace h := up_of hB h
    try replace ht := up_of hB ht
    go_wp2_with (first | (go_at_call 18; refine (rValid_t _ _ _ _ _ h).mono ?_; rintro e W1 ⟨rfl, hb⟩; (try replace h := up_of hb h); (try replace ht := up_of hb ht); (try replace hB := up_of hb hB); (try replace d0 := up_of hb d0); (try replace d1 := up_of hb d1); (try replace dl := up_of hb dl)))
    go_ret2
    exact ⟨rfl, hB⟩
  have hn := validB_n h1
  obtain ⟨hK12, hl6⟩ := wholeL_len h1
  have eE : refE n l m = if m.length = (wholeL n l).length ∧ rightB m = true then 0 else 2 := by simp [refE, h1]
  have eV : refV n l m = if m.length = (wholeL n l).length ∧ rightB m = true then refutesB (wholeL n l) m else false := by
    unfold refV; rw [eE]; split <;> simp_all
  rw [eE, eV]
  clear eE eV
  have hAll := fun W (hD : Dom W s l) => Whole_c n s cs l W hD hc.out hn hl6
  obtain ⟨K, hK⟩ : ∃ K, wholeL n l = K := ⟨_, rfl⟩
  rw [hK] at hK12 hAll ⊢
  clear hK
  replace hAll := Lib.hid hAll
  by_cases h2 : m.length = K.length
  case neg =>
    have h2' : ((m.length : Int) != (K.length : Int)) = true := by simp; omega
    rw [if_neg (fun h => h2 h.1), if_neg (fun h => h2 h.1)]
    go_enter Try.func38, Try.ntmps38
    go_upto_region 1 with (fail)
    refine wp_world fun W HW => ?_
    have hB : Below w.heap.size w W := by rw [HW.out]; (repeat (first | exact Below.refl _ _ | refine Below.alloc ?_ (by simp; try omega) _ | refine Below.setCell ?_ (by simp) _ | refine Below.drew ?_))
    have d0 : W.cell? ⟨w.heap.size, 0, none⟩ = some (.int .i64 n) := by rw [HW.out]; simp [go_sem]
    have d1 : W.cell? ⟨w.heap.size, 1, none⟩ = some (.slice s l.length cs) := by rw [HW.out]; simp [go_sem]
    have dl : w.heap.size < W.heap.size := World.block_lt_of_cell? W _ d0
    try replace h := up_of hB h
    try replace ht := up_of hB ht
    go_wp2_with (first | (go_at_call 18; refine (rValid_t _ _ _ _ _ h).mono ?_; rintro e W1 ⟨rfl, hb⟩; (try replace h := up_of hb h); (try replace ht := up_of hb ht); (try replace hB := up_of hb hB); (try replace d0 := up_of hb d0); (try replace d1 := up_of hb d1); (try replace dl := up_of hb dl)) | (go_at_call 64; refine (hAll.out _ h).mono ?_; rintro e W1 ⟨⟨s1, c1, rfl, hown⟩, hb⟩; (try replace h := up_of hb h); (try replace ht := up_of hb ht); (try replace hB := up_of hb hB); (try replace d0 := up_of hb d0); (try replace d1 := up_of hb d1); (try replace dl := up_of hb dl)))
    go_ret2
    exact ⟨rfl, hB⟩
  have h2' : ((m.length : Int) != (K.length : Int)) = false := by simp; omega
  have hm12 : m.length ≤ 12 := by omega
  have hE2 : rightB m = false → BoolRet (if m.length = K.length ∧ rightB m = true then refutesB K m else false) (if m.length = K.length ∧ rightB m = true then 0 else 2) w = BoolRet false 2 w := fun h => by simp [h]
  have hE0 : rightB m = true → BoolRet (if m.length = K.length ∧ rightB m = true then refutesB K m else false) (if m.length = K.length ∧ rightB m = true then 0 else 2) w = BoolRet (refutesB K m) 0 w := fun h => by simp [h, h2]
  obtain ⟨R, hR⟩ : ∃ R, BoolRet (if m.length = K.length ∧ rightB m = true then refutesB K m else false) (if m.length = K.length ∧ rightB m = true then 0 else 2) w = R := ⟨_, rfl⟩
  rw [hR] at hE2 hE0 ⊢
  clear hR
  replace h2 := Lib.hid h2; replace hE2 := Lib.hid hE2; replace hE0 := Lib.hid hE0
  go_enter Try.func38, Try.ntmps38
  go_upto_region 1 with (fail)
  refine wp_world fun W HW => ?_
  have hB : Below w.heap.size w W := by rw [HW.out]; (repeat (first | exact Below.refl _ _ | refine Below.alloc ?_ (by simp; try omega) _ | refine Below.setCell ?_ (by simp) _ | refine Below.drew ?_))
  have d0 : W.cell? ⟨w.heap.size, 0, none⟩ = some (.int .i64 n) := by rw [HW.out]; simp [go_sem]
  have d1 : W.cell? ⟨w.heap.size, 1, none⟩ = some (.slice s l.length cs) := by rw [HW.out]; simp [go_sem]
  have dl : w.heap.size < W.heap.size := World.block_lt_of_cell? W _ d0
  try replace h := up_of hB h
  try replace ht := up_of hB ht
  go_upto_region 6 with (first | (go_at_call 18; refine (rValid_t _ _ _ _ _ h).mono ?_; rintro e W1 ⟨rfl, hb⟩; (try replace h := up_of hb h); (try replace ht := up_of hb ht); (try replace hB := up_of hb hB); (try replace d0 := up_of hb d0); (try replace d1 := up_of hb d1); (try replace dl := up_of hb dl)) | (go_at_call 64; refine (hAll.out _ h).mono ?_; rintro e A1 ⟨⟨s1, c1, rfl, hown⟩, hb⟩; (try replace h := up_of hb h); (try replace ht := up_of hb ht); (try replace hB := up_of hb hB); (try replace d0 := up_of hb d0); (try replace d1 := up_of hb d1); (try replace dl := up_of hb dl)))
  have hq := Lib.hid (owns_iq hown)
  replace ht := Lib.hid ht
  clear hown hb h
  have hAB := hB
  go_upto_region 8 with (fail)
  refine wp_world fun X HX => ?_
  have hX : Below A1.heap.size A1 X := by
    rw [HX.out]
    repeat (first | (with_reducible exact Below.refl _ _) | (with_reducible refine Below.drew ?_) | ((with_reducible refine Below.setC ?_ ?_); (focus (first | omega | (simp; done) | (simp; omega)))) | ((with_reducible refine Below.allo ?_ ?_); (focus (first | omega | (simp; done) | (simp; omega)))))
  have rA : Row X A1.heap.size 26 (ptA (accA K m 0)) := by
    rw [HX.out]
    refine Row.of ?_
    repeat (first | (with_reducible refine RowG.new ?_) | (with_reducible refine RowG.drew ?_) | (with_reducible refine RowG.set ?_) | ((with_reducible refine RowG.other ?_ ?_); (focus (first | omega | (simp; done) | (simp; omega)))) | ((with_reducible refine RowG.new' ?_ ?_); (focus (first | omega | (simp; done) | (simp; omega)))) | (with_reducible refine RowG.alloc ?_))
    rfl
  clear d0 d1 dl
  go_wp2
  go_loopw [8, 24] (fun b i wr => ∃ k : Nat, k ≤ K.length ∧ i = .int .i64 k ∧ b = .int .i64 (accB K m k) ∧ Row wr A1.heap.size 26 (ptA (accA K m k)) ∧ Below A1.heap.size A1 wr ∧ Hid (∀ j (hj : j < m.length), j < k → bw 0 m[j] 1000000000000 = true)) (fun _ i _ => K.length - (intOf i).toNat)
  case atStart => exact ⟨0, by omega, rfl, rfl, rA, hX, fun j _ h => absurd h (by omega)⟩
  case round =>
    clear rA hX
    obtain ⟨k, hk, rfl, rfl, rA, hX, hgood⟩ := hrel
    have hAl := rA.lt
    by_cases hlt : k < K.length
    · have hkm : k < m.length := by have := h2.out; omega
      have eA := Lib.hid (accA_succ hlt hkm)
      have eB := Lib.hid (accB_succ hlt hkm)
      obtain ⟨a, ha⟩ : ∃ a, accA K m k = a := ⟨_, rfl⟩
      obtain ⟨bb, hbb⟩ : ∃ b, accB K m k = b := ⟨_, rfl⟩
      rw [ha] at rA eA
      rw [hbb] at eB ⊢
      clear ha hbb
      obtain ⟨b1, o1, rfl, hb1, q0, q1, q2, q3⟩ := (Up.iq hX hq.out).at hlt
      obtain ⟨b2, o2, rfl, hb2, hm0⟩ := (SlS.up hX ht.out).at hkm
      have m0 := hm0 0 _ rfl
      simp only [intE, Nat.mul_one, Nat.add_zero] at m0
      clear hm0
      have g1 : (0 : Int) ≤ (k : Int) := by omega
      have g2 : (k : Int) < (K.length : Int) := by omega
      have g3 : (k : Int) < (m.length : Int) := by omega
      go_upto_region 11 with (fail)
      have hwr : A1.heap.size < wr.heap.size := hAl
      refine wp_world fun Y HY => ?_
      have hY : Below wr.heap.size wr Y := by rw [HY.out]; (repeat (first | exact Below.refl _ _ | refine Below.alloc ?_ (by simp; try omega) _ | refine Below.setCell ?_ (by simp) _ | refine Below.drew ?_))
      have qB : Row Y (wr.heap.size) 64 #[.int .i64 K[k].a.x, .int .i64 K[k].a.y, .int .i64 K[k].a.z, .int .i64 K[k].b] := (by rw [HY.out]; (repeat (first | (refine blk_new ?_; simp; done) | refine blk_old ?_ _)) : Y.heap[wr.heap.size]? = some (.cells #[.int .i64 K[k].a.x, .int .i64 K[k].a.y, .int .i64 K[k].a.z, .int .i64 K[k].b] 64 (0, 0)))
      have q0 : Y.cell? ⟨wr.heap.size, 0, none⟩ = some (.int .i64 K[k].a.x) := by rw [HY.out]; simp [go_sem]
      have q1 : Y.cell? ⟨wr.heap.size, 1, none⟩ = some (.int .i64 K[k].a.y) := by rw [HY.out]; simp [go_sem]
      have q2 : Y.cell? ⟨wr.heap.size, 2, none⟩ = some (.int .i64 K[k].a.z) := by rw [HY.out]; simp [go_sem]
      have q3 : Y.cell? ⟨wr.heap.size, 3, none⟩ = some (.int .i64 K[k].b) := by rw [HY.out]; simp [go_sem]
      have ql : wr.heap.size < Y.heap.size := World.block_lt_of_cell? Y _ q0
      try replace rA := up_of hY rA
      try replace hX := up_of hY hX
      try replace hAl := up_of hY hAl
      try replace m0 := up_of hY m0
      have hYs := hY.size
      by_cases c1 : m[k] < 0
      · have hbad := Lib.hid (right_bad hkm (.inl c1))
        go_wp2
        rw [hE2.out hbad.out]
        exact ⟨rfl, Up.to hAB hX hAB.size⟩
      by_cases c2 : 1000000000000 < m[k]
      · have hbad := Lib.hid (right_bad hkm (.inr c2))
        go_wp2
        rw [hE2.out hbad.out]
        exact ⟨rfl, Up.to hAB hX hAB.size⟩
      have hgk := Lib.hid (show bw 0 m[k] 1000000000000 = true by simp [bw]; omega)
      go_wp2
      go_loopw [41] (fun i wr => ((i = .int .i64 0 ∧ Row wr A1.heap.size 26 #[.int .i64 a.x, .int .i64 a.y, .int .i64 a.z]) ∨
          (i = .int .i64 1 ∧ Row wr A1.heap.size 26 #[.int .i64 (accP a K[k].a m[k]).x, .int .i64 a.y, .int .i64 a.z]) ∨
          (i = .int .i64 2 ∧ Row wr A1.heap.size 26 #[.int .i64 (accP a K[k].a m[k]).x, .int .i64 (accP a K[k].a m[k]).y, .int .i64 a.z]) ∨
          (i = .int .i64 3 ∧ Row wr A1.heap.size 26 #[.int .i64 (accP a K[k].a m[k]).x, .int .i64 (accP a K[k].a m[k]).y, .int .i64 (accP a K[k].a m[k]).z])) ∧ Chg (fun j => j = A1.heap.size) Y wr) (fun i _ => 3 - (intOf i).toNat)
      case atStart => exact ⟨.inl ⟨rfl, rA⟩, Chg.refl _ _⟩
      case round =>
        obtain ⟨hrel, hC⟩ := hrel
        clear rA m0
        have hCs := hC.size
        have hBr : Below A1.heap.size A1 _ := hC.below (n := A1.heap.size) (fun j hj => by omega) hX.size hX
        obtain ⟨b3, o3, ho, hb3, hm0⟩ := (SlS.up hBr ht.out).at hkm
        cases ho
        have m0 := hm0 0 _ rfl
        simp only [intE, Nat.mul_one, Nat.add_zero] at m0
        clear hm0
        replace qB := hC.row (by omega) qB
        have q0 := qB.cell (i := 0) rfl
        have q1 := qB.cell (i := 1) rfl
        have q2 := qB.cell (i := 2) rfl
        have q3 := qB.cell (i := 3) rfl
        rcases hrel with ⟨rfl, rA⟩ | ⟨rfl, rA⟩ | ⟨rfl, rA⟩ | ⟨rfl, rA⟩
        · obtain ⟨a0, a1, a2⟩ := rA.three
          have af := rA.frozen 0
          go_upto_region 16 with (fail)
          go_region
          all_goals
            go_wp2
            go_roundw
            case rel =>
              refine ⟨.inr (.inl ⟨rfl, ?_⟩), ?_⟩
              · refine Row.of ?_
                repeat (first | (with_reducible refine RowG.base rA ?_) | (with_reducible refine RowG.drew ?_) | (with_reducible refine RowG.set ?_) | ((with_reducible refine RowG.other ?_ ?_); (focus (first | omega | (simp; done) | (simp; omega)))) | (with_reducible refine RowG.alloc ?_))
                (first | rfl | (simp [accP, i64_wrap, Int.mul_comm]))
              · repeat (first | (with_reducible exact hC) | (with_reducible refine Chg.setCell ?_ (by simp) _) | (with_reducible refine Chg.drew ?_) | (with_reducible refine Chg.alloc ?_ _))
            case measure => simp [intOf]
        · obtain ⟨a0, a1, a2⟩ := rA.three
          have af := rA.frozen 1
          go_upto_region 16 with (fail)
          go_region
          all_goals
            go_wp2
            go_roundw
            case rel =>
              refine ⟨.inr (.inr (.inl ⟨rfl, ?_⟩)), ?_⟩
              · refine Row.of ?_
                repeat (first | (with_reducible refine RowG.base rA ?_) | (with_reducible refine RowG.drew ?_) | (with_reducible refine RowG.set ?_) | ((with_reducible refine RowG.other ?_ ?_); (focus (first | omega | (simp; done) | (simp; omega)))) | (with_reducible refine RowG.alloc ?_))
                (first | rfl | (simp [accP, i64_wrap, Int.mul_comm]))
              · repeat (first | (with_reducible exact hC) | (with_reducible refine Chg.setCell ?_ (by simp) _) | (with_reducible refine Chg.drew ?_) | (with_reducible refine Chg.alloc ?_ _))
            case measure => simp [intOf]
        · obtain ⟨a0, a1, a2⟩ := rA.three
          have af := rA.frozen 2
          go_upto_region 16 with (fail)
          go_region
          all_goals
            go_wp2
            go_roundw
            case rel =>
              refine ⟨.inr (.inr (.inr ⟨rfl, ?_⟩)), ?_⟩
              · refine Row.of ?_
                repeat (first | (with_reducible refine RowG.base rA ?_) | (with_reducible refine RowG.drew ?_) | (with_reducible refine RowG.set ?_) | ((with_reducible refine RowG.other ?_ ?_); (focus (first | omega | (simp; done) | (simp; omega)))) | (with_reducible refine RowG.alloc ?_))
                (first | rfl | (simp [accP, i64_wrap, Int.mul_comm]))
              · repeat (first | (with_reducible exact hC) | (with_reducible refine Chg.setCell ?_ (by simp) _) | (with_reducible refine Chg.drew ?_) | (with_reducible refine Chg.alloc ?_ _))
            case measure => simp [intOf]
        · obtain ⟨a0, a1, a2⟩ := rA.three
          have hqz := qB.lt
          go_upto_region 18 with (fail)
          refine region_q (by kernel_rfl) (by kernel_rfl) ?_
          dsimp only [List.toList_toArray]
          repeat (first
           | go_big_quiet_skip
           | (go_big_quiet_want
              first
              | (refine qq_det ?_
                 apply Exists.intro; refine ⟨fun W' hW' => ?_, ?_⟩
                 (· have hk := cellB hW'; go_simp; try (first | rfl | rw [if_pos (by omega)]))
                 simp only [Act.put, List.setIfInBounds_toArray, List.set_cons_zero, List.set_cons_succ]; go_big_quiet_on)))
          refine wpQuiet_nil ?_
          intro W1 hb
          try replace rA := up_of hb rA
          replace hBr := Up.to hBr hb hBr.size
          go_wp2
          go_roundw
          case rel => exact ⟨k + 1, by omega, rfl, by rw [eB.out]; first | rfl | (rw [Int.mul_comm]; rfl) | (simp [i64_wrap, Int.mul_comm]), by rw [eA.out]; exact rA, hBr, fun j hj h => by rcases Nat.lt_succ_iff_lt_or_eq.1 h with h | rfl; exact hgood j hj h; exact hgk⟩
          case measure => exact meas hlt
    · obtain rfl : k = K.length := by omega
      have hgd := Lib.hid (right_good fun j hj => hgood j hj (by have := h2.out; omega))
      have hz := pt_eq_zero (accA K m K.length)
      obtain ⟨a0, a1, a2⟩ := rA.three
      have hf : refutesB K m = (decide (accA K m K.length = ⟨0, 0, 0⟩) && decide (accB K m K.length < 0)) := rfl
      obtain ⟨a, ha⟩ : ∃ a, accA K m K.length = a := ⟨_, rfl⟩
      obtain ⟨b, hb⟩ : ∃ b, accB K m K.length = b := ⟨_, rfl⟩
      rw [ha] at hz a0 a1 a2
      rw [ha, hb] at hf
      rw [hb]
      replace hf := Lib.hid hf
      cases hd : decide (a = ⟨0, 0, 0⟩)
      all_goals
        rw [hd] at hz hf
        clear rA ha hb hd
        go_wp2
        rw [hE0.out hgd.out]
        exact ⟨by rw [hf.out]; simp [Array.getD], Up.to hAB hX hAB.size⟩
end Go.Proofs.Ytfebkccdcbkdiaa
