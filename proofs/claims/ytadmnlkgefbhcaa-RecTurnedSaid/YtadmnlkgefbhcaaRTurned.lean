/- The turned recurrence: the reference. -/
import Derived.Test.YtadmnlkgefbhcaaTurned
import Derived.Test.YtadmnlkgefbhcaaRLv2
namespace Go.Proofs.Ytadmnlkgefbhcaa
open Go.RowKit

set_option maxRecDepth 100000 in
set_option maxHeartbeats 4000000 in
theorem rTurned2_c (n : Int) (s : Option Addr) (cap : Nat) (l : List Iq) (s2 : Option Addr) (cq : Nat) (K : List Vv) (p : Pt) (w : World) (hr : RecM w s l s2 cq K) :
    Calls Try.prog 16 #[.agg #[.int .i64 n, .slice s l.length cap, .slice s2 K.length cq], .agg #[.int .i64 p.x, .int .i64 p.y, .int .i64 p.z]] w fun e w' => TuRet n l K p e w' ∧ Below w.heap.size w w' := by
  have hv := fun V (h : RecM V s l s2 cq K) => h.valid2 n cap
  cases hb : recB n l K
  · rw [hb] at hv
    have hend : ∀ w' : World, TuRet n l K p (.returned (.tuple #[zRec, .int .i64 20])) w' := fun w' => .inl ⟨hb, rfl⟩
    obtain ⟨R, hR⟩ : ∃ R, TuRet n l K p = R := ⟨_, rfl⟩
    simp only [hR] at hend ⊢
    replace hv := Lib.hid hv; replace hend := Lib.hid hend
    clear hb hR
    go_enter Try.func16, Try.ntmps16
    go_upto_region 1 with (fail)
    refine wp_world fun W HW => ?_
    have hB : Below w.heap.size w W := by rw [HW.out]; (repeat (first | exact Below.refl _ _ | refine Below.alloc ?_ (by simp; try omega) _ | refine Below.setCell ?_ (by simp) _ | refine Below.drew ?_))
    have d0 : W.cell? ⟨w.heap.size, 0, none⟩ = some (.int .i64 n) := by rw [HW.out]; simp [go_sem]
    have d1 : W.cell? ⟨w.heap.size, 1, none⟩ = some (.slice s l.length cap) := by rw [HW.out]; simp [go_sem]
    have d2 : W.cell? ⟨w.heap.size, 2, none⟩ = some (.slice s2 K.length cq) := by rw [HW.out]; simp [go_sem]
    have dl : w.heap.size < W.heap.size := World.block_lt_of_cell? W _ d0
    have o0 : W.cell? ⟨w.heap.size + 1, 0, none⟩ = some (.int .i64 p.x) := by rw [HW.out]; simp [go_sem]
    have o1 : W.cell? ⟨w.heap.size + 1, 1, none⟩ = some (.int .i64 p.y) := by rw [HW.out]; simp [go_sem]
    have o2 : W.cell? ⟨w.heap.size + 1, 2, none⟩ = some (.int .i64 p.z) := by rw [HW.out]; simp [go_sem]
    have ol : w.heap.size + 1 < W.heap.size := World.block_lt_of_cell? W _ o0
    have rB : Row W (w.heap.size + 2) 27 #[.int .i64 0, .slice none 0 0, .slice none 0 0] := (by rw [HW.out]; (repeat (first | (refine blk_new ?_; simp; done) | refine blk_old ?_ _)) : W.heap[w.heap.size + 2]? = some (.cells #[.int .i64 0, .slice none 0 0, .slice none 0 0] 27 (0, 0)))
    have r0 : W.cell? ⟨w.heap.size + 2, 0, none⟩ = some (.int .i64 0) := by rw [HW.out]; simp [go_sem]
    have r1 : W.cell? ⟨w.heap.size + 2, 1, none⟩ = some (.slice none 0 0) := by rw [HW.out]; simp [go_sem]
    have r2 : W.cell? ⟨w.heap.size + 2, 2, none⟩ = some (.slice none 0 0) := by rw [HW.out]; simp [go_sem]
    have rl : w.heap.size + 2 < W.heap.size := World.block_lt_of_cell? W _ r0
    try replace hr := up_of hB hr
    go_upto_region 2 with (first | (go_at_call 31; refine (hv.out _ hr).mono ?_; rintro e W1 ⟨rfl, hb⟩; (try replace hr := up_of hb hr); (try replace hB := up_of hb hB); (try replace d0 := up_of hb d0); (try replace d1 := up_of hb d1); (try replace d2 := up_of hb d2); (try replace dl := up_of hb dl); (try replace o0 := up_of hb o0); (try replace o1 := up_of hb o1); (try replace o2 := up_of hb o2); (try replace ol := up_of hb ol); (try replace rB := up_of hb rB); (try replace r0 := up_of hb r0); (try replace r1 := up_of hb r1); (try replace r2 := up_of hb r2); (try replace rl := up_of hb rl)))
    have rf := fun i => Row.frozen rB i
    go_wp2
    refine bodyPost_ret (results_cs rfl rfl rfl (load_rec (b1 := w.heap.size + 2) (cs := #[.int .i64 0, .slice none 0 0, .slice none 0 0]) ?_ rfl)) rfl ⟨hend.out _, ?_⟩
    · refine Row.of ?_
      repeat (first | (with_reducible refine RowG.base rB ?_) | (with_reducible refine RowG.drew ?_) | (with_reducible refine RowG.set ?_) | ((with_reducible refine RowG.other ?_ ?_); (focus (first | omega | (simp; done) | (simp; omega)))) | (with_reducible refine RowG.alloc ?_))
      rfl
    · repeat (first | (with_reducible exact hB) | (with_reducible refine Below.drew ?_) | ((with_reducible refine Below.setC ?_ ?_); (focus (first | omega | (simp; done) | (simp; omega)))) | ((with_reducible refine Below.allo ?_ ?_); (focus (first | omega | (simp; done) | (simp; omega)))))
  rw [hb] at hv
  have ok := netOk hb
  have hvd := recB_valid hb
  have htu := fun V (h : RecM V s l s2 cq K) => rTurned_c n s cap l p V h.dom
  cases ho : isOrd n p
  · have hend : ∀ w' : World, TuRet n l K p (.returned (.tuple #[zRec, .int .i64 2])) w' := fun w' => .inr (.inl ⟨hb, ho, rfl⟩)
    simp only [show turnN n l p = 0 by simp [turnN, turnE, hvd, ho], show turnR n l p = [] by simp [turnR, turnE, hvd, ho], show turnE n l p = 2 by simp [turnE, hvd, ho]] at htu
    have htu2 := fun V (h : RecM V s l s2 cq K) => (htu V h).mono (R' := fun e w' => (∃ s cap, e = .returned (.tuple #[.agg #[.int .i64 0, .slice s 0 cap], .int .i64 2])) ∧ Below V.heap.size V w') (fun e w' ⟨⟨s, cap, h1, _⟩, h2⟩ => ⟨⟨s, cap, h1⟩, h2⟩)
    obtain ⟨R, hR⟩ : ∃ R, TuRet n l K p = R := ⟨_, rfl⟩
    simp only [hR] at hend ⊢
    replace hv := Lib.hid hv; replace hend := Lib.hid hend; replace htu2 := Lib.hid htu2
    clear hb hR ho hvd ok htu
    go_enter Try.func16, Try.ntmps16
    go_upto_region 1 with (fail)
    refine wp_world fun W HW => ?_
    have hB : Below w.heap.size w W := by rw [HW.out]; (repeat (first | exact Below.refl _ _ | refine Below.alloc ?_ (by simp; try omega) _ | refine Below.setCell ?_ (by simp) _ | refine Below.drew ?_))
    have d0 : W.cell? ⟨w.heap.size, 0, none⟩ = some (.int .i64 n) := by rw [HW.out]; simp [go_sem]
    have d1 : W.cell? ⟨w.heap.size, 1, none⟩ = some (.slice s l.length cap) := by rw [HW.out]; simp [go_sem]
    have d2 : W.cell? ⟨w.heap.size, 2, none⟩ = some (.slice s2 K.length cq) := by rw [HW.out]; simp [go_sem]
    have dl : w.heap.size < W.heap.size := World.block_lt_of_cell? W _ d0
    have o0 : W.cell? ⟨w.heap.size + 1, 0, none⟩ = some (.int .i64 p.x) := by rw [HW.out]; simp [go_sem]
    have o1 : W.cell? ⟨w.heap.size + 1, 1, none⟩ = some (.int .i64 p.y) := by rw [HW.out]; simp [go_sem]
    have o2 : W.cell? ⟨w.heap.size + 1, 2, none⟩ = some (.int .i64 p.z) := by rw [HW.out]; simp [go_sem]
    have ol : w.heap.size + 1 < W.heap.size := World.block_lt_of_cell? W _ o0
    have rB : Row W (w.heap.size + 2) 27 #[.int .i64 0, .slice none 0 0, .slice none 0 0] := (by rw [HW.out]; (repeat (first | (refine blk_new ?_; simp; done) | refine blk_old ?_ _)) : W.heap[w.heap.size + 2]? = some (.cells #[.int .i64 0, .slice none 0 0, .slice none 0 0] 27 (0, 0)))
    have r0 : W.cell? ⟨w.heap.size + 2, 0, none⟩ = some (.int .i64 0) := by rw [HW.out]; simp [go_sem]
    have r1 : W.cell? ⟨w.heap.size + 2, 1, none⟩ = some (.slice none 0 0) := by rw [HW.out]; simp [go_sem]
    have r2 : W.cell? ⟨w.heap.size + 2, 2, none⟩ = some (.slice none 0 0) := by rw [HW.out]; simp [go_sem]
    have rl : w.heap.size + 2 < W.heap.size := World.block_lt_of_cell? W _ r0
    try replace hr := up_of hB hr
    go_upto_region 3 with (first | (go_at_call 31; refine (hv.out _ hr).mono ?_; rintro e W1 ⟨rfl, hb⟩; (try replace hr := up_of hb hr); (try replace hB := up_of hb hB); (try replace d0 := up_of hb d0); (try replace d1 := up_of hb d1); (try replace d2 := up_of hb d2); (try replace dl := up_of hb dl); (try replace o0 := up_of hb o0); (try replace o1 := up_of hb o1); (try replace o2 := up_of hb o2); (try replace ol := up_of hb ol); (try replace rB := up_of hb rB); (try replace r0 := up_of hb r0); (try replace r1 := up_of hb r1); (try replace r2 := up_of hb r2); (try replace rl := up_of hb rl)))
    go_upto_region 4 with (first | (go_at_call 53; refine (htu2.out _ hr).mono ?_; rintro e W2 ⟨⟨s3, c3, rfl⟩, hb⟩; (try replace hr := up_of hb hr); (try replace hB := up_of hb hB); (try replace d0 := up_of hb d0); (try replace d1 := up_of hb d1); (try replace d2 := up_of hb d2); (try replace dl := up_of hb dl); (try replace o0 := up_of hb o0); (try replace o1 := up_of hb o1); (try replace o2 := up_of hb o2); (try replace ol := up_of hb ol); (try replace rB := up_of hb rB); (try replace r0 := up_of hb r0); (try replace r1 := up_of hb r1); (try replace r2 := up_of hb r2); (try replace rl := up_of hb rl)))
    have rf := fun i => Row.frozen rB i
    go_wp2
    refine bodyPost_ret (results_cs rfl rfl rfl (load_rec (b1 := w.heap.size + 2) (cs := #[.int .i64 0, .slice none 0 0, .slice none 0 0]) ?_ rfl)) rfl ⟨hend.out _, ?_⟩
    · refine Row.of ?_
      repeat (first | (with_reducible refine RowG.base rB ?_) | (with_reducible refine RowG.drew ?_) | (with_reducible refine RowG.set ?_) | ((with_reducible refine RowG.other ?_ ?_); (focus (first | omega | (simp; done) | (simp; omega)))) | (with_reducible refine RowG.alloc ?_))
      rfl
    · repeat (first | (with_reducible exact hB) | (with_reducible refine Below.drew ?_) | ((with_reducible refine Below.setC ?_ ?_); (focus (first | omega | (simp; done) | (simp; omega)))) | ((with_reducible refine Below.allo ?_ ?_); (focus (first | omega | (simp; done) | (simp; omega)))))
  have hend : ∀ (w' : World) s c s2 cq, IqS w' s (turnL n p l) → VarsM w' s2 (turnK n p K) → TuRet n l K p (.returned (.tuple #[.agg #[.int .i64 n, .slice s (turnL n p l).length c, .slice s2 (turnK n p K).length cq], .int .i64 0])) w' := fun w' s c s2 cq h1 h2 => .inr (.inr ⟨hb, ho, s, c, s2, cq, rfl, h1, h2⟩)
  simp only [show turnN n l p = n by simp [turnN, turnE, hvd, ho], show turnR n l p = turnL n p l by simp [turnR, turnE, hvd, ho], show turnE n l p = 0 by simp [turnE, hvd, ho]] at htu
  obtain ⟨R, hR⟩ : ∃ R, TuRet n l K p = R := ⟨_, rfl⟩
  simp only [hR] at hend ⊢
  have hdim := ok.dim
  have hoa := ord_all hdim ho
  have hog := fun i hi => ord_get hdim ho (i := i) hi
  obtain ⟨N, rfl⟩ := Int.eq_ofNat_of_zero_le (show 0 ≤ n by omega)
  have htc := fun (a q : Pt) (hq : turnP N p a = q) V => TurnPoint_e N a p V (by omega) (fun i hi => ord_all hdim ho i (by omega)) hq
  have hKl := ok.vars
  obtain ⟨LL, hLL⟩ : ∃ x, turnL N p l = x := ⟨_, rfl⟩
  simp only [hLL] at hend htu
  have hTl := turnK_len N p K
  obtain ⟨T, hT, hTl, hTa⟩ : ∃ T, turnK N p K = T ∧ T.length = K.length ∧ ∀ i (h : i < K.length) (h' : i < T.length), T[i] = turnV N p K[i] := ⟨_, rfl, hTl, fun i h h' => turnK_at h h'⟩
  simp only [hT] at hend
  have har := ok.args
  clear hb hR hvd hLL hT
  replace hv := Lib.hid hv; replace hend := Lib.hid hend; replace htu := Lib.hid htu; replace htc := Lib.hid htc; replace hTl := Lib.hid hTl; replace hTa := Lib.hid hTa; replace ok := Lib.hid ok; replace har := Lib.hid har; replace ho := Lib.hid ho; replace hoa := Lib.hid hoa; replace hog := Lib.hid hog
  go_enter Try.func16, Try.ntmps16
  go_upto_region 1 with (fail)
  refine wp_world fun W HW => ?_
  have hB : Below w.heap.size w W := by rw [HW.out]; (repeat (first | exact Below.refl _ _ | refine Below.alloc ?_ (by simp; try omega) _ | refine Below.setCell ?_ (by simp) _ | refine Below.drew ?_))
  have d0 : W.cell? ⟨w.heap.size, 0, none⟩ = some (.int .i64 N) := by rw [HW.out]; simp [go_sem]
  have d1 : W.cell? ⟨w.heap.size, 1, none⟩ = some (.slice s l.length cap) := by rw [HW.out]; simp [go_sem]
  have d2 : W.cell? ⟨w.heap.size, 2, none⟩ = some (.slice s2 K.length cq) := by rw [HW.out]; simp [go_sem]
  have dl : w.heap.size < W.heap.size := World.block_lt_of_cell? W _ d0
  have o0 : W.cell? ⟨w.heap.size + 1, 0, none⟩ = some (.int .i64 p.x) := by rw [HW.out]; simp [go_sem]
  have o1 : W.cell? ⟨w.heap.size + 1, 1, none⟩ = some (.int .i64 p.y) := by rw [HW.out]; simp [go_sem]
  have o2 : W.cell? ⟨w.heap.size + 1, 2, none⟩ = some (.int .i64 p.z) := by rw [HW.out]; simp [go_sem]
  have ol : w.heap.size + 1 < W.heap.size := World.block_lt_of_cell? W _ o0
  have rB : Row W (w.heap.size + 2) 27 #[.int .i64 0, .slice none 0 0, .slice none 0 0] := (by rw [HW.out]; (repeat (first | (refine blk_new ?_; simp; done) | refine blk_old ?_ _)) : W.heap[w.heap.size + 2]? = some (.cells #[.int .i64 0, .slice none 0 0, .slice none 0 0] 27 (0, 0)))
  have r0 : W.cell? ⟨w.heap.size + 2, 0, none⟩ = some (.int .i64 0) := by rw [HW.out]; simp [go_sem]
  have r1 : W.cell? ⟨w.heap.size + 2, 1, none⟩ = some (.slice none 0 0) := by rw [HW.out]; simp [go_sem]
  have r2 : W.cell? ⟨w.heap.size + 2, 2, none⟩ = some (.slice none 0 0) := by rw [HW.out]; simp [go_sem]
  have rl : w.heap.size + 2 < W.heap.size := World.block_lt_of_cell? W _ r0
  try replace hr := up_of hB hr
  go_upto_region 3 with (first | (go_at_call 31; refine (hv.out _ hr).mono ?_; rintro e W1 ⟨rfl, hb⟩; (try replace hr := up_of hb hr); (try replace hB := up_of hb hB); (try replace d0 := up_of hb d0); (try replace d1 := up_of hb d1); (try replace d2 := up_of hb d2); (try replace dl := up_of hb dl); (try replace o0 := up_of hb o0); (try replace o1 := up_of hb o1); (try replace o2 := up_of hb o2); (try replace ol := up_of hb ol); (try replace rB := up_of hb rB); (try replace r0 := up_of hb r0); (try replace r1 := up_of hb r1); (try replace r2 := up_of hb r2); (try replace rl := up_of hb rl)))
  have hW1w : w.heap.size + 2 < W1.heap.size := rl
  go_upto_region 4 with (first | (go_at_call 53; refine (htu.out _ hr).mono ?_; rintro e W2 ⟨⟨s3, c3, rfl, hiq⟩, hb⟩; (try replace hr := up_of hb hr); (try replace hB := up_of hb hB); (try replace d0 := up_of hb d0); (try replace d1 := up_of hb d1); (try replace d2 := up_of hb d2); (try replace dl := up_of hb dl); (try replace o0 := up_of hb o0); (try replace o1 := up_of hb o1); (try replace o2 := up_of hb o2); (try replace ol := up_of hb ol); (try replace rB := up_of hb rB); (try replace r0 := up_of hb r0); (try replace r1 := up_of hb r1); (try replace r2 := up_of hb r2); (try replace rl := up_of hb rl)))
  have hrl := rB.lt
  have hIq : IqS W2 s3 LL := owns_iq hiq
  have hrA := Lib.hid hr
  have hIA := Lib.hid hIq
  have hBA := Lib.hid hB
  have dA := Lib.hid (And.intro d0 (And.intro d1 d2))
  have oA := Lib.hid (And.intro o0 (And.intro o1 o2))
  have rA := Lib.hid rB
  have hiqA := Lib.hid hiq
  clear hiq
  go_upto_region 7 with (fail)
  refine wp_world fun Y HY => ?_
  have hY : Below W2.heap.size W2 Y := by rw [HY.out]; (repeat (first | exact Below.refl _ _ | refine Below.alloc ?_ (by simp; try omega) _ | refine Below.setCell ?_ (by simp) _ | refine Below.drew ?_))
  have mB : Row Y (W2.heap.size) 24 #[.int .i64 N, .slice s3 LL.length c3] := (by rw [HY.out]; (repeat (first | (refine blk_new ?_; simp; done) | refine blk_old ?_ _)) : Y.heap[W2.heap.size]? = some (.cells #[.int .i64 N, .slice s3 LL.length c3] 24 (0, 0)))
  have m0 : Y.cell? ⟨W2.heap.size, 0, none⟩ = some (.int .i64 N) := by rw [HY.out]; simp [go_sem]
  have m1 : Y.cell? ⟨W2.heap.size, 1, none⟩ = some (.slice s3 LL.length c3) := by rw [HY.out]; simp [go_sem]
  have ml : W2.heap.size < Y.heap.size := World.block_lt_of_cell? Y _ m0
  have uB : Row Y (W2.heap.size + 1) 27 #[.int .i64 N, .slice s3 LL.length c3, .slice none 0 0] := (by rw [HY.out]; (repeat (first | (refine blk_new ?_; simp; done) | refine blk_old ?_ _)) : Y.heap[W2.heap.size + 1]? = some (.cells #[.int .i64 N, .slice s3 LL.length c3, .slice none 0 0] 27 (0, 0)))
  have u0 : Y.cell? ⟨W2.heap.size + 1, 0, none⟩ = some (.int .i64 N) := by rw [HY.out]; simp [go_sem]
  have u1 : Y.cell? ⟨W2.heap.size + 1, 1, none⟩ = some (.slice s3 LL.length c3) := by rw [HY.out]; simp [go_sem]
  have u2 : Y.cell? ⟨W2.heap.size + 1, 2, none⟩ = some (.slice none 0 0) := by rw [HY.out]; simp [go_sem]
  have ul : W2.heap.size + 1 < Y.heap.size := World.block_lt_of_cell? Y _ u0
  try replace d2 := up_of hY d2
  have hYs : W2.heap.size + 2 ≤ Y.heap.size := by have := ul; omega
  obtain ⟨B, hBe⟩ : ∃ B, W2.heap.size + 2 = B := ⟨_, rfl⟩
  have h0 : TV B Y (.slice none 0 0) [] [] := TV.nil (by omega)
  replace hBe := Lib.hid hBe
  have hal := hr.dom.len
  clear hr hIq hB d0 d1 o0 o1 o2 rB r0 r1 r2 rl HY m0 m1 u0 u1 u2 ml ul dl ol hrl
  go_wp2
  clear d2
  go_loopw [9] (fun ii V => ∃ (k : Nat) (ss : List Vs) (R : List Vv) (out : Value), k ≤ K.length ∧ ii = .int .i64 k ∧ Hid (R = T.take k) ∧ Row V (W2.heap.size + 1) 27 #[.int .i64 N, .slice s3 LL.length c3, out] ∧ Row V W2.heap.size 24 #[.int .i64 N, .slice s3 LL.length c3] ∧ TV B V out ss R ∧ Below W2.heap.size W2 V) (fun ii _ => K.length - (intOf ii).toNat)
  case atStart => exact ⟨0, [], [], _, by omega, rfl, Lib.hid (by simp), uB, mB, h0, hY⟩
  case round =>
    clear uB mB h0 hY
    obtain ⟨k, ss, R0, out, hk, rfl, hR0, uB, mB, hTV, hBV⟩ := hrel
    have hr := up_of hBV hrA.out
    have hBs := hBV.size
    obtain ⟨d0, d1, d2⟩ := dA.out
    replace d2 := up_of hBV d2
    clear d0 d1
    by_cases hlt : k < K.length
    · obtain ⟨bk2, ok3, sa2, ca2, e3, -⟩ := hrA.out.vars.at hlt
      cases e3
      obtain ⟨bk, ok2, sa, ca, e2, hbk, q0, q1, q2, q3, q4, q5, q6, hsa, hla, hsn, hsc⟩ := hr.vars.at hlt
      cases e2
      have hkT : k < T.length := by rw [hTl.out]; exact hlt
      have hrow := hTa.out k hlt hkT
      have hRn : R0 ++ [T[k]] = T.take (k + 1) := by rw [hR0.out, List.take_succ_eq_append_getElem hkT]
      have hRl : R0.length = k := by rw [hR0.out, List.length_take]; omega
      have ha3 := har.out _ (List.getElem_mem hlt)
      obtain ⟨o0, o1, o2⟩ := oA.out
      replace o0 := up_of hBV o0; replace o1 := up_of hBV o1; replace o2 := up_of hBV o2
      obtain ⟨X, hX⟩ : ∃ x, K[k] = x := ⟨_, rfl⟩
      rw [hX] at q0 q1 q2 q3 q4 q5 q6 hsa hla hsc hrow ha3
      have i1 : (0 : Int) ≤ (k : Int) := by omega
      have i2 : (k : Int) < (K.length : Int) := by omega
      have hW2s := hBA.out.size
      have hol : w.heap.size + 1 < wr.heap.size := World.block_lt_of_cell? _ _ o0
      replace hrow := Lib.hid hrow; replace hRn := Lib.hid hRn; replace hRl := Lib.hid hRl; replace hX := Lib.hid hX; replace hsn := Lib.hid hsn
      clear hR0
      have hTVw := Lib.hid hTV
      have huBw := Lib.hid uB
      have hmBw := Lib.hid mB
      have hBVw := Lib.hid hBV
      have hoW := Lib.hid (And.intro o0 (And.intro o1 o2))
      have hsaW := Lib.hid hsa
      have m0 : wr.cell? ⟨W2.heap.size, 0, none⟩ = some (.int .i64 N) := mB.cell rfl
      clear hTV uB mB hBV o0 o1 o2 hr
      go_upto_region 12 with (fail)
      obtain ⟨V0, rfl⟩ : ∃ V0, V0 = wr := ⟨wr, rfl⟩
      refine wp_world fun Y1 HY1 => ?_
      have hY1 : Below V0.heap.size V0 Y1 := by rw [HY1.out]; (repeat (first | exact Below.refl _ _ | refine Below.alloc ?_ (by simp; try omega) _ | refine Below.setCell ?_ (by simp) _ | refine Below.drew ?_))
      have vB : Row Y1 (V0.heap.size) 57 #[.string X.name, .int .i64 X.op, .slice sa X.args.length ca, .int .i64 X.i0, .int .i64 X.i1, .int .i64 X.i2, .int .i64 X.i3] := (by rw [HY1.out]; (repeat (first | (refine blk_new ?_; simp; done) | refine blk_old ?_ _)) : Y1.heap[V0.heap.size]? = some (.cells #[.string X.name, .int .i64 X.op, .slice sa X.args.length ca, .int .i64 X.i0, .int .i64 X.i1, .int .i64 X.i2, .int .i64 X.i3] 57 (0, 0)))
      have v0 : Y1.cell? ⟨V0.heap.size, 0, none⟩ = some (.string X.name) := by rw [HY1.out]; simp [go_sem]
      have v1 : Y1.cell? ⟨V0.heap.size, 1, none⟩ = some (.int .i64 X.op) := by rw [HY1.out]; simp [go_sem]
      have v2 : Y1.cell? ⟨V0.heap.size, 2, none⟩ = some (.slice sa X.args.length ca) := by rw [HY1.out]; simp [go_sem]
      have v3 : Y1.cell? ⟨V0.heap.size, 3, none⟩ = some (.int .i64 X.i0) := by rw [HY1.out]; simp [go_sem]
      have v4 : Y1.cell? ⟨V0.heap.size, 4, none⟩ = some (.int .i64 X.i1) := by rw [HY1.out]; simp [go_sem]
      have v5 : Y1.cell? ⟨V0.heap.size, 5, none⟩ = some (.int .i64 X.i2) := by rw [HY1.out]; simp [go_sem]
      have v6 : Y1.cell? ⟨V0.heap.size, 6, none⟩ = some (.int .i64 X.i3) := by rw [HY1.out]; simp [go_sem]
      have vl : V0.heap.size < Y1.heap.size := World.block_lt_of_cell? Y1 _ v0
      have xB : Row Y1 (V0.heap.size + 1) 57 #[.string X.name, .int .i64 X.op, .slice none 0 0, .int .i64 X.i0, .int .i64 0, .int .i64 0, .int .i64 0] := (by rw [HY1.out]; (repeat (first | (refine blk_new ?_; simp; done) | refine blk_old ?_ _)) : Y1.heap[V0.heap.size + 1]? = some (.cells #[.string X.name, .int .i64 X.op, .slice none 0 0, .int .i64 X.i0, .int .i64 0, .int .i64 0, .int .i64 0] 57 (0, 0)))
      have x0 : Y1.cell? ⟨V0.heap.size + 1, 0, none⟩ = some (.string X.name) := by rw [HY1.out]; simp [go_sem]
      have x1 : Y1.cell? ⟨V0.heap.size + 1, 1, none⟩ = some (.int .i64 X.op) := by rw [HY1.out]; simp [go_sem]
      have x2 : Y1.cell? ⟨V0.heap.size + 1, 2, none⟩ = some (.slice none 0 0) := by rw [HY1.out]; simp [go_sem]
      have x3 : Y1.cell? ⟨V0.heap.size + 1, 3, none⟩ = some (.int .i64 X.i0) := by rw [HY1.out]; simp [go_sem]
      have x4 : Y1.cell? ⟨V0.heap.size + 1, 4, none⟩ = some (.int .i64 0) := by rw [HY1.out]; simp [go_sem]
      have x5 : Y1.cell? ⟨V0.heap.size + 1, 5, none⟩ = some (.int .i64 0) := by rw [HY1.out]; simp [go_sem]
      have x6 : Y1.cell? ⟨V0.heap.size + 1, 6, none⟩ = some (.int .i64 0) := by rw [HY1.out]; simp [go_sem]
      have xl : V0.heap.size + 1 < Y1.heap.size := World.block_lt_of_cell? Y1 _ x0
      try replace hsa := up_of hY1 hsa
      try replace m0 := up_of hY1 m0
      clear HY1 q0 q1 q2 q3 q4 q5 q6 v0 v1 v2 v3 v4 v5 v6 x0 x1 x2 x3 x4 x5 x6 d2 hsa
      have hxl := xl
      go_wp2
      clear m0
      go_loopw [12] (fun jj V => ∃ j : Nat, j ≤ N ∧ jj = .int .i64 j ∧ Below V0.heap.size V0 V ∧ Row V V0.heap.size 57 #[.string X.name, .int .i64 X.op, .slice sa X.args.length ca, .int .i64 X.i0, .int .i64 X.i1, .int .i64 X.i2, .int .i64 X.i3] ∧ Row V (V0.heap.size + 1) 57 #[.string X.name, .int .i64 X.op, .slice none 0 0, .int .i64 X.i0, .int .i64 (turnTo p ⟨X.i1, X.i2, X.i3⟩ j).x, .int .i64 (turnTo p ⟨X.i1, X.i2, X.i3⟩ j).y, .int .i64 (turnTo p ⟨X.i1, X.i2, X.i3⟩ j).z]) (fun jj _ => N - (intOf jj).toNat)
      case atStart => exact ⟨0, by omega, rfl, hY1, vB, xB⟩
      case round =>
        clear hY1 vB xB vl xl
        obtain ⟨j, hj, rfl, hBj, vB, xB⟩ := hrel
        have m0 : wr.cell? ⟨W2.heap.size, 0, none⟩ = some (.int .i64 N) := (up_of hBj hmBw.out).cell rfl
        by_cases hlj : j < N
        · obtain ⟨o0, o1, o2⟩ := hoW.out
          replace o0 := up_of hBj o0; replace o1 := up_of hBj o1; replace o2 := up_of hBj o2
          have hgj := hog.out j (by omega)
          have hgj3 := hoa.out j (by omega)
          obtain ⟨v, hv2, hv3⟩ : ∃ v : Nat, p.get j = v ∧ v < 3 := ⟨(p.get j).toNat, by omega, by omega⟩
          have htT : turnTo p ⟨X.i1, X.i2, X.i3⟩ (j + 1) = setP (turnTo p ⟨X.i1, X.i2, X.i3⟩ j) v ((⟨X.i1, X.i2, X.i3⟩ : Pt).get j) := by
            rw [turnTo, hv2, Int.toNat_natCast]
          obtain ⟨⟨tx, ty, tz⟩, htx⟩ : ∃ q, turnTo p ⟨X.i1, X.i2, X.i3⟩ j = q := ⟨_, rfl⟩
          rw [htx] at xB htT
          obtain ⟨jn, hjn⟩ : ∃ x, j + 1 = x := ⟨_, rfl⟩
          rw [hjn] at htT
          have hj3 : j = 0 ∨ j = 1 ∨ j = 2 := by omega
          have hvv : v = 0 ∨ v = 1 ∨ v = 2 := by omega
          have hBjs := hBj.size
          clear hgj hgj3 htx hv3
          rcases hj3 with hj0 | hj0 | hj0 <;> rcases hvv with hv0 | hv0 | hv0
          all_goals
            subst hj0; subst hv0
            simp [Pt.get] at hv2
            first | rw [hv2] at o0 | rw [hv2] at o1 | rw [hv2] at o2
            simp only [setP, Pt.get] at htT
            replace htT := Lib.hid htT; replace hjn := Lib.hid hjn; replace hv2 := Lib.hid hv2
            have vb := vB.cell (i := 4) rfl
            have vc := vB.cell (i := 5) rfl
            have vd := vB.cell (i := 6) rfl
            have xb := xB.cell (i := 4) rfl
            have xc := xB.cell (i := 5) rfl
            have xd := xB.cell (i := 6) rfl
            have xf := fun i => Row.frozen xB i
            go_upto_region 15 with (fail)
            go_region
            go_wp2
            go_roundw
            case rel =>
              refine ⟨jn, by have := hjn.out; omega, by have := hjn.out; subst this; rfl, ?_, ?_, ?_⟩
              · repeat (first | (with_reducible exact hBj) | (with_reducible refine Below.drew ?_) | ((with_reducible refine Below.setC ?_ ?_); (focus (first | omega | (simp; done) | (simp; omega)))) | ((with_reducible refine Below.allo ?_ ?_); (focus (first | omega | (simp; done) | (simp; omega)))))
              · refine Row.of ?_
                repeat (first | (with_reducible refine RowG.base vB ?_) | (with_reducible refine RowG.drew ?_) | (with_reducible refine RowG.set ?_) | ((with_reducible refine RowG.other ?_ ?_); (focus (first | omega | (simp; done) | (simp; omega)))) | (with_reducible refine RowG.alloc ?_))
                rfl
              · refine Row.of ?_
                repeat (first | (with_reducible refine RowG.base xB ?_) | (with_reducible refine RowG.drew ?_) | (with_reducible refine RowG.set ?_) | ((with_reducible refine RowG.other ?_ ?_); (focus (first | omega | (simp; done) | (simp; omega)))) | (with_reducible refine RowG.alloc ?_))
                (rw [htT.out]; rfl)
            case measure => first | exact meas hlj | (simp [intOf]; omega)
        · obtain rfl : N = j := by omega
          have htI : (⟨(turnI N p X).x, (turnI N p X).y, (turnI N p X).z⟩ : Pt) = turnTo p ⟨X.i1, X.i2, X.i3⟩ N := by simp [turnI, turnP]
          obtain ⟨⟨tx, ty, tz⟩, htx⟩ : ∃ q, turnTo p ⟨X.i1, X.i2, X.i3⟩ N = q := ⟨_, rfl⟩
          rw [htx] at xB htI
          have e1 : (turnI N p X).x = tx := congrArg Pt.x htI
          have e2 : (turnI N p X).y = ty := congrArg Pt.y htI
          have e3 : (turnI N p X).z = tz := congrArg Pt.z htI
          have hrow2 := hrow.out
          unfold turnV at hrow2
          rw [e1, e2, e3] at hrow2
          obtain ⟨C, hC, hCl, hCa⟩ : ∃ C, X.args.map (turnA N p) = C ∧ C.length = X.args.length ∧ ∀ i (h : i < X.args.length) (h' : i < C.length), C[i] = turnA N p X.args[i] := ⟨_, rfl, by simp, fun i h h' => List.getElem_map ..⟩
          rw [hC] at hrow2
          replace hrow2 := Lib.hid hrow2; replace hCl := Lib.hid hCl; replace hCa := Lib.hid hCa
          have hsa := up_of hBj hsaW.out
          have hBjs := hBj.size
          have hx0 : wr.ownsRow (V0.heap.size + 2) 78 4 (.slice none 0 0) ([] : List Ar).length (arE.all []) := World.ownsRow_nil _ _ _ _
          have v2 := vB.cell (i := 2) rfl
          have x2 := xB.cell (i := 2) rfl
          clear htI htx e1 e2 e3 hC
          go_wp2
          clear v2 x2
          go_loopw [13] (fun ii V => ∃ (j : Nat) (r : List Ar) (ax : Value), j ≤ X.args.length ∧ ii = .int .i64 j ∧ Hid (r = C.take j) ∧ Below V0.heap.size V0 V ∧ Row V V0.heap.size 57 #[.string X.name, .int .i64 X.op, .slice sa X.args.length ca, .int .i64 X.i0, .int .i64 X.i1, .int .i64 X.i2, .int .i64 X.i3] ∧ Row V (V0.heap.size + 1) 57 #[.string X.name, .int .i64 X.op, ax, .int .i64 X.i0, .int .i64 tx, .int .i64 ty, .int .i64 tz] ∧ V.ownsRow (V0.heap.size + 2) 78 4 ax r.length (arE.all r)) (fun ii _ => X.args.length - (intOf ii).toNat)
          case atStart => exact ⟨0, [], _, by omega, rfl, Lib.hid (by simp), hBj, vB, xB, hx0⟩
          case round =>
            clear hBj vB xB hx0 hsa m0
            obtain ⟨j, r, ax, hj, rfl, hrr, hBj, vB, xB, hown⟩ := hrel
            have hBjs := hBj.size
            have v2 : wr.cell? ⟨V0.heap.size, 2, none⟩ = some (.slice sa X.args.length ca) := vB.cell rfl
            have x2 : wr.cell? ⟨V0.heap.size + 1, 2, none⟩ = some ax := xB.cell rfl
            by_cases hlj : j < X.args.length
            · have hsa := up_of hBj hsaW.out
              obtain ⟨o0, o1, o2⟩ := hoW.out
              replace o0 := up_of hBj o0; replace o1 := up_of hBj o1; replace o2 := up_of hBj o2
              have m0 : wr.cell? ⟨W2.heap.size, 0, none⟩ = some (.int .i64 N) := (up_of hBj hmBw.out).cell rfl
              obtain ⟨ba, oa, ea, hba, z0, z1, z2, z3⟩ := hsa.ar_at hlj
              cases ea
              obtain ⟨ba2, oa2, ea2, hba2, -⟩ := hsaW.out.ar_at hlj
              cases ea2
              have hjc : j < C.length := by rw [hCl.out]; exact hlj
              have hcj := hCa.out j hlj hjc
              have hrn : r ++ [C[j]] = C.take (j + 1) := by rw [hrr.out, List.take_succ_eq_append_getElem hjc]
              have hrl : r.length = j := by rw [hrr.out, List.length_take]; omega
              obtain ⟨q, hq⟩ : ∃ q, turnP N p X.args[j].p = q := ⟨_, rfl⟩
              have hTP := htc.out _ q hq
              have hcj2 : C[j] = ⟨X.args[j].v, q⟩ := by rw [hcj, ← hq]; rfl
              rw [hcj2] at hrn
              obtain ⟨a, ha⟩ : ∃ x, X.args[j] = x := ⟨_, rfl⟩
              rw [ha] at z0 z1 z2 z3 hrn
              simp only [ha] at hTP
              have hr3 : r.length ≤ 3 := by omega
              have j1 : (0 : Int) ≤ (j : Int) := by omega
              have j2 : (j : Int) < (X.args.length : Int) := by omega
              have hge : ∀ g, ax.ownBlock = some g → V0.heap.size + 2 ≤ g ∧ g < wr.heap.size := fun g e => hown.lt g e
              obtain ⟨i0, hi0, hz0, hz1, hz2⟩ := info_parts info_ar
              replace hrn := Lib.hid hrn; replace hrl := Lib.hid hrl; replace hTP := Lib.hid hTP; replace ha := Lib.hid ha; replace hq := Lib.hid hq; replace hge := Lib.hid hge
              clear hcj hcj2 hrr hsa hjc
              go_upto_region 19 with (fail)
              refine wpL.region (m := 22) (S := fun V => V.cell? ⟨V0.heap.size + 1, 2, none⟩ = some ax ∧ V.cell? ⟨V0.heap.size, 2, none⟩ = some (.slice (some ⟨ba, oa, none⟩) X.args.length ca) ∧ V.cell? ⟨ba, oa + j * 4, none⟩ = some (.int .i64 a.v) ∧ V.cell? ⟨ba, oa + j * 4 + 1, none⟩ = some (.int .i64 a.p.x) ∧ V.cell? ⟨ba, oa + j * 4 + 2, none⟩ = some (.int .i64 a.p.y) ∧ V.cell? ⟨ba, oa + j * 4 + 3, none⟩ = some (.int .i64 a.p.z) ∧ V.cell? ⟨w.heap.size + 1, 0, none⟩ = some (.int .i64 p.x) ∧ V.cell? ⟨w.heap.size + 1, 1, none⟩ = some (.int .i64 p.y) ∧ V.cell? ⟨w.heap.size + 1, 2, none⟩ = some (.int .i64 p.z) ∧ V.cell? ⟨W2.heap.size, 0, none⟩ = some (.int .i64 N)) (by kernel_rfl) ?_ (fun hHeld => ?_)
              (focus ((first | exact ⟨x2, v2, z0, z1, z2, z3, o0, o1, o2, m0⟩ | ((first | (with_reducible exact ⟨x2, v2, z0, z1, z2, z3, o0, o1, o2, m0⟩) | ((try dsimp only); (repeat' apply And.intro) <;> (repeat (first | (with_reducible assumption) | (with_reducible refine cell_set (by simp; try omega) ?_) | (with_reducible refine cell_drew ?_) | (with_reducible refine cell_alloc ?_ _))))))); done))
              refine wpL.take' (i := 0) rfl (by kernel_rfl) (by kernel_rfl) (by kernel_rfl) (by kernel_rfl) (by decide) (by kernel_rfl) (by assumption) ?_
              apply Exists.intro; refine ⟨fun _ _ _ h => h, Or.inl ⟨by rfl, fun V hV => ?_⟩, ?_⟩
              (focus ((try dsimp only at hV); go_simp; (try (with_reducible rfl)); done))
              try simp only [Act.put, List.setIfInBounds_toArray, List.set_cons_zero, List.set_cons_succ]
              refine wpL.take' (i := 1) rfl (by kernel_rfl) (by kernel_rfl) (by kernel_rfl) (by kernel_rfl) (by decide) (by kernel_rfl) (by assumption) ?_
              apply Exists.intro; refine ⟨fun _ _ _ h => h, Or.inl ⟨by rfl, fun V hV => ?_⟩, ?_⟩
              (focus ((try dsimp only at hV); go_simp; (try (with_reducible rfl)); done))
              try simp only [Act.put, List.setIfInBounds_toArray, List.set_cons_zero, List.set_cons_succ]
              refine wpL.take' (i := 2) rfl (by kernel_rfl) (by kernel_rfl) (by kernel_rfl) (by kernel_rfl) (by decide) (by kernel_rfl) (by assumption) ?_
              apply Exists.intro; refine ⟨fun _ _ _ h => h, Or.inl ⟨by rfl, fun V hV => ?_⟩, ?_⟩
              (focus ((try dsimp only at hV); go_simp; (try (with_reducible rfl)); done))
              try simp only [Act.put, List.setIfInBounds_toArray, List.set_cons_zero, List.set_cons_succ]
              refine wpL.take' (i := 3) rfl (by kernel_rfl) (by kernel_rfl) (by kernel_rfl) (by kernel_rfl) (by decide) (by kernel_rfl) (by assumption) ?_
              apply Exists.intro; refine ⟨fun _ _ _ h => h, Or.inl ⟨by rfl, fun V hV => ?_⟩, ?_⟩
              (focus ((try dsimp only at hV); go_simp; (try (with_reducible rfl)); done))
              try simp only [Act.put, List.setIfInBounds_toArray, List.set_cons_zero, List.set_cons_succ]
              refine wpL.take' (i := 4) rfl (by kernel_rfl) (by kernel_rfl) (by kernel_rfl) (by kernel_rfl) (by decide) (by kernel_rfl) (by assumption) ?_
              apply Exists.intro; refine ⟨fun _ _ _ h => h, Or.inl ⟨by rfl, fun V hV => ?_⟩, ?_⟩
              (focus ((try dsimp only at hV); go_simp; (try (with_reducible rfl)); done))
              try simp only [Act.put, List.setIfInBounds_toArray, List.set_cons_zero, List.set_cons_succ]
              refine wpL.take' (i := 5) rfl (by kernel_rfl) (by kernel_rfl) (by kernel_rfl) (by kernel_rfl) (by decide) (by kernel_rfl) (by assumption) ?_
              apply Exists.intro; refine ⟨fun _ _ _ h => h, Or.inl ⟨by rfl, fun V hV => ?_⟩, ?_⟩
              (focus ((try dsimp only at hV); go_simp; (try (with_reducible rfl)); done))
              try simp only [Act.put, List.setIfInBounds_toArray, List.set_cons_zero, List.set_cons_succ]
              refine wpL.take' (i := 6) rfl (by kernel_rfl) (by kernel_rfl) (by kernel_rfl) (by kernel_rfl) (by decide) (by kernel_rfl) (by assumption) ?_
              apply Exists.intro; refine ⟨fun _ _ _ h => h, Or.inl ⟨by rfl, fun V hV => ?_⟩, ?_⟩
              (focus ((try dsimp only at hV); go_simp; (try (with_reducible rfl)); done))
              try simp only [Act.put, List.setIfInBounds_toArray, List.set_cons_zero, List.set_cons_succ]
              refine wpL.take' (i := 7) rfl (by kernel_rfl) (by kernel_rfl) (by kernel_rfl) (by kernel_rfl) (by decide) (by kernel_rfl) (by assumption) ?_
              apply Exists.intro; refine ⟨fun _ _ _ h => h, Or.inl ⟨by rfl, fun V hV => ?_⟩, ?_⟩
              (focus ((try dsimp only at hV); go_simp; (try (with_reducible rfl)); done))
              try simp only [Act.put, List.setIfInBounds_toArray, List.set_cons_zero, List.set_cons_succ]
              refine wpL.take' (i := 8) rfl (by kernel_rfl) (by kernel_rfl) (by kernel_rfl) (by kernel_rfl) (by decide) (by kernel_rfl) (by assumption) ?_
              apply Exists.intro; refine ⟨fun _ _ _ h => h, Or.inl ⟨by rfl, fun V hV => ?_⟩, ?_⟩
              (focus ((try dsimp only at hV); go_simp; (try (with_reducible rfl)); done))
              try simp only [Act.put, List.setIfInBounds_toArray, List.set_cons_zero, List.set_cons_succ]
              refine wpL.take' (i := 9) rfl (by kernel_rfl) (by kernel_rfl) (by kernel_rfl) (by kernel_rfl) (by decide) (by kernel_rfl) (by assumption) ?_
              apply Exists.intro; refine ⟨fun _ _ _ h => h, Or.inl ⟨by rfl, fun V hV => ?_⟩, ?_⟩
              (focus ((try dsimp only at hV); go_simp; (try (with_reducible rfl)); done))
              try simp only [Act.put, List.setIfInBounds_toArray, List.set_cons_zero, List.set_cons_succ]
              refine wpL.take' (i := 10) rfl (by kernel_rfl) (by kernel_rfl) (by kernel_rfl) (by kernel_rfl) (by decide) (by kernel_rfl) (by assumption) ?_
              apply Exists.intro; refine ⟨fun _ _ _ h => h, Or.inl ⟨by rfl, fun V hV => ?_⟩, ?_⟩
              (focus ((try dsimp only at hV); go_simp; (try (with_reducible rfl)); done))
              try simp only [Act.put, List.setIfInBounds_toArray, List.set_cons_zero, List.set_cons_succ]
              refine wpL.take' (i := 11) rfl (by kernel_rfl) (by kernel_rfl) (by kernel_rfl) (by kernel_rfl) (by decide) (by kernel_rfl) (by assumption) ?_
              apply Exists.intro; refine ⟨fun _ _ _ h => h, Or.inl ⟨by rfl, fun V hV => ?_⟩, ?_⟩
              (focus ((try dsimp only at hV); go_simp; (try (with_reducible rfl)); done))
              try simp only [Act.put, List.setIfInBounds_toArray, List.set_cons_zero, List.set_cons_succ]
              refine wpL.take' (i := 12) rfl (by kernel_rfl) (by kernel_rfl) (by kernel_rfl) (by kernel_rfl) (by decide) (by kernel_rfl) (by assumption) ?_
              apply Exists.intro; refine ⟨fun _ _ _ h => h, Or.inl ⟨by rfl, fun V hV => ?_⟩, ?_⟩
              (focus ((try dsimp only at hV); go_simp; (try (with_reducible rfl)); done))
              try simp only [Act.put, List.setIfInBounds_toArray, List.set_cons_zero, List.set_cons_succ]
              refine wpL.take' (i := 13) rfl (by kernel_rfl) (by kernel_rfl) (by kernel_rfl) (by kernel_rfl) (by decide) (by kernel_rfl) (by assumption) ?_
              apply Exists.intro; refine ⟨fun _ _ _ h => h, Or.inl ⟨by rfl, fun V hV => ?_⟩, ?_⟩
              (focus ((try dsimp only at hV); go_simp; (try (with_reducible rfl)); done))
              try simp only [Act.put, List.setIfInBounds_toArray, List.set_cons_zero, List.set_cons_succ]
              refine wpL.take' (i := 14) rfl (by kernel_rfl) (by kernel_rfl) (by kernel_rfl) (by kernel_rfl) (by decide) (by kernel_rfl) (by assumption) ?_
              apply Exists.intro; refine ⟨fun _ _ _ h => h, Or.inl ⟨by rfl, fun V hV => ?_⟩, ?_⟩
              (focus ((try dsimp only at hV); go_simp; (try (with_reducible rfl)); done))
              try simp only [Act.put, List.setIfInBounds_toArray, List.set_cons_zero, List.set_cons_succ]
              refine wpL.take' (i := 15) rfl (by kernel_rfl) (by kernel_rfl) (by kernel_rfl) (by kernel_rfl) (by decide) (by kernel_rfl) (by assumption) ?_
              apply Exists.intro; refine ⟨fun _ _ _ h => h, Or.inl ⟨by rfl, fun V hV => ?_⟩, ?_⟩
              (focus ((try dsimp only at hV); go_simp; (try (with_reducible rfl)); done))
              try simp only [Act.put, List.setIfInBounds_toArray, List.set_cons_zero, List.set_cons_succ]
              refine wpL.take' (i := 16) rfl (by kernel_rfl) (by kernel_rfl) (by kernel_rfl) (by kernel_rfl) (by decide) (by kernel_rfl) (by assumption) ?_
              apply Exists.intro; refine ⟨fun _ _ _ h => h, Or.inl ⟨by rfl, fun V hV => ?_⟩, ?_⟩
              (focus ((try dsimp only at hV); go_simp; (try (with_reducible rfl)); done))
              try simp only [Act.put, List.setIfInBounds_toArray, List.set_cons_zero, List.set_cons_succ]
              refine wpL.one (i := 17) (by kernel_rfl) rfl fun K hK => ?_
              rw [if_pos (by rfl)]
              go_simp
              ((first | (go_at_call 41; refine calls_below (W0 := wr) ?_ fun hpre => ?_; (repeat (first | exact Below.refl _ _ | refine Below.alloc ?_ (by simp; try omega) _ | refine Below.drew ?_)); refine (hTP.out _).mono ?_; rintro e N2 ⟨rfl, hb1⟩; have hb := Up.trans hpre hb1; clear hpre; (first | have hs_N2 := below_alloc_lt hb1 | have hs_N2 := below_alloc_lt (drewB hb1) | skip); (try replace hBj := up_of hb hBj); (try replace vB := up_of hb vB); (try replace xB := up_of hb xB); (try replace hown := up_of hb hown); (try replace x2 := up_of hb x2); (try replace v2 := up_of hb v2); (try replace z0 := up_of hb z0); (try replace z1 := up_of hb z1); (try replace z2 := up_of hb z2); (try replace z3 := up_of hb z3); (try replace o0 := up_of hb o0); (try replace o1 := up_of hb o1); (try replace o2 := up_of hb o2); (try replace m0 := up_of hb m0); (first | have nB := new_up hb1 | have nB := new_up (drewB hb1) | (try replace nB := up_of hb nB))) | (refine step_append_lies _ (by rfl) _ _ 54 (by rfl) (V0.heap.size + 2) 78 i0 _ 4 32 Try.underlying54 hi0 hz0 hz1 hz2 rfl (by decide) _ _ _ (by rfl) (hown.alloc _) ⟨N2.heap.size, 0, none⟩ 1 1 [.int .i64 a.v, .int .i64 q.x, .int .i64 q.y, .int .i64 q.z] (by rfl) (by rfl) (news_new _ _ _) (by simp [Value.oneCell']) (by decide) (by unfold maxLen; omega) (by omega) (by have := xB.lt; first | omega | (simp; omega)) (N2.heap.size + 1) (by simp) ?_; intro gg cap1 w1 hown1 hgrow hat hlt2; (first | (replace x2 := cell_appD hgrow x2 (fun g e => by have := hge.out g e; omega); replace v2 := cell_appD hgrow v2 (fun g e => by have := hge.out g e; omega); replace z0 := cell_appD hgrow z0 (fun g e => by have := hge.out g e; omega); replace z1 := cell_appD hgrow z1 (fun g e => by have := hge.out g e; omega); replace z2 := cell_appD hgrow z2 (fun g e => by have := hge.out g e; omega); replace z3 := cell_appD hgrow z3 (fun g e => by have := hge.out g e; omega); replace o0 := cell_appD hgrow o0 (fun g e => by have := hge.out g e; omega); replace o1 := cell_appD hgrow o1 (fun g e => by have := hge.out g e; omega); replace o2 := cell_appD hgrow o2 (fun g e => by have := hge.out g e; omega); replace m0 := cell_appD hgrow m0 (fun g e => by have := hge.out g e; omega)) | (replace x2 := cell_app hgrow x2 (fun g e => by have := hge.out g e; omega); replace v2 := cell_app hgrow v2 (fun g e => by have := hge.out g e; omega); replace z0 := cell_app hgrow z0 (fun g e => by have := hge.out g e; omega); replace z1 := cell_app hgrow z1 (fun g e => by have := hge.out g e; omega); replace z2 := cell_app hgrow z2 (fun g e => by have := hge.out g e; omega); replace z3 := cell_app hgrow z3 (fun g e => by have := hge.out g e; omega); replace o0 := cell_app hgrow o0 (fun g e => by have := hge.out g e; omega); replace o1 := cell_app hgrow o1 (fun g e => by have := hge.out g e; omega); replace o2 := cell_app hgrow o2 (fun g e => by have := hge.out g e; omega); replace m0 := cell_app hgrow m0 (fun g e => by have := hge.out g e; omega))); have xB1 : Row w1 (V0.heap.size + 1) _ _ := (by first | exact grown_rowD hgrow hown (by omega : V0.heap.size + 1 < V0.heap.size + 2) xB | exact grown_row hgrow hown (by omega : V0.heap.size + 1 < V0.heap.size + 2) xB); have vB1 : Row w1 V0.heap.size _ _ := (by first | exact grown_rowD hgrow hown (by omega : V0.heap.size < V0.heap.size + 2) vB | exact grown_row hgrow hown (by omega : V0.heap.size < V0.heap.size + 2) vB); have hB1 : Below V0.heap.size V0 w1 := (by first | exact ((hBj.alloc (by exact hBj.size) _).drew).grown hgrow (by have := hBj.size; simp; omega) (fun g e => by have := hge.out g e; omega) | exact (hBj.alloc (by exact hBj.size) _).grown hgrow (by have := hBj.size; simp; omega) (fun g e => by have := hge.out g e; omega)); have f1 : w1.frozen? ⟨V0.heap.size + 1, 2, none⟩ = false := Row.frozen xB1 2)))
              try clear hHeld
              refine hK.out _ _ ?_ (fun hHeld => ?_)
              (focus ((first | exact ⟨x2, v2, z0, z1, z2, z3, o0, o1, o2, m0⟩ | ((first | (with_reducible exact ⟨x2, v2, z0, z1, z2, z3, o0, o1, o2, m0⟩) | ((try dsimp only); (repeat' apply And.intro) <;> (repeat (first | (with_reducible assumption) | (with_reducible refine cell_set (by simp; try omega) ?_) | (with_reducible refine cell_drew ?_) | (with_reducible refine cell_alloc ?_ _))))))); done))
              clear hK K
              try simp only [Act.put, List.setIfInBounds_toArray, List.set_cons_zero, List.set_cons_succ]
              refine wpL.take' (i := 18) rfl (by kernel_rfl) (by kernel_rfl) (by kernel_rfl) (by kernel_rfl) (by decide) (by kernel_rfl) (by assumption) ?_
              apply Exists.intro; refine ⟨fun _ _ _ h => h, Or.inl ⟨by rfl, fun V hV => ?_⟩, ?_⟩
              (focus ((try dsimp only at hV); go_simp; (try (with_reducible rfl)); done))
              try simp only [Act.put, List.setIfInBounds_toArray, List.set_cons_zero, List.set_cons_succ]
              refine wpL.one (i := 19) (by kernel_rfl) rfl fun K hK => ?_
              rw [if_pos (by rfl)]
              go_simp
              try clear hHeld
              refine hK.out _ _ ?_ (fun hHeld => ?_)
              (focus ((first | exact ⟨x2, v2, z0, z1, z2, z3, o0, o1, o2, m0⟩ | ((first | (with_reducible exact ⟨x2, v2, z0, z1, z2, z3, o0, o1, o2, m0⟩) | ((try dsimp only); (repeat' apply And.intro) <;> (repeat (first | (with_reducible assumption) | (with_reducible refine cell_set (by simp; try omega) ?_) | (with_reducible refine cell_drew ?_) | (with_reducible refine cell_alloc ?_ _))))))); done))
              clear hK K
              try simp only [Act.put, List.setIfInBounds_toArray, List.set_cons_zero, List.set_cons_succ]
              refine wpL.one (i := 20) (by kernel_rfl) rfl fun K hK => ?_
              ((first | (go_at_call 41; refine calls_below (W0 := wr) ?_ fun hpre => ?_; (repeat (first | exact Below.refl _ _ | refine Below.alloc ?_ (by simp; try omega) _ | refine Below.drew ?_)); refine (hTP.out _).mono ?_; rintro e N2 ⟨rfl, hb1⟩; have hb := Up.trans hpre hb1; clear hpre; (first | have hs_N2 := below_alloc_lt hb1 | have hs_N2 := below_alloc_lt (drewB hb1) | skip); (try replace hBj := up_of hb hBj); (try replace vB := up_of hb vB); (try replace xB := up_of hb xB); (try replace hown := up_of hb hown); (try replace x2 := up_of hb x2); (try replace v2 := up_of hb v2); (try replace z0 := up_of hb z0); (try replace z1 := up_of hb z1); (try replace z2 := up_of hb z2); (try replace z3 := up_of hb z3); (try replace o0 := up_of hb o0); (try replace o1 := up_of hb o1); (try replace o2 := up_of hb o2); (try replace m0 := up_of hb m0); (first | have nB := new_up hb1 | have nB := new_up (drewB hb1) | (try replace nB := up_of hb nB))) | (refine step_append_lies _ (by rfl) _ _ 54 (by rfl) (V0.heap.size + 2) 78 i0 _ 4 32 Try.underlying54 hi0 hz0 hz1 hz2 rfl (by decide) _ _ _ (by rfl) (hown.alloc _) ⟨N2.heap.size, 0, none⟩ 1 1 [.int .i64 a.v, .int .i64 q.x, .int .i64 q.y, .int .i64 q.z] (by rfl) (by rfl) (news_new _ _ _) (by simp [Value.oneCell']) (by decide) (by unfold maxLen; omega) (by omega) (by have := xB.lt; first | omega | (simp; omega)) (N2.heap.size + 1) (by simp) ?_; intro gg cap1 w1 hown1 hgrow hat hlt2; (first | (replace x2 := cell_appD hgrow x2 (fun g e => by have := hge.out g e; omega); replace v2 := cell_appD hgrow v2 (fun g e => by have := hge.out g e; omega); replace z0 := cell_appD hgrow z0 (fun g e => by have := hge.out g e; omega); replace z1 := cell_appD hgrow z1 (fun g e => by have := hge.out g e; omega); replace z2 := cell_appD hgrow z2 (fun g e => by have := hge.out g e; omega); replace z3 := cell_appD hgrow z3 (fun g e => by have := hge.out g e; omega); replace o0 := cell_appD hgrow o0 (fun g e => by have := hge.out g e; omega); replace o1 := cell_appD hgrow o1 (fun g e => by have := hge.out g e; omega); replace o2 := cell_appD hgrow o2 (fun g e => by have := hge.out g e; omega); replace m0 := cell_appD hgrow m0 (fun g e => by have := hge.out g e; omega)) | (replace x2 := cell_app hgrow x2 (fun g e => by have := hge.out g e; omega); replace v2 := cell_app hgrow v2 (fun g e => by have := hge.out g e; omega); replace z0 := cell_app hgrow z0 (fun g e => by have := hge.out g e; omega); replace z1 := cell_app hgrow z1 (fun g e => by have := hge.out g e; omega); replace z2 := cell_app hgrow z2 (fun g e => by have := hge.out g e; omega); replace z3 := cell_app hgrow z3 (fun g e => by have := hge.out g e; omega); replace o0 := cell_app hgrow o0 (fun g e => by have := hge.out g e; omega); replace o1 := cell_app hgrow o1 (fun g e => by have := hge.out g e; omega); replace o2 := cell_app hgrow o2 (fun g e => by have := hge.out g e; omega); replace m0 := cell_app hgrow m0 (fun g e => by have := hge.out g e; omega))); have xB1 : Row w1 (V0.heap.size + 1) _ _ := (by first | exact grown_rowD hgrow hown (by omega : V0.heap.size + 1 < V0.heap.size + 2) xB | exact grown_row hgrow hown (by omega : V0.heap.size + 1 < V0.heap.size + 2) xB); have vB1 : Row w1 V0.heap.size _ _ := (by first | exact grown_rowD hgrow hown (by omega : V0.heap.size < V0.heap.size + 2) vB | exact grown_row hgrow hown (by omega : V0.heap.size < V0.heap.size + 2) vB); have hB1 : Below V0.heap.size V0 w1 := (by first | exact ((hBj.alloc (by exact hBj.size) _).drew).grown hgrow (by have := hBj.size; simp; omega) (fun g e => by have := hge.out g e; omega) | exact (hBj.alloc (by exact hBj.size) _).grown hgrow (by have := hBj.size; simp; omega) (fun g e => by have := hge.out g e; omega)); have f1 : w1.frozen? ⟨V0.heap.size + 1, 2, none⟩ = false := Row.frozen xB1 2)))
              try clear hHeld
              refine hK.out _ _ ?_ (fun hHeld => ?_)
              (focus ((first | exact ⟨x2, v2, z0, z1, z2, z3, o0, o1, o2, m0⟩ | ((first | (with_reducible exact ⟨x2, v2, z0, z1, z2, z3, o0, o1, o2, m0⟩) | ((try dsimp only); (repeat' apply And.intro) <;> (repeat (first | (with_reducible assumption) | (with_reducible refine cell_set (by simp; try omega) ?_) | (with_reducible refine cell_drew ?_) | (with_reducible refine cell_alloc ?_ _))))))); done))
              clear hK K
              try simp only [Act.put, List.setIfInBounds_toArray, List.set_cons_zero, List.set_cons_succ]
              refine wpL.take' (i := 21) rfl (by kernel_rfl) (by kernel_rfl) (by kernel_rfl) (by kernel_rfl) (by decide) (by kernel_rfl) (by assumption) ?_
              apply Exists.intro; refine ⟨fun _ _ _ h => h, Or.inl ⟨by rfl, fun V hV => ?_⟩, ?_⟩
              (focus ((try dsimp only at hV); go_simp; (try (with_reducible rfl)); done))
              try simp only [Act.put, List.setIfInBounds_toArray, List.set_cons_zero, List.set_cons_succ]
              refine wpL.last (by kernel_rfl) (by kernel_rfl) rfl fun K hK => ?_
              rw [if_pos (by rfl)]
              go_simp
              refine hK.out _ _ (wpL.fin (by kernel_rfl) ?_ _)
              clear hK K
              try simp only [Act.put, List.setIfInBounds_toArray, List.set_cons_zero, List.set_cons_succ]
              all_goals
                replace hown1 := Lib.hid hown1; replace hB1 := Lib.hid hB1; replace vB1 := Lib.hid vB1
                clear hgrow hat
                go_wp2
                go_roundw
                case rel =>
                  refine ⟨j + 1, r ++ [⟨a.v, q⟩], _, by omega, rfl, hrn, ?_, ?_, ?_, by rw [show arE.all (r ++ [(⟨a.v, q⟩ : Ar)]) = arE.all r ++ [.int .i64 a.v, .int .i64 q.x, .int .i64 q.y, .int .i64 q.z] by simp [Elt.all, arE, Ar.cells], List.length_append]; exact own_upto hown1.out fun b e => Below.heap_setCell _ _ _ _ (by have := (hown1.out.lt b e).1; show b ≠ V0.heap.size + 1; omega)⟩
                  · have hB1 := hB1.out
                    repeat (first | (with_reducible exact hB1) | (with_reducible refine Below.drew ?_) | ((with_reducible refine Below.setC ?_ ?_); (focus (first | omega | (simp; done) | (simp; omega)))) | ((with_reducible refine Below.allo ?_ ?_); (focus (first | omega | (simp; done) | (simp; omega)))))
                  · have vB1 := vB1.out
                    refine Row.of ?_
                    repeat (first | (with_reducible refine RowG.base vB1 ?_) | (with_reducible refine RowG.drew ?_) | (with_reducible refine RowG.set ?_) | ((with_reducible refine RowG.other ?_ ?_); (focus (first | omega | (simp; done) | (simp; omega)))) | (with_reducible refine RowG.alloc ?_))
                    rfl
                  · refine Row.of ?_
                    repeat (first | (with_reducible refine RowG.base xB1 ?_) | (with_reducible refine RowG.drew ?_) | (with_reducible refine RowG.set ?_) | ((with_reducible refine RowG.other ?_ ?_); (focus (first | omega | (simp; done) | (simp; omega)))) | (with_reducible refine RowG.alloc ?_))
                    rfl
                case measure => exact meas hlj
            · obtain rfl : j = X.args.length := by omega
              have hrC : r = C := by rw [hrr.out, ← hCl.out, List.take_length]
              subst hrC
              obtain ⟨s4, c4, es, -⟩ := owns_shape hown
              subst es
              have hTV3 := up_of hBj hTVw.out
              have uB3 := up_of hBj huBw.out
              have mB3 := up_of hBj hmBw.out
              have hBV3 := hBVw.out.trans (hBj.mono hBVw.out.size)
              have x0 : wr.cell? ⟨V0.heap.size + 1, 0, none⟩ = some (.string X.name) := xB.cell rfl
              have x1 : wr.cell? ⟨V0.heap.size + 1, 1, none⟩ = some (.int .i64 X.op) := xB.cell rfl
              have x3 : wr.cell? ⟨V0.heap.size + 1, 3, none⟩ = some (.int .i64 X.i0) := xB.cell rfl
              have x4 : wr.cell? ⟨V0.heap.size + 1, 4, none⟩ = some (.int .i64 tx) := xB.cell rfl
              have x5 : wr.cell? ⟨V0.heap.size + 1, 5, none⟩ = some (.int .i64 ty) := xB.cell rfl
              have x6 : wr.cell? ⟨V0.heap.size + 1, 6, none⟩ = some (.int .i64 tz) := xB.cell rfl
              have u2 : wr.cell? ⟨W2.heap.size + 1, 2, none⟩ = some out := uB3.cell rfl
              have hBe2 := hBe.out
              have hlB := hTV3.le
              have hoV := hTV3.own
              have hRl2 := hRl.out
              obtain ⟨i0, hi0, hz0, hz1, hz2⟩ := info_parts info_var
              have hsl3 : SlS arE wr s4 T[k].args := by
                rw [hrow2.out]
                exact SlS.of_own (E := arE) (cap := c4) (l := r) hown
              have hc3 : T[k].args.length ≤ c4 ∧ (s4 = none → c4 = 0) := by
                rw [hrow2.out]
                exact own_cap hown
              have hn3 : r.length = T[k].args.length := by rw [hrow2.out]
              have hlo3 : ∀ b o, s4 = some ⟨b, o, none⟩ → V0.heap.size ≤ b ∧ b < wr.heap.size := fun b o e => by have := hown.lt b (by rw [e]; rfl); omega
              have hlk3 : (⟨X.name, X.op, s4, r.length, c4, X.i0, tx, ty, tz⟩ : Vs).like T[k] := by
                rw [hrow2.out]
                exact ⟨rfl, rfl, rfl, rfl, rfl, rfl⟩
              have hBjw := Lib.hid hBj
              replace hsl3 := Lib.hid hsl3; replace hlo3 := Lib.hid hlo3; replace hc3 := Lib.hid hc3; replace hn3 := Lib.hid hn3; replace hlk3 := Lib.hid hlk3
              replace hTV3 := Lib.hid hTV3; replace hown := Lib.hid hown
              clear hBj
              go_wp2_with (first | (at_builtin; refine wpList_append_own_at _ rfl _ _ 25 rfl B 57 i0 _ 7 80 Try.underlying25 hi0 hz0 hz1 hz2 rfl (by decide) _ _ _ rfl (hoV.alloc _) ⟨wr.heap.size, 0, none⟩ 1 1 [.string X.name, .int .i64 X.op, .slice s4 r.length c4, .int .i64 X.i0, .int .i64 tx, .int .i64 ty, .int .i64 tz] rfl rfl (news_new _ _ _) (by simp [Value.oneCell']) (by unfold maxLen; omega) (by omega) (by simp; omega) ?_; intro vv w1 hown1 hgrow hnil hat1; have uB1 := grown_row hgrow hoV (by omega : W2.heap.size + 1 < B) uB3; have mB1 := grown_row hgrow hoV (by omega : W2.heap.size < B) mB3; have uf := fun i => Row.frozen uB1 i; have u2' : w1.cell? ⟨W2.heap.size + 1, 2, none⟩ = some out := uB1.cell rfl; obtain ⟨so, co, eo, -⟩ := owns_shape hown1; subst eo))
              clear hnil
              have hP := TV.push (x := ⟨X.name, X.op, s4, r.length, c4, X.i0, tx, ty, tz⟩) (v := T[k]) hTVw.out (hBjw.out.alloc (by exact hBjw.out.size) _) (hsl3.out.up ((Below.refl _ wr).alloc (Nat.le_refl _) _)) hn3.out hc3.out.1 hc3.out.2 (fun b o e => ⟨(hlo3.out b o e).1, by have := (hlo3.out b o e).2; simp; omega⟩) hlk3.out hgrow hat1 hown1
              have hBw1 : Below W2.heap.size W2 w1 := (hBV3.alloc (by exact hBV3.size) _).grown hgrow (by have := hBV3.size; simp; omega) (fun g e => by have := (hoV.lt g e).1; omega)
              replace hP := Lib.hid hP
              clear hgrow hat1 hown1 hoV hTV3 hown hsl3 hlo3 u2 x0 x1 x2 x3 x4 x5 x6 v2 vB xB uB3 mB3
              go_roundw
              case rel =>
                refine ⟨k + 1, _, _, _, by omega, rfl, hRn, ?_, ?_, hP.out.keep (by simp [World.setCell]) (fun j hj _ => Below.heap_setCell _ _ _ _ (by show j ≠ W2.heap.size + 1; omega)), hBw1.setCell (by simp) _⟩
                · refine Row.of ?_
                  repeat (first | (with_reducible refine RowG.base uB1 ?_) | (with_reducible refine RowG.drew ?_) | (with_reducible refine RowG.set ?_) | ((with_reducible refine RowG.other ?_ ?_); (focus (first | omega | (simp; done) | (simp; omega)))) | (with_reducible refine RowG.alloc ?_))
                  (rw [hRl.out]; rfl)
                · refine Row.of ?_
                  repeat (first | (with_reducible refine RowG.base mB1 ?_) | (with_reducible refine RowG.drew ?_) | (with_reducible refine RowG.set ?_) | ((with_reducible refine RowG.other ?_ ?_); (focus (first | omega | (simp; done) | (simp; omega)))) | (with_reducible refine RowG.alloc ?_))
                  rfl
              case measure => exact meas hlt
    · obtain rfl : k = K.length := by omega
      have hRT : R0 = T := by rw [hR0.out, ← hTl.out, List.take_length]
      have hRv : ∀ v ∈ R0, v.args.length ≤ 9223372036854775807 := fun v hv => by
        obtain ⟨i, hi, rfl⟩ := List.getElem_of_mem hv
        subst hRT
        have hiK : i < K.length := by rw [← hTl.out]; exact hi
        rw [hTa.out i hiK hi]
        have := har.out _ (List.getElem_mem hiK)
        show (K[i].args.map (turnA N p)).length ≤ _
        rw [List.length_map]; omega
      subst hRT
      obtain ⟨so, co, eo, -⟩ := hTV.view hRv
      subst eo
      have hiq2 := up_of hBV hiqA.out
      have hB := hBA.out.trans (hBV.mono hBA.out.size)
      have rB := up_of hBV rA.out
      have u0 := uB.cell (i := 0) rfl
      have u1 := uB.cell (i := 1) rfl
      have u2 := uB.cell (i := 2) rfl
      have r0 := rB.cell (i := 0) rfl
      have r1 := rB.cell (i := 1) rfl
      have r2 := rB.cell (i := 2) rfl
      have rf := fun i => Row.frozen rB i
      have hBe2 := hBe.out
      have hW2s := hBA.out.size
      have hrl2 := rA.out.lt
      go_wp2
      have hCF : ∀ F, Chg (fun j => j = w.heap.size + 2) wr F → IqS F s3 LL ∧ VarsM F so R0 := fun F hC => by
        have hk : ∀ k, k ≠ w.heap.size + 2 → k < wr.heap.size → F.heap[k]? = wr.heap[k]? := fun k hk h => hC.block k h hk
        refine ⟨owns_iq (own_upto hiq2 fun b e => hk b ?_ (hiq2.lt b e).2), ?_⟩
        · have := (hiq2.lt b e).1; omega
        · have h2 := hTV.keep (V' := F) hC.size fun k hk2 hkl => hk k (by omega) hkl
          obtain ⟨so2, co2, e2, hVM2⟩ := h2.view hRv
          cases e2
          exact hVM2
      refine bodyPost_ret (results_cs rfl rfl rfl (load_rec (b1 := w.heap.size + 2) (cs := #[.int .i64 N, .slice s3 LL.length c3, .slice so R0.length co]) ?_ rfl)) rfl ⟨hend.out _ _ _ _ _ (hCF _ ?_).1 (hCF _ ?_).2, ?_⟩
      · refine Row.of ?_
        repeat (first | (with_reducible refine RowG.base rB ?_) | (with_reducible refine RowG.drew ?_) | (with_reducible refine RowG.set ?_) | ((with_reducible refine RowG.other ?_ ?_); (focus (first | omega | (simp; done) | (simp; omega)))) | (with_reducible refine RowG.alloc ?_))
        rfl
      · repeat (first | (with_reducible exact Chg.refl _ _) | (with_reducible refine Chg.setCell ?_ (by simp) _) | (with_reducible refine Chg.drew ?_) | (with_reducible refine Chg.alloc ?_ _))
      · repeat (first | (with_reducible exact Chg.refl _ _) | (with_reducible refine Chg.setCell ?_ (by simp) _) | (with_reducible refine Chg.drew ?_) | (with_reducible refine Chg.alloc ?_ _))
      · repeat (first | (with_reducible exact hB) | (with_reducible refine Below.drew ?_) | ((with_reducible refine Below.setC ?_ ?_); (focus (first | omega | (simp; done) | (simp; omega)))) | ((with_reducible refine Below.allo ?_ ?_); (focus (first | omega | (simp; done) | (simp; omega)))))
end Go.Proofs.Ytadmnlkgefbhcaa
