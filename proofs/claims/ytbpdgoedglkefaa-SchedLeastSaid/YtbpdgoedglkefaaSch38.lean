/- The best schedule: the reference's three loops. -/
import Derived.Test.YtbpdgoedglkefaaSch37
namespace Go.Proofs.Ytbpdgoedglkefaa
open Go.RowKit

theorem step_none {K : List Vv} {P pre : List Pt} {f : Pt} (hb : bfR K f = none) : bstL K P (pre ++ [f]) = bstL K P pre := by
  rw [bst_snoc]; unfold bstS; rw [hb]
theorem step_first {K : List Vv} {P pre : List Pt} {f : Pt} {o : List Int} (hb : bfR K f = some o) (h : bstL K P pre = none) : bstL K P (pre ++ [f]) = some (f, o) := by
  rw [bst_snoc]; unfold bstS; rw [hb, h]
theorem step_less {K : List Vv} {P pre : List Pt} {f g : Pt} {o u : List Int} (hb : bfR K f = some o) (h : bstL K P pre = some (g, u)) (hl : latF P f o < latF P g u) : bstL K P (pre ++ [f]) = some (f, o) := by
  rw [bst_snoc]; unfold bstS; rw [hb, h]; simp only; rw [if_pos hl]
theorem step_keep {K : List Vv} {P pre : List Pt} {f g : Pt} {o u : List Int} (hb : bfR K f = some o) (h : bstL K P pre = some (g, u)) (hl : ¬ latF P f o < latF P g u) : bstL K P (pre ++ [f]) = some (g, u) := by
  rw [bst_snoc]; unfold bstS; rw [hb, h]; simp only; rw [if_neg hl]
/-- The best up to now, in its block, and its latency in a slot. -/
def BstR (K : List Vv) (P : List Pt) (V : World) (b : Nat) (ls : Value) (pre : List Pt) : Prop :=
  (bstL K P pre = none ∧ ls = .int .i64 0 ∧ Row V b 32 #[.int .i64 0, .int .i64 0, .int .i64 0, .slice none 0 0]) ∨
  ∃ g u s c, bstL K P pre = some (g, u) ∧ ls = .int .i64 (latF P g u) ∧ Row V b 32 #[.int .i64 g.x, .int .i64 g.y, .int .i64 g.z, .slice s u.length c] ∧ V.ownsRow (b + 1) 3 1 (.slice s u.length c) u.length (intE.all u)
theorem BstR.up {K : List Vv} {P : List Pt} {V V' : World} {b : Nat} {ls : Value} {pre : List Pt} (hb : Below V.heap.size V V') (h : BstR K P V b ls pre) : BstR K P V' b ls pre := by
  rcases h with ⟨h1, h2, h3⟩ | ⟨g, u, s, c, h1, h2, h3, h4⟩
  · exact .inl ⟨h1, h2, up_of hb h3⟩
  · exact .inr ⟨g, u, s, c, h1, h2, up_of hb h3, up_of hb h4⟩
instance {K : List Vv} {P : List Pt} {V V' : World} {b : Nat} {ls : Value} {pre : List Pt} : UpF V V' (BstR K P V b ls pre) (BstR K P V' b ls pre) := ⟨fun h c => BstR.up h c⟩
theorem frm_x {n m : Int} {pre : List Pt} {xi : Int} (h : frm n m = pre ++ frX n m (up xi (fa n m 0))) (hx : xi ≤ fa n m 0) : frm n m = pre ++ (frY n m xi (up (-fa n m 1) (fa n m 1)) ++ frX n m (up (xi + 1) (fa n m 0))) := by
  rw [h, up_cons hx]; rfl
theorem frm_y {n m : Int} {pre R : List Pt} {xi yi : Int} (h : frm n m = pre ++ (frY n m xi (up yi (fa n m 1)) ++ R)) (hy : yi ≤ fa n m 1) : frm n m = pre ++ (frZ n m xi yi (up (-fa n m 2) (fa n m 2)) ++ (frY n m xi (up (yi + 1) (fa n m 1)) ++ R)) := by
  rw [h, up_cons hy]; simp only [frY, List.flatMap_cons, List.append_assoc]
theorem frm_z {n m : Int} {pre R : List Pt} {xi yi zi : Int} (h : frm n m = pre ++ (frZ n m xi yi (up zi (fa n m 2)) ++ R)) (hz : zi ≤ fa n m 2) : frm n m = (pre ++ [⟨xi, yi, zi⟩]) ++ (frZ n m xi yi (up (zi + 1) (fa n m 2)) ++ R) := by
  rw [h, up_cons hz]; simp [frZ]
/-- How far, when so many coordinates are set. -/
def fk (k : Nat) (m : Int) (j : Nat) : Int := if j < k then m else 0
set_option maxRecDepth 100000 in
set_option maxHeartbeats 8000000 in
theorem rBest_c (n : Int) (s : Option Addr) (cap : Nat) (l : List Iq) (s2 : Option Addr) (cq : Nat) (K : List Vv) (m : Int) (w : World) (hr : RecM w s l s2 cq K) (h : recB n l K = true) (hm : 0 ≤ m ∧ m ≤ 3) (hP : pts n l ≠ []) (hn : 1 ≤ n ∧ n ≤ 3) :
    Calls Try.prog 36 #[.agg #[.int .i64 n, .slice s l.length cap, .slice s2 K.length cq], .int .i64 m] w (match bstL K (pts n l) (frm n m) with | none => SdRet ⟨0, 0, 0⟩ [] 5 w | some (g, u) => SdRet g u 0 w) := by
  have hv := fun V (h : RecM V s l s2 cq K) => h.isRec n cap
  simp only [h] at hv
  have hall := fun V (h : RecM V s l s2 cq K) => (All_c n s cap l V hn h.dom.iq h.dom.len h.dom.wf).mono (R' := fun e w' => ∃ s' cap', e = .returned (.slice s' (pts n l).length cap') ∧ PtS w' s' (pts n l) ∧ Below V.heap.size V w') (fun e w' ⟨s', c', he, ho, hb⟩ => ⟨s', c', he, owns_pt ho, hb⟩)
  have hpl := pts_len n l
  have hP1 : 1 ≤ (pts n l).length := List.length_pos_iff.2 hP
  have hk4 := rec_vars h
  have hof := fun f (hf : f ∈ frm n m) V (hV : RecM V s l s2 cq K) => rOffsets_c n s cap l.length s2 cq K f V hV.vars hk4 (rec_args h) (rec_near h) (frm_abs hm hf)
  have hsm := fun f (hf : f ∈ frm n m) o (hb : bfR K f = some o) => bf_small (n := n) (l := l) h hn hm hf hb
  have hlp := fun f (hf : f ∈ frm n m) o (ho : o ≠ []) (hob : ∀ x ∈ o, 0 ≤ x ∧ x ≤ 1000) => lat_parts (n := n) (l := l) (frm_abs hm hf) hP ho hob
  have hsp := fun V sp cp f (h : PtS V sp (pts n l)) => spread_c sp cp (pts n l) f V h hP1 (by omega)
  obtain ⟨R, hR⟩ : ∃ R, (match bstL K (pts n l) (frm n m) with | none => SdRet ⟨0, 0, 0⟩ [] 5 w | some (g, u) => SdRet g u 0 w) = R := ⟨_, rfl⟩
  rw [hR]
  obtain ⟨P, hPe⟩ : ∃ P, pts n l = P := ⟨_, rfl⟩
  simp only [hPe] at hall hpl hP1 hlp hsp hR
  have k0 : ((P.length : Int) == 0) = false := beq_eq_false_iff_ne.2 (by omega)
  have k1 : ¬ m < 0 := by omega
  have k2 : ¬ 3 < m := by omega
  replace hv := Lib.hid hv; replace hall := Lib.hid hall; replace hof := Lib.hid hof; replace hsm := Lib.hid hsm; replace hlp := Lib.hid hlp; replace hsp := Lib.hid hsp; replace hR := Lib.hid hR; replace hPe := Lib.hid hPe; replace hP1 := Lib.hid hP1
  clear h hP
  go_enter Try.func36, Try.ntmps36
  go_upto_region 1 with (fail)
  refine wp_world fun W HW => ?_
  have hB : Below w.heap.size w W := by rw [HW.out]; (repeat (first | exact Below.refl _ _ | refine Below.alloc ?_ (by simp; try omega) _ | refine Below.setCell ?_ (by simp) _ | refine Below.drew ?_))
  have d0 : W.cell? ⟨w.heap.size, 0, none⟩ = some (.int .i64 n) := by rw [HW.out]; simp [go_sem]
  have d1 : W.cell? ⟨w.heap.size, 1, none⟩ = some (.slice s l.length cap) := by rw [HW.out]; simp [go_sem]
  have d2 : W.cell? ⟨w.heap.size, 2, none⟩ = some (.slice s2 K.length cq) := by rw [HW.out]; simp [go_sem]
  have dl : w.heap.size < W.heap.size := World.block_lt_of_cell? W _ d0
  have oB : Row W (w.heap.size + 1) 32 #[.int .i64 0, .int .i64 0, .int .i64 0, .slice none 0 0] := (by rw [HW.out]; (repeat (first | (refine blk_new ?_; simp; done) | refine blk_old ?_ _)) : W.heap[w.heap.size + 1]? = some (.cells #[.int .i64 0, .int .i64 0, .int .i64 0, .slice none 0 0] 32 (0, 0)))
  have o0 : W.cell? ⟨w.heap.size + 1, 0, none⟩ = some (.int .i64 0) := by rw [HW.out]; simp [go_sem]
  have o1 : W.cell? ⟨w.heap.size + 1, 1, none⟩ = some (.int .i64 0) := by rw [HW.out]; simp [go_sem]
  have o2 : W.cell? ⟨w.heap.size + 1, 2, none⟩ = some (.int .i64 0) := by rw [HW.out]; simp [go_sem]
  have o3 : W.cell? ⟨w.heap.size + 1, 3, none⟩ = some (.slice none 0 0) := by rw [HW.out]; simp [go_sem]
  have ol : w.heap.size + 1 < W.heap.size := World.block_lt_of_cell? W _ o0
  try replace hr := up_of hB hr
  go_upto_region 8 with (first | (go_at_call 73; refine (hv.out _ hr).mono ?_; rintro e W1 ⟨rfl, hb⟩; (try replace hr := up_of hb hr); (try replace hB := up_of hb hB); (try replace d0 := up_of hb d0); (try replace d1 := up_of hb d1); (try replace d2 := up_of hb d2); (try replace dl := up_of hb dl); (try replace oB := up_of hb oB); (try replace o0 := up_of hb o0); (try replace o1 := up_of hb o1); (try replace o2 := up_of hb o2); (try replace o3 := up_of hb o3); (try replace ol := up_of hb ol)) | (go_at_call 55; refine (hall.out _ hr).mono ?_; rintro e W2 ⟨sp, cp, rfl, hps, hb⟩; (try replace hr := up_of hb hr); (try replace hB := up_of hb hB); (try replace d0 := up_of hb d0); (try replace d1 := up_of hb d1); (try replace d2 := up_of hb d2); (try replace dl := up_of hb dl); (try replace oB := up_of hb oB); (try replace o0 := up_of hb o0); (try replace o1 := up_of hb o1); (try replace o2 := up_of hb o2); (try replace o3 := up_of hb o3); (try replace ol := up_of hb ol)))
  have hw2 := hB.size
  have hrW := Lib.hid hr; have hpsW := Lib.hid hps; have hBW := Lib.hid hB; have oBW := Lib.hid oB
  have dW0 := Lib.hid d0; have dW1 := Lib.hid d1; have dW2 := Lib.hid d2; have dWl := Lib.hid dl; have oWl := Lib.hid ol
  go_upto_region 9 with (fail)
  refine wp_world fun A0 HA0 => ?_
  have hA0 : Below W2.heap.size W2 A0 := by rw [HA0.out]; (repeat (first | exact Below.refl _ _ | refine Below.alloc ?_ (by simp; try omega) _ | refine Below.setCell ?_ (by simp) _ | refine Below.drew ?_))
  have qB : Row A0 (W2.heap.size) 28 #[.int .i64 0, .int .i64 0, .int .i64 0] := (by rw [HA0.out]; (repeat (first | (refine blk_new ?_; simp; done) | refine blk_old ?_ _)) : A0.heap[W2.heap.size]? = some (.cells #[.int .i64 0, .int .i64 0, .int .i64 0] 28 (0, 0)))
  have q0 : A0.cell? ⟨W2.heap.size, 0, none⟩ = some (.int .i64 0) := by rw [HA0.out]; simp [go_sem]
  have q1 : A0.cell? ⟨W2.heap.size, 1, none⟩ = some (.int .i64 0) := by rw [HA0.out]; simp [go_sem]
  have q2 : A0.cell? ⟨W2.heap.size, 2, none⟩ = some (.int .i64 0) := by rw [HA0.out]; simp [go_sem]
  have ql : W2.heap.size < A0.heap.size := World.block_lt_of_cell? A0 _ q0
  try replace hr := up_of hA0 hr
  try replace hB := up_of hA0 hB
  try replace d0 := up_of hA0 d0
  try replace d1 := up_of hA0 d1
  try replace d2 := up_of hA0 d2
  try replace dl := up_of hA0 dl
  try replace oB := up_of hA0 oB
  try replace o0 := up_of hA0 o0
  try replace o1 := up_of hA0 o1
  try replace o2 := up_of hA0 o2
  try replace o3 := up_of hA0 o3
  try replace ol := up_of hA0 ol
  have hA0s : Hid (A0.heap.size = W2.heap.size + 1) := by rw [HA0.out]; exact Lib.hid (by simp)
  go_wp2
  go_loopw [39] (fun ii V => ∃ k : Nat, (k : Int) ≤ n ∧ ii = .int .i64 k ∧ Row V W2.heap.size 28 #[.int .i64 (fk k m 0), .int .i64 (fk k m 1), .int .i64 (fk k m 2)] ∧ Below W2.heap.size W2 V ∧ W2.heap.size < V.heap.size) (fun ii _ => (n - intOf ii).toNat)
  case atStart => exact ⟨0, by omega, rfl, qB, hA0, ql⟩
  case round =>
    clear hr hps hB oB d0 d1 d2 dl o0 o1 o2 o3 ol qB hA0 ql q0 q1 q2 hA0s HA0
    obtain ⟨k, hk, rfl, qB, hA0, ql⟩ := hrel
    by_cases hlt : (k : Int) < n
    · have rf := fun i => Row.frozen qB i
      obtain ⟨q0, q1, q2⟩ := qB.three
      obtain rfl | rfl | rfl : k = 0 ∨ k = 1 ∨ k = 2 := by omega
      · go_wp2
        go_roundw
        case rel =>
          refine ⟨1, by omega, rfl, ?_, ?_, ?_⟩
          · show Row _ _ _ #[.int .i64 m, .int .i64 0, .int .i64 0]
            refine Row.of ?_
            repeat (first | (with_reducible refine RowG.base qB ?_) | (with_reducible refine RowG.drew ?_) | (with_reducible refine RowG.set ?_) | ((with_reducible refine RowG.other ?_ ?_); (focus (first | omega | (simp; done) | (simp; omega)))) | (with_reducible refine RowG.alloc ?_))
            rfl
          · repeat (first | (with_reducible exact hA0) | (with_reducible refine Below.drew ?_) | ((with_reducible refine Below.setC ?_ ?_); (focus (first | omega | (simp; done) | (simp; omega)))) | ((with_reducible refine Below.allo ?_ ?_); (focus (first | omega | (simp; done) | (simp; omega)))))
          · simp; exact ql
        case measure => simp [intOf]; omega
      · go_wp2
        go_roundw
        case rel =>
          refine ⟨2, by omega, rfl, ?_, ?_, ?_⟩
          · show Row _ _ _ #[.int .i64 m, .int .i64 m, .int .i64 0]
            refine Row.of ?_
            repeat (first | (with_reducible refine RowG.base qB ?_) | (with_reducible refine RowG.drew ?_) | (with_reducible refine RowG.set ?_) | ((with_reducible refine RowG.other ?_ ?_); (focus (first | omega | (simp; done) | (simp; omega)))) | (with_reducible refine RowG.alloc ?_))
            rfl
          · repeat (first | (with_reducible exact hA0) | (with_reducible refine Below.drew ?_) | ((with_reducible refine Below.setC ?_ ?_); (focus (first | omega | (simp; done) | (simp; omega)))) | ((with_reducible refine Below.allo ?_ ?_); (focus (first | omega | (simp; done) | (simp; omega)))))
          · simp; exact ql
        case measure => simp [intOf]; omega
      · go_wp2
        go_roundw
        case rel =>
          refine ⟨3, by omega, rfl, ?_, ?_, ?_⟩
          · show Row _ _ _ #[.int .i64 m, .int .i64 m, .int .i64 m]
            refine Row.of ?_
            repeat (first | (with_reducible refine RowG.base qB ?_) | (with_reducible refine RowG.drew ?_) | (with_reducible refine RowG.set ?_) | ((with_reducible refine RowG.other ?_ ?_); (focus (first | omega | (simp; done) | (simp; omega)))) | (with_reducible refine RowG.alloc ?_))
            rfl
          · repeat (first | (with_reducible exact hA0) | (with_reducible refine Below.drew ?_) | ((with_reducible refine Below.setC ?_ ?_); (focus (first | omega | (simp; done) | (simp; omega)))) | ((with_reducible refine Below.allo ?_ ?_); (focus (first | omega | (simp; done) | (simp; omega)))))
          · simp; exact ql
        case measure => simp [intOf]; omega
    · obtain rfl : n = (k : Int) := by omega
      have hfa : ∀ j, fk k m j = fa k m j := fun j => by
        unfold fk fa
        by_cases hj : j < k
        · rw [if_pos hj, if_pos (by omega)]
        · rw [if_neg hj, if_neg (by omega)]
      simp only [hfa] at qB
      clear hfa
      obtain ⟨q0, q1, q2⟩ := qB.three
      obtain ⟨A1, rfl⟩ : ∃ A1, A1 = wr := ⟨wr, rfl⟩
      have hrA := Lib.hid (up_of hA0 hrW.out); have hpsA := Lib.hid (up_of hA0 hpsW.out); have hBAw := Lib.hid (hBW.out.trans (hA0.mono hw2))
      have oBA := Lib.hid (up_of hA0 oBW.out); have dA0 := Lib.hid (up_of hA0 dW0.out); have dA1 := Lib.hid (up_of hA0 dW1.out); have dA2 := Lib.hid (up_of hA0 dW2.out)
      have qA0 := Lib.hid q0; have qA1 := Lib.hid q1; have qA2 := Lib.hid q2
      have hwA : Hid (w.heap.size + 1 < A1.heap.size) := Lib.hid (by have := oWl.out; omega)
      have hWA : Hid (W2.heap.size < A1.heap.size) := Lib.hid ql
      clear hrW hpsW hBW oBW dW0 dW1 dW2 qB hA0 ql hlt hk
      have f0 : 0 ≤ fa k m 0 ∧ fa k m 0 ≤ 3 := by unfold fa; split <;> omega
      have f1 : 0 ≤ fa k m 1 ∧ fa k m 1 ≤ 3 := by unfold fa; split <;> omega
      have f2 : 0 ≤ fa k m 2 ∧ fa k m 2 ≤ 3 := by unfold fa; split <;> omega
      have u0 : wrap64 (-fa k m 0) = -fa k m 0 := by unfold wrap64; omega
      have u1 : wrap64 (-fa k m 1) = -fa k m 1 := by unfold wrap64; omega
      have u2 : wrap64 (-fa k m 2) = -fa k m 2 := by unfold wrap64; omega
      have t0 : IntKind.i64.wrap (-fa k m 0) = -fa k m 0 := i64_small (by omega)
      have t1 : IntKind.i64.wrap (-fa k m 1) = -fa k m 1 := i64_small (by omega)
      have t2 : IntKind.i64.wrap (-fa k m 2) = -fa k m 2 := i64_small (by omega)
      go_upto_region 15 with (fail)
      refine wp_world fun A2 HA2 => ?_
      have hA2 : Below A1.heap.size A1 A2 := by rw [HA2.out]; (repeat (first | exact Below.refl _ _ | refine Below.alloc ?_ (by simp; try omega) _ | refine Below.setCell ?_ (by simp) _ | refine Below.drew ?_))
      have bB : Row A2 (A1.heap.size) 32 #[.int .i64 0, .int .i64 0, .int .i64 0, .slice none 0 0] := (by rw [HA2.out]; (repeat (first | (refine blk_new ?_; simp; done) | refine blk_old ?_ _)) : A2.heap[A1.heap.size]? = some (.cells #[.int .i64 0, .int .i64 0, .int .i64 0, .slice none 0 0] 32 (0, 0)))
      have b0 : A2.cell? ⟨A1.heap.size, 0, none⟩ = some (.int .i64 0) := by rw [HA2.out]; simp [go_sem]
      have b1 : A2.cell? ⟨A1.heap.size, 1, none⟩ = some (.int .i64 0) := by rw [HA2.out]; simp [go_sem]
      have b2 : A2.cell? ⟨A1.heap.size, 2, none⟩ = some (.int .i64 0) := by rw [HA2.out]; simp [go_sem]
      have b3 : A2.cell? ⟨A1.heap.size, 3, none⟩ = some (.slice none 0 0) := by rw [HA2.out]; simp [go_sem]
      have bl : A1.heap.size < A2.heap.size := World.block_lt_of_cell? A2 _ b0
      try replace q0 := up_of hA2 q0
      try replace q1 := up_of hA2 q1
      try replace q2 := up_of hA2 q2
      have hbs0 : BstR K P A2 A1.heap.size (.int .i64 0) [] := .inl ⟨rfl, rfl, bB⟩
      clear bB b0 b1 b2 b3 HA2
      go_wp2
      go_loopw [10, 11] (fun ls xx V => ∃ (xi : Int) (pre : List Pt), xx = .int .i64 xi ∧ -fa k m 0 ≤ xi ∧ xi ≤ fa k m 0 + 1 ∧ Hid (frm k m = pre ++ frX k m (up xi (fa k m 0))) ∧ BstR K P V A1.heap.size ls pre ∧ Below A1.heap.size A1 V ∧ A1.heap.size < V.heap.size) (fun _ xx _ => (fa k m 0 + 1 - intOf xx).toNat)
      case atStart => exact ⟨_, [], rfl, by omega, by omega, rfl, hbs0, hA2, bl⟩
      case round =>
        clear hbs0 hA2 bl q0 q1 q2
        obtain ⟨xi, pre, rfl, hx0, hx1, hpre, hbs, hBA, hAV⟩ := hrel
        have hr := up_of hBA hrA.out; have hps := up_of hBA hpsA.out; have d0 := up_of hBA dA0.out; have d1 := up_of hBA dA1.out; have d2 := up_of hBA dA2.out; have q0 := up_of hBA qA0.out; have q1 := up_of hBA qA1.out; have q2 := up_of hBA qA2.out
        by_cases hx : xi ≤ fa k m 0
        · have hpre2 := Lib.hid (frm_x hpre.out hx)
          clear hpre
          go_wp2
          go_loopw [10, 12] (fun ls yy V => ∃ (yi : Int) (pre : List Pt), yy = .int .i64 yi ∧ -fa k m 1 ≤ yi ∧ yi ≤ fa k m 1 + 1 ∧ Hid (frm k m = pre ++ (frY k m xi (up yi (fa k m 1)) ++ frX k m (up (xi + 1) (fa k m 0)))) ∧ BstR K P V A1.heap.size ls pre ∧ Below A1.heap.size A1 V ∧ A1.heap.size < V.heap.size) (fun _ yy _ => (fa k m 1 + 1 - intOf yy).toNat)
          case atStart => exact ⟨_, pre, rfl, by omega, by omega, hpre2, hbs, hBA, hAV⟩
          case round =>
            clear hr hps d0 d1 d2 q0 q1 q2 hBA hAV hbs hpre2 pre
            obtain ⟨yi, pre, rfl, hy0, hy1, hpre, hbs, hBA, hAV⟩ := hrel
            have hr := up_of hBA hrA.out; have hps := up_of hBA hpsA.out; have d0 := up_of hBA dA0.out; have d1 := up_of hBA dA1.out; have d2 := up_of hBA dA2.out; have q0 := up_of hBA qA0.out; have q1 := up_of hBA qA1.out; have q2 := up_of hBA qA2.out
            by_cases hy : yi ≤ fa k m 1
            · have hpre2 := Lib.hid (frm_y hpre.out hy)
              clear hpre
              go_wp2
              go_loopw [10, 13] (fun ls zz V => ∃ (zi : Int) (pre : List Pt), zz = .int .i64 zi ∧ -fa k m 2 ≤ zi ∧ zi ≤ fa k m 2 + 1 ∧ Hid (frm k m = pre ++ (frZ k m xi yi (up zi (fa k m 2)) ++ (frY k m xi (up (yi + 1) (fa k m 1)) ++ frX k m (up (xi + 1) (fa k m 0))))) ∧ BstR K P V A1.heap.size ls pre ∧ Below A1.heap.size A1 V ∧ A1.heap.size < V.heap.size) (fun _ zz _ => (fa k m 2 + 1 - intOf zz).toNat)
              case atStart => exact ⟨_, pre, rfl, by omega, by omega, hpre2, hbs, hBA, hAV⟩
              case round =>
                clear hr hps d0 d1 d2 q0 q1 q2 hBA hAV hbs hpre2 pre
                obtain ⟨zi, pre, rfl, hz0, hz1, hpre, hbs, hBA, hAV⟩ := hrel
                have hr := up_of hBA hrA.out; have hps := up_of hBA hpsA.out; have d0 := up_of hBA dA0.out; have d1 := up_of hBA dA1.out; have d2 := up_of hBA dA2.out; have q0 := up_of hBA qA0.out; have q1 := up_of hBA qA1.out; have q2 := up_of hBA qA2.out
                by_cases hz : zi ≤ fa k m 2
                · have hpre2 := Lib.hid (frm_z hpre.out hz)
                  clear hpre
                  have hfm : (⟨xi, yi, zi⟩ : Pt) ∈ frm k m := frm_mem.2 ⟨⟨hx0, hx⟩, ⟨hy0, hy⟩, ⟨hz0, hz⟩⟩
                  have hoff := hof.out ⟨xi, yi, zi⟩ hfm
                  have hspf := fun V sp cp h => hsp.out V sp cp ⟨xi, yi, zi⟩ h
                  dsimp only at hoff hspf
                  have wz1 : wrap64 (zi + 1) = zi + 1 := by unfold wrap64; omega
                  cases hb : bfR K ⟨xi, yi, zi⟩ with
                  | none =>
                    have hbst := Lib.hid (step_none (P := P) (pre := pre) hb)
                    simp only [hb, Option.getD_none, Option.isSome_none, List.length_nil] at hoff
                    replace hoff := Lib.hid hoff; replace hspf := Lib.hid hspf; replace hfm := Lib.hid hfm; replace hb := Lib.hid hb
                    go_upto_region 26 with (fail)
                    refine wp_world fun Y HY => ?_
                    have hY : Below wr.heap.size wr Y := by rw [HY.out]; (repeat (first | exact Below.refl _ _ | refine Below.alloc ?_ (by simp; try omega) _ | refine Below.setCell ?_ (by simp) _ | refine Below.drew ?_))
                    have p0 : Y.cell? ⟨wr.heap.size, 0, none⟩ = some (.int .i64 xi) := by rw [HY.out]; simp [go_sem]
                    have p1 : Y.cell? ⟨wr.heap.size, 1, none⟩ = some (.int .i64 yi) := by rw [HY.out]; simp [go_sem]
                    have p2 : Y.cell? ⟨wr.heap.size, 2, none⟩ = some (.int .i64 zi) := by rw [HY.out]; simp [go_sem]
                    have pl : wr.heap.size < Y.heap.size := World.block_lt_of_cell? Y _ p0
                    try replace hr := up_of hY hr
                    try replace d0 := up_of hY d0
                    try replace d1 := up_of hY d1
                    try replace d2 := up_of hY d2
                    try replace q0 := up_of hY q0
                    try replace q1 := up_of hY q1
                    try replace q2 := up_of hY q2
                    try replace hBA := up_of hY hBA
                    try replace hAV := up_of hY hAV
                    try replace hbs := up_of hY hbs
                    go_wp2_with (first | (go_at_call 81; refine (hoff.out _ hr).mono ?_; rintro e W1 ⟨⟨s4, c4, rfl, hown⟩, hb⟩; (try replace hr := up_of hb hr); (try replace d0 := up_of hb d0); (try replace d1 := up_of hb d1); (try replace d2 := up_of hb d2); (try replace q0 := up_of hb q0); (try replace q1 := up_of hb q1); (try replace q2 := up_of hb q2); (try replace hBA := up_of hb hBA); (try replace hAV := up_of hb hAV); (try replace hbs := up_of hb hbs); (try replace hY := up_of hb hY); (try replace p0 := up_of hb p0); (try replace p1 := up_of hb p1); (try replace p2 := up_of hb p2); (try replace pl := up_of hb pl)))
                    go_roundw
                    case rel => exact ⟨zi + 1, pre ++ [⟨xi, yi, zi⟩], rfl, by omega, by omega, hpre2, by unfold BstR at hbs ⊢; rw [hbst.out]; exact hbs, hBA, hAV⟩
                    case measure => simp [intOf]; omega
                  | some o =>
                    simp only [hb, Option.getD_some, Option.isSome_some] at hoff
                    obtain ⟨hol, hob⟩ := hsm.out _ hfm o hb
                    have hone : o ≠ [] := by rintro rfl; simp at hol; omega
                    obtain ⟨a, b, c, d, ea, eb, ec, ed, elat, hab, hcd⟩ := hlp.out _ hfm o hone hob
                    have w1 : wrap64 (b - a) = b - a := by unfold wrap64; omega
                    have w2 : wrap64 (d - c) = d - c := by unfold wrap64; omega
                    have ho4 : o.length ≤ 4 := by omega
                    have hwd := fun V s4 c4 (h : SlS intE V s4 o) => widest_c s4 c4 o V h (by omega) (by omega)
                    simp only [ec, ed, w2] at hwd
                    simp only [ea, eb, w1] at hspf
                    obtain ⟨S, hS⟩ : ∃ x, b - a = x := ⟨_, rfl⟩
                    obtain ⟨D, hD⟩ : ∃ x, d - c = x := ⟨_, rfl⟩
                    simp only [hS] at hspf elat
                    simp only [hD] at hwd elat
                    obtain ⟨L, hL⟩ : ∃ L, latF P ⟨xi, yi, zi⟩ o = L := ⟨_, rfl⟩
                    rw [hL] at elat
                    have hL1 : 1 ≤ L ∧ L ≤ 3000 := by omega
                    have w3 : wrap64 (S + D) = S + D := by unfold wrap64; omega
                    have w4 : wrap64 (S + D + 1) = L := by rw [elat]; unfold wrap64; omega
                    have w5 : IntKind.i64.wrap (S + D) = S + D := i64_small (by omega)
                    have w6 : IntKind.i64.wrap (S + D + 1) = L := by rw [elat]; exact i64_small (by omega)
                    clear ea eb ec ed w1 w2 hab hcd hS hD
                    replace hoff := Lib.hid hoff; replace hspf := Lib.hid hspf; replace hfm := Lib.hid hfm; replace hb := Lib.hid hb; replace hwd := Lib.hid hwd; replace elat := Lib.hid elat; replace hol := Lib.hid hol; replace hob := Lib.hid hob; replace hL := Lib.hid hL
                    obtain ⟨V0, rfl⟩ : ∃ V0, V0 = wr := ⟨wr, rfl⟩
                    have hV0 : Hid (A1.heap.size < V0.heap.size) := Lib.hid hAV
                    go_upto_region 26 with (fail)
                    rcases hbs with ⟨h1, rfl, bB⟩ | ⟨g, u, s5, c5, h1, rfl, bB, bown⟩
                    · have hbst := Lib.hid (step_first hb.out h1)
                      replace h1 := Lib.hid h1
                      refine wp_world fun Y HY => ?_
                      have hY : Below V0.heap.size V0 Y := by rw [HY.out]; (repeat (first | exact Below.refl _ _ | refine Below.alloc ?_ (by simp; try omega) _ | refine Below.setCell ?_ (by simp) _ | refine Below.drew ?_))
                      have p0 : Y.cell? ⟨V0.heap.size, 0, none⟩ = some (.int .i64 xi) := by rw [HY.out]; simp [go_sem]
                      have p1 : Y.cell? ⟨V0.heap.size, 1, none⟩ = some (.int .i64 yi) := by rw [HY.out]; simp [go_sem]
                      have p2 : Y.cell? ⟨V0.heap.size, 2, none⟩ = some (.int .i64 zi) := by rw [HY.out]; simp [go_sem]
                      have pl : V0.heap.size < Y.heap.size := World.block_lt_of_cell? Y _ p0
                      try replace hr := up_of hY hr
                      try replace hps := up_of hY hps
                      try replace d0 := up_of hY d0
                      try replace d1 := up_of hY d1
                      try replace d2 := up_of hY d2
                      try replace q0 := up_of hY q0
                      try replace q1 := up_of hY q1
                      try replace q2 := up_of hY q2
                      try replace hBA := up_of hY hBA
                      try replace hAV := up_of hY hAV
                      try replace bB := up_of hY bB
                      have hYs := hV0.out; have hYV := hY.size
                      go_upto_region 28 with (first | (go_at_call 81; refine (hoff.out _ hr).mono ?_; rintro e W1 ⟨⟨s4, c4, rfl, hown⟩, hb⟩; (try replace hr := up_of hb hr); (try replace hps := up_of hb hps); (try replace d0 := up_of hb d0); (try replace d1 := up_of hb d1); (try replace d2 := up_of hb d2); (try replace q0 := up_of hb q0); (try replace q1 := up_of hb q1); (try replace q2 := up_of hb q2); (try replace hBA := up_of hb hBA); (try replace hAV := up_of hb hAV); (try replace bB := up_of hb bB); (try replace hY := up_of hb hY); (try replace p0 := up_of hb p0); (try replace p1 := up_of hb p1); (try replace p2 := up_of hb p2); (try replace pl := up_of hb pl)))
                      have hi := SlS.of_own (E := intE) hown
                      go_upto_region 29 with (first | (go_at_call 82; refine (hspf.out _ _ _ hps).mono ?_; rintro e W1 ⟨rfl, hb⟩; (try replace hr := up_of hb hr); (try replace hps := up_of hb hps); (try replace d0 := up_of hb d0); (try replace d1 := up_of hb d1); (try replace d2 := up_of hb d2); (try replace q0 := up_of hb q0); (try replace q1 := up_of hb q1); (try replace q2 := up_of hb q2); (try replace hBA := up_of hb hBA); (try replace hAV := up_of hb hAV); (try replace bB := up_of hb bB); (try replace hY := up_of hb hY); (try replace p0 := up_of hb p0); (try replace p1 := up_of hb p1); (try replace p2 := up_of hb p2); (try replace pl := up_of hb pl); (try replace hown := up_of hb hown); (try replace hi := up_of hb hi)) | (go_at_call 83; refine (hwd.out _ _ _ hi).mono ?_; rintro e W1 ⟨rfl, hb⟩; (try replace hr := up_of hb hr); (try replace hps := up_of hb hps); (try replace d0 := up_of hb d0); (try replace d1 := up_of hb d1); (try replace d2 := up_of hb d2); (try replace q0 := up_of hb q0); (try replace q1 := up_of hb q1); (try replace q2 := up_of hb q2); (try replace hBA := up_of hb hBA); (try replace hAV := up_of hb hAV); (try replace bB := up_of hb bB); (try replace hY := up_of hb hY); (try replace p0 := up_of hb p0); (try replace p1 := up_of hb p1); (try replace p2 := up_of hb p2); (try replace pl := up_of hb pl); (try replace hown := up_of hb hown); (try replace hi := up_of hb hi)))
                      have rf := fun i => Row.frozen bB i
                      obtain ⟨b0, b1, b2, b3⟩ := bB.four
                      go_wp2
                      refine ⟨⟨zi + 1, pre ++ [⟨xi, yi, zi⟩], rfl, by omega, by omega, hpre2, ?_, ?_, ?_⟩, ?_⟩
                      · refine .inr ⟨⟨xi, yi, zi⟩, o, s4, c4, hbst.out, by rw [hL.out], ?_, ?_⟩
                        · refine Row.of ?_
                          repeat (first | (with_reducible refine RowG.base bB ?_) | (with_reducible refine RowG.drew ?_) | (with_reducible refine RowG.set ?_) | ((with_reducible refine RowG.other ?_ ?_); (focus (first | omega | (simp; done) | (simp; omega)))) | (with_reducible refine RowG.alloc ?_))
                          rfl
                        · exact ownsRow_setCell_below (ownsRow_setCell_below (ownsRow_setCell_below (ownsRow_setCell_below (owns_mono (b' := A1.heap.size + 1) hown (by omega)) (a := ⟨A1.heap.size, 0, none⟩) (by simp) _) (a := ⟨A1.heap.size, 1, none⟩) (by simp) _) (a := ⟨A1.heap.size, 2, none⟩) (by simp) _) (a := ⟨A1.heap.size, 3, none⟩) (by simp) _
                      · repeat (first | (with_reducible exact hBA) | (with_reducible refine Below.drew ?_) | ((with_reducible refine Below.setC ?_ ?_); (focus (first | omega | (simp; done) | (simp; omega)))) | ((with_reducible refine Below.allo ?_ ?_); (focus (first | omega | (simp; done) | (simp; omega)))))
                      · simp; exact hAV
                      · simp [intOf]; omega
                    · have hgf : g ∈ frm k m := by rw [hpre2.out, List.append_assoc]; exact List.mem_append_left _ (bst_some h1).1
                      have hub := (bst_some h1).2.1
                      obtain ⟨gol, gob⟩ := hsm.out g hgf u hub
                      have gone : u ≠ [] := by rintro rfl; simp at gol; omega
                      obtain ⟨a, b, c, d, -, -, -, -, elat2, hab, hcd⟩ := hlp.out g hgf u gone gob
                      obtain ⟨G, hG⟩ : ∃ G, latF P g u = G := ⟨_, rfl⟩
                      rw [hG] at elat2 ⊢
                      have hG1 : 1 ≤ G := by omega
                      have hG0 : (G == 0) = false := beq_eq_false_iff_ne.2 (by omega)
                      have hstl := fun hl => step_less hb.out h1 (by rw [hL.out, hG]; exact hl)
                      have hstk := fun hl => step_keep hb.out h1 (by rw [hL.out, hG]; exact hl)
                      clear hgf hub gol gob gone elat2 hab hcd
                      replace hstl := Lib.hid hstl; replace hstk := Lib.hid hstk; replace hG := Lib.hid hG; replace h1 := Lib.hid h1
                      by_cases hlt : L < G
                      · have hbst := Lib.hid (hstl.out hlt)
                        clear hstl hstk
                        refine wp_world fun Y HY => ?_
                        have hY : Below V0.heap.size V0 Y := by rw [HY.out]; (repeat (first | exact Below.refl _ _ | refine Below.alloc ?_ (by simp; try omega) _ | refine Below.setCell ?_ (by simp) _ | refine Below.drew ?_))
                        have p0 : Y.cell? ⟨V0.heap.size, 0, none⟩ = some (.int .i64 xi) := by rw [HY.out]; simp [go_sem]
                        have p1 : Y.cell? ⟨V0.heap.size, 1, none⟩ = some (.int .i64 yi) := by rw [HY.out]; simp [go_sem]
                        have p2 : Y.cell? ⟨V0.heap.size, 2, none⟩ = some (.int .i64 zi) := by rw [HY.out]; simp [go_sem]
                        have pl : V0.heap.size < Y.heap.size := World.block_lt_of_cell? Y _ p0
                        try replace hr := up_of hY hr
                        try replace hps := up_of hY hps
                        try replace d0 := up_of hY d0
                        try replace d1 := up_of hY d1
                        try replace d2 := up_of hY d2
                        try replace q0 := up_of hY q0
                        try replace q1 := up_of hY q1
                        try replace q2 := up_of hY q2
                        try replace hBA := up_of hY hBA
                        try replace hAV := up_of hY hAV
                        try replace bB := up_of hY bB
                        try replace bown := up_of hY bown
                        have hYs := hV0.out; have hYV := hY.size
                        go_upto_region 28 with (first | (go_at_call 81; refine (hoff.out _ hr).mono ?_; rintro e W1 ⟨⟨s4, c4, rfl, hown⟩, hb⟩; (try replace hr := up_of hb hr); (try replace hps := up_of hb hps); (try replace d0 := up_of hb d0); (try replace d1 := up_of hb d1); (try replace d2 := up_of hb d2); (try replace q0 := up_of hb q0); (try replace q1 := up_of hb q1); (try replace q2 := up_of hb q2); (try replace hBA := up_of hb hBA); (try replace hAV := up_of hb hAV); (try replace bB := up_of hb bB); (try replace bown := up_of hb bown); (try replace hY := up_of hb hY); (try replace p0 := up_of hb p0); (try replace p1 := up_of hb p1); (try replace p2 := up_of hb p2); (try replace pl := up_of hb pl)))
                        have hi := SlS.of_own (E := intE) hown
                        go_upto_region 29 with (first | (go_at_call 82; refine (hspf.out _ _ _ hps).mono ?_; rintro e W1 ⟨rfl, hb⟩; (try replace hr := up_of hb hr); (try replace hps := up_of hb hps); (try replace d0 := up_of hb d0); (try replace d1 := up_of hb d1); (try replace d2 := up_of hb d2); (try replace q0 := up_of hb q0); (try replace q1 := up_of hb q1); (try replace q2 := up_of hb q2); (try replace hBA := up_of hb hBA); (try replace hAV := up_of hb hAV); (try replace bB := up_of hb bB); (try replace bown := up_of hb bown); (try replace hY := up_of hb hY); (try replace p0 := up_of hb p0); (try replace p1 := up_of hb p1); (try replace p2 := up_of hb p2); (try replace pl := up_of hb pl); (try replace hown := up_of hb hown); (try replace hi := up_of hb hi)) | (go_at_call 83; refine (hwd.out _ _ _ hi).mono ?_; rintro e W1 ⟨rfl, hb⟩; (try replace hr := up_of hb hr); (try replace hps := up_of hb hps); (try replace d0 := up_of hb d0); (try replace d1 := up_of hb d1); (try replace d2 := up_of hb d2); (try replace q0 := up_of hb q0); (try replace q1 := up_of hb q1); (try replace q2 := up_of hb q2); (try replace hBA := up_of hb hBA); (try replace hAV := up_of hb hAV); (try replace bB := up_of hb bB); (try replace bown := up_of hb bown); (try replace hY := up_of hb hY); (try replace p0 := up_of hb p0); (try replace p1 := up_of hb p1); (try replace p2 := up_of hb p2); (try replace pl := up_of hb pl); (try replace hown := up_of hb hown); (try replace hi := up_of hb hi)))
                        have rf := fun i => Row.frozen bB i
                        obtain ⟨b0, b1, b2, b3⟩ := bB.four
                        go_wp2
                        refine ⟨⟨zi + 1, pre ++ [⟨xi, yi, zi⟩], rfl, by omega, by omega, hpre2, ?_, ?_, ?_⟩, ?_⟩
                        · refine .inr ⟨⟨xi, yi, zi⟩, o, s4, c4, hbst.out, by rw [hL.out], ?_, ?_⟩
                          · refine Row.of ?_
                            repeat (first | (with_reducible refine RowG.base bB ?_) | (with_reducible refine RowG.drew ?_) | (with_reducible refine RowG.set ?_) | ((with_reducible refine RowG.other ?_ ?_); (focus (first | omega | (simp; done) | (simp; omega)))) | (with_reducible refine RowG.alloc ?_))
                            rfl
                          · exact ownsRow_setCell_below (ownsRow_setCell_below (ownsRow_setCell_below (ownsRow_setCell_below (owns_mono (b' := A1.heap.size + 1) hown (by omega)) (a := ⟨A1.heap.size, 0, none⟩) (by simp) _) (a := ⟨A1.heap.size, 1, none⟩) (by simp) _) (a := ⟨A1.heap.size, 2, none⟩) (by simp) _) (a := ⟨A1.heap.size, 3, none⟩) (by simp) _
                        · repeat (first | (with_reducible exact hBA) | (with_reducible refine Below.drew ?_) | ((with_reducible refine Below.setC ?_ ?_); (focus (first | omega | (simp; done) | (simp; omega)))) | ((with_reducible refine Below.allo ?_ ?_); (focus (first | omega | (simp; done) | (simp; omega)))))
                        · simp; exact hAV
                        · simp [intOf]; omega
                      · have hbst := Lib.hid (hstk.out hlt)
                        clear hstl hstk
                        refine wp_world fun Y HY => ?_
                        have hY : Below V0.heap.size V0 Y := by rw [HY.out]; (repeat (first | exact Below.refl _ _ | refine Below.alloc ?_ (by simp; try omega) _ | refine Below.setCell ?_ (by simp) _ | refine Below.drew ?_))
                        have p0 : Y.cell? ⟨V0.heap.size, 0, none⟩ = some (.int .i64 xi) := by rw [HY.out]; simp [go_sem]
                        have p1 : Y.cell? ⟨V0.heap.size, 1, none⟩ = some (.int .i64 yi) := by rw [HY.out]; simp [go_sem]
                        have p2 : Y.cell? ⟨V0.heap.size, 2, none⟩ = some (.int .i64 zi) := by rw [HY.out]; simp [go_sem]
                        have pl : V0.heap.size < Y.heap.size := World.block_lt_of_cell? Y _ p0
                        try replace hr := up_of hY hr
                        try replace hps := up_of hY hps
                        try replace d0 := up_of hY d0
                        try replace d1 := up_of hY d1
                        try replace d2 := up_of hY d2
                        try replace q0 := up_of hY q0
                        try replace q1 := up_of hY q1
                        try replace q2 := up_of hY q2
                        try replace hBA := up_of hY hBA
                        try replace hAV := up_of hY hAV
                        try replace bB := up_of hY bB
                        try replace bown := up_of hY bown
                        have hYs := hV0.out; have hYV := hY.size
                        go_upto_region 28 with (first | (go_at_call 81; refine (hoff.out _ hr).mono ?_; rintro e W1 ⟨⟨s4, c4, rfl, hown⟩, hb⟩; (try replace hr := up_of hb hr); (try replace hps := up_of hb hps); (try replace d0 := up_of hb d0); (try replace d1 := up_of hb d1); (try replace d2 := up_of hb d2); (try replace q0 := up_of hb q0); (try replace q1 := up_of hb q1); (try replace q2 := up_of hb q2); (try replace hBA := up_of hb hBA); (try replace hAV := up_of hb hAV); (try replace bB := up_of hb bB); (try replace bown := up_of hb bown); (try replace hY := up_of hb hY); (try replace p0 := up_of hb p0); (try replace p1 := up_of hb p1); (try replace p2 := up_of hb p2); (try replace pl := up_of hb pl)))
                        have hi := SlS.of_own (E := intE) hown
                        go_upto_region 29 with (first | (go_at_call 82; refine (hspf.out _ _ _ hps).mono ?_; rintro e W1 ⟨rfl, hb⟩; (try replace hr := up_of hb hr); (try replace hps := up_of hb hps); (try replace d0 := up_of hb d0); (try replace d1 := up_of hb d1); (try replace d2 := up_of hb d2); (try replace q0 := up_of hb q0); (try replace q1 := up_of hb q1); (try replace q2 := up_of hb q2); (try replace hBA := up_of hb hBA); (try replace hAV := up_of hb hAV); (try replace bB := up_of hb bB); (try replace bown := up_of hb bown); (try replace hY := up_of hb hY); (try replace p0 := up_of hb p0); (try replace p1 := up_of hb p1); (try replace p2 := up_of hb p2); (try replace pl := up_of hb pl); (try replace hown := up_of hb hown); (try replace hi := up_of hb hi)) | (go_at_call 83; refine (hwd.out _ _ _ hi).mono ?_; rintro e W1 ⟨rfl, hb⟩; (try replace hr := up_of hb hr); (try replace hps := up_of hb hps); (try replace d0 := up_of hb d0); (try replace d1 := up_of hb d1); (try replace d2 := up_of hb d2); (try replace q0 := up_of hb q0); (try replace q1 := up_of hb q1); (try replace q2 := up_of hb q2); (try replace hBA := up_of hb hBA); (try replace hAV := up_of hb hAV); (try replace bB := up_of hb bB); (try replace bown := up_of hb bown); (try replace hY := up_of hb hY); (try replace p0 := up_of hb p0); (try replace p1 := up_of hb p1); (try replace p2 := up_of hb p2); (try replace pl := up_of hb pl); (try replace hown := up_of hb hown); (try replace hi := up_of hb hi)))
                        go_wp2
                        first
                        | exact ⟨⟨zi + 1, pre ++ [⟨xi, yi, zi⟩], rfl, by omega, by omega, hpre2, .inr ⟨g, u, s5, c5, hbst.out, by rw [hG.out], bB, bown⟩, hBA, hAV⟩, by simp [intOf]; omega⟩
                        | (go_roundw
                           case rel => exact ⟨zi + 1, pre ++ [⟨xi, yi, zi⟩], rfl, by omega, by omega, hpre2, .inr ⟨g, u, s5, c5, hbst.out, by rw [hG.out], bB, bown⟩, hBA, hAV⟩
                           case measure => simp [intOf]; omega)
                · obtain rfl : zi = fa k m 2 + 1 := by omega
                  go_wp2
                  go_roundw
                  case rel => exact ⟨yi + 1, pre, rfl, by omega, by omega, by rw [up_nil (by omega)] at hpre; exact hpre, hbs, hBA, hAV⟩
                  case measure => simp [intOf]; omega
            · obtain rfl : yi = fa k m 1 + 1 := by omega
              go_wp2
              go_roundw
              case rel => exact ⟨xi + 1, pre, rfl, by omega, by omega, by rw [up_nil (by omega)] at hpre; exact hpre, hbs, hBA, hAV⟩
              case measure => simp [intOf]; omega
        · obtain rfl : xi = fa k m 0 + 1 := by omega
          have hall2 : frm k m = pre := by have := hpre.out; rw [up_nil (by omega)] at this; simpa [frX] using this
          have oB := up_of hBA oBA.out
          have hB := hBAw.out.trans (hBA.mono (by have := hwA.out; omega))
          obtain ⟨o0, o1, o2, o3⟩ := oB.four
          rcases hbs with ⟨h1, rfl, bB⟩ | ⟨g, u, s5, c5, h1, rfl, bB, bown⟩
          · obtain rfl : SdRet ⟨0, 0, 0⟩ [] 5 w = R := by have := hR.out; rw [hall2, h1] at this; exact this
            have rf := fun i => Row.frozen oB i
            replace h1 := Lib.hid h1; replace hall2 := Lib.hid hall2
            go_wp2
            refine sd_end rfl none 0 (b1 := w.heap.size + 1) rfl rfl ?_ SlS.nil ?_
            · refine Row.of ?_
              repeat (first | (with_reducible refine RowG.base oB ?_) | (with_reducible refine RowG.drew ?_) | (with_reducible refine RowG.set ?_) | ((with_reducible refine RowG.other ?_ ?_); (focus (first | omega | (simp; done) | (simp; omega)))) | (with_reducible refine RowG.alloc ?_))
              rfl
            · repeat (first | (with_reducible exact hB) | (with_reducible refine Below.drew ?_) | ((with_reducible refine Below.setC ?_ ?_); (focus (first | omega | (simp; done) | (simp; omega)))) | ((with_reducible refine Below.allo ?_ ?_); (focus (first | omega | (simp; done) | (simp; omega)))))
          · obtain rfl : SdRet g u 0 w = R := by have := hR.out; rw [hall2, h1] at this; exact this
            have hgf : g ∈ frm k m := by rw [hall2]; exact (bst_some h1).1
            obtain ⟨gol, gob⟩ := hsm.out g hgf u (bst_some h1).2.1
            have gone : u ≠ [] := by rintro rfl; simp at gol; omega
            obtain ⟨a, b, c, d, -, -, -, -, elat2, hab, hcd⟩ := hlp.out g hgf u gone gob
            obtain ⟨G, hG⟩ : ∃ G, latF P g u = G := ⟨_, rfl⟩
            rw [hG] at elat2 ⊢
            have hG1 : 1 ≤ G := by omega
            have hG0 : (G == 0) = false := beq_eq_false_iff_ne.2 (by omega)
            clear hgf gol gob gone elat2 hab hcd
            replace h1 := Lib.hid h1; replace hall2 := Lib.hid hall2; replace hG := Lib.hid hG
            have rf := fun i => Row.frozen oB i
            obtain ⟨b0, b1, b2, b3⟩ := bB.four
            have hwA1 := hwA.out
            go_wp2
            refine sd_end rfl s5 c5 (b1 := w.heap.size + 1) rfl rfl ?_ ?_ ?_
            · refine Row.of ?_
              repeat (first | (with_reducible refine RowG.base oB ?_) | (with_reducible refine RowG.drew ?_) | (with_reducible refine RowG.set ?_) | ((with_reducible refine RowG.other ?_ ?_); (focus (first | omega | (simp; done) | (simp; omega)))) | (with_reducible refine RowG.alloc ?_))
              rfl
            · exact SlS.of_own (E := intE) (ownsRow_setCell_below (ownsRow_setCell_below (ownsRow_setCell_below (ownsRow_setCell_below bown (a := ⟨w.heap.size + 1, 0, none⟩) (by simp; omega) _) (a := ⟨w.heap.size + 1, 1, none⟩) (by simp; omega) _) (a := ⟨w.heap.size + 1, 2, none⟩) (by simp; omega) _) (a := ⟨w.heap.size + 1, 3, none⟩) (by simp; omega) _)
            · repeat (first | (with_reducible exact hB) | (with_reducible refine Below.drew ?_) | ((with_reducible refine Below.setC ?_ ?_); (focus (first | omega | (simp; done) | (simp; omega)))) | ((with_reducible refine Below.allo ?_ ?_); (focus (first | omega | (simp; done) | (simp; omega)))))
end Go.Proofs.Ytbpdgoedglkefaa
