/- The sum of two schedules: the program. -/
import Derived.Test.YtbpdgoedglkefaaSch22
import Derived.Lib.SliceRun
namespace Go.Proofs.Ytbpdgoedglkefaa
open Go.RowKit

set_option maxRecDepth 100000 in
set_option maxHeartbeats 400000 in
theorem int_clone (s : Option Addr) (cap : Nat) (l : List Int) (w : World) (hs : SlS intE w s l) (hc : s = none → cap = 0) (hl : l.length ≤ 1099511627776) :
    Calls Try.prog 85 #[.slice s l.length cap] w (RetS intE 3 l w) := by
  have hml : l.length ≤ maxLen := by unfold maxLen; omega
  have hin := hs
  cases s with
  | none =>
    obtain rfl := hs.none_nil
    obtain rfl := hc rfl
    clear hs hin hml hc
    have hq : ∀ w : World, (binOp .eql 30 (.slice none 0 0) (.slice none 0 0)).run Try.prog w = .ok (.bool true) w := fun w => Lib.run_eql_slice_nil w 30 3 _ _ _ _ _ Try.underlying30
    go_enter Try.func85, Try.ntmps85
    go_wp2
    go_ret
    exact ⟨none, 0, rfl, World.ownsRow_nil _ _ _ _, Below.refl _ _⟩
  | some a =>
    have hs2 := Lib.hid (up_of ((Below.refl w.heap.size w).alloc (Nat.le_refl _) (.cells #[] 3)) hs)
    replace hs := Lib.hid hs
    clear hin hc
    have hq : ∀ w : World, (binOp .eql 30 (.slice (some a) l.length cap) (.slice none 0 0)).run Try.prog w = .ok (.bool false) w := fun w => Lib.run_eql_slice_nil w 30 3 _ _ _ _ _ Try.underlying30
    go_enter Try.func85, Try.ntmps85
    obtain ⟨i0, hi, hz0, hz1, hz2⟩ := info_parts info_int
    go_wp2_with (first | (at_builtin; refine wpList_append_own _ rfl _ _ 30 rfl w.heap.size 3 i0 (.int .i64 0) 1 8 Try.underlying30 hi hz0 hz1 hz2 rfl (by decide) _ _ _ rfl (owns_built w 3 1) a l.length cap (Elt.all intE l) rfl (Elt.all_len _ _) (SlS.news hs2.out) (Elt.all_one _ _) (by unfold maxLen; omega) (by omega) (by simp) ?_; intro v1 w1 hown1 hgrow hnil))
    simp only [Nat.zero_add, List.nil_append] at hown1
    obtain ⟨s', c', rfl, _⟩ := owns_shape hown1
    go_wp2
    go_ret
    exact ⟨s', c', rfl, hown1, ((Below.refl _ w).alloc (Nat.le_refl _) _).grown hgrow (by simp) (fun k hk => by cases hk; exact Nat.le_refl _)⟩


theorem int_clone2 (s : Option Addr) (cap : Nat) (l : List Int) (w : World) (hs : SlS intE w s l) (h1 : 1 ≤ l.length) (hl : l.length ≤ 1099511627776) :
    Calls Try.prog 85 #[.slice s l.length cap] w fun e w' => (∃ s' c', e = .returned (.slice s' l.length c') ∧ w'.ownsRow w.heap.size 3 1 (.slice s' l.length c') l.length (intE.all l)) ∧ Below w.heap.size w w' :=
  (int_clone s cap l w hs (fun e => by obtain ⟨b, o, e2, -⟩ := hs.int_at (i := 0) (by omega); rw [e] at e2; cases e2) hl).mono (fun e w' ⟨s', c', he, ho, hb⟩ => ⟨⟨s', c', he, ho⟩, hb⟩)
def sumE (n : Int) (l : List Iq) (K : List Vv) (q r : Sd) : Int := if allE n l K [q, r] ≠ 0 then allE n l K [q, r] else if fitB n K.length (addP q.f r.f) (addO K.length q.off r.off) then 0 else 4
/-- A sum of points, the first k places done. -/
def pk (p q : Pt) (k : Nat) : Pt := ⟨if 0 < k then p.x + q.x else p.x, if 1 < k then p.y + q.y else p.y, if 2 < k then p.z + q.z else p.z⟩
theorem pk_zero (p q : Pt) : pk p q 0 = p := rfl
theorem pk_three (p q : Pt) : pk p q 3 = addP p q := rfl
theorem pk_get (p q : Pt) {k : Nat} (hk : k < 3) : (pk p q k).get k = p.get k := by
  have h : k = 0 ∨ k = 1 ∨ k = 2 := by omega
  rcases h with rfl | rfl | rfl <;> rfl
theorem pk_set (p q : Pt) {k : Nat} (hk : k < 3) (u : Value) : (#[.int .i64 (pk p q k).x, .int .i64 (pk p q k).y, .int .i64 (pk p q k).z, u] : Array Value).setIfInBounds k (.int .i64 (p.get k + q.get k)) = #[.int .i64 (pk p q (k + 1)).x, .int .i64 (pk p q (k + 1)).y, .int .i64 (pk p q (k + 1)).z, u] := by
  have h : k = 0 ∨ k = 1 ∨ k = 2 := by omega
  rcases h with rfl | rfl | rfl <;> rfl
theorem sd_at {x y z : Int} {u : Value} {k : Nat} (hk : k < 3) : (#[.int .i64 x, .int .i64 y, .int .i64 z, u] : Array Value)[k]? = some (.int .i64 ((⟨x, y, z⟩ : Pt).get k)) := by
  have h : k = 0 ∨ k = 1 ∨ k = 2 := by omega
  rcases h with rfl | rfl | rfl <;> rfl
theorem get_abs {p : Pt} {m : Nat} (h : p.x.natAbs ≤ m ∧ p.y.natAbs ≤ m ∧ p.z.natAbs ≤ m) (k : Nat) : (p.get k).natAbs ≤ m := by
  unfold Pt.get; split
  · exact h.1
  · split
    · exact h.2.1
    · exact h.2.2
set_option maxRecDepth 100000 in
set_option maxHeartbeats 4000000 in
theorem Sum_c (n : Int) (s : Option Addr) (cap : Nat) (l : List Iq) (s2 : Option Addr) (cq : Nat) (K : List Vv) (q r : Sd) (w : World) (hr : RecM w s l s2 cq K) (hq : SdM w q) (hq2 : SdM w r) :
    Calls Try.prog 38 #[.agg #[.int .i64 n, .slice s l.length cap, .slice s2 K.length cq], .agg #[.int .i64 q.f.x, .int .i64 q.f.y, .int .i64 q.f.z, .slice q.s q.off.length q.cap], .agg #[.int .i64 r.f.x, .int .i64 r.f.y, .int .i64 r.f.z, .slice r.s r.off.length r.cap]] w
      (SdRet (if sumE n l K q r = 0 then addP q.f r.f else ⟨0, 0, 0⟩) (if sumE n l K q r = 0 then addO K.length q.off r.off else []) (sumE n l K q r) w) := by
  have hal := fun V t (h : RecM V s l s2 cq K) (h1 : SdM V q) (h2 : SdM V r) => allLegalN2_c n s cap l s2 cq K q r t V h h1 h2
  have hse : sumE n l K q r = if allE n l K [q, r] ≠ 0 then allE n l K [q, r] else if fitB n K.length (addP q.f r.f) (addO K.length q.off r.off) then 0 else 4 := rfl
  by_cases h0 : allE n l K [q, r] = 0
  case neg =>
    rw [if_pos h0] at hse
    obtain ⟨E, hE⟩ : ∃ x, allE n l K [q, r] = x := ⟨_, rfl⟩
    simp only [hse, hE] at hal h0 ⊢
    rw [if_neg h0, if_neg h0]
    have k1 : (E != 0) = true := bne_iff_ne.2 h0
    replace hal := Lib.hid hal
    clear hE hse
    go_enter Try.func38, Try.ntmps38
    go_upto_region 1 with (fail)
    refine wp_world fun W HW => ?_
    have hB : Below w.heap.size w W := by rw [HW.out]; (repeat (first | exact Below.refl _ _ | refine Below.alloc ?_ (by simp; try omega) _ | refine Below.setCell ?_ (by simp) _ | refine Below.drew ?_))
    have d0 : W.cell? ⟨w.heap.size, 0, none⟩ = some (.int .i64 n) := by rw [HW.out]; simp [go_sem]
    have d1 : W.cell? ⟨w.heap.size, 1, none⟩ = some (.slice s l.length cap) := by rw [HW.out]; simp [go_sem]
    have d2 : W.cell? ⟨w.heap.size, 2, none⟩ = some (.slice s2 K.length cq) := by rw [HW.out]; simp [go_sem]
    have dl : w.heap.size < W.heap.size := World.block_lt_of_cell? W _ d0
    have g0 : W.cell? ⟨w.heap.size + 1, 0, none⟩ = some (.int .i64 q.f.x) := by rw [HW.out]; simp [go_sem]
    have g1 : W.cell? ⟨w.heap.size + 1, 1, none⟩ = some (.int .i64 q.f.y) := by rw [HW.out]; simp [go_sem]
    have g2 : W.cell? ⟨w.heap.size + 1, 2, none⟩ = some (.int .i64 q.f.z) := by rw [HW.out]; simp [go_sem]
    have g3 : W.cell? ⟨w.heap.size + 1, 3, none⟩ = some (.slice q.s q.off.length q.cap) := by rw [HW.out]; simp [go_sem]
    have gl : w.heap.size + 1 < W.heap.size := World.block_lt_of_cell? W _ g0
    have h0 : W.cell? ⟨w.heap.size + 2, 0, none⟩ = some (.int .i64 r.f.x) := by rw [HW.out]; simp [go_sem]
    have h1 : W.cell? ⟨w.heap.size + 2, 1, none⟩ = some (.int .i64 r.f.y) := by rw [HW.out]; simp [go_sem]
    have h2 : W.cell? ⟨w.heap.size + 2, 2, none⟩ = some (.int .i64 r.f.z) := by rw [HW.out]; simp [go_sem]
    have h3 : W.cell? ⟨w.heap.size + 2, 3, none⟩ = some (.slice r.s r.off.length r.cap) := by rw [HW.out]; simp [go_sem]
    have hl : w.heap.size + 2 < W.heap.size := World.block_lt_of_cell? W _ h0
    have oB : Row W (w.heap.size + 3) 32 #[.int .i64 0, .int .i64 0, .int .i64 0, .slice none 0 0] := (by rw [HW.out]; (repeat (first | (refine blk_new ?_; simp; done) | refine blk_old ?_ _)) : W.heap[w.heap.size + 3]? = some (.cells #[.int .i64 0, .int .i64 0, .int .i64 0, .slice none 0 0] 32 (0, 0)))
    have o0 : W.cell? ⟨w.heap.size + 3, 0, none⟩ = some (.int .i64 0) := by rw [HW.out]; simp [go_sem]
    have o1 : W.cell? ⟨w.heap.size + 3, 1, none⟩ = some (.int .i64 0) := by rw [HW.out]; simp [go_sem]
    have o2 : W.cell? ⟨w.heap.size + 3, 2, none⟩ = some (.int .i64 0) := by rw [HW.out]; simp [go_sem]
    have o3 : W.cell? ⟨w.heap.size + 3, 3, none⟩ = some (.slice none 0 0) := by rw [HW.out]; simp [go_sem]
    have ol : w.heap.size + 3 < W.heap.size := World.block_lt_of_cell? W _ o0
    try replace hr := up_of hB hr
    try replace hq := up_of hB hq
    try replace hq2 := up_of hB hq2
    go_upto_region 3 with (first | (go_at_call 84; refine (hal.out _ _ hr hq hq2).mono ?_; rintro e W1 ⟨rfl, hb⟩; (try replace hr := up_of hb hr); (try replace hq := up_of hb hq); (try replace hq2 := up_of hb hq2); (try replace hB := up_of hb hB); (try replace d0 := up_of hb d0); (try replace d1 := up_of hb d1); (try replace d2 := up_of hb d2); (try replace dl := up_of hb dl); (try replace g0 := up_of hb g0); (try replace g1 := up_of hb g1); (try replace g2 := up_of hb g2); (try replace g3 := up_of hb g3); (try replace gl := up_of hb gl); (try replace h0 := up_of hb h0); (try replace h1 := up_of hb h1); (try replace h2 := up_of hb h2); (try replace h3 := up_of hb h3); (try replace hl := up_of hb hl); (try replace oB := up_of hb oB); (try replace o0 := up_of hb o0); (try replace o1 := up_of hb o1); (try replace o2 := up_of hb o2); (try replace o3 := up_of hb o3); (try replace ol := up_of hb ol)))
    have rf := fun i => Row.frozen oB i
    go_wp2
    refine sd_end rfl none 0 (b1 := w.heap.size + 3) rfl rfl ?_ SlS.nil ?_
    · refine Row.of ?_
      repeat (first | (with_reducible refine RowG.base oB ?_) | (with_reducible refine RowG.drew ?_) | (with_reducible refine RowG.set ?_) | ((with_reducible refine RowG.other ?_ ?_); (focus (first | omega | (simp; done) | (simp; omega)))) | (with_reducible refine RowG.alloc ?_))
      rfl
    · repeat (first | (with_reducible exact hB) | (with_reducible refine Below.drew ?_) | ((with_reducible refine Below.setC ?_ ?_); (focus (first | omega | (simp; done) | (simp; omega)))) | ((with_reducible refine Below.allo ?_ ?_); (focus (first | omega | (simp; done) | (simp; omega)))))
  rw [if_neg (fun h => h h0)] at hse
  have hck : chkE n l K [q, r] = 0 := by
    unfold allE at h0
    by_cases h1 : chkE n l K [q, r] = 0
    · exact h1
    · rw [if_pos h1] at h0; exact absurd h0 h1
  obtain ⟨hrb, hk1, hk4, hL⟩ := chkL_ok hck
  obtain ⟨qf, ql, qo⟩ := hL q (by simp)
  obtain ⟨rfl9, rl, ro⟩ := hL r (by simp)
  have qf9 := flat_abs qf
  have rf9 := flat_abs rfl9
  rw [h0] at hal
  have hcl := fun V (h : SdM V q) => int_clone2 q.s q.cap q.off V h.off (by omega) (by omega)
  obtain ⟨B, hBe⟩ : ∃ x, fitB n K.length (addP q.f r.f) (addO K.length q.off r.off) = x := ⟨_, rfl⟩
  rw [hBe] at hse
  have hres := fun V g c (h : RecM V s l s2 cq K) (h1 : SlS intE V g (addO K.length q.off r.off)) (h2 : (addO K.length q.off r.off).length ≤ 9223372036854775807) => result_r n s cap l s2 cq K (addP q.f r.f) (addO K.length q.off r.off) g c V h h1 h2 hBe
  rw [show (if sumE n l K q r = 0 then addP q.f r.f else ⟨0, 0, 0⟩) = if B then addP q.f r.f else ⟨0, 0, 0⟩ by rw [hse]; cases B <;> rfl, show (if sumE n l K q r = 0 then addO K.length q.off r.off else []) = if B then addO K.length q.off r.off else [] by rw [hse]; cases B <;> rfl, hse]
  obtain ⟨RF, hRF⟩ : ∃ x, (if B then addP q.f r.f else ⟨0, 0, 0⟩) = x := ⟨_, rfl⟩
  obtain ⟨RO, hRO⟩ : ∃ x, (if B then addO K.length q.off r.off else []) = x := ⟨_, rfl⟩
  obtain ⟨RE, hRE⟩ : ∃ x, (if B then (0 : Int) else 4) = x := ⟨_, rfl⟩
  have hall : setAll (fun v => q.off.getD v 0 + r.off.getD v 0) q.off q.off.length = addO K.length q.off r.off := by rw [setAll_all, ql]; rfl
  simp only [hRF, hRO, hRE] at hres ⊢
  have hol2 : (addO K.length q.off r.off).length = q.off.length := by unfold addO; rw [List.length_map, List.length_range, ql]
  obtain ⟨AO, hAO⟩ : ∃ x, addO K.length q.off r.off = x := ⟨_, rfl⟩
  obtain ⟨fO, hfO, hfb⟩ : ∃ fO : Nat → Int, (fun v => q.off.getD v 0 + r.off.getD v 0) = fO ∧ ∀ v (h1 : v < q.off.length) (h2 : v < r.off.length), fO v = q.off[v] + r.off[v] ∧ 0 ≤ q.off[v] ∧ q.off[v] ≤ 1000 ∧ 0 ≤ r.off[v] ∧ r.off[v] ≤ 1000 := ⟨_, rfl, fun v h1 h2 => by
    have b1 := off_bd qo (List.getElem_mem h1)
    have b2 := off_bd ro (List.getElem_mem h2)
    refine ⟨?_, b1.1, b1.2, b2.1, b2.2⟩
    rw [List.getD_eq_getElem?_getD, List.getD_eq_getElem?_getD, List.getElem?_eq_getElem h1, List.getElem?_eq_getElem h2]; rfl⟩
  rw [hAO] at hall hol2
  rw [hfO] at hall
  simp only [hAO] at hres
  have hq4 : q.off.length ≤ 4 := by omega
  have hix := fun (k : Nat) (hk : k < 3) (V : World) => ixk r.f V hk
  have hpg := fun (k : Nat) (hk : k < 3) => pk_get q.f r.f hk
  have hps := fun (k : Nat) (hk : k < 3) u => pk_set q.f r.f hk u
  have hpb := fun k => get_abs qf9 k
  have hpb2 := fun k => get_abs rf9 k
  clear hRF hRO hRE hse hBe hck h0 hL hAO hfO qf qo rfl9 ro qf9 rf9 hrb
  replace hal := Lib.hid hal; replace hcl := Lib.hid hcl; replace hres := Lib.hid hres; replace hall := Lib.hid hall; replace hol2 := Lib.hid hol2; replace hfb := Lib.hid hfb; replace hix := Lib.hid hix; replace hpg := Lib.hid hpg; replace hps := Lib.hid hps; replace hpb := Lib.hid hpb; replace hpb2 := Lib.hid hpb2; replace ql := Lib.hid ql; replace rl := Lib.hid rl; replace hk1 := Lib.hid hk1
  have hro : SlS intE w r.s r.off := hq2.off
  obtain ⟨rs, hrs⟩ : ∃ x, r.s = x := ⟨_, rfl⟩
  simp only [hrs] at *
  clear hrs
  have hr0 := Lib.hid hr; have hro0 := Lib.hid hro
  go_enter Try.func38, Try.ntmps38
  go_upto_region 1 with (fail)
  refine wp_world fun W HW => ?_
  have hB : Below w.heap.size w W := by rw [HW.out]; (repeat (first | exact Below.refl _ _ | refine Below.alloc ?_ (by simp; try omega) _ | refine Below.setCell ?_ (by simp) _ | refine Below.drew ?_))
  have dB : Row W (w.heap.size) 27 #[.int .i64 n, .slice s l.length cap, .slice s2 K.length cq] := (by rw [HW.out]; (repeat (first | (refine blk_new ?_; simp; done) | refine blk_old ?_ _)) : W.heap[w.heap.size]? = some (.cells #[.int .i64 n, .slice s l.length cap, .slice s2 K.length cq] 27 (0, 0)))
  have d0 : W.cell? ⟨w.heap.size, 0, none⟩ = some (.int .i64 n) := by rw [HW.out]; simp [go_sem]
  have d1 : W.cell? ⟨w.heap.size, 1, none⟩ = some (.slice s l.length cap) := by rw [HW.out]; simp [go_sem]
  have d2 : W.cell? ⟨w.heap.size, 2, none⟩ = some (.slice s2 K.length cq) := by rw [HW.out]; simp [go_sem]
  have dl : w.heap.size < W.heap.size := World.block_lt_of_cell? W _ d0
  have g0 : W.cell? ⟨w.heap.size + 1, 0, none⟩ = some (.int .i64 q.f.x) := by rw [HW.out]; simp [go_sem]
  have g1 : W.cell? ⟨w.heap.size + 1, 1, none⟩ = some (.int .i64 q.f.y) := by rw [HW.out]; simp [go_sem]
  have g2 : W.cell? ⟨w.heap.size + 1, 2, none⟩ = some (.int .i64 q.f.z) := by rw [HW.out]; simp [go_sem]
  have g3 : W.cell? ⟨w.heap.size + 1, 3, none⟩ = some (.slice q.s q.off.length q.cap) := by rw [HW.out]; simp [go_sem]
  have gl : w.heap.size + 1 < W.heap.size := World.block_lt_of_cell? W _ g0
  have vB : Row W (w.heap.size + 2) 32 #[.int .i64 r.f.x, .int .i64 r.f.y, .int .i64 r.f.z, .slice rs r.off.length r.cap] := (by rw [HW.out]; (repeat (first | (refine blk_new ?_; simp; done) | refine blk_old ?_ _)) : W.heap[w.heap.size + 2]? = some (.cells #[.int .i64 r.f.x, .int .i64 r.f.y, .int .i64 r.f.z, .slice rs r.off.length r.cap] 32 (0, 0)))
  have v0 : W.cell? ⟨w.heap.size + 2, 0, none⟩ = some (.int .i64 r.f.x) := by rw [HW.out]; simp [go_sem]
  have v1 : W.cell? ⟨w.heap.size + 2, 1, none⟩ = some (.int .i64 r.f.y) := by rw [HW.out]; simp [go_sem]
  have v2 : W.cell? ⟨w.heap.size + 2, 2, none⟩ = some (.int .i64 r.f.z) := by rw [HW.out]; simp [go_sem]
  have v3 : W.cell? ⟨w.heap.size + 2, 3, none⟩ = some (.slice rs r.off.length r.cap) := by rw [HW.out]; simp [go_sem]
  have vl : w.heap.size + 2 < W.heap.size := World.block_lt_of_cell? W _ v0
  have oB : Row W (w.heap.size + 3) 32 #[.int .i64 0, .int .i64 0, .int .i64 0, .slice none 0 0] := (by rw [HW.out]; (repeat (first | (refine blk_new ?_; simp; done) | refine blk_old ?_ _)) : W.heap[w.heap.size + 3]? = some (.cells #[.int .i64 0, .int .i64 0, .int .i64 0, .slice none 0 0] 32 (0, 0)))
  have o0 : W.cell? ⟨w.heap.size + 3, 0, none⟩ = some (.int .i64 0) := by rw [HW.out]; simp [go_sem]
  have o1 : W.cell? ⟨w.heap.size + 3, 1, none⟩ = some (.int .i64 0) := by rw [HW.out]; simp [go_sem]
  have o2 : W.cell? ⟨w.heap.size + 3, 2, none⟩ = some (.int .i64 0) := by rw [HW.out]; simp [go_sem]
  have o3 : W.cell? ⟨w.heap.size + 3, 3, none⟩ = some (.slice none 0 0) := by rw [HW.out]; simp [go_sem]
  have ol : w.heap.size + 3 < W.heap.size := World.block_lt_of_cell? W _ o0
  try replace hr := up_of hB hr
  try replace hq := up_of hB hq
  try replace hq2 := up_of hB hq2
  go_upto_region 4 with (first | (go_at_call 84; refine (hal.out _ _ hr hq hq2).mono ?_; rintro e W4 ⟨rfl, hb⟩; (try replace hr := up_of hb hr); (try replace hq := up_of hb hq); (try replace hq2 := up_of hb hq2); (try replace hB := up_of hb hB); (try replace dB := up_of hb dB); (try replace d0 := up_of hb d0); (try replace d1 := up_of hb d1); (try replace d2 := up_of hb d2); (try replace dl := up_of hb dl); (try replace g0 := up_of hb g0); (try replace g1 := up_of hb g1); (try replace g2 := up_of hb g2); (try replace g3 := up_of hb g3); (try replace gl := up_of hb gl); (try replace vB := up_of hb vB); (try replace v0 := up_of hb v0); (try replace v1 := up_of hb v1); (try replace v2 := up_of hb v2); (try replace v3 := up_of hb v3); (try replace vl := up_of hb vl); (try replace oB := up_of hb oB); (try replace o0 := up_of hb o0); (try replace o1 := up_of hb o1); (try replace o2 := up_of hb o2); (try replace o3 := up_of hb o3); (try replace ol := up_of hb ol)))
  have hol4 := ol
  go_region_held3 (fun V => V.cell? ⟨w.heap.size + 1, 0, none⟩ = some (.int .i64 q.f.x) ∧ V.cell? ⟨w.heap.size + 1, 1, none⟩ = some (.int .i64 q.f.y) ∧ V.cell? ⟨w.heap.size + 1, 2, none⟩ = some (.int .i64 q.f.z) ∧ V.cell? ⟨w.heap.size + 1, 3, none⟩ = some (.slice q.s q.off.length q.cap)) ((first | (with_reducible exact ⟨g0, g1, g2, g3⟩) | ((try dsimp only); (repeat' apply And.intro) <;> (repeat (first | (with_reducible assumption) | (with_reducible refine cell_set (by simp; try omega) ?_) | (with_reducible refine cell_drew ?_) | (with_reducible refine cell_alloc ?_ _)))))) ((first | (go_at_call 85; refine calls_below (W0 := W4) ?_ fun hpre => ?_; (repeat (first | exact Below.refl _ _ | refine Below.alloc ?_ (by simp; try omega) _ | refine Below.drew ?_)); refine (hcl.out _ (up_of hpre hq)).mono ?_; rintro e N1 ⟨⟨s3, c3, rfl, hown⟩, hb1⟩; have hcc := cellB hb1; have hff := frozB hb1; have hb := Up.trans hpre hb1; clear hpre; (first | have hs_N1 := below_alloc_lt hb1 | have hs_N1 := below_alloc_lt (drewB hb1) | skip); have dl_N1 := dl; have gl_N1 := gl; have vl_N1 := vl; have ol_N1 := ol; (try replace hr := up_of hb hr); (try replace hq := up_of hb hq); (try replace hq2 := up_of hb hq2); (try replace hB := up_of hb hB); (try replace dB := up_of hb dB); (try replace d0 := up_of hb d0); (try replace d1 := up_of hb d1); (try replace d2 := up_of hb d2); (try replace dl := up_of hb dl); (try replace g0 := up_of hb g0); (try replace g1 := up_of hb g1); (try replace g2 := up_of hb g2); (try replace g3 := up_of hb g3); (try replace gl := up_of hb gl); (try replace vB := up_of hb vB); (try replace v0 := up_of hb v0); (try replace v1 := up_of hb v1); (try replace v2 := up_of hb v2); (try replace v3 := up_of hb v3); (try replace vl := up_of hb vl); (try replace oB := up_of hb oB); (try replace o0 := up_of hb o0); (try replace o1 := up_of hb o1); (try replace o2 := up_of hb o2); (try replace o3 := up_of hb o3); (try replace ol := up_of hb ol); (first | have nB := new_up hb1 | have nB := new_up (drewB hb1) | (try replace nB := up_of hb nB)))))
  · skip
    have hN1s := hb.size
    have hw4 := hB.size
    refine exit_world fun X HX => ?_
    have hBX : Below w.heap.size w X := by
      rw [HX.out]
      repeat (first | (with_reducible exact hB) | (with_reducible refine Below.drew ?_) | ((with_reducible refine Below.setC ?_ ?_); (focus (first | omega | (simp; done) | (simp; omega)))) | ((with_reducible refine Below.allo ?_ ?_); (focus (first | omega | (simp; done) | (simp; omega)))))
    first | (refine have_it (Row X N1.heap.size 32 #[.int .i64 q.f.x, .int .i64 q.f.y, .int .i64 q.f.z, .slice s3 q.off.length c3]) ?_ fun tX => ?_; (focus (rw [HX.out]; refine Row.of ?_; (repeat (first | (with_reducible refine RowG.base nB ?_) | (with_reducible refine RowG.drew ?_) | (with_reducible refine RowG.set ?_) | (with_reducible refine RowG.new ?_) | ((with_reducible refine RowG.other ?_ ?_); (focus (first | omega | (simp; done) | (simp; omega)))) | (with_reducible refine RowG.alloc ?_))); rfl; done)))
    obtain ⟨gg, eg, -, -⟩ := own_ex hown (by have := hk1.out; have := ql.out; omega)
    cases eg
    have hol := hown.lt gg rfl
    have hoX : X.ownsRow w.heap.size 3 1 (.slice (some ⟨gg, 0, none⟩) q.off.length c3) q.off.length (intE.all (setAll fO q.off 0)) := by
      rw [HX.out]
      refine owns_mono (own_chgB (p := fun j => j = N1.heap.size) ?_ hown (fun j hj e => by have := hown.lt j hj; omega)) (by first | omega | (simp; omega))
      repeat (first | (with_reducible exact Chg.refl _ _) | ((with_reducible refine Chg.setC ?_ ?_); (focus rfl)) | (with_reducible refine Chg.drew ?_) | (with_reducible refine Chg.alloc ?_ _))
    have dX : Row X w.heap.size 27 #[.int .i64 n, .slice s l.length cap, .slice s2 K.length cq] := by
      rw [HX.out]
      refine Row.of ?_
      repeat (first | (with_reducible refine RowG.base dB ?_) | (with_reducible refine RowG.drew ?_) | (with_reducible refine RowG.set ?_) | ((with_reducible refine RowG.other ?_ ?_); (focus (first | omega | (simp; done) | (simp; omega)))) | (with_reducible refine RowG.alloc ?_))
      rfl
    have vX : Row X (w.heap.size + 2) 32 #[.int .i64 r.f.x, .int .i64 r.f.y, .int .i64 r.f.z, .slice rs r.off.length r.cap] := by
      rw [HX.out]
      refine Row.of ?_
      repeat (first | (with_reducible refine RowG.base vB ?_) | (with_reducible refine RowG.drew ?_) | (with_reducible refine RowG.set ?_) | ((with_reducible refine RowG.other ?_ ?_); (focus (first | omega | (simp; done) | (simp; omega)))) | (with_reducible refine RowG.alloc ?_))
      rfl
    have oX : Row X (w.heap.size + 3) 32 #[.int .i64 0, .int .i64 0, .int .i64 0, .slice none 0 0] := by
      rw [HX.out]
      refine Row.of ?_
      repeat (first | (with_reducible refine RowG.base oB ?_) | (with_reducible refine RowG.drew ?_) | (with_reducible refine RowG.set ?_) | ((with_reducible refine RowG.other ?_ ?_); (focus (first | omega | (simp; done) | (simp; omega)))) | (with_reducible refine RowG.alloc ?_))
      rfl
    clear HX d0 d1 d2 v0 v1 v2 v3 o0 o1 o2 o3 dB vB oB hown
    obtain ⟨v0, v1, v2, v3⟩ := vX.four
    have hob : w.heap.size + 3 < N1.heap.size := by omega
    have hgg : w.heap.size + 3 ≠ gg := by first | omega | (have := hol.1; simp at this; omega)
    have hgg0 : w.heap.size ≠ gg := by first | omega | (have := hol.1; simp at this; omega)
    have hobg : N1.heap.size ≠ gg := by first | omega | (have := hol.1; simp at this; omega)
    go_wp2
    go_loopw [31] (fun ii V => ∃ k : Nat, k ≤ 3 ∧ ii = .int .i64 k ∧ Row V N1.heap.size 32 #[.int .i64 (pk q.f r.f k).x, .int .i64 (pk q.f r.f k).y, .int .i64 (pk q.f r.f k).z, .slice (some ⟨gg, 0, none⟩) q.off.length c3] ∧ V.ownsRow w.heap.size 3 1 (.slice (some ⟨gg, 0, none⟩) q.off.length c3) q.off.length (intE.all (setAll fO q.off 0)) ∧ Row V w.heap.size 27 #[.int .i64 n, .slice s l.length cap, .slice s2 K.length cq] ∧ Row V (w.heap.size + 2) 32 #[.int .i64 r.f.x, .int .i64 r.f.y, .int .i64 r.f.z, .slice rs r.off.length r.cap] ∧ Row V (w.heap.size + 3) 32 #[.int .i64 0, .int .i64 0, .int .i64 0, .slice none 0 0] ∧ Below w.heap.size w V) (fun ii _ => 3 - (intOf ii).toNat)
    case atStart => exact ⟨0, by omega, rfl, tX, hoX, dX, vX, oX, hBX⟩
    case round =>
      clear tX hoX dX vX oX hBX v0 v1 v2 v3
      obtain ⟨k, hk, rfl, hR, hown, dV, vV, oV, hBV⟩ := hrel
      by_cases hlt : k < 3
      · have gix := hix.out k hlt wr
        have tc := hR.cell (sd_at hlt)
        have hpg2 : (⟨(pk q.f r.f k).x, (pk q.f r.f k).y, (pk q.f r.f k).z⟩ : Pt).get k = q.f.get k := hpg.out k hlt
        rw [hpg2] at tc
        have hset := hps.out k hlt (.slice (some ⟨gg, 0, none⟩) q.off.length c3)
        have b1 := hpb.out k
        have b2 := hpb2.out k
        obtain ⟨x1, hx1⟩ : ∃ x, q.f.get k = x := ⟨_, rfl⟩
        obtain ⟨x2, hx2⟩ : ∃ x, r.f.get k = x := ⟨_, rfl⟩
        rw [hx1] at tc hset b1
        rw [hx2] at gix hset b2
        have ws1 : IntKind.i64.wrap (x1 + x2) = x1 + x2 := i64_small (by omega)
        have ws2 : wrap64 (x1 + x2) = x1 + x2 := by unfold wrap64; omega
        have rf := fun i => Row.frozen hR i
        have rl1 := hR.lt
        have i1 : (0 : Int) ≤ (k : Int) := by omega
        have i2 : (k : Int) < 3 := by omega
        replace hset := Lib.hid hset; replace hx1 := Lib.hid hx1; replace hx2 := Lib.hid hx2
        clear hpg2
        go_wp2
        go_roundw
        case rel =>
          refine ⟨k + 1, by omega, rfl, ?_, ?_, ?_, ?_, ?_, ?_⟩
          · refine Row.of ?_
            repeat (first | (with_reducible refine RowG.base hR ?_) | (with_reducible refine RowG.drew ?_) | (with_reducible refine RowG.set ?_) | ((with_reducible refine RowG.other ?_ ?_); (focus (first | omega | (simp; done) | (simp; omega)))) | (with_reducible refine RowG.alloc ?_))
            exact hset.out
          · exact ownsRow_setCell_other hown (by simp only [Value.ownBlock]; intro e; injection e with e; omega) _
          · refine Row.of ?_
            repeat (first | (with_reducible refine RowG.base dV ?_) | (with_reducible refine RowG.drew ?_) | (with_reducible refine RowG.set ?_) | ((with_reducible refine RowG.other ?_ ?_); (focus (first | omega | (simp; done) | (simp; omega)))) | (with_reducible refine RowG.alloc ?_))
            rfl
          · refine Row.of ?_
            repeat (first | (with_reducible refine RowG.base vV ?_) | (with_reducible refine RowG.drew ?_) | (with_reducible refine RowG.set ?_) | ((with_reducible refine RowG.other ?_ ?_); (focus (first | omega | (simp; done) | (simp; omega)))) | (with_reducible refine RowG.alloc ?_))
            rfl
          · refine Row.of ?_
            repeat (first | (with_reducible refine RowG.base oV ?_) | (with_reducible refine RowG.drew ?_) | (with_reducible refine RowG.set ?_) | ((with_reducible refine RowG.other ?_ ?_); (focus (first | omega | (simp; done) | (simp; omega)))) | (with_reducible refine RowG.alloc ?_))
            rfl
          · repeat (first | (with_reducible exact hBV) | (with_reducible refine Below.drew ?_) | ((with_reducible refine Below.setC ?_ ?_); (focus (first | omega | (simp; done) | (simp; omega)))) | ((with_reducible refine Below.allo ?_ ?_); (focus (first | omega | (simp; done) | (simp; omega)))))
        case measure => exact meas hlt
      · obtain rfl : k = 3 := by omega
        obtain ⟨v0, v1, v2, v3⟩ := vV.four
        obtain ⟨d0, d1, d2⟩ := dV.three
        replace hR : Row wr N1.heap.size 32 #[.int .i64 (addP q.f r.f).x, .int .i64 (addP q.f r.f).y, .int .i64 (addP q.f r.f).z, .slice (some ⟨gg, 0, none⟩) q.off.length c3] := hR
        obtain ⟨P, hP⟩ : ∃ x, addP q.f r.f = x := ⟨_, rfl⟩
        rw [hP] at hR
        replace hP := Lib.hid hP
        go_wp2
        go_loopw [47] (fun ii V => ∃ k : Nat, k ≤ q.off.length ∧ ii = .int .i64 k ∧ Row V N1.heap.size 32 #[.int .i64 P.x, .int .i64 P.y, .int .i64 P.z, .slice (some ⟨gg, 0, none⟩) q.off.length c3] ∧ V.ownsRow w.heap.size 3 1 (.slice (some ⟨gg, 0, none⟩) q.off.length c3) q.off.length (intE.all (setAll fO q.off k)) ∧ Row V w.heap.size 27 #[.int .i64 n, .slice s l.length cap, .slice s2 K.length cq] ∧ Row V (w.heap.size + 3) 32 #[.int .i64 0, .int .i64 0, .int .i64 0, .slice none 0 0] ∧ Below w.heap.size w V) (fun ii _ => q.off.length - (intOf ii).toNat)
        case atStart => exact ⟨0, by omega, rfl, hR, hown, dV, oV, hBV⟩
        case round =>
          clear hR hown dV oV hBV vV v0 v1 v2 v3 d0 d1 d2
          obtain ⟨k, hk, rfl, hR, hown, dV, oV, hBV⟩ := hrel
          have hqrl : r.off.length = q.off.length := by rw [rl.out, ql.out]
          by_cases hlt : k < q.off.length
          · have hlt2 : k < r.off.length := by omega
            obtain ⟨br, or9, er, hbr, y0⟩ := (up_of hBV hro0.out).int_at hlt2
            cases er
            obtain ⟨f1, f2, f3, f4, f5⟩ := hfb.out k hlt hlt2
            have hlS : k < (setAll fO q.off k).length := by rw [setAll_len]; exact hlt
            have x0 := owns_cell hown (intE_at _ hlS)
            rw [setAll_here hlt hlS] at x0
            have hst := fun u => World.ownsRow.stored hown k (.int .i64 u)
            simp only [int_set] at hst
            have hnx : (setAll fO q.off k).set k (fO k) = setAll fO q.off (k + 1) := rfl
            obtain ⟨x1, hx1⟩ : ∃ x, q.off[k] = x := ⟨_, rfl⟩
            obtain ⟨x2, hx2⟩ : ∃ x, r.off[k] = x := ⟨_, rfl⟩
            rw [hx1] at x0 f1 f2 f3
            rw [hx2] at y0 f1 f4 f5
            have ws1 : IntKind.i64.wrap (x1 + x2) = x1 + x2 := i64_small (by omega)
            have ws2 : wrap64 (x1 + x2) = x1 + x2 := by unfold wrap64; omega
            obtain ⟨t0, t1, t2, t3⟩ := hR.four
            have xf := fun j => World.ownsRow.frozenAt hown j
            have hgl := hown.lt gg rfl
            have i1 : (0 : Int) ≤ (k : Int) := by omega
            have i2 : (k : Int) < (q.off.length : Int) := by omega
            have i3 : (k : Int) < (r.off.length : Int) := by omega
            replace hst := Lib.hid hst; replace hnx := Lib.hid hnx; replace f1 := Lib.hid f1; replace hx1 := Lib.hid hx1; replace hx2 := Lib.hid hx2; replace hqrl := Lib.hid hqrl
            go_wp2
            go_roundw
            case rel =>
              refine ⟨k + 1, by omega, rfl, ?_, ?_, ?_, ?_, ?_⟩
              · refine Row.of ?_
                repeat (first | (with_reducible refine RowG.base hR ?_) | (with_reducible refine RowG.drew ?_) | (with_reducible refine RowG.set ?_) | ((with_reducible refine RowG.other ?_ ?_); (focus (first | omega | (simp; done) | (simp; omega)))) | (with_reducible refine RowG.alloc ?_))
                rfl
              · rw [← hnx.out, f1.out]; exact (hst.out _).1
              · refine Row.of ?_
                repeat (first | (with_reducible refine RowG.base dV ?_) | (with_reducible refine RowG.drew ?_) | (with_reducible refine RowG.set ?_) | ((with_reducible refine RowG.other ?_ ?_); (focus (first | omega | (simp; done) | (simp; omega)))) | (with_reducible refine RowG.alloc ?_))
                rfl
              · refine Row.of ?_
                repeat (first | (with_reducible refine RowG.base oV ?_) | (with_reducible refine RowG.drew ?_) | (with_reducible refine RowG.set ?_) | ((with_reducible refine RowG.other ?_ ?_); (focus (first | omega | (simp; done) | (simp; omega)))) | (with_reducible refine RowG.alloc ?_))
                rfl
              · repeat (first | (with_reducible exact hBV) | (with_reducible refine Below.drew ?_) | ((with_reducible refine Below.setC ?_ ?_); (focus (first | omega | (simp; done) | (simp; omega)))) | ((with_reducible refine Below.allo ?_ ?_); (focus (first | omega | (simp; done) | (simp; omega)))))
            case measure => exact meas hlt
          · obtain rfl : k = q.off.length := by omega
            rw [hall.out] at hown
            rw [← hol2.out] at hR hown
            rw [← hP.out] at hR
            obtain ⟨t0, t1, t2, t3⟩ := hR.four
            obtain ⟨d0, d1, d2⟩ := dV.three
            obtain ⟨o0, o1, o2, o3⟩ := oV.four
            have ol5 := oV.lt
            have hrV := up_of hBV hr0.out
            have hsd := SlS.of_own (E := intE) hown
            have hsl : AO.length ≤ 9223372036854775807 := by have := hol2.out; have := ql.out; omega
            go_wp2_with (first | (go_at_call 86; refine (hres.out _ _ c3 hrV hsd hsl).mono ?_; rintro e W9 ⟨⟨SS, CC, rfl, hSS⟩, hb9⟩; (try replace oV := up_of hb9 oV); (try replace o0 := up_of hb9 o0); (try replace o1 := up_of hb9 o1); (try replace o2 := up_of hb9 o2); (try replace o3 := up_of hb9 o3); (try replace ol5 := up_of hb9 ol5); (try replace hBV := up_of hb9 hBV); (try replace hown := up_of hb9 hown); have rf := fun i => Row.frozen oV i))
            have hown2 := fun u v x y => ownsRow_setCell_other (ownsRow_setCell_other (ownsRow_setCell_other (ownsRow_setCell_other hown (a := ⟨w.heap.size + 3, 0, none⟩) (by simp only [Value.ownBlock]; intro e; injection e with e; omega) u) (a := ⟨w.heap.size + 3, 1, none⟩) (by simp only [Value.ownBlock]; intro e; injection e with e; omega) v) (a := ⟨w.heap.size + 3, 2, none⟩) (by simp only [Value.ownBlock]; intro e; injection e with e; omega) x) (a := ⟨w.heap.size + 3, 3, none⟩) (by simp only [Value.ownBlock]; intro e; injection e with e; omega) y
            refine sd_end rfl SS CC (b1 := w.heap.size + 3) rfl rfl ?_ ?_ ?_
            · refine Row.of ?_
              repeat (first | (with_reducible refine RowG.base oV ?_) | (with_reducible refine RowG.drew ?_) | (with_reducible refine RowG.set ?_) | ((with_reducible refine RowG.other ?_ ?_); (focus (first | omega | (simp; done) | (simp; omega)))) | (with_reducible refine RowG.alloc ?_))
              rfl
            · exact hSS _ (SlS.of_own (E := intE) (hown2 _ _ _ _))
            · repeat (first | (with_reducible exact hBV) | (with_reducible refine Below.drew ?_) | ((with_reducible refine Below.setC ?_ ?_); (focus (first | omega | (simp; done) | (simp; omega)))) | ((with_reducible refine Below.allo ?_ ?_); (focus (first | omega | (simp; done) | (simp; omega)))))

  · skip
    have hN1s := hb.size
    have hw4 := hB.size
    refine exit_world fun X HX => ?_
    have hBX : Below w.heap.size w X := by
      rw [HX.out]
      repeat (first | (with_reducible exact hB) | (with_reducible refine Below.drew ?_) | ((with_reducible refine Below.setC ?_ ?_); (focus (first | omega | (simp; done) | (simp; omega)))) | ((with_reducible refine Below.allo ?_ ?_); (focus (first | omega | (simp; done) | (simp; omega)))))
    first | (refine have_it (Row X W4.heap.size 32 #[.int .i64 q.f.x, .int .i64 q.f.y, .int .i64 q.f.z, .slice s3 q.off.length c3]) ?_ fun tX => ?_; (focus (rw [HX.out]; refine Row.of ?_; (repeat (first | (with_reducible refine RowG.base nB ?_) | (with_reducible refine RowG.drew ?_) | (with_reducible refine RowG.set ?_) | (with_reducible refine RowG.new ?_) | ((with_reducible refine RowG.other ?_ ?_); (focus (first | omega | (simp; done) | (simp; omega)))) | (with_reducible refine RowG.alloc ?_))); rfl; done)))
    obtain ⟨gg, eg, -, -⟩ := own_ex hown (by have := hk1.out; have := ql.out; omega)
    cases eg
    have hol := hown.lt gg rfl
    have hoX : X.ownsRow w.heap.size 3 1 (.slice (some ⟨gg, 0, none⟩) q.off.length c3) q.off.length (intE.all (setAll fO q.off 0)) := by
      rw [HX.out]
      refine owns_mono (own_chgB (p := fun j => j = W4.heap.size) ?_ hown (fun j hj e => by have := (hown.lt j hj).1; simp at this; omega)) (by first | omega | (simp; omega))
      repeat (first | (with_reducible exact Chg.refl _ _) | ((with_reducible refine Chg.setC ?_ ?_); (focus rfl)) | (with_reducible refine Chg.drew ?_) | (with_reducible refine Chg.alloc ?_ _))
    have dX : Row X w.heap.size 27 #[.int .i64 n, .slice s l.length cap, .slice s2 K.length cq] := by
      rw [HX.out]
      refine Row.of ?_
      repeat (first | (with_reducible refine RowG.base dB ?_) | (with_reducible refine RowG.drew ?_) | (with_reducible refine RowG.set ?_) | ((with_reducible refine RowG.other ?_ ?_); (focus (first | omega | (simp; done) | (simp; omega)))) | (with_reducible refine RowG.alloc ?_))
      rfl
    have vX : Row X (w.heap.size + 2) 32 #[.int .i64 r.f.x, .int .i64 r.f.y, .int .i64 r.f.z, .slice rs r.off.length r.cap] := by
      rw [HX.out]
      refine Row.of ?_
      repeat (first | (with_reducible refine RowG.base vB ?_) | (with_reducible refine RowG.drew ?_) | (with_reducible refine RowG.set ?_) | ((with_reducible refine RowG.other ?_ ?_); (focus (first | omega | (simp; done) | (simp; omega)))) | (with_reducible refine RowG.alloc ?_))
      rfl
    have oX : Row X (w.heap.size + 3) 32 #[.int .i64 0, .int .i64 0, .int .i64 0, .slice none 0 0] := by
      rw [HX.out]
      refine Row.of ?_
      repeat (first | (with_reducible refine RowG.base oB ?_) | (with_reducible refine RowG.drew ?_) | (with_reducible refine RowG.set ?_) | ((with_reducible refine RowG.other ?_ ?_); (focus (first | omega | (simp; done) | (simp; omega)))) | (with_reducible refine RowG.alloc ?_))
      rfl
    clear HX d0 d1 d2 v0 v1 v2 v3 o0 o1 o2 o3 dB vB oB hown
    obtain ⟨v0, v1, v2, v3⟩ := vX.four
    have hob : w.heap.size + 3 < W4.heap.size := by omega
    have hgg : w.heap.size + 3 ≠ gg := by first | omega | (have := hol.1; simp at this; omega)
    have hgg0 : w.heap.size ≠ gg := by first | omega | (have := hol.1; simp at this; omega)
    have hobg : W4.heap.size ≠ gg := by first | omega | (have := hol.1; simp at this; omega)
    go_wp2
    go_loopw [31] (fun ii V => ∃ k : Nat, k ≤ 3 ∧ ii = .int .i64 k ∧ Row V W4.heap.size 32 #[.int .i64 (pk q.f r.f k).x, .int .i64 (pk q.f r.f k).y, .int .i64 (pk q.f r.f k).z, .slice (some ⟨gg, 0, none⟩) q.off.length c3] ∧ V.ownsRow w.heap.size 3 1 (.slice (some ⟨gg, 0, none⟩) q.off.length c3) q.off.length (intE.all (setAll fO q.off 0)) ∧ Row V w.heap.size 27 #[.int .i64 n, .slice s l.length cap, .slice s2 K.length cq] ∧ Row V (w.heap.size + 2) 32 #[.int .i64 r.f.x, .int .i64 r.f.y, .int .i64 r.f.z, .slice rs r.off.length r.cap] ∧ Row V (w.heap.size + 3) 32 #[.int .i64 0, .int .i64 0, .int .i64 0, .slice none 0 0] ∧ Below w.heap.size w V) (fun ii _ => 3 - (intOf ii).toNat)
    case atStart => exact ⟨0, by omega, rfl, tX, hoX, dX, vX, oX, hBX⟩
    case round =>
      clear tX hoX dX vX oX hBX v0 v1 v2 v3
      obtain ⟨k, hk, rfl, hR, hown, dV, vV, oV, hBV⟩ := hrel
      by_cases hlt : k < 3
      · have gix := hix.out k hlt wr
        have tc := hR.cell (sd_at hlt)
        have hpg2 : (⟨(pk q.f r.f k).x, (pk q.f r.f k).y, (pk q.f r.f k).z⟩ : Pt).get k = q.f.get k := hpg.out k hlt
        rw [hpg2] at tc
        have hset := hps.out k hlt (.slice (some ⟨gg, 0, none⟩) q.off.length c3)
        have b1 := hpb.out k
        have b2 := hpb2.out k
        obtain ⟨x1, hx1⟩ : ∃ x, q.f.get k = x := ⟨_, rfl⟩
        obtain ⟨x2, hx2⟩ : ∃ x, r.f.get k = x := ⟨_, rfl⟩
        rw [hx1] at tc hset b1
        rw [hx2] at gix hset b2
        have ws1 : IntKind.i64.wrap (x1 + x2) = x1 + x2 := i64_small (by omega)
        have ws2 : wrap64 (x1 + x2) = x1 + x2 := by unfold wrap64; omega
        have rf := fun i => Row.frozen hR i
        have rl1 := hR.lt
        have i1 : (0 : Int) ≤ (k : Int) := by omega
        have i2 : (k : Int) < 3 := by omega
        replace hset := Lib.hid hset; replace hx1 := Lib.hid hx1; replace hx2 := Lib.hid hx2
        clear hpg2
        go_wp2
        go_roundw
        case rel =>
          refine ⟨k + 1, by omega, rfl, ?_, ?_, ?_, ?_, ?_, ?_⟩
          · refine Row.of ?_
            repeat (first | (with_reducible refine RowG.base hR ?_) | (with_reducible refine RowG.drew ?_) | (with_reducible refine RowG.set ?_) | ((with_reducible refine RowG.other ?_ ?_); (focus (first | omega | (simp; done) | (simp; omega)))) | (with_reducible refine RowG.alloc ?_))
            exact hset.out
          · exact ownsRow_setCell_other hown (by simp only [Value.ownBlock]; intro e; injection e with e; omega) _
          · refine Row.of ?_
            repeat (first | (with_reducible refine RowG.base dV ?_) | (with_reducible refine RowG.drew ?_) | (with_reducible refine RowG.set ?_) | ((with_reducible refine RowG.other ?_ ?_); (focus (first | omega | (simp; done) | (simp; omega)))) | (with_reducible refine RowG.alloc ?_))
            rfl
          · refine Row.of ?_
            repeat (first | (with_reducible refine RowG.base vV ?_) | (with_reducible refine RowG.drew ?_) | (with_reducible refine RowG.set ?_) | ((with_reducible refine RowG.other ?_ ?_); (focus (first | omega | (simp; done) | (simp; omega)))) | (with_reducible refine RowG.alloc ?_))
            rfl
          · refine Row.of ?_
            repeat (first | (with_reducible refine RowG.base oV ?_) | (with_reducible refine RowG.drew ?_) | (with_reducible refine RowG.set ?_) | ((with_reducible refine RowG.other ?_ ?_); (focus (first | omega | (simp; done) | (simp; omega)))) | (with_reducible refine RowG.alloc ?_))
            rfl
          · repeat (first | (with_reducible exact hBV) | (with_reducible refine Below.drew ?_) | ((with_reducible refine Below.setC ?_ ?_); (focus (first | omega | (simp; done) | (simp; omega)))) | ((with_reducible refine Below.allo ?_ ?_); (focus (first | omega | (simp; done) | (simp; omega)))))
        case measure => exact meas hlt
      · obtain rfl : k = 3 := by omega
        obtain ⟨v0, v1, v2, v3⟩ := vV.four
        obtain ⟨d0, d1, d2⟩ := dV.three
        replace hR : Row wr W4.heap.size 32 #[.int .i64 (addP q.f r.f).x, .int .i64 (addP q.f r.f).y, .int .i64 (addP q.f r.f).z, .slice (some ⟨gg, 0, none⟩) q.off.length c3] := hR
        obtain ⟨P, hP⟩ : ∃ x, addP q.f r.f = x := ⟨_, rfl⟩
        rw [hP] at hR
        replace hP := Lib.hid hP
        go_wp2
        go_loopw [47] (fun ii V => ∃ k : Nat, k ≤ q.off.length ∧ ii = .int .i64 k ∧ Row V W4.heap.size 32 #[.int .i64 P.x, .int .i64 P.y, .int .i64 P.z, .slice (some ⟨gg, 0, none⟩) q.off.length c3] ∧ V.ownsRow w.heap.size 3 1 (.slice (some ⟨gg, 0, none⟩) q.off.length c3) q.off.length (intE.all (setAll fO q.off k)) ∧ Row V w.heap.size 27 #[.int .i64 n, .slice s l.length cap, .slice s2 K.length cq] ∧ Row V (w.heap.size + 3) 32 #[.int .i64 0, .int .i64 0, .int .i64 0, .slice none 0 0] ∧ Below w.heap.size w V) (fun ii _ => q.off.length - (intOf ii).toNat)
        case atStart => exact ⟨0, by omega, rfl, hR, hown, dV, oV, hBV⟩
        case round =>
          clear hR hown dV oV hBV vV v0 v1 v2 v3 d0 d1 d2
          obtain ⟨k, hk, rfl, hR, hown, dV, oV, hBV⟩ := hrel
          have hqrl : r.off.length = q.off.length := by rw [rl.out, ql.out]
          by_cases hlt : k < q.off.length
          · have hlt2 : k < r.off.length := by omega
            obtain ⟨br, or9, er, hbr, y0⟩ := (up_of hBV hro0.out).int_at hlt2
            cases er
            obtain ⟨f1, f2, f3, f4, f5⟩ := hfb.out k hlt hlt2
            have hlS : k < (setAll fO q.off k).length := by rw [setAll_len]; exact hlt
            have x0 := owns_cell hown (intE_at _ hlS)
            rw [setAll_here hlt hlS] at x0
            have hst := fun u => World.ownsRow.stored hown k (.int .i64 u)
            simp only [int_set] at hst
            have hnx : (setAll fO q.off k).set k (fO k) = setAll fO q.off (k + 1) := rfl
            obtain ⟨x1, hx1⟩ : ∃ x, q.off[k] = x := ⟨_, rfl⟩
            obtain ⟨x2, hx2⟩ : ∃ x, r.off[k] = x := ⟨_, rfl⟩
            rw [hx1] at x0 f1 f2 f3
            rw [hx2] at y0 f1 f4 f5
            have ws1 : IntKind.i64.wrap (x1 + x2) = x1 + x2 := i64_small (by omega)
            have ws2 : wrap64 (x1 + x2) = x1 + x2 := by unfold wrap64; omega
            obtain ⟨t0, t1, t2, t3⟩ := hR.four
            have xf := fun j => World.ownsRow.frozenAt hown j
            have hgl := hown.lt gg rfl
            have i1 : (0 : Int) ≤ (k : Int) := by omega
            have i2 : (k : Int) < (q.off.length : Int) := by omega
            have i3 : (k : Int) < (r.off.length : Int) := by omega
            replace hst := Lib.hid hst; replace hnx := Lib.hid hnx; replace f1 := Lib.hid f1; replace hx1 := Lib.hid hx1; replace hx2 := Lib.hid hx2; replace hqrl := Lib.hid hqrl
            go_wp2
            go_roundw
            case rel =>
              refine ⟨k + 1, by omega, rfl, ?_, ?_, ?_, ?_, ?_⟩
              · refine Row.of ?_
                repeat (first | (with_reducible refine RowG.base hR ?_) | (with_reducible refine RowG.drew ?_) | (with_reducible refine RowG.set ?_) | ((with_reducible refine RowG.other ?_ ?_); (focus (first | omega | (simp; done) | (simp; omega)))) | (with_reducible refine RowG.alloc ?_))
                rfl
              · rw [← hnx.out, f1.out]; exact (hst.out _).1
              · refine Row.of ?_
                repeat (first | (with_reducible refine RowG.base dV ?_) | (with_reducible refine RowG.drew ?_) | (with_reducible refine RowG.set ?_) | ((with_reducible refine RowG.other ?_ ?_); (focus (first | omega | (simp; done) | (simp; omega)))) | (with_reducible refine RowG.alloc ?_))
                rfl
              · refine Row.of ?_
                repeat (first | (with_reducible refine RowG.base oV ?_) | (with_reducible refine RowG.drew ?_) | (with_reducible refine RowG.set ?_) | ((with_reducible refine RowG.other ?_ ?_); (focus (first | omega | (simp; done) | (simp; omega)))) | (with_reducible refine RowG.alloc ?_))
                rfl
              · repeat (first | (with_reducible exact hBV) | (with_reducible refine Below.drew ?_) | ((with_reducible refine Below.setC ?_ ?_); (focus (first | omega | (simp; done) | (simp; omega)))) | ((with_reducible refine Below.allo ?_ ?_); (focus (first | omega | (simp; done) | (simp; omega)))))
            case measure => exact meas hlt
          · obtain rfl : k = q.off.length := by omega
            rw [hall.out] at hown
            rw [← hol2.out] at hR hown
            rw [← hP.out] at hR
            obtain ⟨t0, t1, t2, t3⟩ := hR.four
            obtain ⟨d0, d1, d2⟩ := dV.three
            obtain ⟨o0, o1, o2, o3⟩ := oV.four
            have ol5 := oV.lt
            have hrV := up_of hBV hr0.out
            have hsd := SlS.of_own (E := intE) hown
            have hsl : AO.length ≤ 9223372036854775807 := by have := hol2.out; have := ql.out; omega
            go_wp2_with (first | (go_at_call 86; refine (hres.out _ _ c3 hrV hsd hsl).mono ?_; rintro e W9 ⟨⟨SS, CC, rfl, hSS⟩, hb9⟩; (try replace oV := up_of hb9 oV); (try replace o0 := up_of hb9 o0); (try replace o1 := up_of hb9 o1); (try replace o2 := up_of hb9 o2); (try replace o3 := up_of hb9 o3); (try replace ol5 := up_of hb9 ol5); (try replace hBV := up_of hb9 hBV); (try replace hown := up_of hb9 hown); have rf := fun i => Row.frozen oV i))
            have hown2 := fun u v x y => ownsRow_setCell_other (ownsRow_setCell_other (ownsRow_setCell_other (ownsRow_setCell_other hown (a := ⟨w.heap.size + 3, 0, none⟩) (by simp only [Value.ownBlock]; intro e; injection e with e; omega) u) (a := ⟨w.heap.size + 3, 1, none⟩) (by simp only [Value.ownBlock]; intro e; injection e with e; omega) v) (a := ⟨w.heap.size + 3, 2, none⟩) (by simp only [Value.ownBlock]; intro e; injection e with e; omega) x) (a := ⟨w.heap.size + 3, 3, none⟩) (by simp only [Value.ownBlock]; intro e; injection e with e; omega) y
            refine sd_end rfl SS CC (b1 := w.heap.size + 3) rfl rfl ?_ ?_ ?_
            · refine Row.of ?_
              repeat (first | (with_reducible refine RowG.base oV ?_) | (with_reducible refine RowG.drew ?_) | (with_reducible refine RowG.set ?_) | ((with_reducible refine RowG.other ?_ ?_); (focus (first | omega | (simp; done) | (simp; omega)))) | (with_reducible refine RowG.alloc ?_))
              rfl
            · exact hSS _ (SlS.of_own (E := intE) (hown2 _ _ _ _))
            · repeat (first | (with_reducible exact hBV) | (with_reducible refine Below.drew ?_) | ((with_reducible refine Below.setC ?_ ?_); (focus (first | omega | (simp; done) | (simp; omega)))) | ((with_reducible refine Below.allo ?_ ?_); (focus (first | omega | (simp; done) | (simp; omega)))))

end Go.Proofs.Ytbpdgoedglkefaa
