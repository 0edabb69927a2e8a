/- Schedules that must be legal; the results of sums. -/
import Derived.Test.YtbpdgoedglkefaaSchSum
namespace Go.Proofs.Ytbpdgoedglkefaa
open Go.RowKit

set_option maxRecDepth 100000 in
set_option maxHeartbeats 1000000 in
theorem allLegal1_c (n : Int) (s : Option Addr) (cap : Nat) (l : List Iq) (s2 : Option Addr) (cq : Nat) (K : List Vv) (q : Sd) (b : Nat) (w : World) (hr : RecM w s l s2 cq K) (hq : SdM w q) (h0 : recB n l K = true) (hol : q.off.length = K.length) (hk4 : K.length ≤ 4)
    (r0 : w.cell? ⟨b, 0, none⟩ = some (.int .i64 n)) (r1 : w.cell? ⟨b, 1, none⟩ = some (.slice s l.length cap)) (r2 : w.cell? ⟨b, 2, none⟩ = some (.slice s2 K.length cq)) :
    Calls Try.prog 121 #[.agg #[.int .i64 q.f.x, .int .i64 q.f.y, .int .i64 q.f.z, .slice q.s q.off.length q.cap], .pointer (some ⟨b, 0, none⟩)] w fun e w' => e = .returned (.bool (!legB K q)) ∧ Below w.heap.size w w' := by
  have hbl := World.block_lt_of_cell? _ _ r0
  have hf := fun V (h : RecM V s l s2 cq K) (h2 : SdM V q) => legal_c n s cap l s2 cq K q V h h2 h0 hol hk4
  obtain ⟨B, hB0⟩ : ∃ x, legB K q = x := ⟨_, rfl⟩
  simp only [hB0] at hf ⊢
  clear hB0
  replace hf := Lib.hid hf; replace hol := Lib.hid hol
  go_enter Try.func121, Try.ntmps121
  go_upto_region 1 with (fail)
  refine wp_world fun W HW => ?_
  have hB : Below w.heap.size w W := by rw [HW.out]; (repeat (first | exact Below.refl _ _ | refine Below.alloc ?_ (by simp; try omega) _ | refine Below.setCell ?_ (by simp) _ | refine Below.drew ?_))
  have g0 : W.cell? ⟨w.heap.size, 0, none⟩ = some (.int .i64 q.f.x) := by rw [HW.out]; simp [go_sem]
  have g1 : W.cell? ⟨w.heap.size, 1, none⟩ = some (.int .i64 q.f.y) := by rw [HW.out]; simp [go_sem]
  have g2 : W.cell? ⟨w.heap.size, 2, none⟩ = some (.int .i64 q.f.z) := by rw [HW.out]; simp [go_sem]
  have g3 : W.cell? ⟨w.heap.size, 3, none⟩ = some (.slice q.s q.off.length q.cap) := by rw [HW.out]; simp [go_sem]
  have gl : w.heap.size < W.heap.size := World.block_lt_of_cell? W _ g0
  try replace hr := up_of hB hr
  try replace hq := up_of hB hq
  try replace r0 := up_of hB r0
  try replace r1 := up_of hB r1
  try replace r2 := up_of hB r2
  go_wp2_with (first | (go_at_call 67; refine (hf.out _ hr hq).mono ?_; rintro e W1 ⟨rfl, hb⟩; (try replace hr := up_of hb hr); (try replace hq := up_of hb hq); (try replace r0 := up_of hb r0); (try replace r1 := up_of hb r1); (try replace r2 := up_of hb r2); (try replace hB := up_of hb hB); (try replace g0 := up_of hb g0); (try replace g1 := up_of hb g1); (try replace g2 := up_of hb g2); (try replace g3 := up_of hb g3); (try replace gl := up_of hb gl)))
  go_ret
  exact ⟨rfl, hB⟩
set_option maxRecDepth 100000 in
set_option maxHeartbeats 1000000 in
theorem allLegal_c (n : Int) (s : Option Addr) (cap : Nat) (l : List Iq) (s2 : Option Addr) (cq : Nat) (K : List Vv) (sl : Option Addr) (cl : Nat) (L : List Sd) (w : World) (hr : RecM w s l s2 cq K) (hL : SlS sdE w sl L) (hl : L.length ≤ 9223372036854775807) (hm : ∀ q ∈ L, SdM w q) :
    Calls Try.prog 84 #[.agg #[.int .i64 n, .slice s l.length cap, .slice s2 K.length cq], .slice sl L.length cl] w fun e w' => e = .returned (.int .i64 (allE n l K L)) ∧ Below w.heap.size w w' := by
  have hck := fun V (h : RecM V s l s2 cq K) (h1 : SlS sdE V sl L) (hB : Below w.heap.size w V) => checked_c n s cap l s2 cq K sl cl L V h h1 hl (fun q hq => up_of hB (hm q hq))
  have hok := chkL_ok (n := n) (l := l) (K := K) (L := L)
  unfold allE
  obtain ⟨ck, hck0⟩ : ∃ x, chkE n l K L = x := ⟨_, rfl⟩
  simp only [hck0] at hck hok ⊢
  clear hck0
  replace hck := Lib.hid hck
  by_cases h0 : ck = 0
  · subst h0
    obtain ⟨hrb, -, hk4, hq⟩ := hok rfl
    have hc := fun V b (hr : RecM V s l s2 cq K) (r0 : V.cell? ⟨b, 0, none⟩ = some (.int .i64 n)) (r1 : V.cell? ⟨b, 1, none⟩ = some (.slice s l.length cap)) (r2 : V.cell? ⟨b, 2, none⟩ = some (.slice s2 K.length cq)) (hB : Below w.heap.size w V) (hL : SlS sdE V sl L) => sd_containsf 121 #[.pointer (some ⟨b, 0, none⟩)] (fun _ _ => by simp [go_sem]) sl cl L (fun q => !legB K q) V hL hl (fun q hqL W hW => allLegal1_c n s cap l s2 cq K q b W (up_of hW hr) (SdM.up (Up.to hB hW hB.size) (hm q hqL)) hrb (hq q hqL).2.1 hk4 (Up.cell hW r0) (Up.cell hW r1) (Up.cell hW r2))
    have han : (L.any fun q => !legB K q) = !L.all (legB K) := by rw [← any_not]; simp
    simp only [han] at hc
    rw [if_neg (by decide)]
    obtain ⟨C, hC0⟩ : ∃ x, L.all (legB K) = x := ⟨_, rfl⟩
    simp only [hC0] at hc ⊢
    clear hC0 han hok hrb hk4 hq
    replace hc := Lib.hid hc; replace hm := Lib.hid hm
    cases C
    all_goals
      go_enter Try.func84, Try.ntmps84
      go_upto_region 1 with (fail)
      refine wp_world fun W HW => ?_
      have hB : Below w.heap.size w W := by rw [HW.out]; (repeat (first | exact Below.refl _ _ | refine Below.alloc ?_ (by simp; try omega) _ | refine Below.setCell ?_ (by simp) _ | refine Below.drew ?_))
      have d0 : W.cell? ⟨w.heap.size, 0, none⟩ = some (.int .i64 n) := by rw [HW.out]; simp [go_sem]
      have d1 : W.cell? ⟨w.heap.size, 1, none⟩ = some (.slice s l.length cap) := by rw [HW.out]; simp [go_sem]
      have d2 : W.cell? ⟨w.heap.size, 2, none⟩ = some (.slice s2 K.length cq) := by rw [HW.out]; simp [go_sem]
      have dl : w.heap.size < W.heap.size := World.block_lt_of_cell? W _ d0
      try replace hr := up_of hB hr
      try replace hL := up_of hB hL
      go_wp2_with (first | (go_at_call 57; refine (hck.out _ hr hL hB).mono ?_; rintro e W1 ⟨rfl, hb⟩; (try replace hr := up_of hb hr); (try replace hL := up_of hb hL); (try replace hB := up_of hb hB); (try replace d0 := up_of hb d0); (try replace d1 := up_of hb d1); (try replace d2 := up_of hb d2); (try replace dl := up_of hb dl)) | (go_at_call 101; refine (hc.out _ _ hr d0 d1 d2 hB hL).mono ?_; rintro e W1 ⟨rfl, hb⟩; (try replace hr := up_of hb hr); (try replace hL := up_of hb hL); (try replace hB := up_of hb hB); (try replace d0 := up_of hb d0); (try replace d1 := up_of hb d1); (try replace d2 := up_of hb d2); (try replace dl := up_of hb dl)))
      go_ret
      exact ⟨rfl, hB⟩
  · rw [if_pos h0]
    have k1 : (ck != 0) = true := bne_iff_ne.2 h0
    replace hm := Lib.hid hm
    clear hok
    go_enter Try.func84, Try.ntmps84
    go_upto_region 1 with (fail)
    refine wp_world fun W HW => ?_
    have hB : Below w.heap.size w W := by rw [HW.out]; (repeat (first | exact Below.refl _ _ | refine Below.alloc ?_ (by simp; try omega) _ | refine Below.setCell ?_ (by simp) _ | refine Below.drew ?_))
    have d0 : W.cell? ⟨w.heap.size, 0, none⟩ = some (.int .i64 n) := by rw [HW.out]; simp [go_sem]
    have d1 : W.cell? ⟨w.heap.size, 1, none⟩ = some (.slice s l.length cap) := by rw [HW.out]; simp [go_sem]
    have d2 : W.cell? ⟨w.heap.size, 2, none⟩ = some (.slice s2 K.length cq) := by rw [HW.out]; simp [go_sem]
    have dl : w.heap.size < W.heap.size := World.block_lt_of_cell? W _ d0
    try replace hr := up_of hB hr
    try replace hL := up_of hB hL
    go_wp2_with (first | (go_at_call 57; refine (hck.out _ hr hL hB).mono ?_; rintro e W1 ⟨rfl, hb⟩; (try replace hr := up_of hb hr); (try replace hL := up_of hb hL); (try replace hB := up_of hb hB); (try replace d0 := up_of hb d0); (try replace d1 := up_of hb d1); (try replace d2 := up_of hb d2); (try replace dl := up_of hb dl)))
    go_ret
    exact ⟨rfl, hB⟩
theorem allLegalN1_c (n : Int) (s : Option Addr) (cap : Nat) (l : List Iq) (s2 : Option Addr) (cq : Nat) (K : List Vv) (q : Sd) (t : TypeId) (V : World) (hr : RecM V s l s2 cq K) (hq : SdM V q) :
    Calls Try.prog 84 #[.agg #[.int .i64 n, .slice s l.length cap, .slice s2 K.length cq], .slice (some ⟨V.heap.size, 0, none⟩) 1 1] (V.alloc (.cells #[.int .i64 q.f.x, .int .i64 q.f.y, .int .i64 q.f.z, .slice q.s q.off.length q.cap] t)) fun e w' => e = .returned (.int .i64 (allE n l K [q])) ∧ Below V.heap.size V w' := by
  have hA : Below V.heap.size V (V.alloc (.cells #[.int .i64 q.f.x, .int .i64 q.f.y, .int .i64 q.f.z, .slice q.s q.off.length q.cap] t)) := (Below.refl _ V).alloc (Nat.le_refl _) _
  refine (allLegal_c n s cap l s2 cq K _ 1 [q] _ (hr.up hA) (sd_new V q t) (by simp) (fun x hx => by simp at hx; subst hx; exact hq.up hA)).mono ?_
  rintro e w' ⟨rfl, hb⟩
  exact ⟨rfl, Up.to hA hb hA.size⟩
theorem allLegalN2_c (n : Int) (s : Option Addr) (cap : Nat) (l : List Iq) (s2 : Option Addr) (cq : Nat) (K : List Vv) (q r : Sd) (t : TypeId) (V : World) (hr : RecM V s l s2 cq K) (hq : SdM V q) (hq2 : SdM V r) :
    Calls Try.prog 84 #[.agg #[.int .i64 n, .slice s l.length cap, .slice s2 K.length cq], .slice (some ⟨V.heap.size, 0, none⟩) 2 2] (V.alloc (.cells #[.int .i64 q.f.x, .int .i64 q.f.y, .int .i64 q.f.z, .slice q.s q.off.length q.cap, .int .i64 r.f.x, .int .i64 r.f.y, .int .i64 r.f.z, .slice r.s r.off.length r.cap] t)) fun e w' => e = .returned (.int .i64 (allE n l K [q, r])) ∧ Below V.heap.size V w' := by
  have hA : Below V.heap.size V (V.alloc (.cells #[.int .i64 q.f.x, .int .i64 q.f.y, .int .i64 q.f.z, .slice q.s q.off.length q.cap, .int .i64 r.f.x, .int .i64 r.f.y, .int .i64 r.f.z, .slice r.s r.off.length r.cap] t)) := (Below.refl _ V).alloc (Nat.le_refl _) _
  refine (allLegal_c n s cap l s2 cq K _ 2 [q, r] _ (hr.up hA) (sd_new2 V q r t) (by simp) (fun x hx => by simp at hx; rcases hx with rfl | rfl; exact hq.up hA; exact hq2.up hA)).mono ?_
  rintro e w' ⟨rfl, hb⟩
  exact ⟨rfl, Up.to hA hb hA.size⟩
theorem result_cx (n : Int) (s : Option Addr) (cap : Nat) (l : List Iq) (s2 : Option Addr) (cq : Nat) (K : List Vv) (q : Sd) (V : World) (h : SdM V q) (hkl : K.length ≤ 9223372036854775807) :
    Calls Try.prog 72 #[.agg #[.int .i64 n, .slice s l.length cap, .slice s2 K.length cq], .agg #[.int .i64 q.f.x, .int .i64 q.f.y, .int .i64 q.f.z, .slice q.s q.off.length q.cap]] V fun e w' => e = .returned (.bool (q.fit n K.length)) ∧ Below V.heap.size V w' :=
  fits_c n s cap l.length s2 cq K.length q.f q.s q.cap q.off V h.off h.len hkl
theorem ended_cx (n : Int) (s : Option Addr) (cap : Nat) (l : List Iq) (s2 : Option Addr) (cq : Nat) (K : List Vv) (q : Sd) (V : World) (h : SdM V q) (hkl : K.length ≤ 9223372036854775807) :
    Calls Try.prog 74 #[.agg #[.int .i64 n, .slice s l.length cap, .slice s2 K.length cq], .agg #[.int .i64 q.f.x, .int .i64 q.f.y, .int .i64 q.f.z, .slice q.s q.off.length q.cap]] V fun e w' => e = .returned (.bool (q.fit n K.length)) ∧ Below V.heap.size V w' :=
  isSched_c n s cap l.length s2 cq K.length q V h hkl
set_option maxRecDepth 100000 in
set_option maxHeartbeats 1000000 in
theorem result_c (n : Int) (s : Option Addr) (cap : Nat) (l : List Iq) (s2 : Option Addr) (cq : Nat) (K : List Vv) (q : Sd) (w : World) (hr : RecM w s l s2 cq K) (hq : SdM w q) :
    Calls Try.prog 86 #[.agg #[.int .i64 n, .slice s l.length cap, .slice s2 K.length cq], .agg #[.int .i64 q.f.x, .int .i64 q.f.y, .int .i64 q.f.z, .slice q.s q.off.length q.cap]] w fun e w' => e = .returned (.tuple #[.agg #[.int .i64 (if q.fit n K.length then q.f else ⟨0, 0, 0⟩).x, .int .i64 (if q.fit n K.length then q.f else ⟨0, 0, 0⟩).y, .int .i64 (if q.fit n K.length then q.f else ⟨0, 0, 0⟩).z, .slice (if q.fit n K.length then q.s else none) (if q.fit n K.length then q.off else []).length (if q.fit n K.length then q.cap else 0)], .int .i64 (if q.fit n K.length then 0 else 4)]) ∧ Below w.heap.size w w' := by
  have hkl := hr.len
  have hf := fun V (h : SdM V q) => result_cx n s cap l s2 cq K q V h hkl
  obtain ⟨B, hB0⟩ : ∃ x, q.fit n K.length = x := ⟨_, rfl⟩
  simp only [hB0] at hf ⊢
  clear hB0
  replace hf := Lib.hid hf
  cases B
  · go_enter Try.func86, Try.ntmps86
    go_upto_region 1 with (fail)
    refine wp_world fun W HW => ?_
    have hB : Below w.heap.size w W := by rw [HW.out]; (repeat (first | exact Below.refl _ _ | refine Below.alloc ?_ (by simp; try omega) _ | refine Below.setCell ?_ (by simp) _ | refine Below.drew ?_))
    have d0 : W.cell? ⟨w.heap.size, 0, none⟩ = some (.int .i64 n) := by rw [HW.out]; simp [go_sem]
    have d1 : W.cell? ⟨w.heap.size, 1, none⟩ = some (.slice s l.length cap) := by rw [HW.out]; simp [go_sem]
    have d2 : W.cell? ⟨w.heap.size, 2, none⟩ = some (.slice s2 K.length cq) := by rw [HW.out]; simp [go_sem]
    have dl : w.heap.size < W.heap.size := World.block_lt_of_cell? W _ d0
    have g0 : W.cell? ⟨w.heap.size + 1, 0, none⟩ = some (.int .i64 q.f.x) := by rw [HW.out]; simp [go_sem]
    have g1 : W.cell? ⟨w.heap.size + 1, 1, none⟩ = some (.int .i64 q.f.y) := by rw [HW.out]; simp [go_sem]
    have g2 : W.cell? ⟨w.heap.size + 1, 2, none⟩ = some (.int .i64 q.f.z) := by rw [HW.out]; simp [go_sem]
    have g3 : W.cell? ⟨w.heap.size + 1, 3, none⟩ = some (.slice q.s q.off.length q.cap) := by rw [HW.out]; simp [go_sem]
    have gl : w.heap.size + 1 < W.heap.size := World.block_lt_of_cell? W _ g0
    have rB : Row W (w.heap.size + 2) 32 #[.int .i64 0, .int .i64 0, .int .i64 0, .slice none 0 0] := (by rw [HW.out]; (repeat (first | (refine blk_new ?_; simp; done) | refine blk_old ?_ _)) : W.heap[w.heap.size + 2]? = some (.cells #[.int .i64 0, .int .i64 0, .int .i64 0, .slice none 0 0] 32 (0, 0)))
    have r0 : W.cell? ⟨w.heap.size + 2, 0, none⟩ = some (.int .i64 0) := by rw [HW.out]; simp [go_sem]
    have r1 : W.cell? ⟨w.heap.size + 2, 1, none⟩ = some (.int .i64 0) := by rw [HW.out]; simp [go_sem]
    have r2 : W.cell? ⟨w.heap.size + 2, 2, none⟩ = some (.int .i64 0) := by rw [HW.out]; simp [go_sem]
    have r3 : W.cell? ⟨w.heap.size + 2, 3, none⟩ = some (.slice none 0 0) := by rw [HW.out]; simp [go_sem]
    have rl : w.heap.size + 2 < W.heap.size := World.block_lt_of_cell? W _ r0
    try replace hr := up_of hB hr
    try replace hq := up_of hB hq
    go_upto_region 2 with (first | (go_at_call 72; refine (hf.out _ hq).mono ?_; rintro e W1 ⟨rfl, hb⟩; (try replace hr := up_of hb hr); (try replace hq := up_of hb hq); (try replace hB := up_of hb hB); (try replace d0 := up_of hb d0); (try replace d1 := up_of hb d1); (try replace d2 := up_of hb d2); (try replace dl := up_of hb dl); (try replace g0 := up_of hb g0); (try replace g1 := up_of hb g1); (try replace g2 := up_of hb g2); (try replace g3 := up_of hb g3); (try replace gl := up_of hb gl); (try replace rB := up_of hb rB); (try replace r0 := up_of hb r0); (try replace r1 := up_of hb r1); (try replace r2 := up_of hb r2); (try replace r3 := up_of hb r3); (try replace rl := up_of hb rl)))
    have rf := fun i => Row.frozen rB i
    go_wp2
    refine bodyPost_ret (results_cell_tmp' rfl rfl rfl (load_sd (cs := #[.int .i64 0, .int .i64 0, .int .i64 0, .slice none 0 0]) (b1 := w.heap.size + 2) ?_ rfl)) rfl ⟨rfl, ?_⟩
    · refine Row.of ?_
      repeat (first | (with_reducible refine RowG.base rB ?_) | (with_reducible refine RowG.drew ?_) | (with_reducible refine RowG.set ?_) | ((with_reducible refine RowG.other ?_ ?_); (focus (first | omega | (simp; done) | (simp; omega)))) | (with_reducible refine RowG.alloc ?_))
      rfl
    · repeat (first | (with_reducible exact hB) | (with_reducible refine Below.drew ?_) | ((with_reducible refine Below.setC ?_ ?_); (focus (first | omega | (simp; done) | (simp; omega)))) | ((with_reducible refine Below.allo ?_ ?_); (focus (first | omega | (simp; done) | (simp; omega)))))
  · go_enter Try.func86, Try.ntmps86
    go_upto_region 1 with (fail)
    refine wp_world fun W HW => ?_
    have hB : Below w.heap.size w W := by rw [HW.out]; (repeat (first | exact Below.refl _ _ | refine Below.alloc ?_ (by simp; try omega) _ | refine Below.setCell ?_ (by simp) _ | refine Below.drew ?_))
    have d0 : W.cell? ⟨w.heap.size, 0, none⟩ = some (.int .i64 n) := by rw [HW.out]; simp [go_sem]
    have d1 : W.cell? ⟨w.heap.size, 1, none⟩ = some (.slice s l.length cap) := by rw [HW.out]; simp [go_sem]
    have d2 : W.cell? ⟨w.heap.size, 2, none⟩ = some (.slice s2 K.length cq) := by rw [HW.out]; simp [go_sem]
    have dl : w.heap.size < W.heap.size := World.block_lt_of_cell? W _ d0
    have g0 : W.cell? ⟨w.heap.size + 1, 0, none⟩ = some (.int .i64 q.f.x) := by rw [HW.out]; simp [go_sem]
    have g1 : W.cell? ⟨w.heap.size + 1, 1, none⟩ = some (.int .i64 q.f.y) := by rw [HW.out]; simp [go_sem]
    have g2 : W.cell? ⟨w.heap.size + 1, 2, none⟩ = some (.int .i64 q.f.z) := by rw [HW.out]; simp [go_sem]
    have g3 : W.cell? ⟨w.heap.size + 1, 3, none⟩ = some (.slice q.s q.off.length q.cap) := by rw [HW.out]; simp [go_sem]
    have gl : w.heap.size + 1 < W.heap.size := World.block_lt_of_cell? W _ g0
    have rB : Row W (w.heap.size + 2) 32 #[.int .i64 0, .int .i64 0, .int .i64 0, .slice none 0 0] := (by rw [HW.out]; (repeat (first | (refine blk_new ?_; simp; done) | refine blk_old ?_ _)) : W.heap[w.heap.size + 2]? = some (.cells #[.int .i64 0, .int .i64 0, .int .i64 0, .slice none 0 0] 32 (0, 0)))
    have r0 : W.cell? ⟨w.heap.size + 2, 0, none⟩ = some (.int .i64 0) := by rw [HW.out]; simp [go_sem]
    have r1 : W.cell? ⟨w.heap.size + 2, 1, none⟩ = some (.int .i64 0) := by rw [HW.out]; simp [go_sem]
    have r2 : W.cell? ⟨w.heap.size + 2, 2, none⟩ = some (.int .i64 0) := by rw [HW.out]; simp [go_sem]
    have r3 : W.cell? ⟨w.heap.size + 2, 3, none⟩ = some (.slice none 0 0) := by rw [HW.out]; simp [go_sem]
    have rl : w.heap.size + 2 < W.heap.size := World.block_lt_of_cell? W _ r0
    try replace hr := up_of hB hr
    try replace hq := up_of hB hq
    go_upto_region 3 with (first | (go_at_call 72; refine (hf.out _ hq).mono ?_; rintro e W1 ⟨rfl, hb⟩; (try replace hr := up_of hb hr); (try replace hq := up_of hb hq); (try replace hB := up_of hb hB); (try replace d0 := up_of hb d0); (try replace d1 := up_of hb d1); (try replace d2 := up_of hb d2); (try replace dl := up_of hb dl); (try replace g0 := up_of hb g0); (try replace g1 := up_of hb g1); (try replace g2 := up_of hb g2); (try replace g3 := up_of hb g3); (try replace gl := up_of hb gl); (try replace rB := up_of hb rB); (try replace r0 := up_of hb r0); (try replace r1 := up_of hb r1); (try replace r2 := up_of hb r2); (try replace r3 := up_of hb r3); (try replace rl := up_of hb rl)))
    have rf := fun i => Row.frozen rB i
    go_wp2
    refine bodyPost_ret (results_cell_tmp' rfl rfl rfl (load_sd (cs := #[.int .i64 q.f.x, .int .i64 q.f.y, .int .i64 q.f.z, .slice q.s q.off.length q.cap]) (b1 := w.heap.size + 2) ?_ rfl)) rfl ⟨rfl, ?_⟩
    · refine Row.of ?_
      repeat (first | (with_reducible refine RowG.base rB ?_) | (with_reducible refine RowG.drew ?_) | (with_reducible refine RowG.set ?_) | ((with_reducible refine RowG.other ?_ ?_); (focus (first | omega | (simp; done) | (simp; omega)))) | (with_reducible refine RowG.alloc ?_))
      rfl
    · repeat (first | (with_reducible exact hB) | (with_reducible refine Below.drew ?_) | ((with_reducible refine Below.setC ?_ ?_); (focus (first | omega | (simp; done) | (simp; omega)))) | ((with_reducible refine Below.allo ?_ ?_); (focus (first | omega | (simp; done) | (simp; omega)))))
set_option maxRecDepth 100000 in
set_option maxHeartbeats 1000000 in
theorem ended_c (n : Int) (s : Option Addr) (cap : Nat) (l : List Iq) (s2 : Option Addr) (cq : Nat) (K : List Vv) (q : Sd) (w : World) (hr : RecM w s l s2 cq K) (hq : SdM w q) :
    Calls Try.prog 87 #[.agg #[.int .i64 n, .slice s l.length cap, .slice s2 K.length cq], .agg #[.int .i64 q.f.x, .int .i64 q.f.y, .int .i64 q.f.z, .slice q.s q.off.length q.cap]] w fun e w' => e = .returned (.tuple #[.agg #[.int .i64 (if q.fit n K.length then q.f else ⟨0, 0, 0⟩).x, .int .i64 (if q.fit n K.length then q.f else ⟨0, 0, 0⟩).y, .int .i64 (if q.fit n K.length then q.f else ⟨0, 0, 0⟩).z, .slice (if q.fit n K.length then q.s else none) (if q.fit n K.length then q.off else []).length (if q.fit n K.length then q.cap else 0)], .int .i64 (if q.fit n K.length then 0 else 4)]) ∧ Below w.heap.size w w' := by
  have hkl := hr.len
  have hf := fun V (h : SdM V q) => ended_cx n s cap l s2 cq K q V h hkl
  obtain ⟨B, hB0⟩ : ∃ x, q.fit n K.length = x := ⟨_, rfl⟩
  simp only [hB0] at hf ⊢
  clear hB0
  replace hf := Lib.hid hf
  cases B
  · go_enter Try.func87, Try.ntmps87
    go_upto_region 1 with (fail)
    refine wp_world fun W HW => ?_
    have hB : Below w.heap.size w W := by rw [HW.out]; (repeat (first | exact Below.refl _ _ | refine Below.alloc ?_ (by simp; try omega) _ | refine Below.setCell ?_ (by simp) _ | refine Below.drew ?_))
    have d0 : W.cell? ⟨w.heap.size, 0, none⟩ = some (.int .i64 n) := by rw [HW.out]; simp [go_sem]
    have d1 : W.cell? ⟨w.heap.size, 1, none⟩ = some (.slice s l.length cap) := by rw [HW.out]; simp [go_sem]
    have d2 : W.cell? ⟨w.heap.size, 2, none⟩ = some (.slice s2 K.length cq) := by rw [HW.out]; simp [go_sem]
    have dl : w.heap.size < W.heap.size := World.block_lt_of_cell? W _ d0
    have g0 : W.cell? ⟨w.heap.size + 1, 0, none⟩ = some (.int .i64 q.f.x) := by rw [HW.out]; simp [go_sem]
    have g1 : W.cell? ⟨w.heap.size + 1, 1, none⟩ = some (.int .i64 q.f.y) := by rw [HW.out]; simp [go_sem]
    have g2 : W.cell? ⟨w.heap.size + 1, 2, none⟩ = some (.int .i64 q.f.z) := by rw [HW.out]; simp [go_sem]
    have g3 : W.cell? ⟨w.heap.size + 1, 3, none⟩ = some (.slice q.s q.off.length q.cap) := by rw [HW.out]; simp [go_sem]
    have gl : w.heap.size + 1 < W.heap.size := World.block_lt_of_cell? W _ g0
    have rB : Row W (w.heap.size + 2) 32 #[.int .i64 0, .int .i64 0, .int .i64 0, .slice none 0 0] := (by rw [HW.out]; (repeat (first | (refine blk_new ?_; simp; done) | refine blk_old ?_ _)) : W.heap[w.heap.size + 2]? = some (.cells #[.int .i64 0, .int .i64 0, .int .i64 0, .slice none 0 0] 32 (0, 0)))
    have r0 : W.cell? ⟨w.heap.size + 2, 0, none⟩ = some (.int .i64 0) := by rw [HW.out]; simp [go_sem]
    have r1 : W.cell? ⟨w.heap.size + 2, 1, none⟩ = some (.int .i64 0) := by rw [HW.out]; simp [go_sem]
    have r2 : W.cell? ⟨w.heap.size + 2, 2, none⟩ = some (.int .i64 0) := by rw [HW.out]; simp [go_sem]
    have r3 : W.cell? ⟨w.heap.size + 2, 3, none⟩ = some (.slice none 0 0) := by rw [HW.out]; simp [go_sem]
    have rl : w.heap.size + 2 < W.heap.size := World.block_lt_of_cell? W _ r0
    try replace hr := up_of hB hr
    try replace hq := up_of hB hq
    go_upto_region 2 with (first | (go_at_call 74; refine (hf.out _ hq).mono ?_; rintro e W1 ⟨rfl, hb⟩; (try replace hr := up_of hb hr); (try replace hq := up_of hb hq); (try replace hB := up_of hb hB); (try replace d0 := up_of hb d0); (try replace d1 := up_of hb d1); (try replace d2 := up_of hb d2); (try replace dl := up_of hb dl); (try replace g0 := up_of hb g0); (try replace g1 := up_of hb g1); (try replace g2 := up_of hb g2); (try replace g3 := up_of hb g3); (try replace gl := up_of hb gl); (try replace rB := up_of hb rB); (try replace r0 := up_of hb r0); (try replace r1 := up_of hb r1); (try replace r2 := up_of hb r2); (try replace r3 := up_of hb r3); (try replace rl := up_of hb rl)))
    have rf := fun i => Row.frozen rB i
    go_wp2
    refine bodyPost_ret (results_cell_tmp' rfl rfl rfl (load_sd (cs := #[.int .i64 0, .int .i64 0, .int .i64 0, .slice none 0 0]) (b1 := w.heap.size + 2) ?_ rfl)) rfl ⟨rfl, ?_⟩
    · refine Row.of ?_
      repeat (first | (with_reducible refine RowG.base rB ?_) | (with_reducible refine RowG.drew ?_) | (with_reducible refine RowG.set ?_) | ((with_reducible refine RowG.other ?_ ?_); (focus (first | omega | (simp; done) | (simp; omega)))) | (with_reducible refine RowG.alloc ?_))
      rfl
    · repeat (first | (with_reducible exact hB) | (with_reducible refine Below.drew ?_) | ((with_reducible refine Below.setC ?_ ?_); (focus (first | omega | (simp; done) | (simp; omega)))) | ((with_reducible refine Below.allo ?_ ?_); (focus (first | omega | (simp; done) | (simp; omega)))))
  · go_enter Try.func87, Try.ntmps87
    go_upto_region 1 with (fail)
    refine wp_world fun W HW => ?_
    have hB : Below w.heap.size w W := by rw [HW.out]; (repeat (first | exact Below.refl _ _ | refine Below.alloc ?_ (by simp; try omega) _ | refine Below.setCell ?_ (by simp) _ | refine Below.drew ?_))
    have d0 : W.cell? ⟨w.heap.size, 0, none⟩ = some (.int .i64 n) := by rw [HW.out]; simp [go_sem]
    have d1 : W.cell? ⟨w.heap.size, 1, none⟩ = some (.slice s l.length cap) := by rw [HW.out]; simp [go_sem]
    have d2 : W.cell? ⟨w.heap.size, 2, none⟩ = some (.slice s2 K.length cq) := by rw [HW.out]; simp [go_sem]
    have dl : w.heap.size < W.heap.size := World.block_lt_of_cell? W _ d0
    have g0 : W.cell? ⟨w.heap.size + 1, 0, none⟩ = some (.int .i64 q.f.x) := by rw [HW.out]; simp [go_sem]
    have g1 : W.cell? ⟨w.heap.size + 1, 1, none⟩ = some (.int .i64 q.f.y) := by rw [HW.out]; simp [go_sem]
    have g2 : W.cell? ⟨w.heap.size + 1, 2, none⟩ = some (.int .i64 q.f.z) := by rw [HW.out]; simp [go_sem]
    have g3 : W.cell? ⟨w.heap.size + 1, 3, none⟩ = some (.slice q.s q.off.length q.cap) := by rw [HW.out]; simp [go_sem]
    have gl : w.heap.size + 1 < W.heap.size := World.block_lt_of_cell? W _ g0
    have rB : Row W (w.heap.size + 2) 32 #[.int .i64 0, .int .i64 0, .int .i64 0, .slice none 0 0] := (by rw [HW.out]; (repeat (first | (refine blk_new ?_; simp; done) | refine blk_old ?_ _)) : W.heap[w.heap.size + 2]? = some (.cells #[.int .i64 0, .int .i64 0, .int .i64 0, .slice none 0 0] 32 (0, 0)))
    have r0 : W.cell? ⟨w.heap.size + 2, 0, none⟩ = some (.int .i64 0) := by rw [HW.out]; simp [go_sem]
    have r1 : W.cell? ⟨w.heap.size + 2, 1, none⟩ = some (.int .i64 0) := by rw [HW.out]; simp [go_sem]
    have r2 : W.cell? ⟨w.heap.size + 2, 2, none⟩ = some (.int .i64 0) := by rw [HW.out]; simp [go_sem]
    have r3 : W.cell? ⟨w.heap.size + 2, 3, none⟩ = some (.slice none 0 0) := by rw [HW.out]; simp [go_sem]
    have rl : w.heap.size + 2 < W.heap.size := World.block_lt_of_cell? W _ r0
    try replace hr := up_of hB hr
    try replace hq := up_of hB hq
    go_upto_region 3 with (first | (go_at_call 74; refine (hf.out _ hq).mono ?_; rintro e W1 ⟨rfl, hb⟩; (try replace hr := up_of hb hr); (try replace hq := up_of hb hq); (try replace hB := up_of hb hB); (try replace d0 := up_of hb d0); (try replace d1 := up_of hb d1); (try replace d2 := up_of hb d2); (try replace dl := up_of hb dl); (try replace g0 := up_of hb g0); (try replace g1 := up_of hb g1); (try replace g2 := up_of hb g2); (try replace g3 := up_of hb g3); (try replace gl := up_of hb gl); (try replace rB := up_of hb rB); (try replace r0 := up_of hb r0); (try replace r1 := up_of hb r1); (try replace r2 := up_of hb r2); (try replace r3 := up_of hb r3); (try replace rl := up_of hb rl)))
    have rf := fun i => Row.frozen rB i
    go_wp2
    refine bodyPost_ret (results_cell_tmp' rfl rfl rfl (load_sd (cs := #[.int .i64 q.f.x, .int .i64 q.f.y, .int .i64 q.f.z, .slice q.s q.off.length q.cap]) (b1 := w.heap.size + 2) ?_ rfl)) rfl ⟨rfl, ?_⟩
    · refine Row.of ?_
      repeat (first | (with_reducible refine RowG.base rB ?_) | (with_reducible refine RowG.drew ?_) | (with_reducible refine RowG.set ?_) | ((with_reducible refine RowG.other ?_ ?_); (focus (first | omega | (simp; done) | (simp; omega)))) | (with_reducible refine RowG.alloc ?_))
      rfl
    · repeat (first | (with_reducible exact hB) | (with_reducible refine Below.drew ?_) | ((with_reducible refine Below.setC ?_ ?_); (focus (first | omega | (simp; done) | (simp; omega)))) | ((with_reducible refine Below.allo ?_ ?_); (focus (first | omega | (simp; done) | (simp; omega)))))
theorem result_r (n : Int) (s : Option Addr) (cap : Nat) (l : List Iq) (s2 : Option Addr) (cq : Nat) (K : List Vv) (f : Pt) (off : List Int) (g : Option Addr) (c : Nat) (w : World) (hr : RecM w s l s2 cq K) (hq : SlS intE w g off) (hl : off.length ≤ 9223372036854775807) {B : Bool} (hfit : fitB n K.length f off = B) :
    Calls Try.prog 86 #[.agg #[.int .i64 n, .slice s l.length cap, .slice s2 K.length cq], .agg #[.int .i64 f.x, .int .i64 f.y, .int .i64 f.z, .slice g off.length c]] w fun e w' => (∃ S C, e = .returned (.tuple #[.agg #[.int .i64 (if B then f else ⟨0, 0, 0⟩).x, .int .i64 (if B then f else ⟨0, 0, 0⟩).y, .int .i64 (if B then f else ⟨0, 0, 0⟩).z, .slice S (if B then off else []).length C], .int .i64 (if B then 0 else 4)]) ∧ ∀ X, SlS intE X g off → SlS intE X S (if B then off else [])) ∧ Below w.heap.size w w' := by
  refine (result_c n s cap l s2 cq K ⟨f, off, g, c⟩ w hr ⟨hq, hl⟩).mono ?_
  rintro e w' ⟨rfl, hb⟩
  have hf : Sd.fit n K.length ⟨f, off, g, c⟩ = B := hfit
  simp only [hf]
  exact ⟨⟨_, _, rfl, fun X h => by cases B; exact SlS.nil; exact h⟩, hb⟩
theorem ended_r (n : Int) (s : Option Addr) (cap : Nat) (l : List Iq) (s2 : Option Addr) (cq : Nat) (K : List Vv) (f : Pt) (off : List Int) (g : Option Addr) (c : Nat) (w : World) (hr : RecM w s l s2 cq K) (hq : SlS intE w g off) (hl : off.length ≤ 9223372036854775807) {B : Bool} (hfit : fitB n K.length f off = B) :
    Calls Try.prog 87 #[.agg #[.int .i64 n, .slice s l.length cap, .slice s2 K.length cq], .agg #[.int .i64 f.x, .int .i64 f.y, .int .i64 f.z, .slice g off.length c]] w fun e w' => (∃ S C, e = .returned (.tuple #[.agg #[.int .i64 (if B then f else ⟨0, 0, 0⟩).x, .int .i64 (if B then f else ⟨0, 0, 0⟩).y, .int .i64 (if B then f else ⟨0, 0, 0⟩).z, .slice S (if B then off else []).length C], .int .i64 (if B then 0 else 4)]) ∧ ∀ X, SlS intE X g off → SlS intE X S (if B then off else [])) ∧ Below w.heap.size w w' := by
  refine (ended_c n s cap l s2 cq K ⟨f, off, g, c⟩ w hr ⟨hq, hl⟩).mono ?_
  rintro e w' ⟨rfl, hb⟩
  have hf : Sd.fit n K.length ⟨f, off, g, c⟩ = B := hfit
  simp only [hf]
  exact ⟨⟨_, _, rfl, fun X h => by cases B; exact SlS.nil; exact h⟩, hb⟩
end Go.Proofs.Ytbpdgoedglkefaa
