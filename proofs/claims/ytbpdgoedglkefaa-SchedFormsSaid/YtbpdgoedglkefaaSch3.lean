/- Schedules: what is asked, the reference; valid ones, both. -/
import Derived.Test.YtbpdgoedglkefaaSch2
namespace Go.Proofs.Ytbpdgoedglkefaa
open Go.RowKit

set_option maxRecDepth 100000 in
theorem rIsForm_c (n : Int) (s : Option Addr) (cap len : Nat) (s2 : Option Addr) (cq nv : Nat) (f : Pt) (w : World) :
    Calls Try.prog 119 #[.agg #[.int .i64 n, .slice s len cap, .slice s2 nv cq], .agg #[.int .i64 f.x, .int .i64 f.y, .int .i64 f.z]] w fun e w' => e = .returned (.bool (flatB f n 9)) ∧ Below w.heap.size w w' := by
  have hf := fun V => Flat_c f n 9 V (by omega) (by omega)
  replace hf := Lib.hid hf
  go_enter Try.func119, Try.ntmps119
  go_upto_region 1 with (fail)
  refine wp_world fun W HW => ?_
  have hB : Below w.heap.size w W := by rw [HW.out]; (repeat (first | exact Below.refl _ _ | refine Below.alloc ?_ (by simp; try omega) _ | refine Below.setCell ?_ (by simp) _ | refine Below.drew ?_))
  have d0 : W.cell? ⟨w.heap.size, 0, none⟩ = some (.int .i64 n) := by rw [HW.out]; simp [go_sem]
  have d1 : W.cell? ⟨w.heap.size, 1, none⟩ = some (.slice s len cap) := by rw [HW.out]; simp [go_sem]
  have d2 : W.cell? ⟨w.heap.size, 2, none⟩ = some (.slice s2 nv cq) := by rw [HW.out]; simp [go_sem]
  have dl : w.heap.size < W.heap.size := World.block_lt_of_cell? W _ d0
  have g0 : W.cell? ⟨w.heap.size + 1, 0, none⟩ = some (.int .i64 f.x) := by rw [HW.out]; simp [go_sem]
  have g1 : W.cell? ⟨w.heap.size + 1, 1, none⟩ = some (.int .i64 f.y) := by rw [HW.out]; simp [go_sem]
  have g2 : W.cell? ⟨w.heap.size + 1, 2, none⟩ = some (.int .i64 f.z) := by rw [HW.out]; simp [go_sem]
  have gl : w.heap.size + 1 < W.heap.size := World.block_lt_of_cell? W _ g0
  go_wp2_with (first | (go_at_call 46; refine (hf.out _).mono ?_; rintro e W1 ⟨rfl, hb⟩; (try replace hB := up_of hb hB); (try replace d0 := up_of hb d0); (try replace d1 := up_of hb d1); (try replace d2 := up_of hb d2); (try replace dl := up_of hb dl); (try replace g0 := up_of hb g0); (try replace g1 := up_of hb g1); (try replace g2 := up_of hb g2); (try replace gl := up_of hb gl)))
  go_ret
  exact ⟨rfl, hB⟩
theorem off_no {l : List Int} {j : Nat} (h : j < l.length) (hf : bw 0 l[j] 1000 = false) : offB l = false := by
  unfold offB
  cases hh : l.all fun x => bw 0 x 1000
  · rfl
  · rw [List.all_eq_true] at hh; rw [hh _ (List.getElem_mem h)] at hf; cases hf
theorem off_yes {l : List Int} (h : ∀ j (hj : j < l.length), bw 0 l[j] 1000 = true) : offB l = true := by
  unfold offB
  rw [List.all_eq_true]; intro x hx; obtain ⟨i, hi, rfl⟩ := List.getElem_of_mem hx; exact h i hi
set_option maxRecDepth 100000 in
set_option maxHeartbeats 1000000 in
theorem isSched_c (n : Int) (s : Option Addr) (cap len : Nat) (s2 : Option Addr) (cq nv : Nat) (q : Sd) (w : World) (hq : SdM w q) (_hnv : nv ≤ 9223372036854775807) :
    Calls Try.prog 74 #[.agg #[.int .i64 n, .slice s len cap, .slice s2 nv cq], .agg #[.int .i64 q.f.x, .int .i64 q.f.y, .int .i64 q.f.z, .slice q.s q.off.length q.cap]] w fun e w' => e = .returned (.bool (q.fit n nv)) ∧ Below w.heap.size w w' := by
  have hf := fun V => rIsForm_c n s cap len s2 cq nv q.f V
  unfold Sd.fit fitB
  have hno := fun (j : Nat) (hj : j < q.off.length) => off_no hj
  have hyes := off_yes (l := q.off)
  have hql := hq.len
  obtain ⟨FB, hF0⟩ : ∃ x, flatB q.f n 9 = x := ⟨_, rfl⟩
  obtain ⟨OB, hO0⟩ : ∃ x, offB q.off = x := ⟨_, rfl⟩
  simp only [hF0] at hf ⊢
  simp only [hO0] at hno hyes ⊢
  clear hF0 hO0
  replace hf := Lib.hid hf; replace hno := Lib.hid hno; replace hyes := Lib.hid hyes
  go_enter Try.func74, Try.ntmps74
  go_upto_region 1 with (fail)
  refine wp_world fun W HW => ?_
  have hB : Below w.heap.size w W := by rw [HW.out]; (repeat (first | exact Below.refl _ _ | refine Below.alloc ?_ (by simp; try omega) _ | refine Below.setCell ?_ (by simp) _ | refine Below.drew ?_))
  have d0 : W.cell? ⟨w.heap.size, 0, none⟩ = some (.int .i64 n) := by rw [HW.out]; simp [go_sem]
  have d1 : W.cell? ⟨w.heap.size, 1, none⟩ = some (.slice s len cap) := by rw [HW.out]; simp [go_sem]
  have d2 : W.cell? ⟨w.heap.size, 2, none⟩ = some (.slice s2 nv cq) := by rw [HW.out]; simp [go_sem]
  have dl : w.heap.size < W.heap.size := World.block_lt_of_cell? W _ d0
  have g0 : W.cell? ⟨w.heap.size + 1, 0, none⟩ = some (.int .i64 q.f.x) := by rw [HW.out]; simp [go_sem]
  have g1 : W.cell? ⟨w.heap.size + 1, 1, none⟩ = some (.int .i64 q.f.y) := by rw [HW.out]; simp [go_sem]
  have g2 : W.cell? ⟨w.heap.size + 1, 2, none⟩ = some (.int .i64 q.f.z) := by rw [HW.out]; simp [go_sem]
  have g3 : W.cell? ⟨w.heap.size + 1, 3, none⟩ = some (.slice q.s q.off.length q.cap) := by rw [HW.out]; simp [go_sem]
  have gl : w.heap.size + 1 < W.heap.size := World.block_lt_of_cell? W _ g0
  try replace hq := up_of hB hq
  go_wp2
  go_loop [10] (fun ii => ∃ i : Nat, i ≤ q.off.length ∧ ii = .int .i64 i ∧ Hid (∀ j (hj : j < q.off.length), j < i → bw 0 q.off[j] 1000 = true)) (fun ii => q.off.length - (intOf ii).toNat)
  case atStart => exact ⟨0, by omega, rfl, fun j hj h => absurd h (by omega)⟩
  case round =>
    obtain ⟨i, hi, rfl, hall⟩ := hrel
    by_cases hlt : i < q.off.length
    · obtain ⟨b, off, e1, hb, q0⟩ := hq.off.int_at hlt
      have hbad := hno.out i hlt
      have hgood : bw 0 q.off[i] 1000 = true → ∀ j (hj : j < q.off.length), j < i + 1 → bw 0 q.off[j] 1000 = true := fun h j hj hj2 => by
        by_cases hj3 : j < i
        · exact hall.out j hj hj3
        · obtain rfl : j = i := by omega
          exact h
      obtain ⟨x, hx⟩ : ∃ x, q.off[i] = x := ⟨_, rfl⟩
      rw [hx] at q0 hbad hgood
      clear hx hall
      have i1 : (i : Int) < (q.off.length : Int) := by omega
      have i0 : (0 : Int) ≤ (i : Int) := by omega
      rw [e1] at *
      by_cases hx0 : x < 0
      · obtain rfl := hbad (by simp [bw]; omega)
        clear hgood
        go_wp2
        go_ret
        exact ⟨ret_bool (by simp), hB⟩
      by_cases hx1 : 1000 < x
      · obtain rfl := hbad (by simp [bw]; omega)
        clear hgood
        go_wp2
        go_ret
        exact ⟨ret_bool (by simp), hB⟩
      have hok := Lib.hid (hgood (by rw [bw_iff]; omega))
      clear hbad hgood
      go_wp2
      go_round
      case rel => exact ⟨i + 1, by omega, by go_num, hok⟩
      case measure => exact meas hlt
    · obtain rfl : i = q.off.length := by omega
      obtain rfl := hyes.out (fun j hj => hall.out j hj hj)
      clear hall
      cases FB
      · go_wp2_with (first | (go_at_call 119; refine (hf.out _).mono ?_; rintro e W1 ⟨rfl, hb⟩; (try replace hq := up_of hb hq); (try replace hB := up_of hb hB); (try replace d0 := up_of hb d0); (try replace d1 := up_of hb d1); (try replace d2 := up_of hb d2); (try replace dl := up_of hb dl); (try replace g0 := up_of hb g0); (try replace g1 := up_of hb g1); (try replace g2 := up_of hb g2); (try replace g3 := up_of hb g3); (try replace gl := up_of hb gl)))
        go_ret
        exact ⟨ret_bool (by simp), hB⟩
      · go_wp2_with (first | (go_at_call 119; refine (hf.out _).mono ?_; rintro e W1 ⟨rfl, hb⟩; (try replace hq := up_of hb hq); (try replace hB := up_of hb hB); (try replace d0 := up_of hb d0); (try replace d1 := up_of hb d1); (try replace d2 := up_of hb d2); (try replace dl := up_of hb dl); (try replace g0 := up_of hb g0); (try replace g1 := up_of hb g1); (try replace g2 := up_of hb g2); (try replace g3 := up_of hb g3); (try replace gl := up_of hb gl)))
        go_ret
        exact ⟨ret_bool (by
          by_cases hl : q.off.length = nv
          · simp [hl]
          · have h2 : ¬ ((q.off.length : Int) = (nv : Int)) := by omega
            simp [hl]
            try exact h2), hB⟩
set_option maxRecDepth 100000 in
set_option maxHeartbeats 1000000 in
theorem Asked_c (n : Int) (s : Option Addr) (cap : Nat) (l : List Iq) (s2 : Option Addr) (cq : Nat) (K : List Vv) (q : Sd) (w : World) (hr : RecM w s l s2 cq K) (hq : SdM w q) :
    Calls Try.prog 61 #[.agg #[.int .i64 n, .slice s l.length cap, .slice s2 K.length cq], .agg #[.int .i64 q.f.x, .int .i64 q.f.y, .int .i64 q.f.z, .slice q.s q.off.length q.cap]] w fun e w' => e = .returned (.int .i64 (chkE n l K [q])) ∧ Below w.heap.size w w' := by
  have hv := fun V (h : RecM V s l s2 cq K) => h.isRec n cap
  have hkl := hr.len
  have hc := fun V (h : SdM V q) => isSched_c n s cap l.length s2 cq K.length q V h hkl
  have han : chkE n l K [q] = if recB n l K then (if q.fit n K.length then 0 else 30) else 20 := by unfold chkE; simp
  rw [han]
  obtain ⟨B, hB0⟩ : ∃ x, recB n l K = x := ⟨_, rfl⟩
  obtain ⟨C, hC0⟩ : ∃ x, q.fit n K.length = x := ⟨_, rfl⟩
  simp only [hB0] at hv ⊢
  simp only [hC0] at hc ⊢
  clear hB0 hC0 han
  replace hv := Lib.hid hv; replace hc := Lib.hid hc
  cases B
  all_goals
    cases C
    all_goals
      go_enter Try.func61, Try.ntmps61
      go_upto_region 1 with (fail)
      refine wp_world fun W HW => ?_
      have hB : Below w.heap.size w W := by rw [HW.out]; (repeat (first | exact Below.refl _ _ | refine Below.alloc ?_ (by simp; try omega) _ | refine Below.setCell ?_ (by simp) _ | refine Below.drew ?_))
      have d0 : W.cell? ⟨w.heap.size, 0, none⟩ = some (.int .i64 n) := by rw [HW.out]; simp [go_sem]
      have d1 : W.cell? ⟨w.heap.size, 1, none⟩ = some (.slice s l.length cap) := by rw [HW.out]; simp [go_sem]
      have d2 : W.cell? ⟨w.heap.size, 2, none⟩ = some (.slice s2 K.length cq) := by rw [HW.out]; simp [go_sem]
      have dl : w.heap.size < W.heap.size := World.block_lt_of_cell? W _ d0
      have g0 : W.cell? ⟨w.heap.size + 1, 0, none⟩ = some (.int .i64 q.f.x) := by rw [HW.out]; simp [go_sem]
      have g1 : W.cell? ⟨w.heap.size + 1, 1, none⟩ = some (.int .i64 q.f.y) := by rw [HW.out]; simp [go_sem]
      have g2 : W.cell? ⟨w.heap.size + 1, 2, none⟩ = some (.int .i64 q.f.z) := by rw [HW.out]; simp [go_sem]
      have g3 : W.cell? ⟨w.heap.size + 1, 3, none⟩ = some (.slice q.s q.off.length q.cap) := by rw [HW.out]; simp [go_sem]
      have gl : w.heap.size + 1 < W.heap.size := World.block_lt_of_cell? W _ g0
      try replace hr := up_of hB hr
      try replace hq := up_of hB hq
      go_wp2_with (first | (go_at_call 73; refine (hv.out _ hr).mono ?_; rintro e W1 ⟨rfl, hb⟩; (try replace hr := up_of hb hr); (try replace hq := up_of hb hq); (try replace hB := up_of hb hB); (try replace d0 := up_of hb d0); (try replace d1 := up_of hb d1); (try replace d2 := up_of hb d2); (try replace dl := up_of hb dl); (try replace g0 := up_of hb g0); (try replace g1 := up_of hb g1); (try replace g2 := up_of hb g2); (try replace g3 := up_of hb g3); (try replace gl := up_of hb gl)) | (go_at_call 74; refine (hc.out _ hq).mono ?_; rintro e W1 ⟨rfl, hb⟩; (try replace hr := up_of hb hr); (try replace hq := up_of hb hq); (try replace hB := up_of hb hB); (try replace d0 := up_of hb d0); (try replace d1 := up_of hb d1); (try replace d2 := up_of hb d2); (try replace dl := up_of hb dl); (try replace g0 := up_of hb g0); (try replace g1 := up_of hb g1); (try replace g2 := up_of hb g2); (try replace g3 := up_of hb g3); (try replace gl := up_of hb gl)))
      go_ret
      exact ⟨rfl, hB⟩
set_option maxRecDepth 100000 in
set_option maxHeartbeats 1000000 in
theorem schValid_c (n : Int) (s : Option Addr) (cap : Nat) (l : List Iq) (s2 : Option Addr) (cq : Nat) (K : List Vv) (q : Sd) (w : World) (hr : RecM w s l s2 cq K) (hq : SdM w q) :
    Calls Try.prog 29 #[.agg #[.int .i64 n, .slice s l.length cap, .slice s2 K.length cq], .agg #[.int .i64 q.f.x, .int .i64 q.f.y, .int .i64 q.f.z, .slice q.s q.off.length q.cap]] w fun e w' => e = .returned (.bool (recB n l K && q.fit n K.length)) ∧ Below w.heap.size w w' := by
  have hv := fun V (h : RecM V s l s2 cq K) => h.valid n cap
  have hkl := hr.len
  have hc := fun V (h : SdM V q) => fits_c n s cap l.length s2 cq K.length q.f q.s q.cap q.off V h.off h.len hkl
  unfold Sd.fit
  obtain ⟨B, hB0⟩ : ∃ x, recB n l K = x := ⟨_, rfl⟩
  obtain ⟨C, hC0⟩ : ∃ x, fitB n K.length q.f q.off = x := ⟨_, rfl⟩
  simp only [hB0] at hv ⊢
  simp only [hC0] at hc ⊢
  clear hB0 hC0
  replace hv := Lib.hid hv; replace hc := Lib.hid hc
  cases B
  all_goals
    go_enter Try.func29, Try.ntmps29
    go_upto_region 1 with (fail)
    refine wp_world fun W HW => ?_
    have hB : Below w.heap.size w W := by rw [HW.out]; (repeat (first | exact Below.refl _ _ | refine Below.alloc ?_ (by simp; try omega) _ | refine Below.setCell ?_ (by simp) _ | refine Below.drew ?_))
    have d0 : W.cell? ⟨w.heap.size, 0, none⟩ = some (.int .i64 n) := by rw [HW.out]; simp [go_sem]
    have d1 : W.cell? ⟨w.heap.size, 1, none⟩ = some (.slice s l.length cap) := by rw [HW.out]; simp [go_sem]
    have d2 : W.cell? ⟨w.heap.size, 2, none⟩ = some (.slice s2 K.length cq) := by rw [HW.out]; simp [go_sem]
    have dl : w.heap.size < W.heap.size := World.block_lt_of_cell? W _ d0
    have g0 : W.cell? ⟨w.heap.size + 1, 0, none⟩ = some (.int .i64 q.f.x) := by rw [HW.out]; simp [go_sem]
    have g1 : W.cell? ⟨w.heap.size + 1, 1, none⟩ = some (.int .i64 q.f.y) := by rw [HW.out]; simp [go_sem]
    have g2 : W.cell? ⟨w.heap.size + 1, 2, none⟩ = some (.int .i64 q.f.z) := by rw [HW.out]; simp [go_sem]
    have g3 : W.cell? ⟨w.heap.size + 1, 3, none⟩ = some (.slice q.s q.off.length q.cap) := by rw [HW.out]; simp [go_sem]
    have gl : w.heap.size + 1 < W.heap.size := World.block_lt_of_cell? W _ g0
    try replace hr := up_of hB hr
    try replace hq := up_of hB hq
    go_wp2_with (first | (go_at_call 71; refine (hv.out _ hr).mono ?_; rintro e W1 ⟨rfl, hb⟩; (try replace hr := up_of hb hr); (try replace hq := up_of hb hq); (try replace hB := up_of hb hB); (try replace d0 := up_of hb d0); (try replace d1 := up_of hb d1); (try replace d2 := up_of hb d2); (try replace dl := up_of hb dl); (try replace g0 := up_of hb g0); (try replace g1 := up_of hb g1); (try replace g2 := up_of hb g2); (try replace g3 := up_of hb g3); (try replace gl := up_of hb gl)) | (go_at_call 72; refine (hc.out _ hq).mono ?_; rintro e W1 ⟨rfl, hb⟩; (try replace hr := up_of hb hr); (try replace hq := up_of hb hq); (try replace hB := up_of hb hB); (try replace d0 := up_of hb d0); (try replace d1 := up_of hb d1); (try replace d2 := up_of hb d2); (try replace dl := up_of hb dl); (try replace g0 := up_of hb g0); (try replace g1 := up_of hb g1); (try replace g2 := up_of hb g2); (try replace g3 := up_of hb g3); (try replace gl := up_of hb gl)))
    go_ret
    exact ⟨ret_bool (by simp), hB⟩
set_option maxRecDepth 100000 in
set_option maxHeartbeats 1000000 in
theorem rSchValid_c (n : Int) (s : Option Addr) (cap : Nat) (l : List Iq) (s2 : Option Addr) (cq : Nat) (K : List Vv) (q : Sd) (w : World) (hr : RecM w s l s2 cq K) (hq : SdM w q) :
    Calls Try.prog 30 #[.agg #[.int .i64 n, .slice s l.length cap, .slice s2 K.length cq], .agg #[.int .i64 q.f.x, .int .i64 q.f.y, .int .i64 q.f.z, .slice q.s q.off.length q.cap]] w fun e w' => e = .returned (.bool (recB n l K && q.fit n K.length)) ∧ Below w.heap.size w w' := by
  have hv := fun V (h : RecM V s l s2 cq K) => h.isRec n cap
  have hkl := hr.len
  have hc := fun V (h : SdM V q) => isSched_c n s cap l.length s2 cq K.length q V h hkl
  obtain ⟨B, hB0⟩ : ∃ x, recB n l K = x := ⟨_, rfl⟩
  obtain ⟨C, hC0⟩ : ∃ x, q.fit n K.length = x := ⟨_, rfl⟩
  simp only [hB0] at hv ⊢
  simp only [hC0] at hc ⊢
  clear hB0 hC0
  replace hv := Lib.hid hv; replace hc := Lib.hid hc
  cases B
  all_goals
    go_enter Try.func30, Try.ntmps30
    go_upto_region 1 with (fail)
    refine wp_world fun W HW => ?_
    have hB : Below w.heap.size w W := by rw [HW.out]; (repeat (first | exact Below.refl _ _ | refine Below.alloc ?_ (by simp; try omega) _ | refine Below.setCell ?_ (by simp) _ | refine Below.drew ?_))
    have d0 : W.cell? ⟨w.heap.size, 0, none⟩ = some (.int .i64 n) := by rw [HW.out]; simp [go_sem]
    have d1 : W.cell? ⟨w.heap.size, 1, none⟩ = some (.slice s l.length cap) := by rw [HW.out]; simp [go_sem]
    have d2 : W.cell? ⟨w.heap.size, 2, none⟩ = some (.slice s2 K.length cq) := by rw [HW.out]; simp [go_sem]
    have dl : w.heap.size < W.heap.size := World.block_lt_of_cell? W _ d0
    have g0 : W.cell? ⟨w.heap.size + 1, 0, none⟩ = some (.int .i64 q.f.x) := by rw [HW.out]; simp [go_sem]
    have g1 : W.cell? ⟨w.heap.size + 1, 1, none⟩ = some (.int .i64 q.f.y) := by rw [HW.out]; simp [go_sem]
    have g2 : W.cell? ⟨w.heap.size + 1, 2, none⟩ = some (.int .i64 q.f.z) := by rw [HW.out]; simp [go_sem]
    have g3 : W.cell? ⟨w.heap.size + 1, 3, none⟩ = some (.slice q.s q.off.length q.cap) := by rw [HW.out]; simp [go_sem]
    have gl : w.heap.size + 1 < W.heap.size := World.block_lt_of_cell? W _ g0
    try replace hr := up_of hB hr
    try replace hq := up_of hB hq
    go_wp2_with (first | (go_at_call 73; refine (hv.out _ hr).mono ?_; rintro e W1 ⟨rfl, hb⟩; (try replace hr := up_of hb hr); (try replace hq := up_of hb hq); (try replace hB := up_of hb hB); (try replace d0 := up_of hb d0); (try replace d1 := up_of hb d1); (try replace d2 := up_of hb d2); (try replace dl := up_of hb dl); (try replace g0 := up_of hb g0); (try replace g1 := up_of hb g1); (try replace g2 := up_of hb g2); (try replace g3 := up_of hb g3); (try replace gl := up_of hb gl)) | (go_at_call 74; refine (hc.out _ hq).mono ?_; rintro e W1 ⟨rfl, hb⟩; (try replace hr := up_of hb hr); (try replace hq := up_of hb hq); (try replace hB := up_of hb hB); (try replace d0 := up_of hb d0); (try replace d1 := up_of hb d1); (try replace d2 := up_of hb d2); (try replace dl := up_of hb dl); (try replace g0 := up_of hb g0); (try replace g1 := up_of hb g1); (try replace g2 := up_of hb g2); (try replace g3 := up_of hb g3); (try replace gl := up_of hb gl)))
    go_ret
    exact ⟨ret_bool (by simp), hB⟩
end Go.Proofs.Ytbpdgoedglkefaa
