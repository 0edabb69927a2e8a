/- What is too much for a statement; a line, whose latency is known. -/
import Derived.Test.YtbpdgoedglkefaaB5
namespace Go.Proofs.Ytbpdgoedglkefaa
open Go.RowKit

def wideV (v : Vv) : Bool := decide (10 < v.args.length) || decide (100 < v.name.size)
/-- Too much for a statement. -/
def wideB (l : List Iq) (K : List Vv) : Bool := K.any wideV || (decide (10 < K.length) || decide (40 < l.length))
theorem wide_at {l : List Iq} {K : List Vv} {i : Nat} (h : i < K.length) (hv : wideV K[i] = true) : wideB l K = true := by
  unfold wideB
  have : K.any wideV = true := List.any_eq_true.2 ⟨_, List.getElem_mem h, hv⟩
  rw [this]; rfl
theorem wide_none {l : List Iq} {K : List Vv} (h : ∀ i (hi : i < K.length), wideV K[i] = false) : wideB l K = (decide (10 < K.length) || decide (40 < l.length)) := by
  unfold wideB
  have : K.any wideV = false := by
    rw [List.any_eq_false]; intro x hx; obtain ⟨i, hi, rfl⟩ := List.getElem_of_mem hx; rw [h i hi]; simp
  rw [this]; rfl
set_option maxRecDepth 100000 in
set_option maxHeartbeats 2000000 in
theorem Wide_c (n : Int) (s : Option Addr) (cap : Nat) (l : List Iq) (s2 : Option Addr) (cq : Nat) (K : List Vv) (w : World) (hr : RecM w s l s2 cq K) :
    Calls Try.prog 16 #[.agg #[.int .i64 n, .slice s l.length cap, .slice s2 K.length cq]] w fun e w' => e = .returned (.bool (wideB l K)) ∧ Below w.heap.size w w' := by
  have hat := fun (i : Nat) (hi : i < K.length) hh => wide_at (l := l) hi hh
  have hnone := fun hh => wide_none (l := l) (K := K) hh
  have hkl := hr.len
  have hll := hr.dom.len
  obtain ⟨B, hB0⟩ : ∃ x, wideB l K = x := ⟨_, rfl⟩
  simp only [hB0] at hat hnone ⊢
  clear hB0
  replace hat := Lib.hid hat; replace hnone := Lib.hid hnone
  go_enter Try.func16, Try.ntmps16
  go_upto_region 1 with (fail)
  refine wp_world fun W HW => ?_
  have hB : Below w.heap.size w W := by rw [HW.out]; (repeat (first | exact Below.refl _ _ | refine Below.alloc ?_ (by simp; try omega) _ | refine Below.setCell ?_ (by simp) _ | refine Below.drew ?_))
  have d0 : W.cell? ⟨w.heap.size, 0, none⟩ = some (.int .i64 n) := by rw [HW.out]; simp [go_sem]
  have d1 : W.cell? ⟨w.heap.size, 1, none⟩ = some (.slice s l.length cap) := by rw [HW.out]; simp [go_sem]
  have d2 : W.cell? ⟨w.heap.size, 2, none⟩ = some (.slice s2 K.length cq) := by rw [HW.out]; simp [go_sem]
  have dl : w.heap.size < W.heap.size := World.block_lt_of_cell? W _ d0
  try replace hr := up_of hB hr
  go_wp2
  go_loopw [8] (fun ii V => ∃ i : Nat, i ≤ K.length ∧ ii = .int .i64 i ∧ Hid (∀ j (hj : j < K.length), j < i → wideV K[j] = false) ∧ Below W.heap.size W V) (fun ii _ => K.length - (intOf ii).toNat)
  case atStart => exact ⟨0, by omega, rfl, fun j hj h => absurd h (by omega), Below.refl _ _⟩
  case round =>
    obtain ⟨i, hi, rfl, hall, hBV⟩ := hrel
    try replace hr := up_of hBV hr
    try replace hB := up_of hBV hB
    try replace d0 := up_of hBV d0
    try replace d1 := up_of hBV d1
    try replace d2 := up_of hBV d2
    try replace dl := up_of hBV dl
    by_cases hlt : i < K.length
    · obtain ⟨b, off, sa, ca, rfl, hb, q0, q1, q2, q3, q4, q5, q6, hsl, hal, -, -⟩ := hr.vars.at hlt
      have hbad := hat.out i hlt
      have hgood : wideV K[i] = false → ∀ j (hj : j < K.length), j < i + 1 → wideV K[j] = false := fun h j hj hj2 => by
        by_cases hj3 : j < i
        · exact hall.out j hj hj3
        · obtain rfl : j = i := by omega
          exact h
      unfold wideV at hbad hgood
      obtain ⟨x, hx⟩ : ∃ x, K[i] = x := ⟨_, rfl⟩
      simp only [hx] at q0 q1 q2 q3 q4 q5 q6 hbad hgood hal
      clear hx hall hsl
      have i1 : (i : Int) < (K.length : Int) := by omega
      have i0 : (0 : Int) ≤ (i : Int) := by omega
      by_cases h1 : 10 < x.args.length
      · have h1' : (10 : Int) < (x.args.length : Int) := by omega
        obtain rfl := hbad (by simp [h1])
        clear hgood
        go_upto_region 4 with (fail)
        refine wp_world fun Y HY => ?_
        have hY : Below wr.heap.size wr Y := by rw [HY.out]; (repeat (first | exact Below.refl _ _ | refine Below.alloc ?_ (by simp; try omega) _ | refine Below.setCell ?_ (by simp) _ | refine Below.drew ?_))
        have x0 : Y.cell? ⟨wr.heap.size, 0, none⟩ = some (.string x.name) := by rw [HY.out]; simp [go_sem]
        have x1 : Y.cell? ⟨wr.heap.size, 1, none⟩ = some (.int .i64 x.op) := by rw [HY.out]; simp [go_sem]
        have x2 : Y.cell? ⟨wr.heap.size, 2, none⟩ = some (.slice sa x.args.length ca) := by rw [HY.out]; simp [go_sem]
        have x3 : Y.cell? ⟨wr.heap.size, 3, none⟩ = some (.int .i64 x.i0) := by rw [HY.out]; simp [go_sem]
        have x4 : Y.cell? ⟨wr.heap.size, 4, none⟩ = some (.int .i64 x.i1) := by rw [HY.out]; simp [go_sem]
        have x5 : Y.cell? ⟨wr.heap.size, 5, none⟩ = some (.int .i64 x.i2) := by rw [HY.out]; simp [go_sem]
        have x6 : Y.cell? ⟨wr.heap.size, 6, none⟩ = some (.int .i64 x.i3) := by rw [HY.out]; simp [go_sem]
        have xl : wr.heap.size < Y.heap.size := World.block_lt_of_cell? Y _ x0
        try replace hr := up_of hY hr
        try replace hB := up_of hY hB
        try replace d0 := up_of hY d0
        try replace d1 := up_of hY d1
        try replace d2 := up_of hY d2
        try replace dl := up_of hY dl
        try replace hBV := up_of hY hBV
        go_wp2
        go_ret
        exact ⟨rfl, hB⟩
      have h1' : ¬ (10 : Int) < (x.args.length : Int) := by omega
      by_cases h2 : 100 < x.name.size
      · have h2' : (100 : Int) < (x.name.size : Int) := by omega
        obtain rfl := hbad (by simp [h2])
        clear hgood
        go_upto_region 4 with (fail)
        refine wp_world fun Y HY => ?_
        have hY : Below wr.heap.size wr Y := by rw [HY.out]; (repeat (first | exact Below.refl _ _ | refine Below.alloc ?_ (by simp; try omega) _ | refine Below.setCell ?_ (by simp) _ | refine Below.drew ?_))
        have x0 : Y.cell? ⟨wr.heap.size, 0, none⟩ = some (.string x.name) := by rw [HY.out]; simp [go_sem]
        have x1 : Y.cell? ⟨wr.heap.size, 1, none⟩ = some (.int .i64 x.op) := by rw [HY.out]; simp [go_sem]
        have x2 : Y.cell? ⟨wr.heap.size, 2, none⟩ = some (.slice sa x.args.length ca) := by rw [HY.out]; simp [go_sem]
        have x3 : Y.cell? ⟨wr.heap.size, 3, none⟩ = some (.int .i64 x.i0) := by rw [HY.out]; simp [go_sem]
        have x4 : Y.cell? ⟨wr.heap.size, 4, none⟩ = some (.int .i64 x.i1) := by rw [HY.out]; simp [go_sem]
        have x5 : Y.cell? ⟨wr.heap.size, 5, none⟩ = some (.int .i64 x.i2) := by rw [HY.out]; simp [go_sem]
        have x6 : Y.cell? ⟨wr.heap.size, 6, none⟩ = some (.int .i64 x.i3) := by rw [HY.out]; simp [go_sem]
        have xl : wr.heap.size < Y.heap.size := World.block_lt_of_cell? Y _ x0
        try replace hr := up_of hY hr
        try replace hB := up_of hY hB
        try replace d0 := up_of hY d0
        try replace d1 := up_of hY d1
        try replace d2 := up_of hY d2
        try replace dl := up_of hY dl
        try replace hBV := up_of hY hBV
        try replace hY := up_of hY hY
        try replace x0 := up_of hY x0
        try replace x1 := up_of hY x1
        try replace x2 := up_of hY x2
        try replace x3 := up_of hY x3
        try replace x4 := up_of hY x4
        try replace x5 := up_of hY x5
        try replace x6 := up_of hY x6
        try replace xl := up_of hY xl
        go_wp2
        go_ret
        exact ⟨rfl, hB⟩
      have h2' : ¬ (100 : Int) < (x.name.size : Int) := by omega
      have hok := Lib.hid (hgood (by simp [h1, h2]))
      clear hbad hgood
      go_upto_region 4 with (fail)
      refine wp_world fun Y HY => ?_
      have hY : Below wr.heap.size wr Y := by rw [HY.out]; (repeat (first | exact Below.refl _ _ | refine Below.alloc ?_ (by simp; try omega) _ | refine Below.setCell ?_ (by simp) _ | refine Below.drew ?_))
      have x0 : Y.cell? ⟨wr.heap.size, 0, none⟩ = some (.string x.name) := by rw [HY.out]; simp [go_sem]
      have x1 : Y.cell? ⟨wr.heap.size, 1, none⟩ = some (.int .i64 x.op) := by rw [HY.out]; simp [go_sem]
      have x2 : Y.cell? ⟨wr.heap.size, 2, none⟩ = some (.slice sa x.args.length ca) := by rw [HY.out]; simp [go_sem]
      have x3 : Y.cell? ⟨wr.heap.size, 3, none⟩ = some (.int .i64 x.i0) := by rw [HY.out]; simp [go_sem]
      have x4 : Y.cell? ⟨wr.heap.size, 4, none⟩ = some (.int .i64 x.i1) := by rw [HY.out]; simp [go_sem]
      have x5 : Y.cell? ⟨wr.heap.size, 5, none⟩ = some (.int .i64 x.i2) := by rw [HY.out]; simp [go_sem]
      have x6 : Y.cell? ⟨wr.heap.size, 6, none⟩ = some (.int .i64 x.i3) := by rw [HY.out]; simp [go_sem]
      have xl : wr.heap.size < Y.heap.size := World.block_lt_of_cell? Y _ x0
      try replace hr := up_of hY hr
      try replace hB := up_of hY hB
      try replace d0 := up_of hY d0
      try replace d1 := up_of hY d1
      try replace d2 := up_of hY d2
      try replace dl := up_of hY dl
      try replace hBV := up_of hY hBV
      try replace hY := up_of hY hY
      try replace x0 := up_of hY x0
      try replace x1 := up_of hY x1
      try replace x2 := up_of hY x2
      try replace x3 := up_of hY x3
      try replace x4 := up_of hY x4
      try replace x5 := up_of hY x5
      try replace x6 := up_of hY x6
      try replace xl := up_of hY xl
      go_wp2
      go_roundw
      case rel => exact ⟨i + 1, by omega, by go_num, hok, hBV⟩
      case measure => exact meas hlt
    · obtain rfl : i = K.length := by omega
      obtain rfl := hnone.out (fun j hj => hall.out j hj hj)
      clear hall
      by_cases h1 : 10 < K.length
      · have h1' : (10 : Int) < (K.length : Int) := by omega
        go_wp2
        go_ret
        exact ⟨ret_bool (by simp [h1]), hB⟩
      have h1' : ¬ (10 : Int) < (K.length : Int) := by omega
      by_cases h2 : 40 < l.length
      · have h2' : (40 : Int) < (l.length : Int) := by omega
        go_wp2
        go_ret
        exact ⟨ret_bool (by simp [h2]), hB⟩
      have h2' : ¬ (40 : Int) < (l.length : Int) := by omega
      go_wp2
      go_ret
      exact ⟨ret_bool (by simp [h1, h2]), hB⟩
set_option maxRecDepth 100000 in
theorem long_c (q : Sd) (w : World) (hq : SdM w q) :
    Calls Try.prog 17 #[.agg #[.int .i64 q.f.x, .int .i64 q.f.y, .int .i64 q.f.z, .slice q.s q.off.length q.cap]] w fun e w' => e = .returned (.bool (decide (20 < q.off.length))) ∧ Below w.heap.size w w' := by
  have hql := hq.len
  by_cases h : 20 < q.off.length
  · have h2 : (20 : Int) < (q.off.length : Int) := by omega
    rw [decide_eq_true h]
    go_enter Try.func17, Try.ntmps17
    go_upto_region 1 with (fail)
    refine wp_world fun W HW => ?_
    have hB : Below w.heap.size w W := by rw [HW.out]; (repeat (first | exact Below.refl _ _ | refine Below.alloc ?_ (by simp; try omega) _ | refine Below.setCell ?_ (by simp) _ | refine Below.drew ?_))
    have g0 : W.cell? ⟨w.heap.size, 0, none⟩ = some (.int .i64 q.f.x) := by rw [HW.out]; simp [go_sem]
    have g1 : W.cell? ⟨w.heap.size, 1, none⟩ = some (.int .i64 q.f.y) := by rw [HW.out]; simp [go_sem]
    have g2 : W.cell? ⟨w.heap.size, 2, none⟩ = some (.int .i64 q.f.z) := by rw [HW.out]; simp [go_sem]
    have g3 : W.cell? ⟨w.heap.size, 3, none⟩ = some (.slice q.s q.off.length q.cap) := by rw [HW.out]; simp [go_sem]
    have gl : w.heap.size < W.heap.size := World.block_lt_of_cell? W _ g0
    go_wp2
    go_ret
    exact ⟨rfl, hB⟩
  · have h2 : ¬ (20 : Int) < (q.off.length : Int) := by omega
    rw [decide_eq_false h]
    go_enter Try.func17, Try.ntmps17
    go_upto_region 1 with (fail)
    refine wp_world fun W HW => ?_
    have hB : Below w.heap.size w W := by rw [HW.out]; (repeat (first | exact Below.refl _ _ | refine Below.alloc ?_ (by simp; try omega) _ | refine Below.setCell ?_ (by simp) _ | refine Below.drew ?_))
    have g0 : W.cell? ⟨w.heap.size, 0, none⟩ = some (.int .i64 q.f.x) := by rw [HW.out]; simp [go_sem]
    have g1 : W.cell? ⟨w.heap.size, 1, none⟩ = some (.int .i64 q.f.y) := by rw [HW.out]; simp [go_sem]
    have g2 : W.cell? ⟨w.heap.size, 2, none⟩ = some (.int .i64 q.f.z) := by rw [HW.out]; simp [go_sem]
    have g3 : W.cell? ⟨w.heap.size, 3, none⟩ = some (.slice q.s q.off.length q.cap) := by rw [HW.out]; simp [go_sem]
    have gl : w.heap.size < W.heap.size := World.block_lt_of_cell? W _ g0
    go_wp2
    go_ret
    exact ⟨rfl, hB⟩
/-! ### The line -/
def lineL : List Iq := [⟨⟨-1, 0, 0⟩, 0⟩, ⟨⟨1, 0, 0⟩, 3⟩]
def lineK : List Vv := [⟨⟨#[115]⟩, 1, [⟨0, ⟨-1, 0, 0⟩⟩], 0, 0, 0, 0⟩]
theorem results_cell1 {fn : Func} {p : Tmp} {tp : TypeId} {tmps : Array Value} {P : Program} {w : World} {a : Addr} {va : Value} (h : fn.results = #[.cell p tp])
    (hp : tmps.getD p undef = .pointer (some a)) (la : (loadVar tp a).run P w = .ok va w) : (results fn tmps).run P w = .ok va w := by
  simp only [results, h]
  simp only [Array.getD_eq_getD_getElem?] at hp
  simp [Sem.run_bind, Result.andThen, hp, asAddr, la]
set_option maxRecDepth 100000 in
set_option maxHeartbeats 2000000 in
theorem line_c (w : World) : Calls Try.prog 56 #[] w fun e w' => ∃ s s2 cap cq, e = .returned (.agg #[.int .i64 1, .slice s lineL.length cap, .slice s2 lineK.length cq]) ∧ RecM w' s lineL s2 cq lineK ∧ Below w.heap.size w w' := by
  go_enter Try.func56, Try.ntmps56
  go_wp2
  have hB : Below w.heap.size w ((((w.alloc (Obj.cells #[Value.int IntKind.i64 1, Value.slice (some { block := w.heap.size + 1, off := 0 }) 2 2, Value.slice (some { block := w.heap.size + 1 + 1 + 1, off := 0 }) 1 1] 27)).alloc
      (Obj.cells #[Value.int IntKind.i64 (-1), Value.int IntKind.i64 0, Value.int IntKind.i64 0, Value.int IntKind.i64 0, Value.int IntKind.i64 1, Value.int IntKind.i64 0, Value.int IntKind.i64 0, Value.int IntKind.i64 3] 128)).alloc
      (Obj.cells #[Value.int IntKind.i64 0, Value.int IntKind.i64 (-1), Value.int IntKind.i64 0, Value.int IntKind.i64 0] 84)).alloc
      (Obj.cells #[Value.string { data := #[115] }, Value.int IntKind.i64 1, Value.slice (some { block := w.heap.size + 1 + 1, off := 0 }) 1 1, Value.int IntKind.i64 0, Value.int IntKind.i64 0, Value.int IntKind.i64 0, Value.int IntKind.i64 0] 83)) :=
    ((((Below.refl _ w).alloc (Nat.le_refl _) _).alloc (by simp) _).alloc (by simp; try omega) _).alloc (by simp; try omega) _
  refine bodyPost_ret (results_cell1 rfl rfl (run_loadVar_row _ w.heap.size _ _ _ (0, 0) _ (by repeat (first | (refine blk_new ?_; simp; done) | refine blk_old ?_ _)) rfl rfl rfl)) rfl ?_
  refine ⟨_, _, 2, 1, rfl, ?_, hB⟩
  refine ⟨⟨.inr ⟨w.heap.size + 1, 0, rfl, by simp; try omega, fun i hi => ?_⟩, by simp [lineL], by simp [lineL]⟩, ⟨[⟨⟨#[115]⟩, 1, some ⟨w.heap.size + 1 + 1, 0, none⟩, 1, 1, 0, 0, 0, 0⟩], .inr ⟨w.heap.size + 1 + 1 + 1, 0, rfl, by simp, fun j u hj => ?_⟩, rfl, fun i hi hi' => ?_⟩, by simp [lineK], by simp [lineK], by simp⟩
  · have hi2 : i < 2 := hi
    obtain rfl | rfl : i = 0 ∨ i = 1 := by omega
    · simp [go_sem, lineL]
    · simp [go_sem, lineL]
  · simp only [Elt.all, vsE, Vs.cells, List.flatMap_cons, List.flatMap_nil, List.append_nil] at hj
    match j, hj with
    | 0, hj => simp at hj; subst hj; simp [go_sem]
    | 1, hj => simp at hj; subst hj; simp [go_sem]
    | 2, hj => simp at hj; subst hj; simp [go_sem]
    | 3, hj => simp at hj; subst hj; simp [go_sem]
    | 4, hj => simp at hj; subst hj; simp [go_sem]
    | 5, hj => simp at hj; subst hj; simp [go_sem]
    | 6, hj => simp at hj; subst hj; simp [go_sem]
    | k + 7, hj => simp at hj
  · have hi2 : i < 1 := hi
    obtain rfl : i = 0 := by omega
    refine ⟨rfl, rfl, rfl, .inr ⟨w.heap.size + 1 + 1, 0, rfl, by simp, fun j u hj => ?_⟩, by simp [lineK], (fun h => absurd h (by simp)), by simp [lineK], rfl, rfl, rfl, rfl⟩
    simp only [Elt.all, arE, Ar.cells, lineK, List.getElem_cons_zero, List.flatMap_cons, List.flatMap_nil, List.append_nil] at hj
    match j, hj with
    | 0, hj => simp at hj; subst hj; simp [go_sem]
    | 1, hj => simp at hj; subst hj; simp [go_sem]
    | 2, hj => simp at hj; subst hj; simp [go_sem]
    | 3, hj => simp at hj; subst hj; simp [go_sem]
    | k + 4, hj => simp at hj
theorem line_lat (s : Option Addr) (cap : Nat) : latR 1 lineL lineK ⟨⟨2, 0, 0⟩, [5], s, cap⟩ = .tuple #[.int .i64 7, .int .i64 0] := by kernel_rfl
set_option maxRecDepth 100000 in
set_option maxHeartbeats 2000000 in
theorem Awake_c (w : World) : Calls Try.prog 18 #[] w fun e w' => e = .returned (.bool true) ∧ Below w.heap.size w w' := by
  have hlat := fun V b s cap s2 cq (h : RecM V s lineL s2 cq lineK) (h2 : SdM V ⟨⟨2, 0, 0⟩, [5], some ⟨b, 0, none⟩, 1⟩) => Latency_c 1 s cap lineL s2 cq lineK ⟨⟨2, 0, 0⟩, [5], some ⟨b, 0, none⟩, 1⟩ V h h2
  simp only [line_lat] at hlat
  have hls := fun (V : World) => line_c V
  obtain ⟨L, hL⟩ : ∃ x, lineL = x := ⟨_, rfl⟩
  obtain ⟨K, hK⟩ : ∃ x, lineK = x := ⟨_, rfl⟩
  simp only [hL, hK] at hlat hls
  clear hL hK
  replace hlat := Lib.hid hlat; replace hls := Lib.hid hls
  have hq1 := fun (V : World) t => (show SdM (V.alloc (.cells #[.int .i64 5] t)) ⟨⟨2, 0, 0⟩, [5], some ⟨V.heap.size, 0, none⟩, 1⟩ from ⟨.inr ⟨V.heap.size, 0, rfl, by simp, fun j u hj => by
    simp only [Elt.all, intE, List.flatMap_cons, List.flatMap_nil, List.append_nil] at hj
    match j, hj with
    | 0, hj => simp at hj; subst hj; simp [go_sem]
    | k + 1, hj => simp at hj⟩, by simp⟩)
  go_enter Try.func18, Try.ntmps18
  go_wp2_with (first
    | (go_at_call 56; refine (hls.out _).mono ?_; rintro e W ⟨s, s2, cap, cq, rfl, hr, hB⟩)
    | (go_at_call 23; refine (hlat.out _ W.heap.size _ _ _ _ (up_of (Below.alloc (Below.refl _ W) (Nat.le_refl _) _) hr) (hq1 W _)).mono ?_; rintro e W2 ⟨rfl, hb2⟩))
  go_ret
  exact ⟨rfl, (hB.alloc hB.size _).trans (hb2.mono (by simp; have := hB.size; omega))⟩
end Go.Proofs.Ytbpdgoedglkefaa
