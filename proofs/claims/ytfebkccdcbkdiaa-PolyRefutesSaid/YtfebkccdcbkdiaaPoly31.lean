/- Inner points: the reference; PolyRefutes. -/
import Derived.Test.YtfebkccdcbkdiaaPoly30
namespace Go.Proofs.Ytfebkccdcbkdiaa
open Go.RowKit

set_option maxRecDepth 100000 in
set_option maxHeartbeats 2000000 in
theorem isPoint_c (n : Int) (s : Option Addr) (cs : Nat) (l : List Iq) (p : Iq) (w : World) (h : Dom w s l) (hc : s = none → cs = 0) (hn : 1 ≤ n ∧ n ≤ 3) (hl : l.length ≤ 6) (hK12 : (wholeL n l).length ≤ 12) :
    Calls Try.prog 66 #[.agg #[.int .i64 n, .slice s l.length cs], .agg #[.int .i64 p.a.x, .int .i64 p.a.y, .int .i64 p.a.z, .int .i64 p.b]] w fun e w' => e = .returned (.bool (holdsB (wholeL n l) p.a p.b)) ∧ Below w.heap.size w w' := by
  have hAll := fun W (hD : Dom W s l) => Whole_c n s cs l W hD hc hn hl
  obtain ⟨K, hK⟩ : ∃ K, wholeL n l = K := ⟨_, rfl⟩
  rw [hK] at hK12 hAll ⊢
  clear hK
  have V4 : ∀ k (hk : k < K.length), wrap64 (K[k].b * p.b) < wrap64 (dotZ K[k].a p.a) → false = holdsB K p.a p.b := fun k hk h => by
    have : holdsB K p.a p.b = false := by
      unfold holdsB; rw [List.all_eq_false]; exact ⟨_, List.getElem_mem hk, by simp [holdQ, h]⟩
    simp [this]
  have V5 : (∀ j (hj : j < K.length), wrap64 (dotZ K[j].a p.a) ≤ wrap64 (K[j].b * p.b)) → true = holdsB K p.a p.b := fun h => by
    have : holdsB K p.a p.b = true := by
      unfold holdsB; rw [List.all_eq_true]; intro x hx
      obtain ⟨j, hj, rfl⟩ := List.getElem_of_mem hx
      simp [holdQ, h j hj]
    simp [this]
  replace hAll := Lib.hid hAll; replace V4 := Lib.hid V4; replace V5 := Lib.hid V5
  go_enter Try.func66, Try.ntmps66
  go_upto_region 1 with (fail)
  refine wp_world fun W HW => ?_
  have hB : Below w.heap.size w W := by rw [HW.out]; (repeat (first | exact Below.refl _ _ | refine Below.alloc ?_ (by simp; try omega) _ | refine Below.setCell ?_ (by simp) _ | refine Below.drew ?_))
  have d0 : W.cell? ⟨w.heap.size, 0, none⟩ = some (.int .i64 n) := by rw [HW.out]; simp [go_sem]
  have d1 : W.cell? ⟨w.heap.size, 1, none⟩ = some (.slice s l.length cs) := by rw [HW.out]; simp [go_sem]
  have dl : w.heap.size < W.heap.size := World.block_lt_of_cell? W _ d0
  have q0 : W.cell? ⟨w.heap.size + 1, 0, none⟩ = some (.int .i64 p.a.x) := by rw [HW.out]; simp [go_sem]
  have q1 : W.cell? ⟨w.heap.size + 1, 1, none⟩ = some (.int .i64 p.a.y) := by rw [HW.out]; simp [go_sem]
  have q2 : W.cell? ⟨w.heap.size + 1, 2, none⟩ = some (.int .i64 p.a.z) := by rw [HW.out]; simp [go_sem]
  have q3 : W.cell? ⟨w.heap.size + 1, 3, none⟩ = some (.int .i64 p.b) := by rw [HW.out]; simp [go_sem]
  have ql : w.heap.size + 1 < W.heap.size := World.block_lt_of_cell? W _ q0
  try replace h := up_of hB h
  go_wp2_with fail
  refine (hAll.out _ h).mono ?_
  rintro e A1 ⟨⟨s1, c1, rfl, hown⟩, hb⟩
  try replace h := up_of hb h
  try replace hB := up_of hb hB
  try replace d0 := up_of hb d0
  try replace d1 := up_of hb d1
  try replace dl := up_of hb dl
  try replace q0 := up_of hb q0
  try replace q1 := up_of hb q1
  try replace q2 := up_of hb q2
  try replace q3 := up_of hb q3
  try replace ql := up_of hb ql
  have hq := owns_iq hown
  clear hown
  go_wp2
  go_loopw [10] (fun i wr => ∃ k : Nat, k ≤ K.length ∧ i = .int .i64 k ∧ Below A1.heap.size A1 wr ∧ Hid (∀ j (hj : j < K.length), j < k → wrap64 (dotZ K[j].a p.a) ≤ wrap64 (K[j].b * p.b))) (fun i _ => K.length - (intOf i).toNat)
  case atStart => exact ⟨0, by omega, rfl, Below.refl _ _, fun j _ h => absurd h (by omega)⟩
  case round =>
    obtain ⟨k, hk, rfl, hR, hall⟩ := hrel
    try replace h := up_of hR h
    try replace hB := up_of hR hB
    try replace d0 := up_of hR d0
    try replace d1 := up_of hR d1
    try replace dl := up_of hR dl
    try replace q0 := up_of hR q0
    try replace q1 := up_of hR q1
    try replace q2 := up_of hR q2
    try replace q3 := up_of hR q3
    try replace ql := up_of hR ql
    by_cases hlt : k < K.length
    · obtain ⟨b, off, rfl, hb, e0, e1, e2, e3⟩ := (Up.iq hR hq).at hlt
      have g1 : (0 : Int) ≤ (k : Int) := by omega
      have g2 : (k : Int) < (K.length : Int) := by omega
      go_upto_region 4 with (fail)
      refine wp_world fun Y HY => ?_
      have hY : Below wr.heap.size wr Y := by rw [HY.out]; (repeat (first | exact Below.refl _ _ | refine Below.alloc ?_ (by simp; try omega) _ | refine Below.setCell ?_ (by simp) _ | refine Below.drew ?_))
      have z0 : Y.cell? ⟨wr.heap.size, 0, none⟩ = some (.int .i64 K[k].a.x) := by rw [HY.out]; simp [go_sem]
      have z1 : Y.cell? ⟨wr.heap.size, 1, none⟩ = some (.int .i64 K[k].a.y) := by rw [HY.out]; simp [go_sem]
      have z2 : Y.cell? ⟨wr.heap.size, 2, none⟩ = some (.int .i64 K[k].a.z) := by rw [HY.out]; simp [go_sem]
      have z3 : Y.cell? ⟨wr.heap.size, 3, none⟩ = some (.int .i64 K[k].b) := by rw [HY.out]; simp [go_sem]
      have zl : wr.heap.size < Y.heap.size := World.block_lt_of_cell? Y _ z0
      try replace hB := up_of hY hB
      try replace hR := up_of hY hR
      try replace q0 := up_of hY q0
      try replace q1 := up_of hY q1
      try replace q2 := up_of hY q2
      try replace q3 := up_of hY q3
      clear e0 e1 e2 e3
      by_cases ct : wrap64 (K[k].b * p.b) < wrap64 (dotZ K[k].a p.a)
      · have hw9 := i64_wrap (K[k].b * p.b)
        try have ld_q0 := World.block_lt_of_cell? _ _ q0
        try have ld_z0 := World.block_lt_of_cell? _ _ z0
        refine region_q (by kernel_rfl) (by kernel_rfl) ?_
        dsimp only [List.toList_toArray]
        repeat (first
         | go_big_quiet_skip
         | (go_big_quiet_want
            first
            | (refine qq_det ?_
               apply Exists.intro; refine ⟨fun W' hW' => ?_, ?_⟩
               (· have hk := cellB hW'; go_simp; try (first | rfl | rw [if_pos (by omega)]))
               simp only [Act.put, List.setIfInBounds_toArray, List.set_cons_zero, List.set_cons_succ]; go_big_quiet_on)
            | (refine qq_call ?_
               apply Exists.intro; apply Exists.intro; refine ⟨fun W' hW' => ?_, ?_⟩
               (· have hk := cellB hW'; go_simp; exact ⟨rfl, rfl⟩)
               apply Exists.intro; refine ⟨fun W' hW' => ?_, ?_⟩
               (· first | (go_at_call 35; exact qc hW' (Dot_c _ _ _)))
               simp only [Act.put, List.setIfInBounds_toArray, List.set_cons_zero, List.set_cons_succ]; go_big_quiet_on)))
        refine wpQuiet_nil ?_
        intro Z hb
        try replace hB := up_of hb hB
        try replace hR := up_of hb hR
        try replace q0 := up_of hb q0
        try replace q1 := up_of hb q1
        try replace q2 := up_of hb q2
        try replace q3 := up_of hb q3
        try replace hY := up_of hb hY
        try replace z0 := up_of hb z0
        try replace z1 := up_of hb z1
        try replace z2 := up_of hb z2
        try replace z3 := up_of hb z3
        try replace zl := up_of hb zl
        go_wp2
        go_ret
        exact ⟨ret_bool (V4.out k hlt ct), hB⟩
      · have hw9 := i64_wrap (K[k].b * p.b)
        try have ld_q0 := World.block_lt_of_cell? _ _ q0
        try have ld_z0 := World.block_lt_of_cell? _ _ z0
        refine region_q (by kernel_rfl) (by kernel_rfl) ?_
        dsimp only [List.toList_toArray]
        repeat (first
         | go_big_quiet_skip
         | (go_big_quiet_want
            first
            | (refine qq_det ?_
               apply Exists.intro; refine ⟨fun W' hW' => ?_, ?_⟩
               (· have hk := cellB hW'; go_simp; try (first | rfl | rw [if_pos (by omega)]))
               simp only [Act.put, List.setIfInBounds_toArray, List.set_cons_zero, List.set_cons_succ]; go_big_quiet_on)
            | (refine qq_call ?_
               apply Exists.intro; apply Exists.intro; refine ⟨fun W' hW' => ?_, ?_⟩
               (· have hk := cellB hW'; go_simp; exact ⟨rfl, rfl⟩)
               apply Exists.intro; refine ⟨fun W' hW' => ?_, ?_⟩
               (· first | (go_at_call 35; exact qc hW' (Dot_c _ _ _)))
               simp only [Act.put, List.setIfInBounds_toArray, List.set_cons_zero, List.set_cons_succ]; go_big_quiet_on)))
        refine wpQuiet_nil ?_
        intro Z hb
        try replace hB := up_of hb hB
        try replace hR := up_of hb hR
        try replace q0 := up_of hb q0
        try replace q1 := up_of hb q1
        try replace q2 := up_of hb q2
        try replace q3 := up_of hb q3
        try replace hY := up_of hb hY
        try replace z0 := up_of hb z0
        try replace z1 := up_of hb z1
        try replace z2 := up_of hb z2
        try replace z3 := up_of hb z3
        try replace zl := up_of hb zl
        go_wp2
        go_roundw
        case rel => exact ⟨k + 1, by omega, rfl, hR, fun j hj h => by rcases Nat.lt_succ_iff_lt_or_eq.1 h with h | rfl; exact hall j hj h; omega⟩
        case measure => exact meas hlt
    · obtain rfl : k = K.length := by omega
      go_wp2
      go_ret
      exact ⟨ret_bool (V5.out (fun j hj => hall j hj hj)), hB⟩

def isE (n : Int) (l : List Iq) : Int := if validB n l then 0 else 10
def isV (n : Int) (l : List Iq) (p : Iq) : Bool := if validB n l then innerB n l p else false
set_option maxRecDepth 100000 in
set_option maxHeartbeats 1000000 in
theorem IsInner_c (n : Int) (s : Option Addr) (cs : Nat) (l : List Iq) (p : Iq) (w : World) (h : Dom w s l) (hc : s = none → cs = 0) :
    Calls Try.prog 39 #[.agg #[.int .i64 n, .slice s l.length cs], .agg #[.int .i64 p.a.x, .int .i64 p.a.y, .int .i64 p.a.z, .int .i64 p.b]] w (BoolRet (isV n l p) (isE n l) w) := by
  replace hc := Lib.hid hc
  cases h1 : validB n l
  · rw [show isV n l p = false by simp [isV, h1], show isE n l = 10 by simp [isE, h1]]
    go_enter Try.func39, Try.ntmps39
    go_upto_region 1 with (fail)
    refine wp_world fun W HW => ?_
    have hB : Below w.heap.size w W := by rw [HW.out]; (repeat (first | exact Below.refl _ _ | refine Below.alloc ?_ (by simp; try omega) _ | refine Below.setCell ?_ (by simp) _ | refine Below.drew ?_))
    have d0 : W.cell? ⟨w.heap.size, 0, none⟩ = some (.int .i64 n) := by rw [HW.out]; simp [go_sem]
    have d1 : W.cell? ⟨w.heap.size, 1, none⟩ = some (.slice s l.length cs) := by rw [HW.out]; simp [go_sem]
    have dl : w.heap.size < W.heap.size := World.block_lt_of_cell? W _ d0
    have q0 : W.cell? ⟨w.heap.size + 1, 0, none⟩ = some (.int .i64 p.a.x) := by rw [HW.out]; simp [go_sem]
    have q1 : W.cell? ⟨w.heap.size + 1, 1, none⟩ = some (.int .i64 p.a.y) := by rw [HW.out]; simp [go_sem]
    have q2 : W.cell? ⟨w.heap.size + 1, 2, none⟩ = some (.int .i64 p.a.z) := by rw [HW.out]; simp [go_sem]
    have q3 : W.cell? ⟨w.heap.size + 1, 3, none⟩ = some (.int .i64 p.b) := by rw [HW.out]; simp [go_sem]
    have ql : w.heap.size + 1 < W.heap.size := World.block_lt_of_cell? W _ q0
    try replace h := up_of hB h
    go_wp2_with (first | (go_at_call 17; refine (Valid_t _ _ _ _ _ h).mono ?_; rintro e W1 ⟨rfl, hb⟩; (try replace h := up_of hb h); (try replace hB := up_of hb hB); (try replace d0 := up_of hb d0); (try replace d1 := up_of hb d1); (try replace dl := up_of hb dl); (try replace q0 := up_of hb q0); (try replace q1 := up_of hb q1); (try replace q2 := up_of hb q2); (try replace q3 := up_of hb q3); (try replace ql := up_of hb ql)))
    go_ret2
    exact ⟨rfl, hB⟩
  · have hn := validB_n h1
    obtain ⟨hK12, hl6⟩ := wholeL_len h1
    rw [show isV n l p = innerB n l p by simp [isV, h1], show isE n l = 0 by simp [isE, h1]]
    go_enter Try.func39, Try.ntmps39
    go_upto_region 1 with (fail)
    refine wp_world fun W HW => ?_
    have hB : Below w.heap.size w W := by rw [HW.out]; (repeat (first | exact Below.refl _ _ | refine Below.alloc ?_ (by simp; try omega) _ | refine Below.setCell ?_ (by simp) _ | refine Below.drew ?_))
    have d0 : W.cell? ⟨w.heap.size, 0, none⟩ = some (.int .i64 n) := by rw [HW.out]; simp [go_sem]
    have d1 : W.cell? ⟨w.heap.size, 1, none⟩ = some (.slice s l.length cs) := by rw [HW.out]; simp [go_sem]
    have dl : w.heap.size < W.heap.size := World.block_lt_of_cell? W _ d0
    have q0 : W.cell? ⟨w.heap.size + 1, 0, none⟩ = some (.int .i64 p.a.x) := by rw [HW.out]; simp [go_sem]
    have q1 : W.cell? ⟨w.heap.size + 1, 1, none⟩ = some (.int .i64 p.a.y) := by rw [HW.out]; simp [go_sem]
    have q2 : W.cell? ⟨w.heap.size + 1, 2, none⟩ = some (.int .i64 p.a.z) := by rw [HW.out]; simp [go_sem]
    have q3 : W.cell? ⟨w.heap.size + 1, 3, none⟩ = some (.int .i64 p.b) := by rw [HW.out]; simp [go_sem]
    have ql : w.heap.size + 1 < W.heap.size := World.block_lt_of_cell? W _ q0
    try replace h := up_of hB h
    go_wp2_with (first | (go_at_call 17; refine (Valid_t _ _ _ _ _ h).mono ?_; rintro e W1 ⟨rfl, hb⟩; (try replace h := up_of hb h); (try replace hB := up_of hb hB); (try replace d0 := up_of hb d0); (try replace d1 := up_of hb d1); (try replace dl := up_of hb dl); (try replace q0 := up_of hb q0); (try replace q1 := up_of hb q1); (try replace q2 := up_of hb q2); (try replace q3 := up_of hb q3); (try replace ql := up_of hb ql)) | (go_at_call 65; refine (inner_c n s cs l p _ h hc.out hn hl6 hK12).mono ?_; rintro e W1 ⟨rfl, hb⟩; (try replace h := up_of hb h); (try replace hB := up_of hb hB); (try replace d0 := up_of hb d0); (try replace d1 := up_of hb d1); (try replace dl := up_of hb dl); (try replace q0 := up_of hb q0); (try replace q1 := up_of hb q1); (try replace q2 := up_of hb q2); (try replace q3 := up_of hb q3); (try replace ql := up_of hb ql)))
    go_ret2
    exact ⟨rfl, hB⟩
set_option maxRecDepth 100000 in
set_option maxHeartbeats 1000000 in
theorem rIsInner_c (n : Int) (s : Option Addr) (cs : Nat) (l : List Iq) (p : Iq) (w : World) (h : Dom w s l) (hc : s = none → cs = 0) :
    Calls Try.prog 40 #[.agg #[.int .i64 n, .slice s l.length cs], .agg #[.int .i64 p.a.x, .int .i64 p.a.y, .int .i64 p.a.z, .int .i64 p.b]] w (BoolRet (isV n l p) (isE n l) w) := by
  replace hc := Lib.hid hc
  cases h1 : validB n l
  · rw [show isV n l p = false by simp [isV, h1], show isE n l = 10 by simp [isE, h1]]
    go_enter Try.func40, Try.ntmps40
    go_upto_region 1 with (fail)
    refine wp_world fun W HW => ?_
    have hB : Below w.heap.size w W := by rw [HW.out]; (repeat (first | exact Below.refl _ _ | refine Below.alloc ?_ (by simp; try omega) _ | refine Below.setCell ?_ (by simp) _ | refine Below.drew ?_))
    have d0 : W.cell? ⟨w.heap.size, 0, none⟩ = some (.int .i64 n) := by rw [HW.out]; simp [go_sem]
    have d1 : W.cell? ⟨w.heap.size, 1, none⟩ = some (.slice s l.length cs) := by rw [HW.out]; simp [go_sem]
    have dl : w.heap.size < W.heap.size := World.block_lt_of_cell? W _ d0
    have q0 : W.cell? ⟨w.heap.size + 1, 0, none⟩ = some (.int .i64 p.a.x) := by rw [HW.out]; simp [go_sem]
    have q1 : W.cell? ⟨w.heap.size + 1, 1, none⟩ = some (.int .i64 p.a.y) := by rw [HW.out]; simp [go_sem]
    have q2 : W.cell? ⟨w.heap.size + 1, 2, none⟩ = some (.int .i64 p.a.z) := by rw [HW.out]; simp [go_sem]
    have q3 : W.cell? ⟨w.heap.size + 1, 3, none⟩ = some (.int .i64 p.b) := by rw [HW.out]; simp [go_sem]
    have ql : w.heap.size + 1 < W.heap.size := World.block_lt_of_cell? W _ q0
    try replace h := up_of hB h
    go_wp2_with (first | (go_at_call 18; refine (rValid_t _ _ _ _ _ h).mono ?_; rintro e W1 ⟨rfl, hb⟩; (try replace h := up_of hb h); (try replace hB := up_of hb hB); (try replace d0 := up_of hb d0); (try replace d1 := up_of hb d1); (try replace dl := up_of hb dl); (try replace q0 := up_of hb q0); (try replace q1 := up_of hb q1); (try replace q2 := up_of hb q2); (try replace q3 := up_of hb q3); (try replace ql := up_of hb ql)))
    go_ret2
    exact ⟨rfl, hB⟩
  have hn := validB_n h1
  obtain ⟨hK12, hl6⟩ := wholeL_len h1
  have hf : isV n l p = (bw 1 p.b 1000000 && (flatB p.a n 1000000000 && holdsB (wholeL n l) p.a p.b)) := by simp [isV, h1, innerB]
  have hP := fun W (hD : Dom W s l) => isPoint_c n s cs l p W hD hc.out hn hl6 hK12
  rw [hf, show isE n l = 0 by simp [isE, h1]]
  obtain ⟨v, hv⟩ : ∃ v, holdsB (wholeL n l) p.a p.b = v := ⟨_, rfl⟩
  rw [hv] at hP ⊢
  clear hf hv
  replace hP := Lib.hid hP
  by_cases c1 : p.b < 1
  · rw [show bw 1 p.b 1000000 = false by simp [bw]; omega]
    go_enter Try.func40, Try.ntmps40
    go_upto_region 1 with (fail)
    refine wp_world fun W HW => ?_
    have hB : Below w.heap.size w W := by rw [HW.out]; (repeat (first | exact Below.refl _ _ | refine Below.alloc ?_ (by simp; try omega) _ | refine Below.setCell ?_ (by simp) _ | refine Below.drew ?_))
    have d0 : W.cell? ⟨w.heap.size, 0, none⟩ = some (.int .i64 n) := by rw [HW.out]; simp [go_sem]
    have d1 : W.cell? ⟨w.heap.size, 1, none⟩ = some (.slice s l.length cs) := by rw [HW.out]; simp [go_sem]
    have dl : w.heap.size < W.heap.size := World.block_lt_of_cell? W _ d0
    have q0 : W.cell? ⟨w.heap.size + 1, 0, none⟩ = some (.int .i64 p.a.x) := by rw [HW.out]; simp [go_sem]
    have q1 : W.cell? ⟨w.heap.size + 1, 1, none⟩ = some (.int .i64 p.a.y) := by rw [HW.out]; simp [go_sem]
    have q2 : W.cell? ⟨w.heap.size + 1, 2, none⟩ = some (.int .i64 p.a.z) := by rw [HW.out]; simp [go_sem]
    have q3 : W.cell? ⟨w.heap.size + 1, 3, none⟩ = some (.int .i64 p.b) := by rw [HW.out]; simp [go_sem]
    have ql : w.heap.size + 1 < W.heap.size := World.block_lt_of_cell? W _ q0
    try replace h := up_of hB h
    go_wp2_with (first | (go_at_call 18; refine (rValid_t _ _ _ _ _ h).mono ?_; rintro e W1 ⟨rfl, hb⟩; (try replace h := up_of hb h); (try replace hB := up_of hb hB); (try replace d0 := up_of hb d0); (try replace d1 := up_of hb d1); (try replace dl := up_of hb dl); (try replace q0 := up_of hb q0); (try replace q1 := up_of hb q1); (try replace q2 := up_of hb q2); (try replace q3 := up_of hb q3); (try replace ql := up_of hb ql)))
    go_ret2
    exact ⟨rfl, hB⟩
  by_cases c2 : 1000000 < p.b
  · rw [show bw 1 p.b 1000000 = false by simp [bw]; omega]
    go_enter Try.func40, Try.ntmps40
    go_upto_region 1 with (fail)
    refine wp_world fun W HW => ?_
    have hB : Below w.heap.size w W := by rw [HW.out]; (repeat (first | exact Below.refl _ _ | refine Below.alloc ?_ (by simp; try omega) _ | refine Below.setCell ?_ (by simp) _ | refine Below.drew ?_))
    have d0 : W.cell? ⟨w.heap.size, 0, none⟩ = some (.int .i64 n) := by rw [HW.out]; simp [go_sem]
    have d1 : W.cell? ⟨w.heap.size, 1, none⟩ = some (.slice s l.length cs) := by rw [HW.out]; simp [go_sem]
    have dl : w.heap.size < W.heap.size := World.block_lt_of_cell? W _ d0
    have q0 : W.cell? ⟨w.heap.size + 1, 0, none⟩ = some (.int .i64 p.a.x) := by rw [HW.out]; simp [go_sem]
    have q1 : W.cell? ⟨w.heap.size + 1, 1, none⟩ = some (.int .i64 p.a.y) := by rw [HW.out]; simp [go_sem]
    have q2 : W.cell? ⟨w.heap.size + 1, 2, none⟩ = some (.int .i64 p.a.z) := by rw [HW.out]; simp [go_sem]
    have q3 : W.cell? ⟨w.heap.size + 1, 3, none⟩ = some (.int .i64 p.b) := by rw [HW.out]; simp [go_sem]
    have ql : w.heap.size + 1 < W.heap.size := World.block_lt_of_cell? W _ q0
    try replace h := up_of hB h
    go_wp2_with (first | (go_at_call 18; refine (rValid_t _ _ _ _ _ h).mono ?_; rintro e W1 ⟨rfl, hb⟩; (try replace h := up_of hb h); (try replace hB := up_of hb hB); (try replace d0 := up_of hb d0); (try replace d1 := up_of hb d1); (try replace dl := up_of hb dl); (try replace q0 := up_of hb q0); (try replace q1 := up_of hb q1); (try replace q2 := up_of hb q2); (try replace q3 := up_of hb q3); (try replace ql := up_of hb ql)))
    go_ret2
    exact ⟨rfl, hB⟩
  rw [show bw 1 p.b 1000000 = true by simp [bw]; omega]
  cases h2 : flatB p.a n 1000000000
  all_goals
    go_enter Try.func40, Try.ntmps40
    go_upto_region 1 with (fail)
    refine wp_world fun W HW => ?_
    have hB : Below w.heap.size w W := by rw [HW.out]; (repeat (first | exact Below.refl _ _ | refine Below.alloc ?_ (by simp; try omega) _ | refine Below.setCell ?_ (by simp) _ | refine Below.drew ?_))
    have d0 : W.cell? ⟨w.heap.size, 0, none⟩ = some (.int .i64 n) := by rw [HW.out]; simp [go_sem]
    have d1 : W.cell? ⟨w.heap.size, 1, none⟩ = some (.slice s l.length cs) := by rw [HW.out]; simp [go_sem]
    have dl : w.heap.size < W.heap.size := World.block_lt_of_cell? W _ d0
    have q0 : W.cell? ⟨w.heap.size + 1, 0, none⟩ = some (.int .i64 p.a.x) := by rw [HW.out]; simp [go_sem]
    have q1 : W.cell? ⟨w.heap.size + 1, 1, none⟩ = some (.int .i64 p.a.y) := by rw [HW.out]; simp [go_sem]
    have q2 : W.cell? ⟨w.heap.size + 1, 2, none⟩ = some (.int .i64 p.a.z) := by rw [HW.out]; simp [go_sem]
    have q3 : W.cell? ⟨w.heap.size + 1, 3, none⟩ = some (.int .i64 p.b) := by rw [HW.out]; simp [go_sem]
    have ql : w.heap.size + 1 < W.heap.size := World.block_lt_of_cell? W _ q0
    try replace h := up_of hB h
    go_wp2_with (first | (go_at_call 18; refine (rValid_t _ _ _ _ _ h).mono ?_; rintro e W1 ⟨rfl, hb⟩; (try replace h := up_of hb h); (try replace hB := up_of hb hB); (try replace d0 := up_of hb d0); (try replace d1 := up_of hb d1); (try replace dl := up_of hb dl); (try replace q0 := up_of hb q0); (try replace q1 := up_of hb q1); (try replace q2 := up_of hb q2); (try replace q3 := up_of hb q3); (try replace ql := up_of hb ql)) | (go_at_call 52; refine (flat_c _ _ _ _ (by omega) (by omega)).mono ?_; rintro e W1 ⟨rfl, hb⟩; (try replace h := up_of hb h); (try replace hB := up_of hb hB); (try replace d0 := up_of hb d0); (try replace d1 := up_of hb d1); (try replace dl := up_of hb dl); (try replace q0 := up_of hb q0); (try replace q1 := up_of hb q1); (try replace q2 := up_of hb q2); (try replace q3 := up_of hb q3); (try replace ql := up_of hb ql)) | (go_at_call 66; refine (hP.out _ h).mono ?_; rintro e W1 ⟨rfl, hb⟩; (try replace h := up_of hb h); (try replace hB := up_of hb hB); (try replace d0 := up_of hb d0); (try replace d1 := up_of hb d1); (try replace dl := up_of hb dl); (try replace q0 := up_of hb q0); (try replace q1 := up_of hb q1); (try replace q2 := up_of hb q2); (try replace q3 := up_of hb q3); (try replace ql := up_of hb ql)))
    go_ret2
    exact ⟨by simp, hB⟩
theorem BoolRet.calls {b : Bool} {er : Int} {P : Program} {g : FuncId} {args : Array Value} {w : World} {b' : Bool} {er' : Int} (h : Calls P g args w (BoolRet b er w)) (e1 : b = b') (e2 : er = er') :
    Calls P g args w fun e w' => e = .returned (.tuple #[.bool b', .int .i64 er']) ∧ Below w.heap.size w w' := by
  subst e1; subst e2; exact h

set_option maxRecDepth 100000 in
set_option maxHeartbeats 1000000 in
theorem PolyRefutes_w (n : Int) (s : Option Addr) (cs : Nat) (l : List Iq) (t : Option Addr) (ct : Nat) (m : List Int) (p : Iq) (w : World) (h : Dom w s l) (hc : s = none → cs = 0) (ht : SlS intE w t m) (hm : m.length ≤ 9223372036854775807) :
    Calls Try.prog 10 #[.agg #[.int .i64 n, .slice s l.length cs], .slice t m.length ct, .agg #[.int .i64 p.a.x, .int .i64 p.a.y, .int .i64 p.a.z, .int .i64 p.b]] w fun e w' => e = .returned (.bool true) ∧ Below w.heap.size w w' := by
  have hlen := h.len
  replace hc := Lib.hid hc
  cases h1 : decide ((40 : Int) < (l.length : Int))
  case true =>
    go_enter Try.func10, Try.ntmps10
    go_upto_region 1 with (fail)
    refine wp_world fun W HW => ?_
    have hB : Below w.heap.size w W := by rw [HW.out]; (repeat (first | exact Below.refl _ _ | refine Below.alloc ?_ (by simp; try omega) _ | refine Below.setCell ?_ (by simp) _ | refine Below.drew ?_))
    have d0 : W.cell? ⟨w.heap.size, 0, none⟩ = some (.int .i64 n) := by rw [HW.out]; simp [go_sem]
    have d1 : W.cell? ⟨w.heap.size, 1, none⟩ = some (.slice s l.length cs) := by rw [HW.out]; simp [go_sem]
    have dl : w.heap.size < W.heap.size := World.block_lt_of_cell? W _ d0
    have q0 : W.cell? ⟨w.heap.size + 1, 0, none⟩ = some (.int .i64 p.a.x) := by rw [HW.out]; simp [go_sem]
    have q1 : W.cell? ⟨w.heap.size + 1, 1, none⟩ = some (.int .i64 p.a.y) := by rw [HW.out]; simp [go_sem]
    have q2 : W.cell? ⟨w.heap.size + 1, 2, none⟩ = some (.int .i64 p.a.z) := by rw [HW.out]; simp [go_sem]
    have q3 : W.cell? ⟨w.heap.size + 1, 3, none⟩ = some (.int .i64 p.b) := by rw [HW.out]; simp [go_sem]
    have ql : w.heap.size + 1 < W.heap.size := World.block_lt_of_cell? W _ q0
    try replace h := up_of hB h
    go_wp2_with (first | (go_at_call 13; refine (wide_c _ _ _ _ _ hlen).mono ?_; rintro e W1 ⟨rfl, hb⟩; (try replace h := up_of hb h); (try replace hB := up_of hb hB); (try replace d0 := up_of hb d0); (try replace d1 := up_of hb d1); (try replace dl := up_of hb dl); (try replace q0 := up_of hb q0); (try replace q1 := up_of hb q1); (try replace q2 := up_of hb q2); (try replace q3 := up_of hb q3); (try replace ql := up_of hb ql)) | (go_at_call 14; refine (awake_c _).mono ?_; rintro e W1 ⟨rfl, hb⟩; (try replace h := up_of hb h); (try replace hB := up_of hb hB); (try replace d0 := up_of hb d0); (try replace d1 := up_of hb d1); (try replace dl := up_of hb dl); (try replace q0 := up_of hb q0); (try replace q1 := up_of hb q1); (try replace q2 := up_of hb q2); (try replace q3 := up_of hb q3); (try replace ql := up_of hb ql)))
    go_ret
    exact ⟨rfl, hB⟩
  by_cases h2 : (60 : Int) < (m.length : Int)
  · go_enter Try.func10, Try.ntmps10
    go_upto_region 1 with (fail)
    refine wp_world fun W HW => ?_
    have hB : Below w.heap.size w W := by rw [HW.out]; (repeat (first | exact Below.refl _ _ | refine Below.alloc ?_ (by simp; try omega) _ | refine Below.setCell ?_ (by simp) _ | refine Below.drew ?_))
    have d0 : W.cell? ⟨w.heap.size, 0, none⟩ = some (.int .i64 n) := by rw [HW.out]; simp [go_sem]
    have d1 : W.cell? ⟨w.heap.size, 1, none⟩ = some (.slice s l.length cs) := by rw [HW.out]; simp [go_sem]
    have dl : w.heap.size < W.heap.size := World.block_lt_of_cell? W _ d0
    have q0 : W.cell? ⟨w.heap.size + 1, 0, none⟩ = some (.int .i64 p.a.x) := by rw [HW.out]; simp [go_sem]
    have q1 : W.cell? ⟨w.heap.size + 1, 1, none⟩ = some (.int .i64 p.a.y) := by rw [HW.out]; simp [go_sem]
    have q2 : W.cell? ⟨w.heap.size + 1, 2, none⟩ = some (.int .i64 p.a.z) := by rw [HW.out]; simp [go_sem]
    have q3 : W.cell? ⟨w.heap.size + 1, 3, none⟩ = some (.int .i64 p.b) := by rw [HW.out]; simp [go_sem]
    have ql : w.heap.size + 1 < W.heap.size := World.block_lt_of_cell? W _ q0
    try replace h := up_of hB h
    go_wp2_with (first | (go_at_call 13; refine (wide_c _ _ _ _ _ hlen).mono ?_; rintro e W1 ⟨rfl, hb⟩; (try replace h := up_of hb h); (try replace hB := up_of hb hB); (try replace d0 := up_of hb d0); (try replace d1 := up_of hb d1); (try replace dl := up_of hb dl); (try replace q0 := up_of hb q0); (try replace q1 := up_of hb q1); (try replace q2 := up_of hb q2); (try replace q3 := up_of hb q3); (try replace ql := up_of hb ql)) | (go_at_call 14; refine (awake_c _).mono ?_; rintro e W1 ⟨rfl, hb⟩; (try replace h := up_of hb h); (try replace hB := up_of hb hB); (try replace d0 := up_of hb d0); (try replace d1 := up_of hb d1); (try replace dl := up_of hb dl); (try replace q0 := up_of hb q0); (try replace q1 := up_of hb q1); (try replace q2 := up_of hb q2); (try replace q3 := up_of hb q3); (try replace ql := up_of hb ql)))
    go_ret
    exact ⟨rfl, hB⟩
  obtain ⟨v, hv⟩ : ∃ v, refV n l m = v := ⟨_, rfl⟩
  obtain ⟨er, he⟩ : ∃ v, refE n l m = v := ⟨_, rfl⟩
  obtain ⟨v2, hv2⟩ : ∃ v, isV n l p = v := ⟨_, rfl⟩
  obtain ⟨er2, he2⟩ : ∃ v, isE n l = v := ⟨_, rfl⟩
  replace hv := Lib.hid hv; replace he := Lib.hid he; replace hv2 := Lib.hid hv2; replace he2 := Lib.hid he2
  go_enter Try.func10, Try.ntmps10
  go_upto_region 1 with (fail)
  refine wp_world fun W HW => ?_
  have hB : Below w.heap.size w W := by rw [HW.out]; (repeat (first | exact Below.refl _ _ | refine Below.alloc ?_ (by simp; try omega) _ | refine Below.setCell ?_ (by simp) _ | refine Below.drew ?_))
  have d0 : W.cell? ⟨w.heap.size, 0, none⟩ = some (.int .i64 n) := by rw [HW.out]; simp [go_sem]
  have d1 : W.cell? ⟨w.heap.size, 1, none⟩ = some (.slice s l.length cs) := by rw [HW.out]; simp [go_sem]
  have dl : w.heap.size < W.heap.size := World.block_lt_of_cell? W _ d0
  have q0 : W.cell? ⟨w.heap.size + 1, 0, none⟩ = some (.int .i64 p.a.x) := by rw [HW.out]; simp [go_sem]
  have q1 : W.cell? ⟨w.heap.size + 1, 1, none⟩ = some (.int .i64 p.a.y) := by rw [HW.out]; simp [go_sem]
  have q2 : W.cell? ⟨w.heap.size + 1, 2, none⟩ = some (.int .i64 p.a.z) := by rw [HW.out]; simp [go_sem]
  have q3 : W.cell? ⟨w.heap.size + 1, 3, none⟩ = some (.int .i64 p.b) := by rw [HW.out]; simp [go_sem]
  have ql : w.heap.size + 1 < W.heap.size := World.block_lt_of_cell? W _ q0
  try replace h := up_of hB h
  try replace ht := up_of hB ht
  go_wp2_with (first | (go_at_call 13; refine (wide_c _ _ _ _ _ hlen).mono ?_; rintro e W1 ⟨rfl, hb⟩; (try replace h := up_of hb h); (try replace ht := up_of hb ht); (try replace hB := up_of hb hB); (try replace d0 := up_of hb d0); (try replace d1 := up_of hb d1); (try replace dl := up_of hb dl); (try replace q0 := up_of hb q0); (try replace q1 := up_of hb q1); (try replace q2 := up_of hb q2); (try replace q3 := up_of hb q3); (try replace ql := up_of hb ql)) | (go_at_call 37; refine (BoolRet.calls (Refutes_c n s cs l t ct m _ h hc.out ht hm) hv.out he.out).mono ?_; rintro e W1 ⟨rfl, hb⟩; (try replace h := up_of hb h); (try replace ht := up_of hb ht); (try replace hB := up_of hb hB); (try replace d0 := up_of hb d0); (try replace d1 := up_of hb d1); (try replace dl := up_of hb dl); (try replace q0 := up_of hb q0); (try replace q1 := up_of hb q1); (try replace q2 := up_of hb q2); (try replace q3 := up_of hb q3); (try replace ql := up_of hb ql)) | (go_at_call 38; refine (BoolRet.calls (rRefutes_c n s cs l t ct m _ h hc.out ht hm) hv.out he.out).mono ?_; rintro e W1 ⟨rfl, hb⟩; (try replace h := up_of hb h); (try replace ht := up_of hb ht); (try replace hB := up_of hb hB); (try replace d0 := up_of hb d0); (try replace d1 := up_of hb d1); (try replace dl := up_of hb dl); (try replace q0 := up_of hb q0); (try replace q1 := up_of hb q1); (try replace q2 := up_of hb q2); (try replace q3 := up_of hb q3); (try replace ql := up_of hb ql)) | (go_at_call 39; refine (BoolRet.calls (IsInner_c n s cs l p _ h hc.out) hv2.out he2.out).mono ?_; rintro e W1 ⟨rfl, hb⟩; (try replace h := up_of hb h); (try replace ht := up_of hb ht); (try replace hB := up_of hb hB); (try replace d0 := up_of hb d0); (try replace d1 := up_of hb d1); (try replace dl := up_of hb dl); (try replace q0 := up_of hb q0); (try replace q1 := up_of hb q1); (try replace q2 := up_of hb q2); (try replace q3 := up_of hb q3); (try replace ql := up_of hb ql)) | (go_at_call 40; refine (BoolRet.calls (rIsInner_c n s cs l p _ h hc.out) hv2.out he2.out).mono ?_; rintro e W1 ⟨rfl, hb⟩; (try replace h := up_of hb h); (try replace ht := up_of hb ht); (try replace hB := up_of hb hB); (try replace d0 := up_of hb d0); (try replace d1 := up_of hb d1); (try replace dl := up_of hb dl); (try replace q0 := up_of hb q0); (try replace q1 := up_of hb q1); (try replace q2 := up_of hb q2); (try replace q3 := up_of hb q3); (try replace ql := up_of hb ql)) | (go_at_call 14; refine (awake_c _).mono ?_; rintro e W1 ⟨rfl, hb⟩; (try replace h := up_of hb h); (try replace ht := up_of hb ht); (try replace hB := up_of hb hB); (try replace d0 := up_of hb d0); (try replace d1 := up_of hb d1); (try replace dl := up_of hb dl); (try replace q0 := up_of hb q0); (try replace q1 := up_of hb q1); (try replace q2 := up_of hb q2); (try replace q3 := up_of hb q3); (try replace ql := up_of hb ql)))
  go_ret
  exact ⟨rfl, hB⟩
end Go.Proofs.Ytfebkccdcbkdiaa
