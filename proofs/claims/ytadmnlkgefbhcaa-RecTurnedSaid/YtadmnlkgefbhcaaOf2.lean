/- The net's size, its elements, what they use: the reference. -/
import Derived.Test.YtadmnlkgefbhcaaOf1
import Derived.Test.YtadmnlkgefbhcaaB7
namespace Go.Proofs.Ytadmnlkgefbhcaa
open Go.RowKit Go.Maps

/-- The element with a number. -/
def elOf (P : List Pt) (k : Nat) : Ar := ⟨((k / P.length : Nat) : Int), pOf P k⟩
/-- What an argument of an element names. -/
def argE (p : Pt) (a : Ar) : Ar := ⟨a.v, ptP p a.p⟩
def isIn (P : List Pt) (y : Ar) : Bool := (pix P y.p).isSome
def usesE (P : List Pt) (p : Pt) (args : List Ar) : List Ar := (args.map (argE p)).filter (isIn P)
def elNum (P : List Pt) (y : Ar) : Nat := y.v.toNat * P.length + (pix P y.p).getD 0
theorem useN_usesE (K : List Vv) (P : List Pt) (k : Nat) : useN K P k = (usesE P (pOf P k) (vOf K P k).args).map (elNum P) := by
  unfold useN usesE
  generalize (vOf K P k).args = L
  induction L with
  | nil => rfl
  | cons a L ih =>
    rw [List.filterMap_cons, List.map_cons, List.filter_cons]
    have e : argN P a (pOf P k) = (pix P (ptP (pOf P k) a.p)).map fun i => a.v.toNat * P.length + i := rfl
    rw [e, ih]
    cases h : pix P (ptP (pOf P k) a.p) with
    | none => simp [isIn, argE, h]
    | some i => simp [isIn, argE, h, elNum]
theorem elNum_of {n : Int} {K : List Vv} {P : List Pt} (ok : NetOk n K P) {k : Nat} (hk : k < K.length * P.length) : elNum P (elOf P k) = k := by
  obtain ⟨h1, h2, h3⟩ := num_div hk
  unfold elNum elOf
  rw [pOf_at h2, pix_at ok.nd h2]
  show (((k / P.length : Nat) : Int)).toNat * P.length + k % P.length = k
  rw [Int.toNat_natCast]; exact h3
theorem elOf_num {n : Int} {K : List Vv} {P : List Pt} (_ok : NetOk n K P) {y : Ar} (hv : bw 0 y.v (K.length - 1) = true) (hi : isIn P y = true) : elOf P (elNum P y) = y ∧ elNum P y < K.length * P.length := by
  unfold isIn at hi
  have hb := bw_iff.1 hv
  cases h : pix P y.p with
  | none => rw [h] at hi; cases hi
  | some i =>
    obtain ⟨hi2, e⟩ := pix_some h
    obtain ⟨h1, h2⟩ := div_num (v := y.v.toNat) hi2
    unfold elNum elOf
    rw [h]
    show (⟨(((y.v.toNat * P.length + i) / P.length : Nat) : Int), pOf P (y.v.toNat * P.length + i)⟩ : Ar) = y ∧ _
    rw [h1, pOf_at (by rw [h2]; exact hi2)]
    simp only [h2, e]
    refine ⟨?_, numb_lt (by omega) hi2⟩
    obtain ⟨v, p⟩ := y
    simp only at hb ⊢
    rw [Int.toNat_of_nonneg hb.1]
theorem ar_snoc (pre : List Ar) (x : Ar) : arE.all (pre ++ [x]) = arE.all pre ++ [.int .i64 x.v, .int .i64 x.p.x, .int .i64 x.p.y, .int .i64 x.p.z] := by simp [Elt.all, arE, Ar.cells]
theorem info_elm : (Try.prog.info? 38).map (fun i => (i.zero, i.size, i.bytes)) = some (some (.agg #[.int .i64 0, .int .i64 0, .int .i64 0, .int .i64 0]), 4, 32) := by kernel_rfl
section
variable {g : Nat} {n : Int} {s : Option Addr} {cap : Nat} {l : List Iq} {s2 : Option Addr} {cq : Nat} {K : List Vv} {sp : Option Addr} {cp mb : Nat} {P : List Pt}
set_option maxRecDepth 100000 in
set_option maxHeartbeats 1000000 in
theorem rSize_c (w : World) (h : Net 64 w g n s cap l s2 cq K sp cp mb P) (ok : NetOk n K P) :
    Calls Try.prog 102 #[.pointer (some ⟨g, 0, none⟩)] w fun e w' => e = .returned (.int .i64 ((K.length * P.length : Nat) : Int)) ∧ Below w.heap.size w w' := by
  obtain ⟨n0, n1, n2, n3, n4⟩ := h.cells
  have hs := ok.size
  have e1 : (K.length : Int) * (P.length : Int) = ((K.length * P.length : Nat) : Int) := (Int.natCast_mul _ _).symm
  obtain ⟨m, hm⟩ : ∃ m, K.length * P.length = m := ⟨_, rfl⟩
  rw [hm] at e1 hs ⊢
  have w1 : IntKind.i64.wrap ((K.length : Int) * (P.length : Int)) = (m : Int) := by rw [e1]; exact i64_small (by omega)
  replace e1 := Lib.hid e1; replace hm := Lib.hid hm
  clear h
  go_enter Try.func102, Try.ntmps102
  go_upto_region 1 with (fail)
  refine wp_world fun W HW => ?_
  have hB : Below w.heap.size w W := by rw [HW.out]; (repeat (first | exact Below.refl _ _ | refine Below.alloc ?_ (by simp; try omega) _ | refine Below.setCell ?_ (by simp) _ | refine Below.drew ?_))
  try replace n0 := up_of hB n0
  try replace n2 := up_of hB n2
  try replace n3 := up_of hB n3
  try have ld_n0 := World.block_lt_of_cell? _ _ n0
  refine region_q (by kernel_rfl) (by kernel_rfl) ?_
  dsimp only [List.toList_toArray]
  repeat (first
   | go_big_quiet_skip
   | (go_big_quiet_want
      first
      | (refine qq_det ?_
         apply Exists.intro; refine ⟨fun W' hW' => ?_, ?_⟩
         (· have hk := cellB hW'; go_simp; try (first | rfl | rw [if_pos (by omega)]))
         simp only [Act.put, List.setIfInBounds_toArray, List.set_cons_zero, List.set_cons_succ]; go_big_quiet_on)))
  refine wpQuiet_nil ?_
  intro W1 hb
  try replace n0 := up_of hb n0
  try replace n2 := up_of hb n2
  try replace n3 := up_of hb n3
  try replace hB := up_of hb hB
  go_wp2
  go_ret
  exact ⟨rfl, hB⟩
set_option maxRecDepth 100000 in
set_option maxHeartbeats 1000000 in
theorem rElement_cs (k : Nat) (w : World) (h : Net 64 w g n s cap l s2 cq K sp cp mb P) (ok : NetOk n K P) (hk : k < K.length * P.length) :
    Calls Try.prog 104 #[.pointer (some ⟨g, 0, none⟩), .int .i64 k] w fun e w' => e = .returned (.agg #[.int .i64 ((k / P.length : Nat) : Int), .int .i64 (pOf P k).x, .int .i64 (pOf P k).y, .int .i64 (pOf P k).z]) ∧ Below w.heap.size w w' ∧ w'.heap.size = w.heap.size + 1 := by
  obtain ⟨n0, n1, n2, n3, n4⟩ := h.cells
  obtain ⟨hk1, hk2, hk3⟩ := num_div hk
  have hs := ok.size
  have hkl := ok.vars
  obtain ⟨b, off, rfl, hb, p0, p1, p2⟩ := pt_at h.pts hk2
  rw [pOf_at hk2]
  obtain ⟨⟨x, y, z⟩, hp⟩ : ∃ p, P[k % P.length] = p := ⟨_, rfl⟩
  rw [hp] at p0 p1 p2 ⊢
  have q1 : (k : Int).tdiv (P.length : Int) = ((k / P.length : Nat) : Int) := rfl
  have q2 : (k : Int).tmod (P.length : Int) = ((k % P.length : Nat) : Int) := rfl
  have q3 : (k : Int) / (P.length : Int) = ((k / P.length : Nat) : Int) := rfl
  have q4 : (k : Int) % (P.length : Int) = ((k % P.length : Nat) : Int) := rfl
  obtain ⟨v, hv⟩ : ∃ v, k / P.length = v := ⟨_, rfl⟩
  obtain ⟨i, hi⟩ : ∃ i, k % P.length = i := ⟨_, rfl⟩
  have j1 : ¬ (P.length : Int) = 0 := by omega
  have j2 : ¬ P.length = 0 := by omega
  rw [hv] at q1 q3 ⊢
  simp only [hi] at p0 p1 p2 hk2 q2 q4
  have j3 : (0 : Int) ≤ (i : Int) := by omega
  have j4 : (i : Int) < (P.length : Int) := by omega
  have w1 : IntKind.i64.wrap (v : Int) = (v : Int) := i64_small (by omega)
  have w2 : IntKind.i64.wrap (i : Int) = (i : Int) := i64_small (by omega)
  replace hp := Lib.hid hp; replace hk3 := Lib.hid hk3; replace hv := Lib.hid hv; replace hi := Lib.hid hi; replace hk := Lib.hid hk
  clear h
  go_enter Try.func104, Try.ntmps104
  go_upto_region 1 with (fail)
  refine wp_world fun W HW => ?_
  have hB : Below w.heap.size w W := by rw [HW.out]; (repeat (first | exact Below.refl _ _ | refine Below.alloc ?_ (by simp; try omega) _ | refine Below.setCell ?_ (by simp) _ | refine Below.drew ?_))
  have rB : Row W (w.heap.size) 38 #[.int .i64 0, .int .i64 0, .int .i64 0, .int .i64 0] := (by rw [HW.out]; (repeat (first | (refine blk_new ?_; simp; done) | refine blk_old ?_ _)) : W.heap[w.heap.size]? = some (.cells #[.int .i64 0, .int .i64 0, .int .i64 0, .int .i64 0] 38 (0, 0)))
  have r0 : W.cell? ⟨w.heap.size, 0, none⟩ = some (.int .i64 0) := by rw [HW.out]; simp [go_sem]
  have r1 : W.cell? ⟨w.heap.size, 1, none⟩ = some (.int .i64 0) := by rw [HW.out]; simp [go_sem]
  have r2 : W.cell? ⟨w.heap.size, 2, none⟩ = some (.int .i64 0) := by rw [HW.out]; simp [go_sem]
  have r3 : W.cell? ⟨w.heap.size, 3, none⟩ = some (.int .i64 0) := by rw [HW.out]; simp [go_sem]
  have rl : w.heap.size < W.heap.size := World.block_lt_of_cell? W _ r0
  try replace n3 := up_of hB n3
  try replace p0 := up_of hB p0
  try replace p1 := up_of hB p1
  try replace p2 := up_of hB p2
  have rf := fun i => Row.frozen rB i
  have hWs : W.heap.size = w.heap.size + 1 := by rw [HW.out]; simp
  go_region
  all_goals
    go_wp2
    refine bodyPost_ret (resC1 rfl rfl (loadEl (cs := #[.int .i64 v, .int .i64 x, .int .i64 y, .int .i64 z]) (b1 := w.heap.size) ?_ rfl)) rfl ⟨rfl, ?_, ?_⟩
    · refine Row.of ?_
      repeat (first | (with_reducible refine RowG.base rB ?_) | (with_reducible refine RowG.drew ?_) | (with_reducible refine RowG.set ?_) | ((with_reducible refine RowG.other ?_ ?_); (focus (first | omega | (simp; done) | (simp; omega)))) | (with_reducible refine RowG.alloc ?_))
      rfl
    · repeat (first | (with_reducible exact hB) | (with_reducible refine Below.drew ?_) | ((with_reducible refine Below.setC ?_ ?_); (focus (first | omega | (simp; done) | (simp; omega)))) | ((with_reducible refine Below.allo ?_ ?_); (focus (first | omega | (simp; done) | (simp; omega)))))
    · simp [World.setCell, hWs]
set_option maxRecDepth 100000 in
set_option maxHeartbeats 1000000 in
theorem rIs_c (y : Ar) (w : World) (h : Net 64 w g n s cap l s2 cq K sp cp mb P) (ok : NetOk n K P) (hy : y.p.I64) :
    Calls Try.prog 36 #[.pointer (some ⟨g, 0, none⟩), .agg #[.int .i64 y.v, .int .i64 y.p.x, .int .i64 y.p.y, .int .i64 y.p.z]] w fun e w' => e = .returned (.bool (isIn P y && bw 0 y.v (K.length - 1))) ∧ Below w.heap.size w w' := by
  have hlk := fun V (h : Net 64 V g n s cap l s2 cq K sp cp mb P) => (h.look ok hy).1
  have hkl := ok.vars
  have hB0 : isIn P y = (pix P y.p).isSome := rfl
  obtain ⟨v, ⟨x, yy, z⟩⟩ := y
  simp only at hlk hB0 ⊢
  obtain ⟨i, hi⟩ : ∃ i, (pix P ⟨x, yy, z⟩).getD 0 = i := ⟨_, rfl⟩
  obtain ⟨B, hB1⟩ : ∃ B, (pix P ⟨x, yy, z⟩).isSome = B := ⟨_, rfl⟩
  simp only [hi, hB1] at hlk
  rw [hB0, hB1]
  obtain ⟨R, hR⟩ : ∃ R, (B && bw 0 v ((K.length : Int) - 1)) = R := ⟨_, rfl⟩
  rw [hR]
  obtain ⟨n0, n1, n2, n3, n4⟩ := h.cells
  replace hlk := Lib.hid hlk; replace hi := Lib.hid hi; replace hB1 := Lib.hid hB1; replace hR := Lib.hid hR
  clear hB0 hy
  have h0 := Lib.hid h
  clear h ok
  go_enter Try.func36, Try.ntmps36
  go_upto_region 1 with (fail)
  refine wp_world fun W HW => ?_
  have hB : Below w.heap.size w W := by rw [HW.out]; (repeat (first | exact Below.refl _ _ | refine Below.alloc ?_ (by simp; try omega) _ | refine Below.setCell ?_ (by simp) _ | refine Below.drew ?_))
  have q0 : W.cell? ⟨w.heap.size, 0, none⟩ = some (.int .i64 v) := by rw [HW.out]; simp [go_sem]
  have q1 : W.cell? ⟨w.heap.size, 1, none⟩ = some (.int .i64 x) := by rw [HW.out]; simp [go_sem]
  have q2 : W.cell? ⟨w.heap.size, 2, none⟩ = some (.int .i64 yy) := by rw [HW.out]; simp [go_sem]
  have q3 : W.cell? ⟨w.heap.size, 3, none⟩ = some (.int .i64 z) := by rw [HW.out]; simp [go_sem]
  have ql : w.heap.size < W.heap.size := World.block_lt_of_cell? W _ q0
  try replace h0 := up_of hB h0
  try replace n0 := up_of hB n0
  try replace n2 := up_of hB n2
  try replace n4 := up_of hB n4
  try have ld_h0 := World.block_lt_of_cell? _ _ h0
  try have ld_n0 := World.block_lt_of_cell? _ _ n0
  try have ld_q0 := World.block_lt_of_cell? _ _ q0
  refine region_q (by kernel_rfl) (by kernel_rfl) ?_
  dsimp only [List.toList_toArray]
  repeat (first
   | go_big_quiet_skip
   | (go_big_quiet_want
      first
      | (refine qq_det ?_
         apply Exists.intro; refine ⟨fun W' hW' => ?_, ?_⟩
         (· have hk := cellB hW'; have hlk9 := hlk.out W' (up_of hW' h0).out; go_simp; try (first | rfl | rw [if_pos (by omega)]))
         simp only [Act.put, List.setIfInBounds_toArray, List.set_cons_zero, List.set_cons_succ]; go_big_quiet_on)))
  refine wpQuiet_nil ?_
  intro X1 hb
  try replace h0 := up_of hb h0
  try replace n0 := up_of hb n0
  try replace n2 := up_of hb n2
  try replace n4 := up_of hb n4
  try replace hB := up_of hb hB
  try replace q0 := up_of hb q0
  try replace q1 := up_of hb q1
  try replace q2 := up_of hb q2
  try replace q3 := up_of hb q3
  try replace ql := up_of hb ql
  go_upto_region 2 with (fail)
  cases B
  · obtain rfl : false = R := by rw [← hR.out]; rfl
    try have ld_h0 := World.block_lt_of_cell? _ _ h0
    try have ld_n0 := World.block_lt_of_cell? _ _ n0
    try have ld_q0 := World.block_lt_of_cell? _ _ q0
    refine region_q (by kernel_rfl) (by kernel_rfl) ?_
    dsimp only [List.toList_toArray]
    repeat (first
     | go_big_quiet_skip
     | (go_big_quiet_want
        first
        | (refine qq_det ?_
           apply Exists.intro; refine ⟨fun W' hW' => ?_, ?_⟩
           (· have hk := cellB hW'; go_simp; try (first | rfl | rw [if_pos (by omega)]))
           simp only [Act.put, List.setIfInBounds_toArray, List.set_cons_zero, List.set_cons_succ]; go_big_quiet_on)))
    refine wpQuiet_nil ?_
    intro X2 hb
    try replace h0 := up_of hb h0
    try replace n0 := up_of hb n0
    try replace n2 := up_of hb n2
    try replace n4 := up_of hb n4
    try replace hB := up_of hb hB
    try replace q0 := up_of hb q0
    try replace q1 := up_of hb q1
    try replace q2 := up_of hb q2
    try replace q3 := up_of hb q3
    try replace ql := up_of hb ql
    go_wp2
    go_ret
    exact ⟨rfl, hB⟩
  · by_cases hv : 0 ≤ v
    · by_cases hv2 : v < (K.length : Int)
      · obtain rfl : true = R := by rw [← hR.out, Bool.true_and]; symm; rw [bw_iff]; omega
        try have ld_h0 := World.block_lt_of_cell? _ _ h0
        try have ld_n0 := World.block_lt_of_cell? _ _ n0
        try have ld_q0 := World.block_lt_of_cell? _ _ q0
        refine region_q (by kernel_rfl) (by kernel_rfl) ?_
        dsimp only [List.toList_toArray]
        repeat (first
         | go_big_quiet_skip
         | (go_big_quiet_want
            first
            | (refine qq_det ?_
               apply Exists.intro; refine ⟨fun W' hW' => ?_, ?_⟩
               (· have hk := cellB hW'; go_simp; try (first | rfl | rw [if_pos (by omega)]))
               simp only [Act.put, List.setIfInBounds_toArray, List.set_cons_zero, List.set_cons_succ]; go_big_quiet_on)))
        refine wpQuiet_nil ?_
        intro X2 hb
        try replace h0 := up_of hb h0
        try replace n0 := up_of hb n0
        try replace n2 := up_of hb n2
        try replace n4 := up_of hb n4
        try replace hB := up_of hb hB
        try replace q0 := up_of hb q0
        try replace q1 := up_of hb q1
        try replace q2 := up_of hb q2
        try replace q3 := up_of hb q3
        try replace ql := up_of hb ql
        go_wp2
        go_ret
        exact ⟨rfl, hB⟩
      · obtain rfl : false = R := by rw [← hR.out]; simp [bw]; omega
        try have ld_h0 := World.block_lt_of_cell? _ _ h0
        try have ld_n0 := World.block_lt_of_cell? _ _ n0
        try have ld_q0 := World.block_lt_of_cell? _ _ q0
        refine region_q (by kernel_rfl) (by kernel_rfl) ?_
        dsimp only [List.toList_toArray]
        repeat (first
         | go_big_quiet_skip
         | (go_big_quiet_want
            first
            | (refine qq_det ?_
               apply Exists.intro; refine ⟨fun W' hW' => ?_, ?_⟩
               (· have hk := cellB hW'; go_simp; try (first | rfl | rw [if_pos (by omega)]))
               simp only [Act.put, List.setIfInBounds_toArray, List.set_cons_zero, List.set_cons_succ]; go_big_quiet_on)))
        refine wpQuiet_nil ?_
        intro X2 hb
        try replace h0 := up_of hb h0
        try replace n0 := up_of hb n0
        try replace n2 := up_of hb n2
        try replace n4 := up_of hb n4
        try replace hB := up_of hb hB
        try replace q0 := up_of hb q0
        try replace q1 := up_of hb q1
        try replace q2 := up_of hb q2
        try replace q3 := up_of hb q3
        try replace ql := up_of hb ql
        go_wp2
        go_ret
        exact ⟨rfl, hB⟩
    · obtain rfl : false = R := by rw [← hR.out]; simp [bw]; omega
      try have ld_h0 := World.block_lt_of_cell? _ _ h0
      try have ld_n0 := World.block_lt_of_cell? _ _ n0
      try have ld_q0 := World.block_lt_of_cell? _ _ q0
      refine region_q (by kernel_rfl) (by kernel_rfl) ?_
      dsimp only [List.toList_toArray]
      repeat (first
       | go_big_quiet_skip
       | (go_big_quiet_want
          first
          | (refine qq_det ?_
             apply Exists.intro; refine ⟨fun W' hW' => ?_, ?_⟩
             (· have hk := cellB hW'; go_simp; try (first | rfl | rw [if_pos (by omega)]))
             simp only [Act.put, List.setIfInBounds_toArray, List.set_cons_zero, List.set_cons_succ]; go_big_quiet_on)))
      refine wpQuiet_nil ?_
      intro X2 hb
      try replace h0 := up_of hb h0
      try replace n0 := up_of hb n0
      try replace n2 := up_of hb n2
      try replace n4 := up_of hb n4
      try replace hB := up_of hb hB
      try replace q0 := up_of hb q0
      try replace q1 := up_of hb q1
      try replace q2 := up_of hb q2
      try replace q3 := up_of hb q3
      try replace ql := up_of hb ql
      go_wp2
      go_ret
      exact ⟨rfl, hB⟩
set_option maxRecDepth 100000 in
set_option maxHeartbeats 1000000 in
theorem rnum_c (k : Nat) (w : World) (h : Net 64 w g n s cap l s2 cq K sp cp mb P) (ok : NetOk n K P) (hk : k < K.length * P.length) :
    Calls Try.prog 62 #[.pointer (some ⟨g, 0, none⟩), .agg #[.int .i64 (elOf P k).v, .int .i64 (elOf P k).p.x, .int .i64 (elOf P k).p.y, .int .i64 (elOf P k).p.z]] w fun e w' => e = .returned (.int .i64 k) ∧ Below w.heap.size w w' := by
  obtain ⟨hk1, hk2, hk3⟩ := num_div hk
  have hsm := ok.pts _ (List.getElem_mem hk2)
  have hlk := fun V (h : Net 64 V g n s cap l s2 cq K sp cp mb P) => (h.look ok (p := P[k % P.length]) (small_i64 hsm (by omega))).2
  rw [pix_at ok.nd hk2] at hlk
  unfold elOf
  rw [pOf_at hk2]
  obtain ⟨⟨x, y, z⟩, hp⟩ : ∃ p, P[k % P.length] = p := ⟨_, rfl⟩
  simp only [hp, Option.getD_some] at hlk ⊢
  have hNs := ok.size
  obtain ⟨v, hv⟩ : ∃ v, k / P.length = v := ⟨_, rfl⟩
  obtain ⟨i, hi⟩ : ∃ i, k % P.length = i := ⟨_, rfl⟩
  simp only [hi] at hlk
  rw [hv, hi] at hk3
  rw [hv]
  have e1 : (v : Int) * (P.length : Int) = ((v * P.length : Nat) : Int) := (Int.natCast_mul _ _).symm
  obtain ⟨A, hA⟩ : ∃ a, v * P.length = a := ⟨_, rfl⟩
  rw [hA] at e1 hk3
  have w1 : IntKind.i64.wrap ((v : Int) * (P.length : Int)) = (A : Int) := by rw [e1]; exact i64_small (by omega)
  have w2 : IntKind.i64.wrap ((A : Int) + (i : Int)) = (k : Int) := by rw [i64_small (by omega)]; omega
  obtain ⟨n0, n1, n2, n3, n4⟩ := h.cells
  have h0 := Lib.hid h
  replace hlk := Lib.hid hlk; replace e1 := Lib.hid e1; replace hA := Lib.hid hA; replace hk3 := Lib.hid hk3; replace hv := Lib.hid hv; replace hi := Lib.hid hi; replace hp := Lib.hid hp; replace hk := Lib.hid hk
  clear h ok hsm
  go_enter Try.func62, Try.ntmps62
  go_upto_region 1 with (fail)
  refine wp_world fun W HW => ?_
  have hB : Below w.heap.size w W := by rw [HW.out]; (repeat (first | exact Below.refl _ _ | refine Below.alloc ?_ (by simp; try omega) _ | refine Below.setCell ?_ (by simp) _ | refine Below.drew ?_))
  have q0 : W.cell? ⟨w.heap.size, 0, none⟩ = some (.int .i64 v) := by rw [HW.out]; simp [go_sem]
  have q1 : W.cell? ⟨w.heap.size, 1, none⟩ = some (.int .i64 x) := by rw [HW.out]; simp [go_sem]
  have q2 : W.cell? ⟨w.heap.size, 2, none⟩ = some (.int .i64 y) := by rw [HW.out]; simp [go_sem]
  have q3 : W.cell? ⟨w.heap.size, 3, none⟩ = some (.int .i64 z) := by rw [HW.out]; simp [go_sem]
  have ql : w.heap.size < W.heap.size := World.block_lt_of_cell? W _ q0
  try replace h0 := up_of hB h0
  try replace n0 := up_of hB n0
  try replace n3 := up_of hB n3
  try replace n4 := up_of hB n4
  try have ld_h0 := World.block_lt_of_cell? _ _ h0
  try have ld_n0 := World.block_lt_of_cell? _ _ n0
  try have ld_q0 := World.block_lt_of_cell? _ _ q0
  refine region_q (by kernel_rfl) (by kernel_rfl) ?_
  dsimp only [List.toList_toArray]
  repeat (first
   | go_big_quiet_skip
   | (go_big_quiet_want
      first
      | (refine qq_det ?_
         apply Exists.intro; refine ⟨fun W' hW' => ?_, ?_⟩
         (· have hk := cellB hW'; have hlk9 := hlk.out W' (up_of hW' h0).out; go_simp; try (first | rfl | rw [if_pos (by omega)]))
         simp only [Act.put, List.setIfInBounds_toArray, List.set_cons_zero, List.set_cons_succ]; go_big_quiet_on)))
  refine wpQuiet_nil ?_
  intro X1 hb
  try replace h0 := up_of hb h0
  try replace n0 := up_of hb n0
  try replace n3 := up_of hb n3
  try replace n4 := up_of hb n4
  try replace hB := up_of hb hB
  try replace q0 := up_of hb q0
  try replace q1 := up_of hb q1
  try replace q2 := up_of hb q2
  try replace q3 := up_of hb q3
  try replace ql := up_of hb ql
  go_wp2
  go_ret
  exact ⟨rfl, hB⟩
set_option maxRecDepth 100000 in
set_option maxHeartbeats 1000000 in
theorem rArg_c (v j : Nat) (p : Pt) (w : World) (h : Net 64 w g n s cap l s2 cq K sp cp mb P) (ok : NetOk n K P) (hv : v < K.length) (hj : j < K[v].args.length) (hp : p.small 20) :
    Calls Try.prog 35 #[.pointer (some ⟨g, 0, none⟩), .agg #[.int .i64 v, .int .i64 p.x, .int .i64 p.y, .int .i64 p.z], .int .i64 j] w fun e w' => e = .returned (.agg #[.int .i64 (argE p K[v].args[j]).v, .int .i64 (argE p K[v].args[j]).p.x, .int .i64 (argE p K[v].args[j]).p.y, .int .i64 (argE p K[v].args[j]).p.z]) ∧ Below w.heap.size w w' := by
  obtain ⟨n0, n1, n2, n3, n4⟩ := h.cells
  have hsh := ok.shift _ (List.getElem_mem hv) _ (List.getElem_mem hj)
  obtain ⟨vb, vo, sa, ca, rfl, hvb, z0, z1, z2, z3, z4, z5, z6, hsa, hal, -, -⟩ := h.rc.vars.at hv
  obtain ⟨ab, ao, rfl, hab, a0, a1, a2, a3⟩ := hsa.ar_at hj
  have hkl := ok.vars
  have haa := ok.args _ (List.getElem_mem hv)
  obtain ⟨AA, hAA⟩ : ∃ x, K[v].args.length = x := ⟨_, rfl⟩
  obtain ⟨⟨av, ⟨ax, ay, az⟩⟩, ha⟩ : ∃ x, K[v].args[j] = x := ⟨_, rfl⟩
  simp only [ha] at a0 a1 a2 a3 hsh ⊢
  rw [hAA] at z2 hj haa
  obtain ⟨⟨x, y, z⟩, hpp⟩ : ∃ q, p = q := ⟨_, rfl⟩
  subst hpp
  unfold argE ptP
  simp only
  obtain ⟨h1, h2, h3⟩ := hsh
  obtain ⟨p1, p2, p3⟩ := hp
  simp only at h1 h2 h3 p1 p2 p3
  have t1 : IntKind.i64.wrap (x + ax) = x + ax := i64_small (by omega)
  have t2 : IntKind.i64.wrap (y + ay) = y + ay := i64_small (by omega)
  have t3 : IntKind.i64.wrap (z + az) = z + az := i64_small (by omega)
  have i1 : (0 : Int) ≤ (v : Int) := by omega
  have i2 : (v : Int) < (K.length : Int) := by omega
  have i3 : (0 : Int) ≤ (j : Int) := by omega
  have i4 : (j : Int) < (AA : Int) := by omega
  replace hAA := Lib.hid hAA; replace ha := Lib.hid ha
  clear h ok h1 h2 h3 p1 p2 p3 hsa hal z0 z1 z3 z4 z5 z6
  go_enter Try.func35, Try.ntmps35
  go_upto_region 1 with (fail)
  refine wp_world fun W HW => ?_
  have hB : Below w.heap.size w W := by rw [HW.out]; (repeat (first | exact Below.refl _ _ | refine Below.alloc ?_ (by simp; try omega) _ | refine Below.setCell ?_ (by simp) _ | refine Below.drew ?_))
  have q0 : W.cell? ⟨w.heap.size, 0, none⟩ = some (.int .i64 v) := by rw [HW.out]; simp [go_sem]
  have q1 : W.cell? ⟨w.heap.size, 1, none⟩ = some (.int .i64 x) := by rw [HW.out]; simp [go_sem]
  have q2 : W.cell? ⟨w.heap.size, 2, none⟩ = some (.int .i64 y) := by rw [HW.out]; simp [go_sem]
  have q3 : W.cell? ⟨w.heap.size, 3, none⟩ = some (.int .i64 z) := by rw [HW.out]; simp [go_sem]
  have ql : w.heap.size < W.heap.size := World.block_lt_of_cell? W _ q0
  have rB : Row W (w.heap.size + 1) 38 #[.int .i64 0, .int .i64 0, .int .i64 0, .int .i64 0] := (by rw [HW.out]; (repeat (first | (refine blk_new ?_; simp; done) | refine blk_old ?_ _)) : W.heap[w.heap.size + 1]? = some (.cells #[.int .i64 0, .int .i64 0, .int .i64 0, .int .i64 0] 38 (0, 0)))
  have r0 : W.cell? ⟨w.heap.size + 1, 0, none⟩ = some (.int .i64 0) := by rw [HW.out]; simp [go_sem]
  have r1 : W.cell? ⟨w.heap.size + 1, 1, none⟩ = some (.int .i64 0) := by rw [HW.out]; simp [go_sem]
  have r2 : W.cell? ⟨w.heap.size + 1, 2, none⟩ = some (.int .i64 0) := by rw [HW.out]; simp [go_sem]
  have r3 : W.cell? ⟨w.heap.size + 1, 3, none⟩ = some (.int .i64 0) := by rw [HW.out]; simp [go_sem]
  have rl : w.heap.size + 1 < W.heap.size := World.block_lt_of_cell? W _ r0
  try replace n0 := up_of hB n0
  try replace n2 := up_of hB n2
  try replace z2 := up_of hB z2
  try replace a0 := up_of hB a0
  try replace a1 := up_of hB a1
  try replace a2 := up_of hB a2
  try replace a3 := up_of hB a3
  have rf := fun i => Row.frozen rB i
  have ln := World.block_lt_of_cell? _ _ n2
  have lz := World.block_lt_of_cell? _ _ z2
  have la := World.block_lt_of_cell? _ _ a0
  simp only at ln lz la
  go_region
  all_goals
    go_wp2
    refine bodyPost_ret (resC1 rfl rfl (loadEl (cs := #[.int .i64 av, .int .i64 (x + ax), .int .i64 (y + ay), .int .i64 (z + az)]) (b1 := w.heap.size + 1) ?_ rfl)) rfl ⟨rfl, ?_⟩
    · refine Row.of ?_
      repeat (first | (with_reducible refine RowG.base rB ?_) | (with_reducible refine RowG.drew ?_) | (with_reducible refine RowG.set ?_) | ((with_reducible refine RowG.other ?_ ?_); (focus (first | omega | (simp; done) | (simp; omega)))) | (with_reducible refine RowG.alloc ?_))
      rfl
    · repeat (first | (with_reducible exact hB) | (with_reducible refine Below.drew ?_) | ((with_reducible refine Below.setC ?_ ?_); (focus (first | omega | (simp; done) | (simp; omega)))) | ((with_reducible refine Below.allo ?_ ?_); (focus (first | omega | (simp; done) | (simp; omega)))))
end
end Go.Proofs.Ytadmnlkgefbhcaa
