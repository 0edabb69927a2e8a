/- The first claims that clash: the reference. -/
import Derived.Test.YtgeoehokojijdaaMix3
namespace Go.Proofs.Ytgeoehokojijdaa
open Go.RowKit

theorem hit_iff {k : List (List Clm)} {st : List Int} {p : Int} {i m j n : Nat} (hi : i < k.length) (hm : m < k[i].length) (hj : j < k.length) (hn : n < k[j].length) (si : i < st.length) (sj : j < st.length) :
    hitAt k st p i m j n ↔ (i < j ∨ (i = j ∧ m < n)) ∧ meetP k[i][m] st[i] k[j][n] st[j] p := by
  have e1 : kAt k i m = k[i][m] := by simp [kAt, List.getElem?_eq_getElem hi, List.getElem?_eq_getElem hm]
  have e2 : kAt k j n = k[j][n] := by simp [kAt, List.getElem?_eq_getElem hj, List.getElem?_eq_getElem hn]
  have l1 : kLen k i = k[i].length := by simp [kLen, List.getElem?_eq_getElem hi]
  have l2 : kLen k j = k[j].length := by simp [kLen, List.getElem?_eq_getElem hj]
  have s1 : st.getD i 0 = st[i] := by simp [List.getElem?_eq_getElem si]
  have s2 : st.getD j 0 = st[j] := by simp [List.getElem?_eq_getElem sj]
  unfold hitAt
  rw [e1, e2, l1, l2, s1, s2]
  exact ⟨fun h => ⟨h.2.1, h.2.2⟩, fun h => ⟨⟨hi, hm, hj, hn⟩, h.1, h.2⟩⟩
theorem kLen_at {k : List (List Clm)} {i : Nat} (hi : i < k.length) : kLen k i = k[i].length := by simp [kLen, List.getElem?_eq_getElem hi]
theorem results_ccs {fn : Func} {p u q : Tmp} {tp tu : TypeId} {tmps : Array Value} {P : Program} {w : World} {a b : Addr} {va vb vc : Value} (h : fn.results = #[.cell p tp, .cell u tu, .tmp q])
    (hp : tmps.getD p undef = .pointer (some a)) (hu : tmps.getD u undef = .pointer (some b)) (hq : tmps.getD q undef = vc)
    (la : (loadVar tp a).run P w = .ok va w) (lb : (loadVar tu b).run P w = .ok vb w) : (results fn tmps).run P w = .ok (.tuple #[va, vb, vc]) w := by
  simp only [results, h]
  simp only [Array.getD_eq_getD_getElem?] at hp hu hq
  simp [hp, hu, hq, asAddr, la, lb]
theorem Row.two {W : World} {b t : Nat} {x y : Value} (h : Row W b t #[x, y]) : W.cell? ⟨b, 0, none⟩ = some x ∧ W.cell? ⟨b, 1, none⟩ = some y := ⟨h.cell rfl, h.cell rfl⟩
theorem load_two {X : World} {b : Nat} {u v : Value} {t : TypeId} (h : Row X b t #[u, v]) : (loadVar 45 ⟨b, 0, none⟩).run Try.prog X = .ok (.agg #[u, v]) X := by
  obtain ⟨h0, h1⟩ := h.two
  simp [go_sem, loadVar, h0, h1]
/-- What Clash hands back. -/
def ClashPost (k : List (List Clm)) (p : Int) (st : List Int) (a0 a1 b0 b1 er : Int) : Prop :=
  (askE k p st ≠ 0 ∧ er = askE k p st ∧ a0 = 0 ∧ a1 = 0 ∧ b0 = 0 ∧ b1 = 0) ∨
  (askE k p st = 0 ∧ noHit k st p ∧ er = 5 ∧ a0 = 0 ∧ a1 = 0 ∧ b0 = 0 ∧ b1 = 0) ∨
  (askE k p st = 0 ∧ er = 0 ∧ ∃ i m j n : Nat, NB k st p i m j n ∧ hitAt k st p i m j n ∧ a0 = i ∧ a1 = m ∧ b0 = j ∧ b1 = n)
def ClashRet (k : List (List Clm)) (p : Int) (st : List Int) (w : World) (e : Ending) (w' : World) : Prop :=
  (∃ a0 a1 b0 b1 er : Int, e = .returned (.tuple #[.agg #[.int .i64 a0, .int .i64 a1], .agg #[.int .i64 b0, .int .i64 b1], .int .i64 er]) ∧ ClashPost k p st a0 a1 b0 b1 er) ∧ Below w.heap.size w w'
theorem clash_end {fn : Func} (hr : fn.results = #[.cell 6 45, .cell 7 45, .tmp 8]) {k : List (List Clm)} {p : Int} {st : List Int} (a0 a1 b0 b1 er : Int) {tmps : Array Value} {w X : World} {c1 c2 : Nat}
    (h6 : tmps.getD 6 undef = .pointer (some ⟨c1, 0, none⟩)) (h7 : tmps.getD 7 undef = .pointer (some ⟨c2, 0, none⟩)) (h8 : tmps.getD 8 undef = .int .i64 er)
    (r1 : Row X c1 45 #[.int .i64 a0, .int .i64 a1]) (r2 : Row X c2 45 #[.int .i64 b0, .int .i64 b1]) (hp : ClashPost k p st a0 a1 b0 b1 er) (hB : Below w.heap.size w X) :
    bodyPost Try.prog fn (ClashRet k p st w) .ret { tmps := tmps, defers := [] } X :=
  bodyPost_ret (results_ccs hr h6 h7 h8 (load_two r1) (load_two r2)) rfl ⟨⟨a0, a1, b0, b1, er, rfl, hp⟩, hB⟩

theorem i64_small {n : Int} (h : -9223372036854775808 ≤ n ∧ n ≤ 9223372036854775807) : IntKind.i64.wrap n = n := by rw [IntKind.wrap_i64]; omega
set_option maxRecDepth 100000 in
set_option maxHeartbeats 400000 in
theorem meet_c (a : Clm) (sa : Int) (b : Clm) (sb p : Int) (w : World) (ha : (0 ≤ a.time ∧ a.time ≤ 50) ∧ 0 ≤ sa ∧ sa ≤ 20) (hb : (0 ≤ b.time ∧ b.time ≤ 50) ∧ 0 ≤ sb ∧ sb ≤ 20) (hp : 1 ≤ p ∧ p ≤ 20) :
    Calls Try.prog 58 #[.agg #[.int .i64 a.cell, .int .i64 a.time], .int .i64 sa, .agg #[.int .i64 b.cell, .int .i64 b.time], .int .i64 sb, .int .i64 p] w fun e w' => e = .returned (.bool (decide (meetP a sa b sb p))) ∧ Below w.heap.size w w' := by
  have w1 := i64_small (n := a.time + sa) (by omega)
  have w2 := i64_small (n := b.time + sb) (by omega)
  have t1 : (a.time + sa).tmod p = (a.time + sa) % p := Int.tmod_eq_emod_of_nonneg (by omega)
  have t2 : (b.time + sb).tmod p = (b.time + sb) % p := Int.tmod_eq_emod_of_nonneg (by omega)
  have hp0 : ¬ p = 0 := by omega
  have hz : ∀ u v, (a.time + sa) % p = u → (b.time + sb) % p = v → decide (meetP a sa b sb p) = ((a.cell == b.cell) && (u == v)) := fun u v hu hv => by
    subst hu; subst hv
    rw [Bool.eq_iff_iff, decide_eq_true_iff]; simp [meetP]
  obtain ⟨u, hu⟩ : ∃ u, (a.time + sa) % p = u := ⟨_, rfl⟩
  obtain ⟨v, hv⟩ : ∃ v, (b.time + sb) % p = v := ⟨_, rfl⟩
  have hz := hz u v hu hv
  simp only [hu] at t1
  simp only [hv] at t2
  clear hu hv
  have hp1 : 1 ≤ p := hp.1
  have hp2 : p ≤ 20 := hp.2
  cases h1 : (a.cell == b.cell)
  · rw [h1, Bool.false_and] at hz
    rw [hz]
    clear hz
    go_enter Try.func58, Try.ntmps58
    go_upto_region 1 with (fail)
    refine wp_world fun W HW => ?_
    have hB : Below w.heap.size w W := by rw [HW.out]; (repeat (first | exact Below.refl _ _ | refine Below.alloc ?_ (by simp; try omega) _ | refine Below.setCell ?_ (by simp) _ | refine Below.drew ?_))
    have a0 : W.cell? ⟨w.heap.size, 0, none⟩ = some (.int .i64 a.cell) := by rw [HW.out]; simp [go_sem]
    have a1 : W.cell? ⟨w.heap.size, 1, none⟩ = some (.int .i64 a.time) := by rw [HW.out]; simp [go_sem]
    have al : w.heap.size < W.heap.size := World.block_lt_of_cell? W _ a0
    have b0 : W.cell? ⟨w.heap.size + 1, 0, none⟩ = some (.int .i64 b.cell) := by rw [HW.out]; simp [go_sem]
    have b1 : W.cell? ⟨w.heap.size + 1, 1, none⟩ = some (.int .i64 b.time) := by rw [HW.out]; simp [go_sem]
    have bl : w.heap.size + 1 < W.heap.size := World.block_lt_of_cell? W _ b0
    try have ld_a0 := World.block_lt_of_cell? _ _ a0
    try have ld_b0 := World.block_lt_of_cell? _ _ b0
    refine region_q (by kernel_rfl) (by kernel_rfl) ?_
    dsimp only [List.toList_toArray]
    repeat (first
     | go_big_quiet_skip
     | (go_big_quiet_want
        first
        | (refine qq_det ?_
           apply Exists.intro; refine ⟨fun W' hW' => ?_, ?_⟩
           (· have hk := cellB hW'; go_simp; try (first | rfl | rw [if_pos (by omega)]))
           simp only [Act.put, List.setIfInBounds_toArray, List.set_cons_zero, List.set_cons_succ]; go_big_quiet_on)))
    refine wpQuiet_nil ?_
    intro W1 hb
    try replace hB := up_of hb hB
    try replace a0 := up_of hb a0
    try replace a1 := up_of hb a1
    try replace al := up_of hb al
    try replace b0 := up_of hb b0
    try replace b1 := up_of hb b1
    try replace bl := up_of hb bl
    go_wp2
    go_ret
    exact ⟨rfl, hB⟩
  · cases h2 : (u == v)
    all_goals
      rw [h1, h2, Bool.true_and] at hz
      rw [hz]
      clear hz
      go_enter Try.func58, Try.ntmps58
      go_upto_region 1 with (fail)
      refine wp_world fun W HW => ?_
      have hB : Below w.heap.size w W := by rw [HW.out]; (repeat (first | exact Below.refl _ _ | refine Below.alloc ?_ (by simp; try omega) _ | refine Below.setCell ?_ (by simp) _ | refine Below.drew ?_))
      have a0 : W.cell? ⟨w.heap.size, 0, none⟩ = some (.int .i64 a.cell) := by rw [HW.out]; simp [go_sem]
      have a1 : W.cell? ⟨w.heap.size, 1, none⟩ = some (.int .i64 a.time) := by rw [HW.out]; simp [go_sem]
      have al : w.heap.size < W.heap.size := World.block_lt_of_cell? W _ a0
      have b0 : W.cell? ⟨w.heap.size + 1, 0, none⟩ = some (.int .i64 b.cell) := by rw [HW.out]; simp [go_sem]
      have b1 : W.cell? ⟨w.heap.size + 1, 1, none⟩ = some (.int .i64 b.time) := by rw [HW.out]; simp [go_sem]
      have bl : w.heap.size + 1 < W.heap.size := World.block_lt_of_cell? W _ b0
      try have ld_a0 := World.block_lt_of_cell? _ _ a0
      try have ld_b0 := World.block_lt_of_cell? _ _ b0
      refine region_q (by kernel_rfl) (by kernel_rfl) ?_
      dsimp only [List.toList_toArray]
      repeat (first
       | go_big_quiet_skip
       | (go_big_quiet_want
          first
          | (refine qq_det ?_
             apply Exists.intro; refine ⟨fun W' hW' => ?_, ?_⟩
             (· have hk := cellB hW'; go_simp; try (first | rfl | rw [if_pos (by omega)]))
             simp only [Act.put, List.setIfInBounds_toArray, List.set_cons_zero, List.set_cons_succ]; go_big_quiet_on)))
      refine wpQuiet_nil ?_
      intro W1 hb
      try replace hB := up_of hb hB
      try replace a0 := up_of hb a0
      try replace a1 := up_of hb a1
      try replace al := up_of hb al
      try replace b0 := up_of hb b0
      try replace b1 := up_of hb b1
      try replace bl := up_of hb bl
      go_wp2
      go_ret
      exact ⟨rfl, hB⟩
theorem meet_e (a : Clm) (sa : Int) (b : Clm) (sb p : Int) (w : World) (ha : (0 ≤ a.time ∧ a.time ≤ 50) ∧ 0 ≤ sa ∧ sa ≤ 20) (hb : (0 ≤ b.time ∧ b.time ≤ 50) ∧ 0 ≤ sb ∧ sb ≤ 20) (hp : 1 ≤ p ∧ p ≤ 20) {v : Bool} (hv : decide (meetP a sa b sb p) = v) :
    Calls Try.prog 58 #[.agg #[.int .i64 a.cell, .int .i64 a.time], .int .i64 sa, .agg #[.int .i64 b.cell, .int .i64 b.time], .int .i64 sb, .int .i64 p] w fun e w' => e = .returned (.bool v) ∧ Below w.heap.size w w' := hv ▸ meet_c a sa b sb p w ha hb hp

theorem askE_ok {k : List (List Clm)} {p : Int} {st : List Int} (h : askE k p st = 0) : vldB k = true ∧ (1 ≤ p ∧ p ≤ 20) ∧ st.length = k.length ∧ ∀ n ∈ st, 0 ≤ n ∧ n < p := by
  unfold askE at h
  split at h
  · split at h
    · rename_i h1 h2
      simp only [Bool.and_eq_true, bw_iff, timB, decide_eq_true_eq, List.all_eq_true] at h2
      exact ⟨h1, h2.1, h2.2.1, fun n hn => by have := h2.2.2 n hn; omega⟩
    · cases h
  · cases h

set_option maxRecDepth 100000 in
set_option maxHeartbeats 4000000 in
theorem rClash_c (s : Option Addr) (cap : Nat) (k : List (List Clm)) (p : Int) (t : Option Addr) (ct : Nat) (st : List Int) (w : World) (h : Ker w s cap k) (g : Ints w t st) :
    Calls Try.prog 38 #[.slice s k.length cap, .int .i64 p, .slice t st.length ct] w (ClashRet k p st w) := by
  have hl := g.len
  have hkl := h.len
  have h0 := Lib.hid h
  have g0 := Lib.hid g
  by_cases hE : askE k p st = 0
  case neg =>
    have hz : ClashPost k p st 0 0 0 0 (askE k p st) := .inl ⟨hE, rfl, rfl, rfl, rfl, rfl⟩
    have H := fun W (h : Ker W s cap k) (g : Ints W t st) => asked_c s cap k p t ct st W h g
    obtain ⟨er, her⟩ : ∃ er, askE k p st = er := ⟨_, rfl⟩
    rw [her] at hz hE H
    have hE' : (er != 0) = true := by simpa using hE
    replace hz := Lib.hid hz; replace H := Lib.hid H; clear hE her
    go_enter Try.func38, Try.ntmps38
    go_upto_region 1 with (fail)
    refine wp_world fun W HW => ?_
    have hB : Below w.heap.size w W := by rw [HW.out]; (repeat (first | exact Below.refl _ _ | refine Below.alloc ?_ (by simp; try omega) _ | refine Below.setCell ?_ (by simp) _ | refine Below.drew ?_))
    have aB : Row W (w.heap.size) 45 #[.int .i64 0, .int .i64 0] := (by rw [HW.out]; (repeat (first | (refine blk_new ?_; simp; done) | refine blk_old ?_ _)) : W.heap[w.heap.size]? = some (.cells #[.int .i64 0, .int .i64 0] 45 (0, 0)))
    have a0 : W.cell? ⟨w.heap.size, 0, none⟩ = some (.int .i64 0) := by rw [HW.out]; simp [go_sem]
    have a1 : W.cell? ⟨w.heap.size, 1, none⟩ = some (.int .i64 0) := by rw [HW.out]; simp [go_sem]
    have al : w.heap.size < W.heap.size := World.block_lt_of_cell? W _ a0
    have bB : Row W (w.heap.size + 1) 45 #[.int .i64 0, .int .i64 0] := (by rw [HW.out]; (repeat (first | (refine blk_new ?_; simp; done) | refine blk_old ?_ _)) : W.heap[w.heap.size + 1]? = some (.cells #[.int .i64 0, .int .i64 0] 45 (0, 0)))
    have b0 : W.cell? ⟨w.heap.size + 1, 0, none⟩ = some (.int .i64 0) := by rw [HW.out]; simp [go_sem]
    have b1 : W.cell? ⟨w.heap.size + 1, 1, none⟩ = some (.int .i64 0) := by rw [HW.out]; simp [go_sem]
    have bl : w.heap.size + 1 < W.heap.size := World.block_lt_of_cell? W _ b0
    try replace h := up_of hB h
    try replace g := up_of hB g
    go_upto_region 3 with (first | (go_at_call 56; refine (H.out _ h g).mono ?_; rintro e W1 ⟨rfl, hb⟩; (try replace h := up_of hb h); (try replace g := up_of hb g); (try replace hB := up_of hb hB); (try replace aB := up_of hb aB); (try replace a0 := up_of hb a0); (try replace a1 := up_of hb a1); (try replace al := up_of hb al); (try replace bB := up_of hb bB); (try replace b0 := up_of hb b0); (try replace b1 := up_of hb b1); (try replace bl := up_of hb bl)))
    have af := fun i => Row.frozen aB i
    have bf := fun i => Row.frozen bB i
    go_wp2
    refine clash_end rfl 0 0 0 0 er rfl rfl rfl ?_ ?_ hz.out ?_
    · refine Row.of ?_
      repeat (first | (with_reducible refine RowG.base aB ?_) | (with_reducible refine RowG.drew ?_) | (with_reducible refine RowG.set ?_) | ((with_reducible refine RowG.other ?_ ?_); (focus (first | omega | (simp; done) | (simp; omega)))) | (with_reducible refine RowG.alloc ?_))
      rfl
    · refine Row.of ?_
      repeat (first | (with_reducible refine RowG.base bB ?_) | (with_reducible refine RowG.drew ?_) | (with_reducible refine RowG.set ?_) | ((with_reducible refine RowG.other ?_ ?_); (focus (first | omega | (simp; done) | (simp; omega)))) | (with_reducible refine RowG.alloc ?_))
      rfl
    · repeat (first | (with_reducible exact hB) | (with_reducible refine Below.drew ?_) | ((with_reducible refine Below.setC ?_ ?_); (focus (first | omega | (simp; done) | (simp; omega)))) | ((with_reducible refine Below.allo ?_ ?_); (focus (first | omega | (simp; done) | (simp; omega)))))
  have H := fun W (h : Ker W s cap k) (g : Ints W t st) => asked_c s cap k p t ct st W h g
  rw [hE] at H
  obtain ⟨hv, hp, hst, hsr⟩ := askE_ok hE
  have hno : noHit k st p → ClashPost k p st 0 0 0 0 5 := fun hh => .inr (.inl ⟨hE, hh, rfl, rfl, rfl, rfl, rfl⟩)
  have hyes : ∀ i m j n : Nat, NB k st p i m j n → hitAt k st p i m j n → ClashPost k p st i m j n 0 := fun i m j n h1 h2 => .inr (.inr ⟨hE, rfl, i, m, j, n, h1, h2, rfl, rfl, rfl, rfl⟩)
  replace H := Lib.hid H; replace hv := Lib.hid hv; replace hst := Lib.hid hst; replace hsr := Lib.hid hsr; replace hno := Lib.hid hno; replace hyes := Lib.hid hyes
  clear hE
  go_enter Try.func38, Try.ntmps38
  go_upto_region 1 with (fail)
  refine wp_world fun W HW => ?_
  have hB : Below w.heap.size w W := by rw [HW.out]; (repeat (first | exact Below.refl _ _ | refine Below.alloc ?_ (by simp; try omega) _ | refine Below.setCell ?_ (by simp) _ | refine Below.drew ?_))
  have aB : Row W (w.heap.size) 45 #[.int .i64 0, .int .i64 0] := (by rw [HW.out]; (repeat (first | (refine blk_new ?_; simp; done) | refine blk_old ?_ _)) : W.heap[w.heap.size]? = some (.cells #[.int .i64 0, .int .i64 0] 45 (0, 0)))
  have a0 : W.cell? ⟨w.heap.size, 0, none⟩ = some (.int .i64 0) := by rw [HW.out]; simp [go_sem]
  have a1 : W.cell? ⟨w.heap.size, 1, none⟩ = some (.int .i64 0) := by rw [HW.out]; simp [go_sem]
  have al : w.heap.size < W.heap.size := World.block_lt_of_cell? W _ a0
  have bB : Row W (w.heap.size + 1) 45 #[.int .i64 0, .int .i64 0] := (by rw [HW.out]; (repeat (first | (refine blk_new ?_; simp; done) | refine blk_old ?_ _)) : W.heap[w.heap.size + 1]? = some (.cells #[.int .i64 0, .int .i64 0] 45 (0, 0)))
  have b0 : W.cell? ⟨w.heap.size + 1, 0, none⟩ = some (.int .i64 0) := by rw [HW.out]; simp [go_sem]
  have b1 : W.cell? ⟨w.heap.size + 1, 1, none⟩ = some (.int .i64 0) := by rw [HW.out]; simp [go_sem]
  have bl : w.heap.size + 1 < W.heap.size := World.block_lt_of_cell? W _ b0
  try replace h := up_of hB h
  try replace g := up_of hB g
  go_upto_region 4 with (first | (go_at_call 56; refine (H.out _ h g).mono ?_; rintro e W1 ⟨rfl, hb⟩; (try replace h := up_of hb h); (try replace g := up_of hb g); (try replace hB := up_of hb hB); (try replace aB := up_of hb aB); (try replace a0 := up_of hb a0); (try replace a1 := up_of hb a1); (try replace al := up_of hb al); (try replace bB := up_of hb bB); (try replace b0 := up_of hb b0); (try replace b1 := up_of hb b1); (try replace bl := up_of hb bl)))
  go_wp2
  go_loopw [27] (fun ii wr => ∃ i : Nat, i ≤ k.length ∧ ii = .int .i64 i ∧ Below W1.heap.size W1 wr ∧ Hid (NB k st p i 0 0 0)) (fun ii _ => k.length - (intOf ii).toNat)
  case atStart => exact ⟨0, by omega, rfl, Below.refl _ _, NB.start⟩
  case round =>
    clear a0 a1 b0 b1
    obtain ⟨i, hi, rfl, hR, hNB⟩ := hrel
    try replace h := up_of hR h
    try replace g := up_of hR g
    try replace hB := up_of hR hB
    try replace aB := up_of hR aB
    try replace bB := up_of hR bB
    by_cases hlt : i < k.length
    · obtain ⟨bk, ok, s1, c1, rfl, hbk, q0, hsl, -, -⟩ := h.ss.at hlt
      have hl1 := h0.out.lens _ (List.getElem_mem hlt)
      have g1 : (0 : Int) ≤ (i : Int) := by omega
      have g2 : (i : Int) < (k.length : Int) := by omega
      go_wp2
      go_loopw [35] (fun ii V => ∃ m : Nat, m ≤ k[i].length ∧ ii = .int .i64 m ∧ Below wr.heap.size wr V ∧ Hid (NB k st p i m 0 0)) (fun ii _ => k[i].length - (intOf ii).toNat)
      case atStart => exact ⟨0, by omega, rfl, Below.refl _ _, hNB⟩
      case round =>
        clear hNB
        obtain ⟨m, hm, rfl, hR2, hNB⟩ := hrel
        try replace h := up_of hR2 h
        try replace g := up_of hR2 g
        try replace hB := up_of hR2 hB
        try replace aB := up_of hR2 aB
        try replace bB := up_of hR2 bB
        try replace hR := up_of hR2 hR
        try replace q0 := up_of hR2 q0
        try replace hsl := up_of hR2 hsl
        by_cases hlm : m < k[i].length
        · obtain ⟨bx, ox, rfl, hbx, x0, x1⟩ := hsl.clm_at hlm
          have hxb := vldB_c hv.out (List.getElem_mem hlt) (List.getElem_mem hlm)
          have hhit := fun j n (hj : j < k.length) (hn : n < k[j].length) => hit_iff (st := st) (p := p) hlt hlm hj hn (by have := hst.out; omega) (by have := hst.out; omega)
          obtain ⟨x, hx⟩ : ∃ x, k[i][m] = x := ⟨_, rfl⟩
          rw [hx] at x0 x1 hxb hhit
          replace hx := Lib.hid hx; replace hhit := Lib.hid hhit; replace hxb := Lib.hid hxb
          have g3 : (0 : Int) ≤ (m : Int) := by omega
          have g4 : (m : Int) < (k[i].length : Int) := by omega
          have hFI := Lib.hid (NB.fromI hNB.out)
          clear hNB
          go_upto_region 10 with (fail)
          refine wp_world fun Y HY => ?_
          have hY : Below wr.heap.size wr Y := by rw [HY.out]; (repeat (first | exact Below.refl _ _ | refine Below.alloc ?_ (by simp; try omega) _ | refine Below.setCell ?_ (by simp) _ | refine Below.drew ?_))
          have x0 : Y.cell? ⟨wr.heap.size, 0, none⟩ = some (.int .i64 x.cell) := by rw [HY.out]; simp [go_sem]
          have x1 : Y.cell? ⟨wr.heap.size, 1, none⟩ = some (.int .i64 x.time) := by rw [HY.out]; simp [go_sem]
          have xl : wr.heap.size < Y.heap.size := World.block_lt_of_cell? Y _ x0
          try replace h := up_of hY h
          try replace g := up_of hY g
          try replace hB := up_of hY hB
          try replace aB := up_of hY aB
          try replace bB := up_of hY bB
          try replace hR := up_of hY hR
          try replace q0 := up_of hY q0
          try replace hsl := up_of hY hsl
          try replace hR2 := up_of hY hR2
          go_wp2
          go_loopw [13] (fun ii V => ∃ j : Nat, i ≤ j ∧ j ≤ k.length ∧ ii = .int .i64 j ∧ Below Y.heap.size Y V ∧ Hid (NB k st p i m j 0)) (fun ii _ => k.length - (intOf ii).toNat)
          case atStart => exact ⟨i, by omega, by omega, rfl, Below.refl _ _, hFI⟩
          case round =>
            clear hFI
            obtain ⟨j, hij, hj, rfl, hR3, hNB⟩ := hrel
            try replace h := up_of hR3 h
            try replace g := up_of hR3 g
            try replace hB := up_of hR3 hB
            try replace aB := up_of hR3 aB
            try replace bB := up_of hR3 bB
            try replace hR := up_of hR3 hR
            try replace q0 := up_of hR3 q0
            try replace hsl := up_of hR3 hsl
            try replace hR2 := up_of hR3 hR2
            try replace hY := up_of hR3 hY
            try replace x0 := up_of hR3 x0
            try replace x1 := up_of hR3 x1
            try replace xl := up_of hR3 xl
            by_cases hlj : j < k.length
            · obtain ⟨bj, oj, s2, c2, e2, hbj, u0, hsl2, -, -⟩ := h.ss.at hlj
              cases e2
              have hl2 := h0.out.lens _ (List.getElem_mem hlj)
              have g5 : (0 : Int) ≤ (j : Int) := by omega
              have g6 : (j : Int) < (k.length : Int) := by omega
              go_wp2
              go_loopw [52] (fun ii V => ∃ n : Nat, n ≤ k[j].length ∧ ii = .int .i64 n ∧ Below wr.heap.size wr V ∧ Hid (NB k st p i m j n)) (fun ii _ => k[j].length - (intOf ii).toNat)
              case atStart => exact ⟨0, by omega, rfl, Below.refl _ _, hNB⟩
              case round =>
                clear hNB
                obtain ⟨n, hn, rfl, hR4, hNB⟩ := hrel
                try replace h := up_of hR4 h
                try replace g := up_of hR4 g
                try replace hB := up_of hR4 hB
                try replace aB := up_of hR4 aB
                try replace bB := up_of hR4 bB
                try replace hR := up_of hR4 hR
                try replace q0 := up_of hR4 q0
                try replace hsl := up_of hR4 hsl
                try replace hR2 := up_of hR4 hR2
                try replace hY := up_of hR4 hY
                try replace x0 := up_of hR4 x0
                try replace x1 := up_of hR4 x1
                try replace xl := up_of hR4 xl
                try replace hR3 := up_of hR4 hR3
                try replace u0 := up_of hR4 u0
                try replace hsl2 := up_of hR4 hsl2
                by_cases hln : n < k[j].length
                · obtain ⟨by_, oy, rfl, hby, y0, y1⟩ := hsl2.clm_at hln
                  have hyb := vldB_c hv.out (List.getElem_mem hlj) (List.getElem_mem hln)
                  have hh := hhit.out j n hlj hln
                  obtain ⟨y, hy⟩ : ∃ y, k[j][n] = y := ⟨_, rfl⟩
                  rw [hy] at y0 y1 hyb hh
                  replace hy := Lib.hid hy
                  obtain ⟨bs, os, rfl, hbs, t0⟩ := g.sl.int_at (i := i) (by have := hst.out; omega)
                  obtain ⟨bs2, os2, e3, -, t1⟩ := g.sl.int_at (i := j) (by have := hst.out; omega)
                  cases e3
                  have hsi := hsr.out _ (List.getElem_mem (show i < st.length by have := hst.out; omega))
                  have hsj := hsr.out _ (List.getElem_mem (show j < st.length by have := hst.out; omega))
                  obtain ⟨si, hsi'⟩ : ∃ v, st[i]'(by have := hst.out; omega) = v := ⟨_, rfl⟩
                  obtain ⟨sj, hsj'⟩ : ∃ v, st[j]'(by have := hst.out; omega) = v := ⟨_, rfl⟩
                  simp only [hsi', hsj'] at hh t0 t1 hsi hsj
                  replace hsi' := Lib.hid hsi'; replace hsj' := Lib.hid hsj'
                  obtain ⟨vm, hvm⟩ : ∃ v, decide (meetP x si y sj p) = v := ⟨_, rfl⟩
                  have hhv : hitAt k st p i m j n ↔ (i < j ∨ (i = j ∧ m < n)) ∧ vm = true := by rw [hh, ← hvm, decide_eq_true_iff]
                  replace hhv := Lib.hid hhv
                  have b1 := hxb.out.2
                  have b2 := hyb.2
                  have mt := fun W => meet_e x si y sj p W ⟨b1, by omega⟩ ⟨b2, by omega⟩ hp hvm
                  replace mt := Lib.hid mt
                  clear hh hvm hyb b1 b2
                  have g7 : (0 : Int) ≤ (n : Int) := by omega
                  have g8 : (n : Int) < (k[j].length : Int) := by omega
                  have g9 : (i : Int) < (st.length : Int) := by have := hst.out; omega
                  have g10 : (j : Int) < (st.length : Int) := by have := hst.out; omega
                  go_upto_region 16 with (fail)
                  refine wp_world fun Z HZ => ?_
                  have hZ : Below wr.heap.size wr Z := by rw [HZ.out]; (repeat (first | exact Below.refl _ _ | refine Below.alloc ?_ (by simp; try omega) _ | refine Below.setCell ?_ (by simp) _ | refine Below.drew ?_))
                  have y0 : Z.cell? ⟨wr.heap.size, 0, none⟩ = some (.int .i64 y.cell) := by rw [HZ.out]; simp [go_sem]
                  have y1 : Z.cell? ⟨wr.heap.size, 1, none⟩ = some (.int .i64 y.time) := by rw [HZ.out]; simp [go_sem]
                  have yl : wr.heap.size < Z.heap.size := World.block_lt_of_cell? Z _ y0
                  try replace h := up_of hZ h
                  try replace g := up_of hZ g
                  try replace hB := up_of hZ hB
                  try replace aB := up_of hZ aB
                  try replace bB := up_of hZ bB
                  try replace hR := up_of hZ hR
                  try replace q0 := up_of hZ q0
                  try replace hsl := up_of hZ hsl
                  try replace hR2 := up_of hZ hR2
                  try replace hY := up_of hZ hY
                  try replace x0 := up_of hZ x0
                  try replace x1 := up_of hZ x1
                  try replace xl := up_of hZ xl
                  try replace hR3 := up_of hZ hR3
                  try replace u0 := up_of hZ u0
                  try replace hsl2 := up_of hZ hsl2
                  try replace hR4 := up_of hZ hR4
                  try replace t0 := up_of hZ t0
                  try replace t1 := up_of hZ t1
                  by_cases hc1 : i < j
                  · have hc1' : (i : Int) < (j : Int) := by omega
                    cases vm
                    · try have ld_q0 := World.block_lt_of_cell? _ _ q0
                      try have ld_x0 := World.block_lt_of_cell? _ _ x0
                      try have ld_u0 := World.block_lt_of_cell? _ _ u0
                      try have ld_t0 := World.block_lt_of_cell? _ _ t0
                      try have ld_y0 := World.block_lt_of_cell? _ _ y0
                      refine region_q (by kernel_rfl) (by kernel_rfl) ?_
                      dsimp only [List.toList_toArray]
                      repeat (first
                       | go_big_quiet_skip
                       | (go_big_quiet_want
                          first
                          | (refine qq_det ?_
                             apply Exists.intro; refine ⟨fun W' hW' => ?_, ?_⟩
                             (· have hk := cellB hW'; go_simp; try (first | rfl | rw [if_pos (by omega)]))
                             simp only [Act.put, List.setIfInBounds_toArray, List.set_cons_zero, List.set_cons_succ]; go_big_quiet_on)
                          | (refine qq_call ?_
                             apply Exists.intro; apply Exists.intro; refine ⟨fun W' hW' => ?_, ?_⟩
                             (· have hk := cellB hW'; go_simp; exact ⟨rfl, rfl⟩)
                             apply Exists.intro; refine ⟨fun W' hW' => ?_, ?_⟩
                             (· first | (go_at_call 58; exact qc hW' (mt.out _)))
                             simp only [Act.put, List.setIfInBounds_toArray, List.set_cons_zero, List.set_cons_succ]; go_big_quiet_on)))
                      refine wpQuiet_nil ?_
                      intro W1 hb
                      try replace h := up_of hb h
                      try replace g := up_of hb g
                      try replace hB := up_of hb hB
                      try replace aB := up_of hb aB
                      try replace bB := up_of hb bB
                      try replace hR := up_of hb hR
                      try replace q0 := up_of hb q0
                      try replace hsl := up_of hb hsl
                      try replace hR2 := up_of hb hR2
                      try replace hY := up_of hb hY
                      try replace x0 := up_of hb x0
                      try replace x1 := up_of hb x1
                      try replace xl := up_of hb xl
                      try replace hR3 := up_of hb hR3
                      try replace u0 := up_of hb u0
                      try replace hsl2 := up_of hb hsl2
                      try replace hR4 := up_of hb hR4
                      try replace t0 := up_of hb t0
                      try replace t1 := up_of hb t1
                      try replace hZ := up_of hb hZ
                      try replace y0 := up_of hb y0
                      try replace y1 := up_of hb y1
                      try replace yl := up_of hb yl
                      go_wp2
                      go_roundw
                      case rel => exact ⟨n + 1, by omega, by go_num, hR4, hNB.out.next (by rw [hhv.out]; simp)⟩
                      case measure => simp [intOf]; omega
                    · try have ld_q0 := World.block_lt_of_cell? _ _ q0
                      try have ld_x0 := World.block_lt_of_cell? _ _ x0
                      try have ld_u0 := World.block_lt_of_cell? _ _ u0
                      try have ld_t0 := World.block_lt_of_cell? _ _ t0
                      try have ld_y0 := World.block_lt_of_cell? _ _ y0
                      refine region_q (by kernel_rfl) (by kernel_rfl) ?_
                      dsimp only [List.toList_toArray]
                      repeat (first
                       | go_big_quiet_skip
                       | (go_big_quiet_want
                          first
                          | (refine qq_det ?_
                             apply Exists.intro; refine ⟨fun W' hW' => ?_, ?_⟩
                             (· have hk := cellB hW'; go_simp; try (first | rfl | rw [if_pos (by omega)]))
                             simp only [Act.put, List.setIfInBounds_toArray, List.set_cons_zero, List.set_cons_succ]; go_big_quiet_on)
                          | (refine qq_call ?_
                             apply Exists.intro; apply Exists.intro; refine ⟨fun W' hW' => ?_, ?_⟩
                             (· have hk := cellB hW'; go_simp; exact ⟨rfl, rfl⟩)
                             apply Exists.intro; refine ⟨fun W' hW' => ?_, ?_⟩
                             (· first | (go_at_call 58; exact qc hW' (mt.out _)))
                             simp only [Act.put, List.setIfInBounds_toArray, List.set_cons_zero, List.set_cons_succ]; go_big_quiet_on)))
                      refine wpQuiet_nil ?_
                      intro W1 hb
                      try replace h := up_of hb h
                      try replace g := up_of hb g
                      try replace hB := up_of hb hB
                      try replace aB := up_of hb aB
                      try replace bB := up_of hb bB
                      try replace hR := up_of hb hR
                      try replace q0 := up_of hb q0
                      try replace hsl := up_of hb hsl
                      try replace hR2 := up_of hb hR2
                      try replace hY := up_of hb hY
                      try replace x0 := up_of hb x0
                      try replace x1 := up_of hb x1
                      try replace xl := up_of hb xl
                      try replace hR3 := up_of hb hR3
                      try replace u0 := up_of hb u0
                      try replace hsl2 := up_of hb hsl2
                      try replace hR4 := up_of hb hR4
                      try replace t0 := up_of hb t0
                      try replace t1 := up_of hb t1
                      try replace hZ := up_of hb hZ
                      try replace y0 := up_of hb y0
                      try replace y1 := up_of hb y1
                      try replace yl := up_of hb yl
                      have af := fun i => Row.frozen aB i
                      have bf := fun i => Row.frozen bB i
                      obtain ⟨a0, a1⟩ := aB.two
                      obtain ⟨b0, b1⟩ := bB.two
                      go_wp2
                      refine clash_end rfl i m j n 0 rfl rfl rfl ?_ ?_ (hyes.out i m j n hNB.out (hhv.out.2 ⟨.inl hc1, by simp⟩)) ?_
                      · refine Row.of ?_
                        repeat (first | (with_reducible refine RowG.base aB ?_) | (with_reducible refine RowG.drew ?_) | (with_reducible refine RowG.set ?_) | ((with_reducible refine RowG.other ?_ ?_); (focus (first | omega | (simp; done) | (simp; omega)))) | (with_reducible refine RowG.alloc ?_))
                        rfl
                      · refine Row.of ?_
                        repeat (first | (with_reducible refine RowG.base bB ?_) | (with_reducible refine RowG.drew ?_) | (with_reducible refine RowG.set ?_) | ((with_reducible refine RowG.other ?_ ?_); (focus (first | omega | (simp; done) | (simp; omega)))) | (with_reducible refine RowG.alloc ?_))
                        rfl
                      · repeat (first | (with_reducible exact hB) | (with_reducible refine Below.drew ?_) | ((with_reducible refine Below.setC ?_ ?_); (focus (first | omega | (simp; done) | (simp; omega)))) | ((with_reducible refine Below.allo ?_ ?_); (focus (first | omega | (simp; done) | (simp; omega)))))
                  · have hc1' : ¬ (i : Int) < (j : Int) := by omega
                    by_cases hc2 : m < n
                    · have hc2' : (m : Int) < (n : Int) := by omega
                      cases vm
                      · try have ld_q0 := World.block_lt_of_cell? _ _ q0
                        try have ld_x0 := World.block_lt_of_cell? _ _ x0
                        try have ld_u0 := World.block_lt_of_cell? _ _ u0
                        try have ld_t0 := World.block_lt_of_cell? _ _ t0
                        try have ld_y0 := World.block_lt_of_cell? _ _ y0
                        refine region_q (by kernel_rfl) (by kernel_rfl) ?_
                        dsimp only [List.toList_toArray]
                        repeat (first
                         | go_big_quiet_skip
                         | (go_big_quiet_want
                            first
                            | (refine qq_det ?_
                               apply Exists.intro; refine ⟨fun W' hW' => ?_, ?_⟩
                               (· have hk := cellB hW'; go_simp; try (first | rfl | rw [if_pos (by omega)]))
                               simp only [Act.put, List.setIfInBounds_toArray, List.set_cons_zero, List.set_cons_succ]; go_big_quiet_on)
                            | (refine qq_call ?_
                               apply Exists.intro; apply Exists.intro; refine ⟨fun W' hW' => ?_, ?_⟩
                               (· have hk := cellB hW'; go_simp; exact ⟨rfl, rfl⟩)
                               apply Exists.intro; refine ⟨fun W' hW' => ?_, ?_⟩
                               (· first | (go_at_call 58; exact qc hW' (mt.out _)))
                               simp only [Act.put, List.setIfInBounds_toArray, List.set_cons_zero, List.set_cons_succ]; go_big_quiet_on)))
                        refine wpQuiet_nil ?_
                        intro W1 hb
                        try replace h := up_of hb h
                        try replace g := up_of hb g
                        try replace hB := up_of hb hB
                        try replace aB := up_of hb aB
                        try replace bB := up_of hb bB
                        try replace hR := up_of hb hR
                        try replace q0 := up_of hb q0
                        try replace hsl := up_of hb hsl
                        try replace hR2 := up_of hb hR2
                        try replace hY := up_of hb hY
                        try replace x0 := up_of hb x0
                        try replace x1 := up_of hb x1
                        try replace xl := up_of hb xl
                        try replace hR3 := up_of hb hR3
                        try replace u0 := up_of hb u0
                        try replace hsl2 := up_of hb hsl2
                        try replace hR4 := up_of hb hR4
                        try replace t0 := up_of hb t0
                        try replace t1 := up_of hb t1
                        try replace hZ := up_of hb hZ
                        try replace y0 := up_of hb y0
                        try replace y1 := up_of hb y1
                        try replace yl := up_of hb yl
                        go_wp2
                        go_roundw
                        case rel => exact ⟨n + 1, by omega, by go_num, hR4, hNB.out.next (by rw [hhv.out]; simp)⟩
                        case measure => simp [intOf]; omega
                      · try have ld_q0 := World.block_lt_of_cell? _ _ q0
                        try have ld_x0 := World.block_lt_of_cell? _ _ x0
                        try have ld_u0 := World.block_lt_of_cell? _ _ u0
                        try have ld_t0 := World.block_lt_of_cell? _ _ t0
                        try have ld_y0 := World.block_lt_of_cell? _ _ y0
                        refine region_q (by kernel_rfl) (by kernel_rfl) ?_
                        dsimp only [List.toList_toArray]
                        repeat (first
                         | go_big_quiet_skip
                         | (go_big_quiet_want
                            first
                            | (refine qq_det ?_
                               apply Exists.intro; refine ⟨fun W' hW' => ?_, ?_⟩
                               (· have hk := cellB hW'; go_simp; try (first | rfl | rw [if_pos (by omega)]))
                               simp only [Act.put, List.setIfInBounds_toArray, List.set_cons_zero, List.set_cons_succ]; go_big_quiet_on)
                            | (refine qq_call ?_
                               apply Exists.intro; apply Exists.intro; refine ⟨fun W' hW' => ?_, ?_⟩
                               (· have hk := cellB hW'; go_simp; exact ⟨rfl, rfl⟩)
                               apply Exists.intro; refine ⟨fun W' hW' => ?_, ?_⟩
                               (· first | (go_at_call 58; exact qc hW' (mt.out _)))
                               simp only [Act.put, List.setIfInBounds_toArray, List.set_cons_zero, List.set_cons_succ]; go_big_quiet_on)))
                        refine wpQuiet_nil ?_
                        intro W1 hb
                        try replace h := up_of hb h
                        try replace g := up_of hb g
                        try replace hB := up_of hb hB
                        try replace aB := up_of hb aB
                        try replace bB := up_of hb bB
                        try replace hR := up_of hb hR
                        try replace q0 := up_of hb q0
                        try replace hsl := up_of hb hsl
                        try replace hR2 := up_of hb hR2
                        try replace hY := up_of hb hY
                        try replace x0 := up_of hb x0
                        try replace x1 := up_of hb x1
                        try replace xl := up_of hb xl
                        try replace hR3 := up_of hb hR3
                        try replace u0 := up_of hb u0
                        try replace hsl2 := up_of hb hsl2
                        try replace hR4 := up_of hb hR4
                        try replace t0 := up_of hb t0
                        try replace t1 := up_of hb t1
                        try replace hZ := up_of hb hZ
                        try replace y0 := up_of hb y0
                        try replace y1 := up_of hb y1
                        try replace yl := up_of hb yl
                        have af := fun i => Row.frozen aB i
                        have bf := fun i => Row.frozen bB i
                        obtain ⟨a0, a1⟩ := aB.two
                        obtain ⟨b0, b1⟩ := bB.two
                        go_wp2
                        refine clash_end rfl i m j n 0 rfl rfl rfl ?_ ?_ (hyes.out i m j n hNB.out (hhv.out.2 ⟨.inr ⟨by omega, hc2⟩, by simp⟩)) ?_
                        · refine Row.of ?_
                          repeat (first | (with_reducible refine RowG.base aB ?_) | (with_reducible refine RowG.drew ?_) | (with_reducible refine RowG.set ?_) | ((with_reducible refine RowG.other ?_ ?_); (focus (first | omega | (simp; done) | (simp; omega)))) | (with_reducible refine RowG.alloc ?_))
                          rfl
                        · refine Row.of ?_
                          repeat (first | (with_reducible refine RowG.base bB ?_) | (with_reducible refine RowG.drew ?_) | (with_reducible refine RowG.set ?_) | ((with_reducible refine RowG.other ?_ ?_); (focus (first | omega | (simp; done) | (simp; omega)))) | (with_reducible refine RowG.alloc ?_))
                          rfl
                        · repeat (first | (with_reducible exact hB) | (with_reducible refine Below.drew ?_) | ((with_reducible refine Below.setC ?_ ?_); (focus (first | omega | (simp; done) | (simp; omega)))) | ((with_reducible refine Below.allo ?_ ?_); (focus (first | omega | (simp; done) | (simp; omega)))))
                    · have hc2' : ¬ (m : Int) < (n : Int) := by omega
                      try have ld_q0 := World.block_lt_of_cell? _ _ q0
                      try have ld_x0 := World.block_lt_of_cell? _ _ x0
                      try have ld_u0 := World.block_lt_of_cell? _ _ u0
                      try have ld_t0 := World.block_lt_of_cell? _ _ t0
                      try have ld_y0 := World.block_lt_of_cell? _ _ y0
                      refine region_q (by kernel_rfl) (by kernel_rfl) ?_
                      dsimp only [List.toList_toArray]
                      repeat (first
                       | go_big_quiet_skip
                       | (go_big_quiet_want
                          first
                          | (refine qq_det ?_
                             apply Exists.intro; refine ⟨fun W' hW' => ?_, ?_⟩
                             (· have hk := cellB hW'; go_simp; try (first | rfl | rw [if_pos (by omega)]))
                             simp only [Act.put, List.setIfInBounds_toArray, List.set_cons_zero, List.set_cons_succ]; go_big_quiet_on)
                          | (refine qq_call ?_
                             apply Exists.intro; apply Exists.intro; refine ⟨fun W' hW' => ?_, ?_⟩
                             (· have hk := cellB hW'; go_simp; exact ⟨rfl, rfl⟩)
                             apply Exists.intro; refine ⟨fun W' hW' => ?_, ?_⟩
                             (· first | (go_at_call 58; exact qc hW' (mt.out _)))
                             simp only [Act.put, List.setIfInBounds_toArray, List.set_cons_zero, List.set_cons_succ]; go_big_quiet_on)))
                      refine wpQuiet_nil ?_
                      intro W1 hb
                      try replace h := up_of hb h
                      try replace g := up_of hb g
                      try replace hB := up_of hb hB
                      try replace aB := up_of hb aB
                      try replace bB := up_of hb bB
                      try replace hR := up_of hb hR
                      try replace q0 := up_of hb q0
                      try replace hsl := up_of hb hsl
                      try replace hR2 := up_of hb hR2
                      try replace hY := up_of hb hY
                      try replace x0 := up_of hb x0
                      try replace x1 := up_of hb x1
                      try replace xl := up_of hb xl
                      try replace hR3 := up_of hb hR3
                      try replace u0 := up_of hb u0
                      try replace hsl2 := up_of hb hsl2
                      try replace hR4 := up_of hb hR4
                      try replace t0 := up_of hb t0
                      try replace t1 := up_of hb t1
                      try replace hZ := up_of hb hZ
                      try replace y0 := up_of hb y0
                      try replace y1 := up_of hb y1
                      try replace yl := up_of hb yl
                      go_wp2
                      go_roundw
                      case rel => exact ⟨n + 1, by omega, by go_num, hR4, hNB.out.next (by rw [hhv.out]; intro hh; omega)⟩
                      case measure => simp [intOf]; omega
                · obtain rfl : n = k[j].length := by omega
                  have hNB2 := Lib.hid (hNB.out.endN (Nat.le_of_eq (kLen_at hlj)))
                  go_wp2
                  go_roundw
                  case rel => exact ⟨j + 1, by omega, by omega, by go_num, hR3, hNB2.out⟩
                  case measure => simp [intOf]; omega
            · obtain rfl : j = k.length := by omega
              have hNB2 := Lib.hid (hNB.out.endJ (Nat.le_refl _))
              go_wp2
              go_roundw
              case rel => exact ⟨m + 1, by omega, by go_num, hR2, hNB2.out⟩
              case measure => simp [intOf]; omega
        · obtain rfl : m = k[i].length := by omega
          have hNB2 := Lib.hid (hNB.out.endM (Nat.le_of_eq (kLen_at hlt)))
          go_wp2
          go_roundw
          case rel => exact ⟨i + 1, by omega, by go_num, hR, hNB2.out⟩
          case measure => simp [intOf]; omega
    · obtain rfl : i = k.length := by omega
      have hNB2 := Lib.hid (hno.out (hNB.out.endI (Nat.le_refl _)))
      have af := fun i => Row.frozen aB i
      have bf := fun i => Row.frozen bB i
      obtain ⟨a0, a1⟩ := aB.two
      obtain ⟨b0, b1⟩ := bB.two
      go_wp2
      refine clash_end rfl 0 0 0 0 5 rfl rfl rfl ?_ ?_ hNB2.out ?_
      · refine Row.of ?_
        repeat (first | (with_reducible refine RowG.base aB ?_) | (with_reducible refine RowG.drew ?_) | (with_reducible refine RowG.set ?_) | ((with_reducible refine RowG.other ?_ ?_); (focus (first | omega | (simp; done) | (simp; omega)))) | (with_reducible refine RowG.alloc ?_))
        rfl
      · refine Row.of ?_
        repeat (first | (with_reducible refine RowG.base bB ?_) | (with_reducible refine RowG.drew ?_) | (with_reducible refine RowG.set ?_) | ((with_reducible refine RowG.other ?_ ?_); (focus (first | omega | (simp; done) | (simp; omega)))) | (with_reducible refine RowG.alloc ?_))
        rfl
      · repeat (first | (with_reducible exact hB) | (with_reducible refine Below.drew ?_) | ((with_reducible refine Below.setC ?_ ?_); (focus (first | omega | (simp; done) | (simp; omega)))) | ((with_reducible refine Below.allo ?_ ?_); (focus (first | omega | (simp; done) | (simp; omega)))))
end Go.Proofs.Ytgeoehokojijdaa
