/- Clash and Good: the program. -/
import Derived.Test.YtgeoehokojijdaaMix29
import Derived.Test.YtgeoehokojijdaaMix23
import Derived.Test.YtgeoehokojijdaaMix6
namespace Go.Proofs.Ytgeoehokojijdaa
open Go.RowKit

set_option maxRecDepth 100000 in
set_option maxHeartbeats 1000000 in
theorem Clash_c (s : Option Addr) (cap : Nat) (k : List (List Clm)) (p : Int) (t : Option Addr) (ct : Nat) (st : List Int) (w : World) (h : Ker w s cap k) (g : Ints w t st) :
    Calls Try.prog 37 #[.slice s k.length cap, .int .i64 p, .slice t st.length ct] w (ClashRet k p st w) := by
  have hkl := h.len
  have hsl := g.len
  have H := fun W (h : Ker W s cap k) => checked_c s cap k p W h
  by_cases h1 : chkE k p = 0
  case neg =>
    have e0 := chk_ask h1 st
    have hz : ClashPost k p st 0 0 0 0 (chkE k p) := .inl ⟨by rw [e0]; exact h1, e0.symm, rfl, rfl, rfl, rfl⟩
    obtain ⟨er, her⟩ : ∃ er, chkE k p = er := ⟨_, rfl⟩
    rw [her] at hz h1 H
    have hE' : (er != 0) = true := by simpa using h1
    replace hz := Lib.hid hz; replace H := Lib.hid H; clear h1 her e0
    go_enter Try.func37, Try.ntmps37
    go_upto_region 1 with (fail)
    refine wp_world fun W HW => ?_
    have hB : Below w.heap.size w W := by rw [HW.out]; (repeat (first | exact Below.refl _ _ | refine Below.alloc ?_ (by simp; try omega) _ | refine Below.setCell ?_ (by simp) _ | refine Below.drew ?_))
    have aB : Row W (w.heap.size) 45 #[.int .i64 0, .int .i64 0] := (by rw [HW.out]; (repeat (first | (refine blk_new ?_; simp; done) | refine blk_old ?_ _)) : W.heap[w.heap.size]? = some (.cells #[.int .i64 0, .int .i64 0] 45 (0, 0)))
    have a0 : W.cell? ⟨w.heap.size, 0, none⟩ = some (.int .i64 0) := by rw [HW.out]; simp [go_sem]
    have a1 : W.cell? ⟨w.heap.size, 1, none⟩ = some (.int .i64 0) := by rw [HW.out]; simp [go_sem]
    have al : w.heap.size < W.heap.size := World.block_lt_of_cell? W _ a0
    have bB : Row W (w.heap.size + 1) 45 #[.int .i64 0, .int .i64 0] := (by rw [HW.out]; (repeat (first | (refine blk_new ?_; simp; done) | refine blk_old ?_ _)) : W.heap[w.heap.size + 1]? = some (.cells #[.int .i64 0, .int .i64 0] 45 (0, 0)))
    have b0 : W.cell? ⟨w.heap.size + 1, 0, none⟩ = some (.int .i64 0) := by rw [HW.out]; simp [go_sem]
    have b1 : W.cell? ⟨w.heap.size + 1, 1, none⟩ = some (.int .i64 0) := by rw [HW.out]; simp [go_sem]
    have bl : w.heap.size + 1 < W.heap.size := World.block_lt_of_cell? W _ b0
    try replace h := up_of hB h
    try replace g := up_of hB g
    go_upto_region 3 with (first | (go_at_call 49; refine (H.out _ h).mono ?_; rintro e W1 ⟨rfl, hb⟩; (try replace h := up_of hb h); (try replace g := up_of hb g); (try replace hB := up_of hb hB); (try replace aB := up_of hb aB); (try replace a0 := up_of hb a0); (try replace a1 := up_of hb a1); (try replace al := up_of hb al); (try replace bB := up_of hb bB); (try replace b0 := up_of hb b0); (try replace b1 := up_of hb b1); (try replace bl := up_of hb bl)))
    have af := fun i => Row.frozen aB i
    have bf := fun i => Row.frozen bB i
    go_region
    all_goals
      go_wp2
      refine clash_end rfl 0 0 0 0 er rfl rfl rfl ?_ ?_ hz.out ?_
      · refine Row.of ?_
        repeat (first | (with_reducible refine RowG.base aB ?_) | (with_reducible refine RowG.drew ?_) | (with_reducible refine RowG.set ?_) | ((with_reducible refine RowG.other ?_ ?_); (focus (first | omega | (simp; done) | (simp; omega)))) | (with_reducible refine RowG.alloc ?_))
        rfl
      · refine Row.of ?_
        repeat (first | (with_reducible refine RowG.base bB ?_) | (with_reducible refine RowG.drew ?_) | (with_reducible refine RowG.set ?_) | ((with_reducible refine RowG.other ?_ ?_); (focus (first | omega | (simp; done) | (simp; omega)))) | (with_reducible refine RowG.alloc ?_))
        rfl
      · repeat (first | (with_reducible exact hB) | (with_reducible refine Below.drew ?_) | ((with_reducible refine Below.setC ?_ ?_); (focus (first | omega | (simp; done) | (simp; omega)))) | ((with_reducible refine Below.allo ?_ ?_); (focus (first | omega | (simp; done) | (simp; omega)))))
  have hv := chk_ok h1
  have hp := bw_iff.1 hv.2
  rw [h1] at H
  have hti := fun W (g : Ints W t st) => timed_c s cap k p t ct st W g hp
  cases h2 : timB k p st
  · have e0 := tim_ask h1 h2
    have hz : ClashPost k p st 0 0 0 0 2 := .inl ⟨by rw [e0]; decide, e0.symm, rfl, rfl, rfl, rfl⟩
    rw [h2] at hti
    replace hz := Lib.hid hz; replace H := Lib.hid H; replace hti := Lib.hid hti
    clear h1 h2 e0 hv hp
    go_enter Try.func37, Try.ntmps37
    go_upto_region 1 with (fail)
    refine wp_world fun W HW => ?_
    have hB : Below w.heap.size w W := by rw [HW.out]; (repeat (first | exact Below.refl _ _ | refine Below.alloc ?_ (by simp; try omega) _ | refine Below.setCell ?_ (by simp) _ | refine Below.drew ?_))
    have aB : Row W (w.heap.size) 45 #[.int .i64 0, .int .i64 0] := (by rw [HW.out]; (repeat (first | (refine blk_new ?_; simp; done) | refine blk_old ?_ _)) : W.heap[w.heap.size]? = some (.cells #[.int .i64 0, .int .i64 0] 45 (0, 0)))
    have a0 : W.cell? ⟨w.heap.size, 0, none⟩ = some (.int .i64 0) := by rw [HW.out]; simp [go_sem]
    have a1 : W.cell? ⟨w.heap.size, 1, none⟩ = some (.int .i64 0) := by rw [HW.out]; simp [go_sem]
    have al : w.heap.size < W.heap.size := World.block_lt_of_cell? W _ a0
    have bB : Row W (w.heap.size + 1) 45 #[.int .i64 0, .int .i64 0] := (by rw [HW.out]; (repeat (first | (refine blk_new ?_; simp; done) | refine blk_old ?_ _)) : W.heap[w.heap.size + 1]? = some (.cells #[.int .i64 0, .int .i64 0] 45 (0, 0)))
    have b0 : W.cell? ⟨w.heap.size + 1, 0, none⟩ = some (.int .i64 0) := by rw [HW.out]; simp [go_sem]
    have b1 : W.cell? ⟨w.heap.size + 1, 1, none⟩ = some (.int .i64 0) := by rw [HW.out]; simp [go_sem]
    have bl : w.heap.size + 1 < W.heap.size := World.block_lt_of_cell? W _ b0
    try replace h := up_of hB h
    try replace g := up_of hB g
    go_upto_region 4 with (first | (go_at_call 49; refine (H.out _ h).mono ?_; rintro e W1 ⟨rfl, hb⟩; (try replace h := up_of hb h); (try replace g := up_of hb g); (try replace hB := up_of hb hB); (try replace aB := up_of hb aB); (try replace a0 := up_of hb a0); (try replace a1 := up_of hb a1); (try replace al := up_of hb al); (try replace bB := up_of hb bB); (try replace b0 := up_of hb b0); (try replace b1 := up_of hb b1); (try replace bl := up_of hb bl)))
    go_upto_region 5 with (first | (go_at_call 53; refine (hti.out _ g).mono ?_; rintro e W1 ⟨rfl, hb⟩; (try replace h := up_of hb h); (try replace g := up_of hb g); (try replace hB := up_of hb hB); (try replace aB := up_of hb aB); (try replace a0 := up_of hb a0); (try replace a1 := up_of hb a1); (try replace al := up_of hb al); (try replace bB := up_of hb bB); (try replace b0 := up_of hb b0); (try replace b1 := up_of hb b1); (try replace bl := up_of hb bl)))
    have af := fun i => Row.frozen aB i
    have bf := fun i => Row.frozen bB i
    go_region
    all_goals
      go_wp2
      refine clash_end rfl 0 0 0 0 2 rfl rfl rfl ?_ ?_ hz.out ?_
      · refine Row.of ?_
        repeat (first | (with_reducible refine RowG.base aB ?_) | (with_reducible refine RowG.drew ?_) | (with_reducible refine RowG.set ?_) | ((with_reducible refine RowG.other ?_ ?_); (focus (first | omega | (simp; done) | (simp; omega)))) | (with_reducible refine RowG.alloc ?_))
        rfl
      · refine Row.of ?_
        repeat (first | (with_reducible refine RowG.base bB ?_) | (with_reducible refine RowG.drew ?_) | (with_reducible refine RowG.set ?_) | ((with_reducible refine RowG.other ?_ ?_); (focus (first | omega | (simp; done) | (simp; omega)))) | (with_reducible refine RowG.alloc ?_))
        rfl
      · repeat (first | (with_reducible exact hB) | (with_reducible refine Below.drew ?_) | ((with_reducible refine Below.setC ?_ ?_); (focus (first | omega | (simp; done) | (simp; omega)))) | ((with_reducible refine Below.allo ?_ ?_); (focus (first | omega | (simp; done) | (simp; omega)))))
  have hE := tim_ok h1 h2
  obtain ⟨hst, hsr⟩ := tim_facts h2
  have hcl := fun W (h : Ker W s cap k) (g : Ints W t st) => clash_c s cap k p t ct st W h g hv.1 hp hst hsr
  have hpost : ∀ a0 a1 b0 b1 ok, ClPost k p st a0 a1 b0 b1 ok → ClashPost k p st a0 a1 b0 b1 (if ok then 0 else 5) := by
    rintro a0 a1 b0 b1 ok (⟨g1, rfl, g3, g4, g5, g6⟩ | ⟨rfl, i, m, j, n, g1, g2, g3⟩)
    · exact .inr (.inl ⟨hE, g1, rfl, g3, g4, g5, g6⟩)
    · exact .inr (.inr ⟨hE, rfl, i, m, j, n, g1, g2, g3⟩)
  rw [h2] at hti
  replace hpost := Lib.hid hpost; replace H := Lib.hid H; replace hti := Lib.hid hti; replace hcl := Lib.hid hcl
  clear h1 h2 hE hv hp hst hsr
  go_enter Try.func37, Try.ntmps37
  go_upto_region 1 with (fail)
  refine wp_world fun W HW => ?_
  have hB : Below w.heap.size w W := by rw [HW.out]; (repeat (first | exact Below.refl _ _ | refine Below.alloc ?_ (by simp; try omega) _ | refine Below.setCell ?_ (by simp) _ | refine Below.drew ?_))
  have aB : Row W (w.heap.size) 45 #[.int .i64 0, .int .i64 0] := (by rw [HW.out]; (repeat (first | (refine blk_new ?_; simp; done) | refine blk_old ?_ _)) : W.heap[w.heap.size]? = some (.cells #[.int .i64 0, .int .i64 0] 45 (0, 0)))
  have a0 : W.cell? ⟨w.heap.size, 0, none⟩ = some (.int .i64 0) := by rw [HW.out]; simp [go_sem]
  have a1 : W.cell? ⟨w.heap.size, 1, none⟩ = some (.int .i64 0) := by rw [HW.out]; simp [go_sem]
  have al : w.heap.size < W.heap.size := World.block_lt_of_cell? W _ a0
  have bB : Row W (w.heap.size + 1) 45 #[.int .i64 0, .int .i64 0] := (by rw [HW.out]; (repeat (first | (refine blk_new ?_; simp; done) | refine blk_old ?_ _)) : W.heap[w.heap.size + 1]? = some (.cells #[.int .i64 0, .int .i64 0] 45 (0, 0)))
  have b0 : W.cell? ⟨w.heap.size + 1, 0, none⟩ = some (.int .i64 0) := by rw [HW.out]; simp [go_sem]
  have b1 : W.cell? ⟨w.heap.size + 1, 1, none⟩ = some (.int .i64 0) := by rw [HW.out]; simp [go_sem]
  have bl : w.heap.size + 1 < W.heap.size := World.block_lt_of_cell? W _ b0
  try replace h := up_of hB h
  try replace g := up_of hB g
  go_upto_region 4 with (first | (go_at_call 49; refine (H.out _ h).mono ?_; rintro e W1 ⟨rfl, hb⟩; (try replace h := up_of hb h); (try replace g := up_of hb g); (try replace hB := up_of hb hB); (try replace aB := up_of hb aB); (try replace a0 := up_of hb a0); (try replace a1 := up_of hb a1); (try replace al := up_of hb al); (try replace bB := up_of hb bB); (try replace b0 := up_of hb b0); (try replace b1 := up_of hb b1); (try replace bl := up_of hb bl)))
  go_upto_region 6 with (first | (go_at_call 53; refine (hti.out _ g).mono ?_; rintro e W1 ⟨rfl, hb⟩; (try replace h := up_of hb h); (try replace g := up_of hb g); (try replace hB := up_of hb hB); (try replace aB := up_of hb aB); (try replace a0 := up_of hb a0); (try replace a1 := up_of hb a1); (try replace al := up_of hb al); (try replace bB := up_of hb bB); (try replace b0 := up_of hb b0); (try replace b1 := up_of hb b1); (try replace bl := up_of hb bl)))
  have hBs := hB.size
  have af := fun i => Row.frozen aB i
  have bf := fun i => Row.frozen bB i
  have hal := aB.lt
  have hbl := bB.lt
  go_upto_region 7 with (go_at_call 62; refine (hcl.out _ h g).mono ?_; rintro e W5 ⟨⟨u0, u1, v0, v1, okk, rfl, hcp⟩, hb5⟩; have aB5 := up_of hb5 aB; have bB5 := up_of hb5 bB; have af5 := (fun i => Row.frozen aB5 i); have bf5 := (fun i => Row.frozen bB5 i); obtain ⟨a50, a51⟩ := aB5.two; obtain ⟨b50, b51⟩ := bB5.two; have hal5 := aB5.lt; have hbl5 := bB5.lt)
  have hB5 := hB.trans (hb5.mono hBs)
  have hB5s := hB5.size
  refine wp_world fun Y HY => ?_
  have hBY : Below w.heap.size w Y := by
    rw [HY.out]
    repeat (first | (with_reducible exact hB5) | (with_reducible refine Below.drew ?_) | ((with_reducible refine Below.setC ?_ ?_); (focus (first | omega | (simp; done) | (simp; omega)))) | ((with_reducible refine Below.allo ?_ ?_); (focus (first | omega | (simp; done) | (simp; omega)))))
  have haY : Row Y w.heap.size 45 #[.int .i64 u0, .int .i64 u1] := by
    rw [HY.out]
    refine Row.of ?_
    repeat (first | (with_reducible refine RowG.base aB5 ?_) | (with_reducible refine RowG.drew ?_) | (with_reducible refine RowG.set ?_) | ((with_reducible refine RowG.other ?_ ?_); (focus (first | omega | (simp; done) | (simp; omega)))) | (with_reducible refine RowG.alloc ?_))
    rfl
  have hbY : Row Y (w.heap.size + 1) 45 #[.int .i64 v0, .int .i64 v1] := by
    rw [HY.out]
    refine Row.of ?_
    repeat (first | (with_reducible refine RowG.base bB5 ?_) | (with_reducible refine RowG.drew ?_) | (with_reducible refine RowG.set ?_) | ((with_reducible refine RowG.other ?_ ?_); (focus (first | omega | (simp; done) | (simp; omega)))) | (with_reducible refine RowG.alloc ?_))
    rfl
  have hz := hpost.out _ _ _ _ _ hcp
  clear hpost hcp a50 a51 b50 b51 af5 bf5 af bf a0 a1 b0 b1 aB bB aB5 bB5 h g hcl hti H
  have afY := fun i => Row.frozen haY i
  have bfY := fun i => Row.frozen hbY i
  obtain ⟨a0, a1⟩ := haY.two
  obtain ⟨c0, c1⟩ := hbY.two
  have halY := haY.lt
  have hblY := hbY.lt
  have hBYs := hBY.size
  cases okk
  · replace hz : ClashPost k p st u0 u1 v0 v1 5 := hz
    replace hz := Lib.hid hz
    go_upto_region 8 with (fail)
    go_region
    all_goals
      go_wp2
      refine clash_end rfl u0 u1 v0 v1 5 rfl rfl rfl ?_ ?_ hz.out ?_
      · refine Row.of ?_
        repeat (first | (with_reducible refine RowG.base haY ?_) | (with_reducible refine RowG.drew ?_) | (with_reducible refine RowG.set ?_) | ((with_reducible refine RowG.other ?_ ?_); (focus (first | omega | (simp; done) | (simp; omega)))) | (with_reducible refine RowG.alloc ?_))
        rfl
      · refine Row.of ?_
        repeat (first | (with_reducible refine RowG.base hbY ?_) | (with_reducible refine RowG.drew ?_) | (with_reducible refine RowG.set ?_) | ((with_reducible refine RowG.other ?_ ?_); (focus (first | omega | (simp; done) | (simp; omega)))) | (with_reducible refine RowG.alloc ?_))
        rfl
      · repeat (first | (with_reducible exact hBY) | (with_reducible refine Below.drew ?_) | ((with_reducible refine Below.setC ?_ ?_); (focus (first | omega | (simp; done) | (simp; omega)))) | ((with_reducible refine Below.allo ?_ ?_); (focus (first | omega | (simp; done) | (simp; omega)))))
  · replace hz : ClashPost k p st u0 u1 v0 v1 0 := hz
    replace hz := Lib.hid hz
    go_upto_region 9 with (fail)
    go_region
    all_goals
      go_wp2
      refine clash_end rfl u0 u1 v0 v1 0 rfl rfl rfl ?_ ?_ hz.out ?_
      · refine Row.of ?_
        repeat (first | (with_reducible refine RowG.base haY ?_) | (with_reducible refine RowG.drew ?_) | (with_reducible refine RowG.set ?_) | ((with_reducible refine RowG.other ?_ ?_); (focus (first | omega | (simp; done) | (simp; omega)))) | (with_reducible refine RowG.alloc ?_))
        rfl
      · refine Row.of ?_
        repeat (first | (with_reducible refine RowG.base hbY ?_) | (with_reducible refine RowG.drew ?_) | (with_reducible refine RowG.set ?_) | ((with_reducible refine RowG.other ?_ ?_); (focus (first | omega | (simp; done) | (simp; omega)))) | (with_reducible refine RowG.alloc ?_))
        rfl
      · repeat (first | (with_reducible exact hBY) | (with_reducible refine Below.drew ?_) | ((with_reducible refine Below.setC ?_ ?_); (focus (first | omega | (simp; done) | (simp; omega)))) | ((with_reducible refine Below.allo ?_ ?_); (focus (first | omega | (simp; done) | (simp; omega)))))
set_option maxRecDepth 100000 in
theorem Good_c (s : Option Addr) (cap : Nat) (k : List (List Clm)) (p : Int) (t : Option Addr) (ct : Nat) (st : List Int) (w : World) (h : Ker w s cap k) (g : Ints w t st) :
    Calls Try.prog 34 #[.slice s k.length cap, .int .i64 p, .slice t st.length ct] w fun e w' => e = .returned (.tuple #[.bool (rgB k p st), .int .i64 (askE k p st)]) ∧ Below w.heap.size w w' := by
  have H := Lib.hid (Clash_c s cap k p t ct st w h g)
  have hv := askE_vals k p st
  have hy : ∀ a0 a1 b0 b1 er, ClashPost k p st a0 a1 b0 b1 er → (er = 5 ∧ rgB k p st = true ∧ askE k p st = 0) ∨ (er = 0 ∧ rgB k p st = false ∧ askE k p st = 0) ∨ (er = 2 ∧ rgB k p st = false ∧ askE k p st = 2) ∨ (er = 90 ∧ rgB k p st = false ∧ askE k p st = 90) := by
    rintro a0 a1 b0 b1 er (⟨h1, h2, _⟩ | ⟨h1, h2, h3, _⟩ | ⟨h1, h2, i, m, j, n, h3, h4, _⟩)
    · have : rgB k p st = false := by simp [rgB, h1]
      rcases hv with hv | hv | hv
      · exact absurd hv h1
      · exact .inr (.inr (.inl ⟨by rw [h2, hv], this, hv⟩))
      · exact .inr (.inr (.inr ⟨by rw [h2, hv], this, hv⟩))
    · have := (good_iff (askE_ok h1).2.2.1 (k := k) (p := p)).2 h2
      exact .inl ⟨h3, by simp [rgB, h1, this], h1⟩
    · have : goodB k p st = false := by
        cases hg : goodB k p st
        · rfl
        · exact absurd h4 ((good_iff (askE_ok h1).2.2.1).1 hg i m j n)
      exact .inr (.inl ⟨h2, by simp [rgB, this], h1⟩)
  replace hy := Lib.hid hy
  clear h g hv
  obtain ⟨R, hR⟩ : ∃ R, rgB k p st = R := ⟨_, rfl⟩
  obtain ⟨E, hE⟩ : ∃ E, askE k p st = E := ⟨_, rfl⟩
  rw [hR, hE] at hy ⊢
  clear hR hE
  go_enter Try.func34, Try.ntmps34
  go_upto_region 2 with (go_at_call 37; refine H.out.mono ?_; rintro e W1 ⟨⟨a0, a1, b0, b1, er, rfl, hpost⟩, hb⟩)
  have hc := hy.out _ _ _ _ _ hpost
  have hb2 : ∀ o1 o2, Below w.heap.size w ((W1.alloc o1).alloc o2) := fun o1 o2 => hb.trans ((((Below.refl _ W1).alloc (Nat.le_refl _) o1).alloc (by simp) o2).mono hb.size)
  replace hb2 := Lib.hid hb2
  clear hpost hy H
  rcases hc with ⟨rfl, rfl, rfl⟩ | ⟨rfl, rfl, rfl⟩ | ⟨rfl, rfl, rfl⟩ | ⟨rfl, rfl, rfl⟩
  all_goals
    go_wp2
    go_ret2
    exact ⟨rfl, hb2.out _ _⟩
end Go.Proofs.Ytgeoehokojijdaa
