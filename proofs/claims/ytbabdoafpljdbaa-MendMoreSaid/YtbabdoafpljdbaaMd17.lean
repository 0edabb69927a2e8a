/- Which cell stands for one that was meant: both. -/
import Derived.Test.YtbabdoafpljdbaaMd15
namespace Go.Proofs.Ytbabdoafpljdbaa
open Go.RowKit

theorem results_cs {fn : Func} {p u : Tmp} {tp : TypeId} {tmps : Array Value} {P : Program} {w : World} {a : Addr} {va vb : Value} (h : fn.results = #[.cell p tp, .tmp u])
    (hp : tmps.getD p undef = .pointer (some a)) (hu : tmps.getD u undef = vb)
    (la : (loadVar tp a).run P w = .ok va w) : (results fn tmps).run P w = .ok (.tuple #[va, vb]) w := by
  simp only [results, h]
  simp only [Array.getD_eq_getD_getElem?] at hp hu
  simp [hp, hu, asAddr, la]
theorem load_cel {X : World} {b : Nat} {u v : Value} {t : TypeId} (h : Row X b t #[u, v]) : (loadVar 26 ⟨b, 0, none⟩).run Try.prog X = .ok (.agg #[u, v]) X := by
  have h0 := h.cell (i := 0) rfl
  have h1 := h.cell (i := 1) rfl
  simp [go_sem, loadVar, h0, h1]
def CelRet (x y er : Int) (w : World) (e : Ending) (w' : World) : Prop := e = .returned (.tuple #[.agg #[.int .i64 x, .int .i64 y], .int .i64 er]) ∧ Below w.heap.size w w'
theorem cel_end {fn : Func} (hr : fn.results = #[.cell 6 26, .tmp 7]) {x y er : Int} {tmps : Array Value} {w X : World} {b1 : Nat}
    (h2 : tmps.getD 6 undef = .pointer (some ⟨b1, 0, none⟩)) (h3 : tmps.getD 7 undef = .int .i64 er)
    (rl : Row X b1 26 #[.int .i64 x, .int .i64 y]) (hB : Below w.heap.size w X) :
    bodyPost Try.prog fn (CelRet x y er w) .ret { tmps := tmps, defers := [] } X :=
  bodyPost_ret (results_cs hr h2 h3 (load_cel rl)) rfl ⟨rfl, hB⟩

def plG (k : List (List Int)) (m : Cel) : Int := (k.getD m.x.toNat []).getD m.y.toNat 0
def plE (wd ht : Int) (F : List Cel) (k : List (List Int)) (m : Cel) : Int :=
  if gvB wd ht F then (if bw 0 m.x ((k.length : Int) - 1) && bw 0 m.y (((k.getD m.x.toNat []).length : Int) - 1) && onB wd ht ⟨plG k m, m.y⟩ then 0 else 2) else 70
def plX (wd ht : Int) (F : List Cel) (k : List (List Int)) (m : Cel) : Int := if plE wd ht F k m = 0 then plG k m else 0
def plY (wd ht : Int) (F : List Cel) (k : List (List Int)) (m : Cel) : Int := if plE wd ht F k m = 0 then m.y else 0
theorem pl_err {wd ht : Int} {F : List Cel} {k : List (List Int)} {m : Cel} {er : Int} (h : plE wd ht F k m = er) (h0 : er ≠ 0) : plX wd ht F k m = 0 ∧ plY wd ht F k m = 0 := by
  subst h; simp [plX, plY, h0]

set_option maxRecDepth 100000 in
set_option maxHeartbeats 1000000 in
theorem Place_c (wd ht : Int) (s : Option Addr) (cap : Nat) (F : List Cel) (t : Option Addr) (ct : Nat) (k : List (List Int)) (m : Cel) (w : World) (h : Cels w s cap F) (g : SlSS intE w t k) (hk : k.length ≤ 200) (hl : ∀ l ∈ k, l.length ≤ 200) :
    Calls Try.prog 22 #[.agg #[.int .i64 wd, .int .i64 ht, .slice s F.length cap], .slice t k.length ct, .agg #[.int .i64 m.x, .int .i64 m.y]] w (CelRet (plX wd ht F k m) (plY wd ht F k m) (plE wd ht F k m) w) := by
  have hva := fun V (h : Cels V s cap F) => valid_c wd ht s cap F V h
  have hFl := h.len
  cases h1 : gvB wd ht F
  case false =>
    have e0 : plE wd ht F k m = 70 := by simp [plE, h1]
    obtain ⟨e1, e2⟩ := pl_err e0 (by decide)
    rw [e0, e1, e2]
    rw [h1] at hva
    replace hva := Lib.hid hva
    clear h1 e0 e1 e2
    go_enter Try.func22, Try.ntmps22
    go_upto_region 1 with (fail)
    refine wp_world fun W HW => ?_
    have hB : Below w.heap.size w W := by rw [HW.out]; (repeat (first | exact Below.refl _ _ | refine Below.alloc ?_ (by simp; try omega) _ | refine Below.setCell ?_ (by simp) _ | refine Below.drew ?_))
    have g0 : W.cell? ⟨w.heap.size, 0, none⟩ = some (.int .i64 wd) := by rw [HW.out]; simp [go_sem]
    have g1 : W.cell? ⟨w.heap.size, 1, none⟩ = some (.int .i64 ht) := by rw [HW.out]; simp [go_sem]
    have g2 : W.cell? ⟨w.heap.size, 2, none⟩ = some (.slice s F.length cap) := by rw [HW.out]; simp [go_sem]
    have gl : w.heap.size < W.heap.size := World.block_lt_of_cell? W _ g0
    have c0 : W.cell? ⟨w.heap.size + 1, 0, none⟩ = some (.int .i64 m.x) := by rw [HW.out]; simp [go_sem]
    have c1 : W.cell? ⟨w.heap.size + 1, 1, none⟩ = some (.int .i64 m.y) := by rw [HW.out]; simp [go_sem]
    have cl : w.heap.size + 1 < W.heap.size := World.block_lt_of_cell? W _ c0
    have rB : Row W (w.heap.size + 2) 26 #[.int .i64 0, .int .i64 0] := (by rw [HW.out]; (repeat (first | (refine blk_new ?_; simp; done) | refine blk_old ?_ _)) : W.heap[w.heap.size + 2]? = some (.cells #[.int .i64 0, .int .i64 0] 26 (0, 0)))
    have r0 : W.cell? ⟨w.heap.size + 2, 0, none⟩ = some (.int .i64 0) := by rw [HW.out]; simp [go_sem]
    have r1 : W.cell? ⟨w.heap.size + 2, 1, none⟩ = some (.int .i64 0) := by rw [HW.out]; simp [go_sem]
    have rl : w.heap.size + 2 < W.heap.size := World.block_lt_of_cell? W _ r0
    try replace h := up_of hB h
    go_upto_region 2 with (first | (go_at_call 29; refine (hva.out _ h).mono ?_; rintro e W1 ⟨rfl, hb⟩; (try replace h := up_of hb h); (try replace hB := up_of hb hB); (try replace g0 := up_of hb g0); (try replace g1 := up_of hb g1); (try replace g2 := up_of hb g2); (try replace gl := up_of hb gl); (try replace c0 := up_of hb c0); (try replace c1 := up_of hb c1); (try replace cl := up_of hb cl); (try replace rB := up_of hb rB); (try replace r0 := up_of hb r0); (try replace r1 := up_of hb r1); (try replace rl := up_of hb rl)))
    have rf := fun i => Row.frozen rB i
    go_wp2
    refine cel_end rfl (b1 := w.heap.size + 2) rfl rfl ?_ ?_
    · refine Row.of ?_
      repeat (first | (with_reducible refine RowG.base rB ?_) | (with_reducible refine RowG.drew ?_) | (with_reducible refine RowG.set ?_) | ((with_reducible refine RowG.other ?_ ?_); (focus (first | omega | (simp; done) | (simp; omega)))) | (with_reducible refine RowG.alloc ?_))
      rfl
    · repeat (first | (with_reducible exact hB) | (with_reducible refine Below.drew ?_) | ((with_reducible refine Below.setC ?_ ?_); (focus (first | omega | (simp; done) | (simp; omega)))) | ((with_reducible refine Below.allo ?_ ?_); (focus (first | omega | (simp; done) | (simp; omega)))))
  rw [h1] at hva
  have hvf := gv_facts h1
  obtain ⟨hW, hH, -, -⟩ := hvf
  have w1 := i64_small (n := (k.length : Int) - 1) (by omega)
  have cb1 := fun V => between_c 0 m.x ((k.length : Int) - 1) V
  cases h2 : bw 0 m.x ((k.length : Int) - 1)
  case false =>
    have e0 : plE wd ht F k m = 2 := by simp [plE, h1, h2]
    obtain ⟨e1, e2⟩ := pl_err e0 (by decide)
    rw [e0, e1, e2]
    rw [h2] at cb1
    replace hva := Lib.hid hva; replace cb1 := Lib.hid cb1
    clear h1 e0 e1 e2
    go_enter Try.func22, Try.ntmps22
    go_upto_region 1 with (fail)
    refine wp_world fun W HW => ?_
    have hB : Below w.heap.size w W := by rw [HW.out]; (repeat (first | exact Below.refl _ _ | refine Below.alloc ?_ (by simp; try omega) _ | refine Below.setCell ?_ (by simp) _ | refine Below.drew ?_))
    have g0 : W.cell? ⟨w.heap.size, 0, none⟩ = some (.int .i64 wd) := by rw [HW.out]; simp [go_sem]
    have g1 : W.cell? ⟨w.heap.size, 1, none⟩ = some (.int .i64 ht) := by rw [HW.out]; simp [go_sem]
    have g2 : W.cell? ⟨w.heap.size, 2, none⟩ = some (.slice s F.length cap) := by rw [HW.out]; simp [go_sem]
    have gl : w.heap.size < W.heap.size := World.block_lt_of_cell? W _ g0
    have c0 : W.cell? ⟨w.heap.size + 1, 0, none⟩ = some (.int .i64 m.x) := by rw [HW.out]; simp [go_sem]
    have c1 : W.cell? ⟨w.heap.size + 1, 1, none⟩ = some (.int .i64 m.y) := by rw [HW.out]; simp [go_sem]
    have cl : w.heap.size + 1 < W.heap.size := World.block_lt_of_cell? W _ c0
    have rB : Row W (w.heap.size + 2) 26 #[.int .i64 0, .int .i64 0] := (by rw [HW.out]; (repeat (first | (refine blk_new ?_; simp; done) | refine blk_old ?_ _)) : W.heap[w.heap.size + 2]? = some (.cells #[.int .i64 0, .int .i64 0] 26 (0, 0)))
    have r0 : W.cell? ⟨w.heap.size + 2, 0, none⟩ = some (.int .i64 0) := by rw [HW.out]; simp [go_sem]
    have r1 : W.cell? ⟨w.heap.size + 2, 1, none⟩ = some (.int .i64 0) := by rw [HW.out]; simp [go_sem]
    have rl : w.heap.size + 2 < W.heap.size := World.block_lt_of_cell? W _ r0
    try replace h := up_of hB h
    go_upto_region 3 with (first | (go_at_call 29; refine (hva.out _ h).mono ?_; rintro e W1 ⟨rfl, hb⟩; (try replace h := up_of hb h); (try replace hB := up_of hb hB); (try replace g0 := up_of hb g0); (try replace g1 := up_of hb g1); (try replace g2 := up_of hb g2); (try replace gl := up_of hb gl); (try replace c0 := up_of hb c0); (try replace c1 := up_of hb c1); (try replace cl := up_of hb cl); (try replace rB := up_of hb rB); (try replace r0 := up_of hb r0); (try replace r1 := up_of hb r1); (try replace rl := up_of hb rl)))
    try have ld_g0 := World.block_lt_of_cell? _ _ g0
    try have ld_c0 := World.block_lt_of_cell? _ _ c0
    try have ld_r0 := World.block_lt_of_cell? _ _ r0
    refine region_q (by kernel_rfl) (by kernel_rfl) ?_
    dsimp only [List.toList_toArray]
    repeat (first
     | go_big_quiet_skip
     | (go_big_quiet_want
        first
        | (refine qq_det ?_
           apply Exists.intro; refine ⟨fun W' hW' => ?_, ?_⟩
           (· have hk := cellB hW'; go_simp; try (first | rfl | rw [if_pos (by omega)]))
           simp only [Act.put, List.setIfInBounds_toArray, List.set_cons_zero, List.set_cons_succ]; go_big_quiet_on)
        | (refine qq_call ?_
           apply Exists.intro; apply Exists.intro; refine ⟨fun W' hW' => ?_, ?_⟩
           (· have hk := cellB hW'; go_simp; exact ⟨rfl, rfl⟩)
           apply Exists.intro; refine ⟨fun W' hW' => ?_, ?_⟩
           (· first | (go_at_call 53; exact qs hW' (cb1.out _)))
           simp only [Act.put, List.setIfInBounds_toArray, List.set_cons_zero, List.set_cons_succ]; go_big_quiet_on)))
    refine wpQuiet_nil ?_
    intro W1 hb
    try replace h := up_of hb h
    try replace hB := up_of hb hB
    try replace g0 := up_of hb g0
    try replace g1 := up_of hb g1
    try replace g2 := up_of hb g2
    try replace gl := up_of hb gl
    try replace c0 := up_of hb c0
    try replace c1 := up_of hb c1
    try replace cl := up_of hb cl
    try replace rB := up_of hb rB
    try replace r0 := up_of hb r0
    try replace r1 := up_of hb r1
    try replace rl := up_of hb rl
    have rf := fun i => Row.frozen rB i
    go_wp2
    refine cel_end rfl (b1 := w.heap.size + 2) rfl rfl ?_ ?_
    · refine Row.of ?_
      repeat (first | (with_reducible refine RowG.base rB ?_) | (with_reducible refine RowG.drew ?_) | (with_reducible refine RowG.set ?_) | ((with_reducible refine RowG.other ?_ ?_); (focus (first | omega | (simp; done) | (simp; omega)))) | (with_reducible refine RowG.alloc ?_))
      rfl
    · repeat (first | (with_reducible exact hB) | (with_reducible refine Below.drew ?_) | ((with_reducible refine Below.setC ?_ ?_); (focus (first | omega | (simp; done) | (simp; omega)))) | ((with_reducible refine Below.allo ?_ ?_); (focus (first | omega | (simp; done) | (simp; omega)))))
  rw [h2] at cb1
  obtain ⟨mx, my⟩ := m
  simp only at h2 cb1 ⊢
  obtain ⟨a, rfl⟩ : ∃ n : Nat, mx = n := ⟨mx.toNat, by have := bw_iff.1 h2; omega⟩
  have ha : a < k.length := by have := bw_iff.1 h2; omega
  obtain ⟨L, hL⟩ : ∃ x, k[a] = x := ⟨_, rfl⟩
  have hLl : L.length ≤ 200 := by rw [← hL]; exact hl _ (List.getElem_mem ha)
  have hkd : k.getD ((a : Nat) : Int).toNat [] = L := by rw [Int.toNat_natCast, List.getD_eq_getElem?_getD, List.getElem?_eq_getElem ha, hL]; rfl
  have w2 := i64_small (n := (L.length : Int) - 1) (by omega)
  have cb2 := fun V => between_c 0 my ((L.length : Int) - 1) V
  have i4 : (0 : Int) ≤ (a : Int) := by omega
  have i5 : (a : Int) < (k.length : Int) := by omega
  cases h3 : bw 0 my ((L.length : Int) - 1)
  case false =>
    have e0 : plE wd ht F k ⟨a, my⟩ = 2 := by simp only [plE, h1, hkd, h2, h3]; rfl
    obtain ⟨e1, e2⟩ := pl_err e0 (by decide)
    rw [e0, e1, e2]
    rw [h3] at cb2
    replace hva := Lib.hid hva; replace cb1 := Lib.hid cb1; replace cb2 := Lib.hid cb2; replace hL := Lib.hid hL; replace hkd := Lib.hid hkd
    clear h1 e0 e1 e2
    go_enter Try.func22, Try.ntmps22
    go_upto_region 1 with (fail)
    refine wp_world fun W HW => ?_
    have hB : Below w.heap.size w W := by rw [HW.out]; (repeat (first | exact Below.refl _ _ | refine Below.alloc ?_ (by simp; try omega) _ | refine Below.setCell ?_ (by simp) _ | refine Below.drew ?_))
    have g0 : W.cell? ⟨w.heap.size, 0, none⟩ = some (.int .i64 wd) := by rw [HW.out]; simp [go_sem]
    have g1 : W.cell? ⟨w.heap.size, 1, none⟩ = some (.int .i64 ht) := by rw [HW.out]; simp [go_sem]
    have g2 : W.cell? ⟨w.heap.size, 2, none⟩ = some (.slice s F.length cap) := by rw [HW.out]; simp [go_sem]
    have gl : w.heap.size < W.heap.size := World.block_lt_of_cell? W _ g0
    have c0 : W.cell? ⟨w.heap.size + 1, 0, none⟩ = some (.int .i64 a) := by rw [HW.out]; simp [go_sem]
    have c1 : W.cell? ⟨w.heap.size + 1, 1, none⟩ = some (.int .i64 my) := by rw [HW.out]; simp [go_sem]
    have cl : w.heap.size + 1 < W.heap.size := World.block_lt_of_cell? W _ c0
    have rB : Row W (w.heap.size + 2) 26 #[.int .i64 0, .int .i64 0] := (by rw [HW.out]; (repeat (first | (refine blk_new ?_; simp; done) | refine blk_old ?_ _)) : W.heap[w.heap.size + 2]? = some (.cells #[.int .i64 0, .int .i64 0] 26 (0, 0)))
    have r0 : W.cell? ⟨w.heap.size + 2, 0, none⟩ = some (.int .i64 0) := by rw [HW.out]; simp [go_sem]
    have r1 : W.cell? ⟨w.heap.size + 2, 1, none⟩ = some (.int .i64 0) := by rw [HW.out]; simp [go_sem]
    have rl : w.heap.size + 2 < W.heap.size := World.block_lt_of_cell? W _ r0
    try replace h := up_of hB h
    try replace g := up_of hB g
    go_upto_region 3 with (first | (go_at_call 29; refine (hva.out _ h).mono ?_; rintro e W1 ⟨rfl, hb⟩; (try replace h := up_of hb h); (try replace g := up_of hb g); (try replace hB := up_of hb hB); (try replace g0 := up_of hb g0); (try replace g1 := up_of hb g1); (try replace g2 := up_of hb g2); (try replace gl := up_of hb gl); (try replace c0 := up_of hb c0); (try replace c1 := up_of hb c1); (try replace cl := up_of hb cl); (try replace rB := up_of hb rB); (try replace r0 := up_of hb r0); (try replace r1 := up_of hb r1); (try replace rl := up_of hb rl)))
    obtain ⟨gb, gof, ga, gc, rfl, hgl, x0, gs, -⟩ := g.at ha
    rw [hL.out] at x0 gs
    try have ld_g0 := World.block_lt_of_cell? _ _ g0
    try have ld_c0 := World.block_lt_of_cell? _ _ c0
    try have ld_r0 := World.block_lt_of_cell? _ _ r0
    try have ld_x0 := World.block_lt_of_cell? _ _ x0
    refine region_q (by kernel_rfl) (by kernel_rfl) ?_
    dsimp only [List.toList_toArray]
    repeat (first
     | go_big_quiet_skip
     | (go_big_quiet_want
        first
        | (refine qq_det ?_
           apply Exists.intro; refine ⟨fun W' hW' => ?_, ?_⟩
           (· have hk := cellB hW'; go_simp; try (first | rfl | rw [if_pos (by omega)]))
           simp only [Act.put, List.setIfInBounds_toArray, List.set_cons_zero, List.set_cons_succ]; go_big_quiet_on)
        | (refine qq_call ?_
           apply Exists.intro; apply Exists.intro; refine ⟨fun W' hW' => ?_, ?_⟩
           (· have hk := cellB hW'; go_simp; exact ⟨rfl, rfl⟩)
           apply Exists.intro; refine ⟨fun W' hW' => ?_, ?_⟩
           (· first | (go_at_call 53; exact qs hW' ((by first | with_reducible exact cb1.out _ | with_reducible exact cb2.out _))))
           simp only [Act.put, List.setIfInBounds_toArray, List.set_cons_zero, List.set_cons_succ]; go_big_quiet_on)))
    refine wpQuiet_nil ?_
    intro W1 hb
    try replace h := up_of hb h
    try replace g := up_of hb g
    try replace hB := up_of hb hB
    try replace g0 := up_of hb g0
    try replace g1 := up_of hb g1
    try replace g2 := up_of hb g2
    try replace gl := up_of hb gl
    try replace c0 := up_of hb c0
    try replace c1 := up_of hb c1
    try replace cl := up_of hb cl
    try replace rB := up_of hb rB
    try replace r0 := up_of hb r0
    try replace r1 := up_of hb r1
    try replace rl := up_of hb rl
    try replace x0 := up_of hb x0
    have rf := fun i => Row.frozen rB i
    go_wp2
    refine cel_end rfl (b1 := w.heap.size + 2) rfl rfl ?_ ?_
    · refine Row.of ?_
      repeat (first | (with_reducible refine RowG.base rB ?_) | (with_reducible refine RowG.drew ?_) | (with_reducible refine RowG.set ?_) | ((with_reducible refine RowG.other ?_ ?_); (focus (first | omega | (simp; done) | (simp; omega)))) | (with_reducible refine RowG.alloc ?_))
      rfl
    · repeat (first | (with_reducible exact hB) | (with_reducible refine Below.drew ?_) | ((with_reducible refine Below.setC ?_ ?_); (focus (first | omega | (simp; done) | (simp; omega)))) | ((with_reducible refine Below.allo ?_ ?_); (focus (first | omega | (simp; done) | (simp; omega)))))
  obtain ⟨b, rfl⟩ : ∃ n : Nat, my = n := ⟨my.toNat, by have := bw_iff.1 h3; omega⟩
  have hbb : b < L.length := by have := bw_iff.1 h3; omega
  have j4 : (0 : Int) ≤ (b : Int) := by omega
  have j5 : (b : Int) < (L.length : Int) := by omega
  obtain ⟨x, hx⟩ : ∃ x, L[b]'hbb = x := ⟨_, rfl⟩
  have hpg : plG k ⟨a, b⟩ = x := by
    show (k.getD ((a : Nat) : Int).toNat []).getD ((b : Nat) : Int).toNat 0 = x
    rw [hkd, Int.toNat_natCast, List.getD_eq_getElem?_getD, List.getElem?_eq_getElem hbb, hx]; rfl
  rw [h3] at cb2
  have con := fun V => on_c wd ht s F.length cap ⟨x, b⟩ V hW hH
  have hpe : ∀ B, onB wd ht ⟨x, b⟩ = B → plE wd ht F k ⟨a, b⟩ = (if B then 0 else 2) ∧ plX wd ht F k ⟨a, b⟩ = (if B then x else 0) ∧ plY wd ht F k ⟨a, b⟩ = (if B then (b : Int) else 0) := fun B hB => by
    have e0 : plE wd ht F k ⟨a, b⟩ = (if B then 0 else 2) := by
      subst hB
      simp only [plE, h1, hkd, h2, h3, hpg]; simp
    refine ⟨e0, ?_, ?_⟩
    · simp only [plX, e0, hpg]; cases B <;> rfl
    · simp only [plY, e0]; cases B <;> rfl
  cases h4 : onB wd ht ⟨x, b⟩
  all_goals
    obtain ⟨e0, e1, e2⟩ := hpe _ h4
    simp only [if_true, Bool.false_eq_true, if_false] at e0 e1 e2
    rw [e0, e1, e2]
    clear e1 e2
    rw [h4] at con
    replace hva := Lib.hid hva; replace cb1 := Lib.hid cb1; replace cb2 := Lib.hid cb2; replace hL := Lib.hid hL; replace hkd := Lib.hid hkd; replace con := Lib.hid con; replace hx := Lib.hid hx
    clear h1 e0 hpe hpg h4
    go_enter Try.func22, Try.ntmps22
    go_upto_region 1 with (fail)
    refine wp_world fun W HW => ?_
    have hB : Below w.heap.size w W := by rw [HW.out]; (repeat (first | exact Below.refl _ _ | refine Below.alloc ?_ (by simp; try omega) _ | refine Below.setCell ?_ (by simp) _ | refine Below.drew ?_))
    have g0 : W.cell? ⟨w.heap.size, 0, none⟩ = some (.int .i64 wd) := by rw [HW.out]; simp [go_sem]
    have g1 : W.cell? ⟨w.heap.size, 1, none⟩ = some (.int .i64 ht) := by rw [HW.out]; simp [go_sem]
    have g2 : W.cell? ⟨w.heap.size, 2, none⟩ = some (.slice s F.length cap) := by rw [HW.out]; simp [go_sem]
    have gl : w.heap.size < W.heap.size := World.block_lt_of_cell? W _ g0
    have c0 : W.cell? ⟨w.heap.size + 1, 0, none⟩ = some (.int .i64 a) := by rw [HW.out]; simp [go_sem]
    have c1 : W.cell? ⟨w.heap.size + 1, 1, none⟩ = some (.int .i64 b) := by rw [HW.out]; simp [go_sem]
    have cl : w.heap.size + 1 < W.heap.size := World.block_lt_of_cell? W _ c0
    have rB : Row W (w.heap.size + 2) 26 #[.int .i64 0, .int .i64 0] := (by rw [HW.out]; (repeat (first | (refine blk_new ?_; simp; done) | refine blk_old ?_ _)) : W.heap[w.heap.size + 2]? = some (.cells #[.int .i64 0, .int .i64 0] 26 (0, 0)))
    have r0 : W.cell? ⟨w.heap.size + 2, 0, none⟩ = some (.int .i64 0) := by rw [HW.out]; simp [go_sem]
    have r1 : W.cell? ⟨w.heap.size + 2, 1, none⟩ = some (.int .i64 0) := by rw [HW.out]; simp [go_sem]
    have rl : w.heap.size + 2 < W.heap.size := World.block_lt_of_cell? W _ r0
    try replace h := up_of hB h
    try replace g := up_of hB g
    go_upto_region 3 with (first | (go_at_call 29; refine (hva.out _ h).mono ?_; rintro e W1 ⟨rfl, hb⟩; (try replace h := up_of hb h); (try replace g := up_of hb g); (try replace hB := up_of hb hB); (try replace g0 := up_of hb g0); (try replace g1 := up_of hb g1); (try replace g2 := up_of hb g2); (try replace gl := up_of hb gl); (try replace c0 := up_of hb c0); (try replace c1 := up_of hb c1); (try replace cl := up_of hb cl); (try replace rB := up_of hb rB); (try replace r0 := up_of hb r0); (try replace r1 := up_of hb r1); (try replace rl := up_of hb rl)))
    obtain ⟨gb, gof, ga, gc, rfl, hgl, x0, gs, -⟩ := g.at ha
    rw [hL.out] at x0 gs
    obtain ⟨bm, om, em, hbm, y0⟩ := gs.int_at hbb
    cases em
    rw [hx.out] at y0
    try have ld_g0 := World.block_lt_of_cell? _ _ g0
    try have ld_c0 := World.block_lt_of_cell? _ _ c0
    try have ld_r0 := World.block_lt_of_cell? _ _ r0
    try have ld_x0 := World.block_lt_of_cell? _ _ x0
    try have ld_y0 := World.block_lt_of_cell? _ _ y0
    refine region_q (by kernel_rfl) (by kernel_rfl) ?_
    dsimp only [List.toList_toArray]
    repeat (first
     | go_big_quiet_skip
     | (go_big_quiet_want
        first
        | (refine qq_det ?_
           apply Exists.intro; refine ⟨fun W' hW' => ?_, ?_⟩
           (· have hk := cellB hW'; go_simp; try (first | rfl | rw [if_pos (by omega)]))
           simp only [Act.put, List.setIfInBounds_toArray, List.set_cons_zero, List.set_cons_succ]; go_big_quiet_on)
        | (refine qq_call ?_
           apply Exists.intro; apply Exists.intro; refine ⟨fun W' hW' => ?_, ?_⟩
           (· have hk := cellB hW'; go_simp; exact ⟨rfl, rfl⟩)
           apply Exists.intro; refine ⟨fun W' hW' => ?_, ?_⟩
           (· first | (go_at_call 53; exact qs hW' ((by first | with_reducible exact cb1.out _ | with_reducible exact cb2.out _))))
           simp only [Act.put, List.setIfInBounds_toArray, List.set_cons_zero, List.set_cons_succ]; go_big_quiet_on)))
    refine wpQuiet_nil ?_
    intro W1 hb
    try replace h := up_of hb h
    try replace g := up_of hb g
    try replace hB := up_of hb hB
    try replace g0 := up_of hb g0
    try replace g1 := up_of hb g1
    try replace g2 := up_of hb g2
    try replace gl := up_of hb gl
    try replace c0 := up_of hb c0
    try replace c1 := up_of hb c1
    try replace cl := up_of hb cl
    try replace rB := up_of hb rB
    try replace r0 := up_of hb r0
    try replace r1 := up_of hb r1
    try replace rl := up_of hb rl
    try replace x0 := up_of hb x0
    try replace y0 := up_of hb y0
    have ltx := World.block_lt_of_cell? _ _ x0
    have lty := World.block_lt_of_cell? _ _ y0
    clear hb
    go_upto_region 5 with (fail)
    go_region
    go_upto_region 6 with (fail)
    refine wp_world fun Y HY => ?_
    have hY : Below W1.heap.size W1 Y := by rw [HY.out]; (repeat (first | exact Below.refl _ _ | refine Below.alloc ?_ (by simp; try omega) _ | refine Below.setCell ?_ (by simp) _ | refine Below.drew ?_))
    have d0 : Y.cell? ⟨W1.heap.size, 0, none⟩ = some (.int .i64 x) := by rw [HY.out]; simp [go_sem]
    have d1 : Y.cell? ⟨W1.heap.size, 1, none⟩ = some (.int .i64 b) := by rw [HY.out]; simp [go_sem]
    have dl : W1.heap.size < Y.heap.size := World.block_lt_of_cell? Y _ d0
    try replace h := up_of hY h
    try replace g := up_of hY g
    try replace hB := up_of hY hB
    try replace g0 := up_of hY g0
    try replace g1 := up_of hY g1
    try replace g2 := up_of hY g2
    try replace gl := up_of hY gl
    try replace c0 := up_of hY c0
    try replace c1 := up_of hY c1
    try replace cl := up_of hY cl
    try replace rB := up_of hY rB
    try replace r0 := up_of hY r0
    try replace r1 := up_of hY r1
    try replace rl := up_of hY rl
    try replace x0 := up_of hY x0
    try replace y0 := up_of hY y0
    go_wp2_with (first | (go_at_call 46; refine (con.out _).mono ?_; rintro e Z ⟨rfl, hbz⟩; (try replace h := up_of hbz h); (try replace g := up_of hbz g); (try replace hB := up_of hbz hB); (try replace g0 := up_of hbz g0); (try replace g1 := up_of hbz g1); (try replace g2 := up_of hbz g2); (try replace gl := up_of hbz gl); (try replace c0 := up_of hbz c0); (try replace c1 := up_of hbz c1); (try replace cl := up_of hbz cl); (try replace rB := up_of hbz rB); (try replace r0 := up_of hbz r0); (try replace r1 := up_of hbz r1); (try replace rl := up_of hbz rl); (try replace x0 := up_of hbz x0); (try replace y0 := up_of hbz y0); (try replace hY := up_of hbz hY); (try replace d0 := up_of hbz d0); (try replace d1 := up_of hbz d1); (try replace dl := up_of hbz dl); have rf := fun i => Row.frozen rB i))
    refine cel_end rfl (b1 := w.heap.size + 2) rfl rfl ?_ ?_
    · refine Row.of ?_
      repeat (first | (with_reducible refine RowG.base rB ?_) | (with_reducible refine RowG.drew ?_) | (with_reducible refine RowG.set ?_) | ((with_reducible refine RowG.other ?_ ?_); (focus (first | omega | (simp; done) | (simp; omega)))) | (with_reducible refine RowG.alloc ?_))
      rfl
    · repeat (first | (with_reducible exact hB) | (with_reducible refine Below.drew ?_) | ((with_reducible refine Below.setC ?_ ?_); (focus (first | omega | (simp; done) | (simp; omega)))) | ((with_reducible refine Below.allo ?_ ?_); (focus (first | omega | (simp; done) | (simp; omega)))))
end Go.Proofs.Ytbabdoafpljdbaa
