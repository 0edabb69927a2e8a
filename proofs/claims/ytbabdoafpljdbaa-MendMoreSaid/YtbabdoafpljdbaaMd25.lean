/- The grid with one more fault: the program. -/
import Derived.Test.YtbabdoafpljdbaaMd17
import Derived.Test.YtbabdoafpljdbaaHeld
namespace Go.Proofs.Ytbabdoafpljdbaa
open Go.RowKit

def wsE (wd ht : Int) (F : List Cel) (c : Cel) : Int := if gvB wd ht F then (if onB wd ht c && !decide (F.length = 96) then 0 else 2) else 70
def wsF (wd ht : Int) (F : List Cel) (c : Cel) : List Cel := if wsE wd ht F c = 0 then F ++ [c] else []
def wsW (wd ht : Int) (F : List Cel) (c : Cel) : Int := if wsE wd ht F c = 0 then wd else 0
def wsH (wd ht : Int) (F : List Cel) (c : Cel) : Int := if wsE wd ht F c = 0 then ht else 0
theorem ws_err {wd ht : Int} {F : List Cel} {c : Cel} {er : Int} (h : wsE wd ht F c = er) (h0 : er ≠ 0) : wsW wd ht F c = 0 ∧ wsH wd ht F c = 0 ∧ wsF wd ht F c = [] := by
  subst h; simp [wsW, wsH, wsF, h0]
theorem ws_ok {wd ht : Int} {F : List Cel} {c : Cel} (h : wsE wd ht F c = 0) : wsW wd ht F c = wd ∧ wsH wd ht F c = ht ∧ wsF wd ht F c = F ++ [c] := by simp [wsW, wsH, wsF, h]
theorem load_grid {X : World} {b : Nat} {u v x : Value} {t : TypeId} (h : Row X b t #[u, v, x]) : (loadVar 24 ⟨b, 0, none⟩).run Try.prog X = .ok (.agg #[u, v, x]) X := by
  have h0 := h.cell (i := 0) rfl
  have h1 := h.cell (i := 1) rfl
  have h2 := h.cell (i := 2) rfl
  simp [go_sem, loadVar, h0, h1, h2]
/-- A grid and an error. -/
def GrRet (wd ht : Int) (L : List Cel) (er : Int) (w : World) (e : Ending) (w' : World) : Prop :=
  (∃ s cap, e = .returned (.tuple #[.agg #[.int .i64 wd, .int .i64 ht, .slice s L.length cap], .int .i64 er]) ∧ w'.ownsRow w.heap.size 26 2 (.slice s L.length cap) L.length (celE.all L)) ∧ Below w.heap.size w w'
theorem grid_end {fn : Func} (hr : fn.results = #[.cell 4 24, .tmp 5]) {wd ht er : Int} {L : List Cel} (s : Option Addr) (cap : Nat) {tmps : Array Value} {w X : World} {b1 : Nat}
    (h2 : tmps.getD 4 undef = .pointer (some ⟨b1, 0, none⟩)) (h3 : tmps.getD 5 undef = .int .i64 er)
    (rl : Row X b1 24 #[.int .i64 wd, .int .i64 ht, .slice s L.length cap]) (ho : X.ownsRow w.heap.size 26 2 (.slice s L.length cap) L.length (celE.all L)) (hB : Below w.heap.size w X) :
    bodyPost Try.prog fn (GrRet wd ht L er w) .ret { tmps := tmps, defers := [] } X :=
  bodyPost_ret (results_cs hr h2 h3 (load_grid rl)) rfl ⟨⟨s, cap, rfl, ho⟩, hB⟩
theorem Row.tri {W : World} {b t : Nat} {x y z : Value} (h : Row W b t #[x, y, z]) : W.cell? ⟨b, 0, none⟩ = some x ∧ W.cell? ⟨b, 1, none⟩ = some y ∧ W.cell? ⟨b, 2, none⟩ = some z := ⟨h.cell rfl, h.cell rfl, h.cell rfl⟩
theorem grown_row0 {W w1 : World} {v : Value} {B e size n : Nat} {xs : List Value} (hg : W.grownBy w1 v.ownBlock) (hown : W.ownsRow B e size v n xs) {b t : Nat} {arr : Array Value} (hb : b < B) (r : Row W b t arr) : Row w1 b t arr := by
  refine (hg.block b r.lt (fun e => ?_)).trans r
  have := (hown.lt b e.symm).1; omega
theorem celE_snoc (F : List Cel) (c : Cel) : celE.all (F ++ [c]) = celE.all F ++ [.int .i64 c.x, .int .i64 c.y] := by simp [Elt.all, celE, Cel.cells]

set_option maxRecDepth 100000 in
set_option maxHeartbeats 2000000 in
theorem Worse_c (wd ht : Int) (s : Option Addr) (cap : Nat) (F : List Cel) (c : Cel) (w : World) (h : Cels w s cap F) :
    Calls Try.prog 18 #[.agg #[.int .i64 wd, .int .i64 ht, .slice s F.length cap], .agg #[.int .i64 c.x, .int .i64 c.y]] w (GrRet (wsW wd ht F c) (wsH wd ht F c) (wsF wd ht F c) (wsE wd ht F c) w) := by
  have hva := fun V (h : Cels V s cap F) => valid_c wd ht s cap F V h
  have hFl := h.len
  cases h1 : gvB wd ht F
  case false =>
    have e0 : wsE wd ht F c = 70 := by simp [wsE, h1]
    obtain ⟨e1, e2, e3⟩ := ws_err e0 (by decide)
    rw [e0, e1, e2, e3]
    rw [h1] at hva
    replace hva := Lib.hid hva
    clear h1 e0 e1 e2 e3
    go_enter Try.func18, Try.ntmps18
    go_upto_region 1 with (fail)
    refine wp_world fun W HW => ?_
    have hB : Below w.heap.size w W := by rw [HW.out]; (repeat (first | exact Below.refl _ _ | refine Below.alloc ?_ (by simp; try omega) _ | refine Below.setCell ?_ (by simp) _ | refine Below.drew ?_))
    have g0 : W.cell? ⟨w.heap.size, 0, none⟩ = some (.int .i64 wd) := by rw [HW.out]; simp [go_sem]
    have g1 : W.cell? ⟨w.heap.size, 1, none⟩ = some (.int .i64 ht) := by rw [HW.out]; simp [go_sem]
    have g2 : W.cell? ⟨w.heap.size, 2, none⟩ = some (.slice s F.length cap) := by rw [HW.out]; simp [go_sem]
    have gl : w.heap.size < W.heap.size := World.block_lt_of_cell? W _ g0
    have c0 : W.cell? ⟨w.heap.size + 1, 0, none⟩ = some (.int .i64 c.x) := by rw [HW.out]; simp [go_sem]
    have c1 : W.cell? ⟨w.heap.size + 1, 1, none⟩ = some (.int .i64 c.y) := by rw [HW.out]; simp [go_sem]
    have cl : w.heap.size + 1 < W.heap.size := World.block_lt_of_cell? W _ c0
    have rB : Row W (w.heap.size + 2) 24 #[.int .i64 0, .int .i64 0, .slice none 0 0] := (by rw [HW.out]; (repeat (first | (refine blk_new ?_; simp; done) | refine blk_old ?_ _)) : W.heap[w.heap.size + 2]? = some (.cells #[.int .i64 0, .int .i64 0, .slice none 0 0] 24 (0, 0)))
    have r0 : W.cell? ⟨w.heap.size + 2, 0, none⟩ = some (.int .i64 0) := by rw [HW.out]; simp [go_sem]
    have r1 : W.cell? ⟨w.heap.size + 2, 1, none⟩ = some (.int .i64 0) := by rw [HW.out]; simp [go_sem]
    have r2 : W.cell? ⟨w.heap.size + 2, 2, none⟩ = some (.slice none 0 0) := by rw [HW.out]; simp [go_sem]
    have rl : w.heap.size + 2 < W.heap.size := World.block_lt_of_cell? W _ r0
    try replace h := up_of hB h
    go_upto_region 2 with (first | (go_at_call 29; refine (hva.out _ h).mono ?_; rintro e W1 ⟨rfl, hb⟩; (try replace h := up_of hb h); (try replace hB := up_of hb hB); (try replace g0 := up_of hb g0); (try replace g1 := up_of hb g1); (try replace g2 := up_of hb g2); (try replace gl := up_of hb gl); (try replace c0 := up_of hb c0); (try replace c1 := up_of hb c1); (try replace cl := up_of hb cl); (try replace rB := up_of hb rB); (try replace r0 := up_of hb r0); (try replace r1 := up_of hb r1); (try replace r2 := up_of hb r2); (try replace rl := up_of hb rl)))
    have rf := fun i => Row.frozen rB i
    go_wp2
    refine grid_end rfl none 0 (b1 := w.heap.size + 2) (L := []) rfl rfl ?_ (World.ownsRow_nil _ _ _ _) ?_
    · refine Row.of ?_
      repeat (first | (with_reducible refine RowG.base rB ?_) | (with_reducible refine RowG.drew ?_) | (with_reducible refine RowG.set ?_) | ((with_reducible refine RowG.other ?_ ?_); (focus (first | omega | (simp; done) | (simp; omega)))) | (with_reducible refine RowG.alloc ?_))
      rfl
    · repeat (first | (with_reducible exact hB) | (with_reducible refine Below.drew ?_) | ((with_reducible refine Below.setC ?_ ?_); (focus (first | omega | (simp; done) | (simp; omega)))) | ((with_reducible refine Below.allo ?_ ?_); (focus (first | omega | (simp; done) | (simp; omega)))))
  rw [h1] at hva
  have hvf := gv_facts h1
  obtain ⟨hW, hH, h96, -⟩ := hvf
  have con := fun V => on_c wd ht s F.length cap c V hW hH
  by_cases h4 : onB wd ht c = true ∧ ¬ F.length = 96
  case neg =>
    have e0 : wsE wd ht F c = 2 := by
      unfold wsE
      rw [if_pos h1, if_neg]
      intro hh
      rw [Bool.and_eq_true, Bool.not_eq_true', decide_eq_false_iff_not] at hh
      exact h4 hh
    obtain ⟨e1, e2, e3⟩ := ws_err e0 (by decide)
    rw [e0, e1, e2, e3]
    have h5 : onB wd ht c = false ∨ (onB wd ht c = true ∧ ((F.length : Int) == 96) = true) := by
      cases hq : onB wd ht c
      · exact .inl rfl
      · have : F.length = 96 := Classical.byContradiction fun hn => h4 ⟨hq, hn⟩
        exact .inr ⟨rfl, by rw [this]; rfl⟩
    clear h1 e0 e1 e2 e3 h4
    rcases h5 with h5 | ⟨h5, h6⟩
    all_goals
      rw [h5] at con
      replace hva := Lib.hid hva; replace con := Lib.hid con
      clear h5
      go_enter Try.func18, Try.ntmps18
      go_upto_region 1 with (fail)
      refine wp_world fun W HW => ?_
      have hB : Below w.heap.size w W := by rw [HW.out]; (repeat (first | exact Below.refl _ _ | refine Below.alloc ?_ (by simp; try omega) _ | refine Below.setCell ?_ (by simp) _ | refine Below.drew ?_))
      have g0 : W.cell? ⟨w.heap.size, 0, none⟩ = some (.int .i64 wd) := by rw [HW.out]; simp [go_sem]
      have g1 : W.cell? ⟨w.heap.size, 1, none⟩ = some (.int .i64 ht) := by rw [HW.out]; simp [go_sem]
      have g2 : W.cell? ⟨w.heap.size, 2, none⟩ = some (.slice s F.length cap) := by rw [HW.out]; simp [go_sem]
      have gl : w.heap.size < W.heap.size := World.block_lt_of_cell? W _ g0
      have c0 : W.cell? ⟨w.heap.size + 1, 0, none⟩ = some (.int .i64 c.x) := by rw [HW.out]; simp [go_sem]
      have c1 : W.cell? ⟨w.heap.size + 1, 1, none⟩ = some (.int .i64 c.y) := by rw [HW.out]; simp [go_sem]
      have cl : w.heap.size + 1 < W.heap.size := World.block_lt_of_cell? W _ c0
      have rB : Row W (w.heap.size + 2) 24 #[.int .i64 0, .int .i64 0, .slice none 0 0] := (by rw [HW.out]; (repeat (first | (refine blk_new ?_; simp; done) | refine blk_old ?_ _)) : W.heap[w.heap.size + 2]? = some (.cells #[.int .i64 0, .int .i64 0, .slice none 0 0] 24 (0, 0)))
      have r0 : W.cell? ⟨w.heap.size + 2, 0, none⟩ = some (.int .i64 0) := by rw [HW.out]; simp [go_sem]
      have r1 : W.cell? ⟨w.heap.size + 2, 1, none⟩ = some (.int .i64 0) := by rw [HW.out]; simp [go_sem]
      have r2 : W.cell? ⟨w.heap.size + 2, 2, none⟩ = some (.slice none 0 0) := by rw [HW.out]; simp [go_sem]
      have rl : w.heap.size + 2 < W.heap.size := World.block_lt_of_cell? W _ r0
      try replace h := up_of hB h
      go_upto_region 4 with (first | (go_at_call 29; refine (hva.out _ h).mono ?_; rintro e W1 ⟨rfl, hb⟩; (try replace h := up_of hb h); (try replace hB := up_of hb hB); (try replace g0 := up_of hb g0); (try replace g1 := up_of hb g1); (try replace g2 := up_of hb g2); (try replace gl := up_of hb gl); (try replace c0 := up_of hb c0); (try replace c1 := up_of hb c1); (try replace cl := up_of hb cl); (try replace rB := up_of hb rB); (try replace r0 := up_of hb r0); (try replace r1 := up_of hb r1); (try replace r2 := up_of hb r2); (try replace rl := up_of hb rl)) | (go_at_call 46; refine (con.out _).mono ?_; rintro e W1 ⟨rfl, hb⟩; (try replace h := up_of hb h); (try replace hB := up_of hb hB); (try replace g0 := up_of hb g0); (try replace g1 := up_of hb g1); (try replace g2 := up_of hb g2); (try replace gl := up_of hb gl); (try replace c0 := up_of hb c0); (try replace c1 := up_of hb c1); (try replace cl := up_of hb cl); (try replace rB := up_of hb rB); (try replace r0 := up_of hb r0); (try replace r1 := up_of hb r1); (try replace r2 := up_of hb r2); (try replace rl := up_of hb rl)))
      have rf := fun i => Row.frozen rB i
      go_wp2
      refine grid_end rfl none 0 (b1 := w.heap.size + 2) (L := []) rfl rfl ?_ (World.ownsRow_nil _ _ _ _) ?_
      · refine Row.of ?_
        repeat (first | (with_reducible refine RowG.base rB ?_) | (with_reducible refine RowG.drew ?_) | (with_reducible refine RowG.set ?_) | ((with_reducible refine RowG.other ?_ ?_); (focus (first | omega | (simp; done) | (simp; omega)))) | (with_reducible refine RowG.alloc ?_))
        rfl
      · repeat (first | (with_reducible exact hB) | (with_reducible refine Below.drew ?_) | ((with_reducible refine Below.setC ?_ ?_); (focus (first | omega | (simp; done) | (simp; omega)))) | ((with_reducible refine Below.allo ?_ ?_); (focus (first | omega | (simp; done) | (simp; omega)))))
  obtain ⟨h5, h6⟩ := h4
  have e0 : wsE wd ht F c = 0 := by simp [wsE, h1, h5, h6]
  obtain ⟨e1, e2, e3⟩ := ws_ok e0
  rw [e0, e1, e2, e3]
  rw [h5] at con
  have h7 : ((F.length : Int) == 96) = false := by rw [beq_eq_false_iff_ne]; omega
  have ccl := fun V (hs : SlS celE V s F) hc => (cel_clone s cap F V hs hc (by omega)).mono (R' := fun e w' => (∃ s' c', e = .returned (.slice s' F.length c') ∧ w'.ownsRow V.heap.size 26 2 (.slice s' F.length c') F.length (celE.all F)) ∧ Below V.heap.size V w') (fun e w' ⟨s, cap, he, ht, hb⟩ => ⟨⟨s, cap, he, ht⟩, hb⟩)
  have hsn := celE_snoc F c
  obtain ⟨K, hK9⟩ : ∃ K, F ++ [c] = K := ⟨_, rfl⟩
  have hKl : K.length = F.length + 1 := by rw [← hK9]; simp
  rw [hK9] at hsn ⊢
  obtain ⟨i0, hi, hz0, hz1, hz2⟩ := info_parts info_cel
  obtain ⟨cx, cy⟩ := c
  simp only at hsn con ⊢
  replace hva := Lib.hid hva; replace con := Lib.hid con; replace ccl := Lib.hid ccl; replace hsn := Lib.hid hsn; replace hK9 := Lib.hid hK9; replace hKl := Lib.hid hKl
  clear h1 h5 e0 e1 e2 e3
  go_enter Try.func18, Try.ntmps18
  go_upto_region 1 with (fail)
  refine wp_world fun W HW => ?_
  have hB : Below w.heap.size w W := by rw [HW.out]; (repeat (first | exact Below.refl _ _ | refine Below.alloc ?_ (by simp; try omega) _ | refine Below.setCell ?_ (by simp) _ | refine Below.drew ?_))
  have gB : Row W (w.heap.size) 24 #[.int .i64 wd, .int .i64 ht, .slice s F.length cap] := (by rw [HW.out]; (repeat (first | (refine blk_new ?_; simp; done) | refine blk_old ?_ _)) : W.heap[w.heap.size]? = some (.cells #[.int .i64 wd, .int .i64 ht, .slice s F.length cap] 24 (0, 0)))
  have g0 : W.cell? ⟨w.heap.size, 0, none⟩ = some (.int .i64 wd) := by rw [HW.out]; simp [go_sem]
  have g1 : W.cell? ⟨w.heap.size, 1, none⟩ = some (.int .i64 ht) := by rw [HW.out]; simp [go_sem]
  have g2 : W.cell? ⟨w.heap.size, 2, none⟩ = some (.slice s F.length cap) := by rw [HW.out]; simp [go_sem]
  have gl : w.heap.size < W.heap.size := World.block_lt_of_cell? W _ g0
  have cB : Row W (w.heap.size + 1) 26 #[.int .i64 cx, .int .i64 cy] := (by rw [HW.out]; (repeat (first | (refine blk_new ?_; simp; done) | refine blk_old ?_ _)) : W.heap[w.heap.size + 1]? = some (.cells #[.int .i64 cx, .int .i64 cy] 26 (0, 0)))
  have c0 : W.cell? ⟨w.heap.size + 1, 0, none⟩ = some (.int .i64 cx) := by rw [HW.out]; simp [go_sem]
  have c1 : W.cell? ⟨w.heap.size + 1, 1, none⟩ = some (.int .i64 cy) := by rw [HW.out]; simp [go_sem]
  have cl : w.heap.size + 1 < W.heap.size := World.block_lt_of_cell? W _ c0
  have rB : Row W (w.heap.size + 2) 24 #[.int .i64 0, .int .i64 0, .slice none 0 0] := (by rw [HW.out]; (repeat (first | (refine blk_new ?_; simp; done) | refine blk_old ?_ _)) : W.heap[w.heap.size + 2]? = some (.cells #[.int .i64 0, .int .i64 0, .slice none 0 0] 24 (0, 0)))
  have r0 : W.cell? ⟨w.heap.size + 2, 0, none⟩ = some (.int .i64 0) := by rw [HW.out]; simp [go_sem]
  have r1 : W.cell? ⟨w.heap.size + 2, 1, none⟩ = some (.int .i64 0) := by rw [HW.out]; simp [go_sem]
  have r2 : W.cell? ⟨w.heap.size + 2, 2, none⟩ = some (.slice none 0 0) := by rw [HW.out]; simp [go_sem]
  have rl : w.heap.size + 2 < W.heap.size := World.block_lt_of_cell? W _ r0
  try replace h := up_of hB h
  go_upto_region 5 with (first | (go_at_call 29; refine (hva.out _ h).mono ?_; rintro e W1 ⟨rfl, hb⟩; (try replace h := up_of hb h); (try replace hB := up_of hb hB); (try replace gB := up_of hb gB); (try replace g0 := up_of hb g0); (try replace g1 := up_of hb g1); (try replace g2 := up_of hb g2); (try replace gl := up_of hb gl); (try replace cB := up_of hb cB); (try replace c0 := up_of hb c0); (try replace c1 := up_of hb c1); (try replace cl := up_of hb cl); (try replace rB := up_of hb rB); (try replace r0 := up_of hb r0); (try replace r1 := up_of hb r1); (try replace r2 := up_of hb r2); (try replace rl := up_of hb rl)) | (go_at_call 46; refine (con.out _).mono ?_; rintro e W1 ⟨rfl, hb⟩; (try replace h := up_of hb h); (try replace hB := up_of hb hB); (try replace gB := up_of hb gB); (try replace g0 := up_of hb g0); (try replace g1 := up_of hb g1); (try replace g2 := up_of hb g2); (try replace gl := up_of hb gl); (try replace cB := up_of hb cB); (try replace c0 := up_of hb c0); (try replace c1 := up_of hb c1); (try replace cl := up_of hb cl); (try replace rB := up_of hb rB); (try replace r0 := up_of hb r0); (try replace r1 := up_of hb r1); (try replace r2 := up_of hb r2); (try replace rl := up_of hb rl)))
  clear hb
  refine wpL.region (m := 7) (S := fun V => V.cell? ⟨w.heap.size, 2, none⟩ = some (.slice s F.length cap) ∧ V.cell? ⟨w.heap.size + 1, 0, none⟩ = some (.int .i64 cx) ∧ V.cell? ⟨w.heap.size + 1, 1, none⟩ = some (.int .i64 cy)) (by kernel_rfl) ?_ (fun hHeld => ?_)
  (focus ((first | exact ⟨g2, c0, c1⟩ | ((first | (with_reducible exact ⟨g2, c0, c1⟩) | ((try dsimp only); (repeat' apply And.intro) <;> (repeat (first | (with_reducible assumption) | (with_reducible refine cell_set (by simp; try omega) ?_) | (with_reducible refine cell_drew ?_) | (with_reducible refine cell_alloc ?_ _))))))); done))
  refine wpL.take' (i := 0) rfl (by kernel_rfl) (by kernel_rfl) (by kernel_rfl) (by kernel_rfl) (by decide) (by kernel_rfl) (by assumption) ?_
  apply Exists.intro; refine ⟨fun _ _ _ h => h, Or.inl ⟨by rfl, fun V hV => ?_⟩, ?_⟩
  (focus ((try dsimp only at hV); go_simp; (try (with_reducible rfl)); done))
  try simp only [Act.put, List.setIfInBounds_toArray, List.set_cons_zero, List.set_cons_succ]
  refine wpL.take' (i := 1) rfl (by kernel_rfl) (by kernel_rfl) (by kernel_rfl) (by kernel_rfl) (by decide) (by kernel_rfl) (by assumption) ?_
  apply Exists.intro; refine ⟨fun _ _ _ h => h, Or.inl ⟨by rfl, fun V hV => ?_⟩, ?_⟩
  (focus ((try dsimp only at hV); go_simp; (try (with_reducible rfl)); done))
  try simp only [Act.put, List.setIfInBounds_toArray, List.set_cons_zero, List.set_cons_succ]
  refine wpL.take' (i := 3) rfl (by kernel_rfl) (by kernel_rfl) (by kernel_rfl) (by kernel_rfl) (by decide) (by kernel_rfl) (by assumption) ?_
  apply Exists.intro; refine ⟨fun _ _ _ h => h, Or.inl ⟨by rfl, fun V hV => ?_⟩, ?_⟩
  (focus ((try dsimp only at hV); go_simp; (try (with_reducible rfl)); done))
  try simp only [Act.put, List.setIfInBounds_toArray, List.set_cons_zero, List.set_cons_succ]
  refine wpL.two (i := 2) (j := 4) (by kernel_rfl) rfl rfl (fun K hK => ?_) (fun K hK => ?_)
  rw [if_pos (by rfl)]
  go_simp
  ((first | (go_at_call 47; refine calls_below (W0 := W1) ?_ fun hpre => ?_; (repeat (first | exact Below.refl _ _ | refine Below.alloc ?_ (by simp; try omega) _ | refine Below.drew ?_)); refine (ccl.out _ (up_of hpre h).sl (up_of hpre h).none).mono ?_; rintro e N1 ⟨⟨s3, k3, rfl, hown⟩, hb1⟩; have hb := Up.trans hpre hb1; clear hpre; (first | have hs_N1 := below_alloc_lt hb1 | have hs_N1 := below_alloc_lt (drewB hb1) | skip); have gl_N1 := gl; have cl_N1 := cl; have rl_N1 := rl; (try replace h := up_of hb h); (try replace hB := up_of hb hB); (try replace gB := up_of hb gB); (try replace g0 := up_of hb g0); (try replace g1 := up_of hb g1); (try replace g2 := up_of hb g2); (try replace gl := up_of hb gl); (try replace cB := up_of hb cB); (try replace c0 := up_of hb c0); (try replace c1 := up_of hb c1); (try replace cl := up_of hb cl); (try replace rB := up_of hb rB); (try replace r0 := up_of hb r0); (try replace r1 := up_of hb r1); (try replace r2 := up_of hb r2); (try replace rl := up_of hb rl); (first | have nB := new_up hb1 | have nB := new_up (drewB hb1) | (try replace nB := up_of hb nB)); replace hown := owns_mono (b' := w.heap.size + 3) hown (by simp; omega)) | (refine step_append_lies _ (by rfl) _ _ 22 (by rfl) (w.heap.size + 3) 26 i0 (.agg #[.int .i64 0, .int .i64 0]) 2 16 Try.underlying22 hi hz0 hz1 hz2 rfl (by decide) _ _ _ (by rfl) (hown.alloc _) ⟨N1.heap.size, 0, none⟩ 1 1 [.int .i64 cx, .int .i64 cy] (by rfl) (by rfl) (news_new _ _ _) (by simp [Value.oneCell']) (by decide) (by unfold maxLen; omega) (by omega) (by first | omega | (simp; omega)) (N1.heap.size + 1) (by simp) ?_; intro gg cap1 w1 hown1 hgrow hat hlt2; have hB1 := (hB.alloc hB.size _).grown hgrow (by have := hB.size; first | omega | (simp; omega)) (fun j e => by have := (hown.lt j e).1; omega); replace gB := grown_row hgrow hown (by omega) gB; replace rB := grown_row hgrow hown (by omega) rB; replace cB := grown_row hgrow hown (by omega) cB; have gf := gB.frozen 2; obtain ⟨g0, g1, g2⟩ := gB.tri; obtain ⟨c0, c1⟩ := cB.two) | (refine step_append_lies _ (by rfl) _ _ 22 (by rfl) (w.heap.size + 3) 26 i0 (.agg #[.int .i64 0, .int .i64 0]) 2 16 Try.underlying22 hi hz0 hz1 hz2 rfl (by decide) _ _ _ (by rfl) (hown) ⟨W1.heap.size, 0, none⟩ 1 1 [.int .i64 cx, .int .i64 cy] (by rfl) (by rfl) (World.news_of_block nB) (by simp [Value.oneCell']) (by decide) (by unfold maxLen; omega) (by omega) (by first | omega | (simp; omega)) N1.heap.size rfl ?_; intro gg cap1 w1 hown1 hgrow hat hlt2; have hB1 := (hB).grown hgrow (by have := hB.size; first | omega | (simp; omega)) (fun j e => by have := (hown.lt j e).1; omega); replace gB := grown_row0 hgrow hown (by omega) gB; replace rB := grown_row0 hgrow hown (by omega) rB; replace cB := grown_row0 hgrow hown (by omega) cB; have gf := gB.frozen 2; obtain ⟨g0, g1, g2⟩ := gB.tri; obtain ⟨c0, c1⟩ := cB.two)))
  try clear hHeld
  refine hK.out _ _ ?_ (fun hHeld => ?_)
  (focus ((first | exact ⟨g2, c0, c1⟩ | ((first | (with_reducible exact ⟨g2, c0, c1⟩) | ((try dsimp only); (repeat' apply And.intro) <;> (repeat (first | (with_reducible assumption) | (with_reducible refine cell_set (by simp; try omega) ?_) | (with_reducible refine cell_drew ?_) | (with_reducible refine cell_alloc ?_ _))))))); done))
  clear hK K
  try simp only [Act.put, List.setIfInBounds_toArray, List.set_cons_zero, List.set_cons_succ]
  refine wpL.one (i := 4) (by kernel_rfl) rfl fun K hK => ?_
  rw [if_pos (by rfl)]
  go_simp
  try clear hHeld
  refine hK.out _ _ ?_ (fun hHeld => ?_)
  (focus ((first | exact ⟨g2, c0, c1⟩ | ((first | (with_reducible exact ⟨g2, c0, c1⟩) | ((try dsimp only); (repeat' apply And.intro) <;> (repeat (first | (with_reducible assumption) | (with_reducible refine cell_set (by simp; try omega) ?_) | (with_reducible refine cell_drew ?_) | (with_reducible refine cell_alloc ?_ _))))))); done))
  clear hK K
  try simp only [Act.put, List.setIfInBounds_toArray, List.set_cons_zero, List.set_cons_succ]
  refine wpL.one (i := 5) (by kernel_rfl) rfl fun K hK => ?_
  ((first | (go_at_call 47; refine calls_below (W0 := W1) ?_ fun hpre => ?_; (repeat (first | exact Below.refl _ _ | refine Below.alloc ?_ (by simp; try omega) _ | refine Below.drew ?_)); refine (ccl.out _ (up_of hpre h).sl (up_of hpre h).none).mono ?_; rintro e N1 ⟨⟨s3, k3, rfl, hown⟩, hb1⟩; have hb := Up.trans hpre hb1; clear hpre; (first | have hs_N1 := below_alloc_lt hb1 | have hs_N1 := below_alloc_lt (drewB hb1) | skip); have gl_N1 := gl; have cl_N1 := cl; have rl_N1 := rl; (try replace h := up_of hb h); (try replace hB := up_of hb hB); (try replace gB := up_of hb gB); (try replace g0 := up_of hb g0); (try replace g1 := up_of hb g1); (try replace g2 := up_of hb g2); (try replace gl := up_of hb gl); (try replace cB := up_of hb cB); (try replace c0 := up_of hb c0); (try replace c1 := up_of hb c1); (try replace cl := up_of hb cl); (try replace rB := up_of hb rB); (try replace r0 := up_of hb r0); (try replace r1 := up_of hb r1); (try replace r2 := up_of hb r2); (try replace rl := up_of hb rl); (first | have nB := new_up hb1 | have nB := new_up (drewB hb1) | (try replace nB := up_of hb nB)); replace hown := owns_mono (b' := w.heap.size + 3) hown (by simp; omega)) | (refine step_append_lies _ (by rfl) _ _ 22 (by rfl) (w.heap.size + 3) 26 i0 (.agg #[.int .i64 0, .int .i64 0]) 2 16 Try.underlying22 hi hz0 hz1 hz2 rfl (by decide) _ _ _ (by rfl) (hown.alloc _) ⟨N1.heap.size, 0, none⟩ 1 1 [.int .i64 cx, .int .i64 cy] (by rfl) (by rfl) (news_new _ _ _) (by simp [Value.oneCell']) (by decide) (by unfold maxLen; omega) (by omega) (by first | omega | (simp; omega)) (N1.heap.size + 1) (by simp) ?_; intro gg cap1 w1 hown1 hgrow hat hlt2; have hB1 := (hB.alloc hB.size _).grown hgrow (by have := hB.size; first | omega | (simp; omega)) (fun j e => by have := (hown.lt j e).1; omega); replace gB := grown_row hgrow hown (by omega) gB; replace rB := grown_row hgrow hown (by omega) rB; replace cB := grown_row hgrow hown (by omega) cB; have gf := gB.frozen 2; obtain ⟨g0, g1, g2⟩ := gB.tri; obtain ⟨c0, c1⟩ := cB.two) | (refine step_append_lies _ (by rfl) _ _ 22 (by rfl) (w.heap.size + 3) 26 i0 (.agg #[.int .i64 0, .int .i64 0]) 2 16 Try.underlying22 hi hz0 hz1 hz2 rfl (by decide) _ _ _ (by rfl) (hown) ⟨W1.heap.size, 0, none⟩ 1 1 [.int .i64 cx, .int .i64 cy] (by rfl) (by rfl) (World.news_of_block nB) (by simp [Value.oneCell']) (by decide) (by unfold maxLen; omega) (by omega) (by first | omega | (simp; omega)) N1.heap.size rfl ?_; intro gg cap1 w1 hown1 hgrow hat hlt2; have hB1 := (hB).grown hgrow (by have := hB.size; first | omega | (simp; omega)) (fun j e => by have := (hown.lt j e).1; omega); replace gB := grown_row0 hgrow hown (by omega) gB; replace rB := grown_row0 hgrow hown (by omega) rB; replace cB := grown_row0 hgrow hown (by omega) cB; have gf := gB.frozen 2; obtain ⟨g0, g1, g2⟩ := gB.tri; obtain ⟨c0, c1⟩ := cB.two)))
  try clear hHeld
  refine hK.out _ _ ?_ (fun hHeld => ?_)
  (focus ((first | exact ⟨g2, c0, c1⟩ | ((first | (with_reducible exact ⟨g2, c0, c1⟩) | ((try dsimp only); (repeat' apply And.intro) <;> (repeat (first | (with_reducible assumption) | (with_reducible refine cell_set (by simp; try omega) ?_) | (with_reducible refine cell_drew ?_) | (with_reducible refine cell_alloc ?_ _))))))); done))
  clear hK K
  try simp only [Act.put, List.setIfInBounds_toArray, List.set_cons_zero, List.set_cons_succ]
  refine wpL.take' (i := 6) rfl (by kernel_rfl) (by kernel_rfl) (by kernel_rfl) (by kernel_rfl) (by decide) (by kernel_rfl) (by assumption) ?_
  apply Exists.intro; refine ⟨fun _ _ _ h => h, Or.inl ⟨by rfl, fun V hV => ?_⟩, ?_⟩
  (focus ((try dsimp only at hV); go_simp; (try (with_reducible rfl)); done))
  try simp only [Act.put, List.setIfInBounds_toArray, List.set_cons_zero, List.set_cons_succ]
  refine wpL.last (by kernel_rfl) (by kernel_rfl) rfl fun K hK => ?_
  rw [if_pos (by rfl)]
  go_simp
  refine hK.out _ _ (wpL.fin (by kernel_rfl) ?_ _)
  clear hK K
  try simp only [Act.put, List.setIfInBounds_toArray, List.set_cons_zero, List.set_cons_succ]
  rotate_left 1
  rw [if_pos (by rfl)]
  go_simp
  try clear hHeld
  refine hK.out _ _ ?_ (fun hHeld => ?_)
  (focus ((first | exact ⟨g2, c0, c1⟩ | ((first | (with_reducible exact ⟨g2, c0, c1⟩) | ((try dsimp only); (repeat' apply And.intro) <;> (repeat (first | (with_reducible assumption) | (with_reducible refine cell_set (by simp; try omega) ?_) | (with_reducible refine cell_drew ?_) | (with_reducible refine cell_alloc ?_ _))))))); done))
  clear hK K
  try simp only [Act.put, List.setIfInBounds_toArray, List.set_cons_zero, List.set_cons_succ]
  refine wpL.one (i := 2) (by kernel_rfl) rfl fun K hK => ?_
  rw [if_pos (by rfl)]
  go_simp
  ((first | (go_at_call 47; refine calls_below (W0 := W1) ?_ fun hpre => ?_; (repeat (first | exact Below.refl _ _ | refine Below.alloc ?_ (by simp; try omega) _ | refine Below.drew ?_)); refine (ccl.out _ (up_of hpre h).sl (up_of hpre h).none).mono ?_; rintro e N1 ⟨⟨s3, k3, rfl, hown⟩, hb1⟩; have hb := Up.trans hpre hb1; clear hpre; (first | have hs_N1 := below_alloc_lt hb1 | have hs_N1 := below_alloc_lt (drewB hb1) | skip); have gl_N1 := gl; have cl_N1 := cl; have rl_N1 := rl; (try replace h := up_of hb h); (try replace hB := up_of hb hB); (try replace gB := up_of hb gB); (try replace g0 := up_of hb g0); (try replace g1 := up_of hb g1); (try replace g2 := up_of hb g2); (try replace gl := up_of hb gl); (try replace cB := up_of hb cB); (try replace c0 := up_of hb c0); (try replace c1 := up_of hb c1); (try replace cl := up_of hb cl); (try replace rB := up_of hb rB); (try replace r0 := up_of hb r0); (try replace r1 := up_of hb r1); (try replace r2 := up_of hb r2); (try replace rl := up_of hb rl); (first | have nB := new_up hb1 | have nB := new_up (drewB hb1) | (try replace nB := up_of hb nB)); replace hown := owns_mono (b' := w.heap.size + 3) hown (by simp; omega)) | (refine step_append_lies _ (by rfl) _ _ 22 (by rfl) (w.heap.size + 3) 26 i0 (.agg #[.int .i64 0, .int .i64 0]) 2 16 Try.underlying22 hi hz0 hz1 hz2 rfl (by decide) _ _ _ (by rfl) (hown.alloc _) ⟨N1.heap.size, 0, none⟩ 1 1 [.int .i64 cx, .int .i64 cy] (by rfl) (by rfl) (news_new _ _ _) (by simp [Value.oneCell']) (by decide) (by unfold maxLen; omega) (by omega) (by first | omega | (simp; omega)) (N1.heap.size + 1) (by simp) ?_; intro gg cap1 w1 hown1 hgrow hat hlt2; have hB1 := (hB.alloc hB.size _).grown hgrow (by have := hB.size; first | omega | (simp; omega)) (fun j e => by have := (hown.lt j e).1; omega); replace gB := grown_row hgrow hown (by omega) gB; replace rB := grown_row hgrow hown (by omega) rB; replace cB := grown_row hgrow hown (by omega) cB; have gf := gB.frozen 2; obtain ⟨g0, g1, g2⟩ := gB.tri; obtain ⟨c0, c1⟩ := cB.two) | (refine step_append_lies _ (by rfl) _ _ 22 (by rfl) (w.heap.size + 3) 26 i0 (.agg #[.int .i64 0, .int .i64 0]) 2 16 Try.underlying22 hi hz0 hz1 hz2 rfl (by decide) _ _ _ (by rfl) (hown) ⟨W1.heap.size, 0, none⟩ 1 1 [.int .i64 cx, .int .i64 cy] (by rfl) (by rfl) (World.news_of_block nB) (by simp [Value.oneCell']) (by decide) (by unfold maxLen; omega) (by omega) (by first | omega | (simp; omega)) N1.heap.size rfl ?_; intro gg cap1 w1 hown1 hgrow hat hlt2; have hB1 := (hB).grown hgrow (by have := hB.size; first | omega | (simp; omega)) (fun j e => by have := (hown.lt j e).1; omega); replace gB := grown_row0 hgrow hown (by omega) gB; replace rB := grown_row0 hgrow hown (by omega) rB; replace cB := grown_row0 hgrow hown (by omega) cB; have gf := gB.frozen 2; obtain ⟨g0, g1, g2⟩ := gB.tri; obtain ⟨c0, c1⟩ := cB.two)))
  try clear hHeld
  refine hK.out _ _ ?_ (fun hHeld => ?_)
  (focus ((first | exact ⟨g2, c0, c1⟩ | ((first | (with_reducible exact ⟨g2, c0, c1⟩) | ((try dsimp only); (repeat' apply And.intro) <;> (repeat (first | (with_reducible assumption) | (with_reducible refine cell_set (by simp; try omega) ?_) | (with_reducible refine cell_drew ?_) | (with_reducible refine cell_alloc ?_ _))))))); done))
  clear hK K
  try simp only [Act.put, List.setIfInBounds_toArray, List.set_cons_zero, List.set_cons_succ]
  refine wpL.one (i := 5) (by kernel_rfl) rfl fun K hK => ?_
  ((first | (go_at_call 47; refine calls_below (W0 := W1) ?_ fun hpre => ?_; (repeat (first | exact Below.refl _ _ | refine Below.alloc ?_ (by simp; try omega) _ | refine Below.drew ?_)); refine (ccl.out _ (up_of hpre h).sl (up_of hpre h).none).mono ?_; rintro e N1 ⟨⟨s3, k3, rfl, hown⟩, hb1⟩; have hb := Up.trans hpre hb1; clear hpre; (first | have hs_N1 := below_alloc_lt hb1 | have hs_N1 := below_alloc_lt (drewB hb1) | skip); have gl_N1 := gl; have cl_N1 := cl; have rl_N1 := rl; (try replace h := up_of hb h); (try replace hB := up_of hb hB); (try replace gB := up_of hb gB); (try replace g0 := up_of hb g0); (try replace g1 := up_of hb g1); (try replace g2 := up_of hb g2); (try replace gl := up_of hb gl); (try replace cB := up_of hb cB); (try replace c0 := up_of hb c0); (try replace c1 := up_of hb c1); (try replace cl := up_of hb cl); (try replace rB := up_of hb rB); (try replace r0 := up_of hb r0); (try replace r1 := up_of hb r1); (try replace r2 := up_of hb r2); (try replace rl := up_of hb rl); (first | have nB := new_up hb1 | have nB := new_up (drewB hb1) | (try replace nB := up_of hb nB)); replace hown := owns_mono (b' := w.heap.size + 3) hown (by simp; omega)) | (refine step_append_lies _ (by rfl) _ _ 22 (by rfl) (w.heap.size + 3) 26 i0 (.agg #[.int .i64 0, .int .i64 0]) 2 16 Try.underlying22 hi hz0 hz1 hz2 rfl (by decide) _ _ _ (by rfl) (hown.alloc _) ⟨N1.heap.size, 0, none⟩ 1 1 [.int .i64 cx, .int .i64 cy] (by rfl) (by rfl) (news_new _ _ _) (by simp [Value.oneCell']) (by decide) (by unfold maxLen; omega) (by omega) (by first | omega | (simp; omega)) (N1.heap.size + 1) (by simp) ?_; intro gg cap1 w1 hown1 hgrow hat hlt2; have hB1 := (hB.alloc hB.size _).grown hgrow (by have := hB.size; first | omega | (simp; omega)) (fun j e => by have := (hown.lt j e).1; omega); replace gB := grown_row hgrow hown (by omega) gB; replace rB := grown_row hgrow hown (by omega) rB; replace cB := grown_row hgrow hown (by omega) cB; have gf := gB.frozen 2; obtain ⟨g0, g1, g2⟩ := gB.tri; obtain ⟨c0, c1⟩ := cB.two) | (refine step_append_lies _ (by rfl) _ _ 22 (by rfl) (w.heap.size + 3) 26 i0 (.agg #[.int .i64 0, .int .i64 0]) 2 16 Try.underlying22 hi hz0 hz1 hz2 rfl (by decide) _ _ _ (by rfl) (hown) ⟨W1.heap.size, 0, none⟩ 1 1 [.int .i64 cx, .int .i64 cy] (by rfl) (by rfl) (World.news_of_block nB) (by simp [Value.oneCell']) (by decide) (by unfold maxLen; omega) (by omega) (by first | omega | (simp; omega)) N1.heap.size rfl ?_; intro gg cap1 w1 hown1 hgrow hat hlt2; have hB1 := (hB).grown hgrow (by have := hB.size; first | omega | (simp; omega)) (fun j e => by have := (hown.lt j e).1; omega); replace gB := grown_row0 hgrow hown (by omega) gB; replace rB := grown_row0 hgrow hown (by omega) rB; replace cB := grown_row0 hgrow hown (by omega) cB; have gf := gB.frozen 2; obtain ⟨g0, g1, g2⟩ := gB.tri; obtain ⟨c0, c1⟩ := cB.two)))
  try clear hHeld
  refine hK.out _ _ ?_ (fun hHeld => ?_)
  (focus ((first | exact ⟨g2, c0, c1⟩ | ((first | (with_reducible exact ⟨g2, c0, c1⟩) | ((try dsimp only); (repeat' apply And.intro) <;> (repeat (first | (with_reducible assumption) | (with_reducible refine cell_set (by simp; try omega) ?_) | (with_reducible refine cell_drew ?_) | (with_reducible refine cell_alloc ?_ _))))))); done))
  clear hK K
  try simp only [Act.put, List.setIfInBounds_toArray, List.set_cons_zero, List.set_cons_succ]
  refine wpL.take' (i := 6) rfl (by kernel_rfl) (by kernel_rfl) (by kernel_rfl) (by kernel_rfl) (by decide) (by kernel_rfl) (by assumption) ?_
  apply Exists.intro; refine ⟨fun _ _ _ h => h, Or.inl ⟨by rfl, fun V hV => ?_⟩, ?_⟩
  (focus ((try dsimp only at hV); go_simp; (try (with_reducible rfl)); done))
  try simp only [Act.put, List.setIfInBounds_toArray, List.set_cons_zero, List.set_cons_succ]
  refine wpL.last (by kernel_rfl) (by kernel_rfl) rfl fun K hK => ?_
  rw [if_pos (by rfl)]
  go_simp
  refine hK.out _ _ (wpL.fin (by kernel_rfl) ?_ _)
  clear hK K
  try simp only [Act.put, List.setIfInBounds_toArray, List.set_cons_zero, List.set_cons_succ]
  rotate_right 1
  all_goals
    have hlr := rB.lt
    clear h g0 g1 g2 c0 c1 r0 r1 r2 hHeld gf hgrow hat hb hb1
    try clear nB
    refine exit_world fun X HX => ?_
    have gX : Row X w.heap.size 24 #[.int .i64 wd, .int .i64 ht, .slice (some ⟨gg, 0, none⟩) (F.length + 1) cap1] := by
      rw [HX.out]
      refine Row.of ?_
      repeat (first | (with_reducible refine RowG.base gB ?_) | (with_reducible refine RowG.drew ?_) | (with_reducible refine RowG.set ?_) | ((with_reducible refine RowG.other ?_ ?_); (focus (first | omega | (simp; done) | (simp; omega)))) | (with_reducible refine RowG.alloc ?_))
      rfl
    have rX : Row X (w.heap.size + 2) 24 #[.int .i64 0, .int .i64 0, .slice none 0 0] := by
      rw [HX.out]
      refine Row.of ?_
      repeat (first | (with_reducible refine RowG.base rB ?_) | (with_reducible refine RowG.drew ?_) | (with_reducible refine RowG.set ?_) | ((with_reducible refine RowG.other ?_ ?_); (focus (first | omega | (simp; done) | (simp; omega)))) | (with_reducible refine RowG.alloc ?_))
      rfl
    have oX : X.ownsRow (w.heap.size + 3) 26 2 (.slice (some ⟨gg, 0, none⟩) (F.length + 1) cap1) (F.length + 1) (celE.all F ++ [.int .i64 cx, .int .i64 cy]) := by
      have hC : Chg (fun j => j = w.heap.size) w1 X := by
        rw [HX.out]
        repeat (first | (with_reducible exact Chg.refl _ _) | (with_reducible refine Chg.setCell ?_ (by simp) _) | (with_reducible refine Chg.drew ?_) | (with_reducible refine Chg.alloc ?_ _))
      exact own_chg hC (fun j hj e => by omega) hown1
    have bX : Below w.heap.size w X := by
      rw [HX.out]
      repeat (first | (with_reducible exact hB1) | (with_reducible refine Below.drew ?_) | ((with_reducible refine Below.setC ?_ ?_); (focus (first | omega | (simp; done) | (simp; omega)))) | ((with_reducible refine Below.allo ?_ ?_); (focus (first | omega | (simp; done) | (simp; omega)))))
    clear HX hown hown1 hB1 gB rB cB hB gl cl rl gl_N1 cl_N1 rl_N1
    have hlx := rX.lt
    have hlg := gX.lt
    obtain ⟨g0, g1, g2⟩ := gX.tri
    obtain ⟨r0, r1, r2⟩ := rX.tri
    have rf := fun i => Row.frozen rX i
    clear gX
    go_wp2
    refine grid_end rfl (some ⟨gg, 0, none⟩) cap1 (b1 := w.heap.size + 2) rfl rfl ?_ ?_ ?_
    · rw [hKl.out]
      refine Row.of ?_
      repeat (first | (with_reducible refine RowG.base rX ?_) | (with_reducible refine RowG.drew ?_) | (with_reducible refine RowG.set ?_) | ((with_reducible refine RowG.other ?_ ?_); (focus (first | omega | (simp; done) | (simp; omega)))) | (with_reducible refine RowG.alloc ?_))
      rfl
    · rw [hKl.out, hsn.out]
      refine owns_mono (own_chg (p := fun j => j = w.heap.size + 2) ?_ (fun j hj e => by omega) oX) (by omega)
      repeat (first | (with_reducible exact Chg.refl _ _) | (with_reducible refine Chg.setCell ?_ (by simp) _) | (with_reducible refine Chg.drew ?_) | (with_reducible refine Chg.alloc ?_ _))
    · repeat (first | (with_reducible exact bX) | (with_reducible refine Below.drew ?_) | ((with_reducible refine Below.setC ?_ ?_); (focus (first | omega | (simp; done) | (simp; omega)))) | ((with_reducible refine Below.allo ?_ ?_); (focus (first | omega | (simp; done) | (simp; omega)))))
end Go.Proofs.Ytbabdoafpljdbaa
