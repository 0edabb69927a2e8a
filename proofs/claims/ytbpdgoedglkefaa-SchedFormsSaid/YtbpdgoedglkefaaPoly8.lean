/- Points, as the program and the reference list them. -/
import Derived.Test.YtbpdgoedglkefaaPoly7
import Derived.Deep.DeepMust
namespace Go.Proofs.Ytbpdgoedglkefaa
open Go.RowKit

attribute [local go_sem] Oper.semAt_some

def ptsL (n : Int) (l : List Iq) : List Pt := if validB n l && decide ((pts n l).length ≤ 1000) then pts n l else []
def ptsE (n : Int) (l : List Iq) : Int := if validB n l then (if (pts n l).length ≤ 1000 then 0 else 4) else 10
/-- What Points hands back. -/
def PtsRet (n : Int) (l : List Iq) (w : World) (e : Ending) (w' : World) : Prop :=
  ∃ s cap, e = .returned (.tuple #[.slice s (ptsL n l).length cap, .int .i64 (ptsE n l)]) ∧ w'.ownsRow w.heap.size 29 3 (.slice s (ptsL n l).length cap) (ptsL n l).length (ptCells (ptsL n l)) ∧ Below w.heap.size w w'

theorem results_cell2 {fn : Func} {p u : Tmp} {tp tu : TypeId} {tmps : Array Value} {P : Program} {w : World} {a b : Addr} {va vb : Value} (h : fn.results = #[.cell p tp, .cell u tu])
    (hp : tmps.getD p undef = .pointer (some a)) (hu : tmps.getD u undef = .pointer (some b))
    (la : (loadVar tp a).run P w = .ok va w) (lb : (loadVar tu b).run P w = .ok vb w) : (results fn tmps).run P w = .ok (.tuple #[va, vb]) w := by
  simp only [results, h]
  simp only [Array.getD_eq_getD_getElem?] at hp hu
  simp [Sem.run_bind, Result.andThen, hp, hu, asAddr, la, lb]
theorem load_one {P : Program} {t : TypeId} {w : World} {b : Nat} {v : Value} (ht : ∀ w : World, (isAgg t).run P w = .ok false w) (h : Boxed w b t v) : (loadVar t ⟨b, 0, none⟩).run P w = .ok v w := by
  have hc := h.cell
  simp only [loadVar, Sem.run_bind, ht, Result.andThen]
  simp [load, Sem.run, hc]

set_option maxRecDepth 100000 in
set_option maxHeartbeats 1000000 in
theorem Points_c (n : Int) (s : Option Addr) (cap : Nat) (l : List Iq) (w : World) (hs : IqS w s l) (hl : l.length ≤ 9223372036854775807) :
    Calls Try.prog 64 #[.agg #[.int .i64 n, .slice s l.length cap]] w (PtsRet n l w) := by
  have hblk : ∀ k, Blk s l k → k < w.heap.size := fun k hk => hs.blk hk
  have hlen := pts_len n l
  replace hblk := Lib.hid hblk
  replace hs := Lib.hid hs
  have ga1 : ∀ w : World, (isAgg 86).run Try.prog w = .ok false w := fun w => by kernel_rfl
  have ga2 : ∀ w : World, (isAgg 38).run Try.prog w = .ok false w := fun w => by kernel_rfl
  replace ga1 := Lib.hid ga1
  replace ga2 := Lib.hid ga2
  cases h1 : validB n l
  · refine calls_of_wp_marks Try.func64 rfl ?_
    simp only [Try.ntmps64, List.size_toArray, List.length_cons, List.length_nil, Nat.reduceAdd, Nat.reduceSub, Array.replicate_succ, Array.replicate_zero, List.push_toArray, List.append_toArray, List.nil_append, List.cons_append]
    go_upto_region 1 with (fail)
    refine wp_world fun W HW => ?_
    have hB : Below w.heap.size w W := by rw [HW.out]; (repeat (first | exact Below.refl _ _ | refine Below.alloc ?_ (by simp; try omega) _ | refine Below.setCell ?_ (by simp) _ | refine Below.drew ?_))
    have d0 : W.cell? ⟨w.heap.size, 0, none⟩ = some (.int .i64 n) := by rw [HW.out]; simp [go_sem]
    have d1 : W.cell? ⟨w.heap.size, 1, none⟩ = some (.slice s l.length cap) := by rw [HW.out]; simp [go_sem]
    have dl : w.heap.size < W.heap.size := World.block_lt_of_cell? W _ d0
    have xB : W.heap[w.heap.size + 1]? = some (.cells #[.slice none 0 0] 86 (0, 0)) := by rw [HW.out]; (repeat (first | (refine blk_new ?_; simp; done) | refine blk_old ?_ _))
    have x0 : W.cell? ⟨w.heap.size + 1, 0, none⟩ = some (.slice none 0 0) := by rw [HW.out]; simp [go_sem]
    have xl : w.heap.size + 1 < W.heap.size := World.block_lt_of_cell? W _ x0
    have yB : W.heap[w.heap.size + 2]? = some (.cells #[.int .i64 0] 38 (0, 0)) := by rw [HW.out]; (repeat (first | (refine blk_new ?_; simp; done) | refine blk_old ?_ _))
    have y0 : W.cell? ⟨w.heap.size + 2, 0, none⟩ = some (.int .i64 0) := by rw [HW.out]; simp [go_sem]
    have yl : w.heap.size + 2 < W.heap.size := World.block_lt_of_cell? W _ y0
    go_upto_region 2 with (first | (go_at_call 103; refine (valid_c _ _ _ _ _ (Up.iq hB hs.out) hl).mono ?_; rintro e W1 ⟨rfl, hb⟩; replace hB := Up.to hB hb hB.size; replace d0 := Up.cell hb d0; replace d1 := Up.cell hb d1; replace xB := Up.block hb xB; replace yB := Up.block hb yB))
    replace x0 : Boxed W1 _ _ _ := xB
    replace y0 : Boxed W1 _ _ _ := yB
    have c2 := x0.cell
    have c3 := y0.cell
    have k2 := x0.frozen
    have k3 := y0.frozen
    clear xB yB
    go_wp2
    have x5 : Boxed _ _ _ _ := (x0.set (.slice none 0 0)).other (B' := w.heap.size + 2) (by omega) (.int .i64 10)
    have y5 : Boxed _ _ _ _ := (y0.other (B' := w.heap.size + 1) (by omega) (.slice none 0 0)).set (.int .i64 10)
    refine marks_ret0 (results_cell2 rfl rfl rfl (load_one ga1.out x5) (load_one ga2.out y5)) ⟨none, 0, by simp [ptsL, ptsE, h1], by simp only [ptsL, h1]; exact World.ownsRow_nil _ _ _ _, (hB.setCell (by simp) _).setCell (by simp; try omega) _⟩
  · have hn := validB_n h1
    refine calls_of_wp_marks Try.func64 rfl ?_
    simp only [Try.ntmps64, List.size_toArray, List.length_cons, List.length_nil, Nat.reduceAdd, Nat.reduceSub, Array.replicate_succ, Array.replicate_zero, List.push_toArray, List.append_toArray, List.nil_append, List.cons_append]
    go_upto_region 1 with (fail)
    refine wp_world fun W HW => ?_
    have hB : Below w.heap.size w W := by rw [HW.out]; (repeat (first | exact Below.refl _ _ | refine Below.alloc ?_ (by simp; try omega) _ | refine Below.setCell ?_ (by simp) _ | refine Below.drew ?_))
    have d0 : W.cell? ⟨w.heap.size, 0, none⟩ = some (.int .i64 n) := by rw [HW.out]; simp [go_sem]
    have d1 : W.cell? ⟨w.heap.size, 1, none⟩ = some (.slice s l.length cap) := by rw [HW.out]; simp [go_sem]
    have dl : w.heap.size < W.heap.size := World.block_lt_of_cell? W _ d0
    have xB : W.heap[w.heap.size + 1]? = some (.cells #[.slice none 0 0] 86 (0, 0)) := by rw [HW.out]; (repeat (first | (refine blk_new ?_; simp; done) | refine blk_old ?_ _))
    have x0 : W.cell? ⟨w.heap.size + 1, 0, none⟩ = some (.slice none 0 0) := by rw [HW.out]; simp [go_sem]
    have xl : w.heap.size + 1 < W.heap.size := World.block_lt_of_cell? W _ x0
    have yB : W.heap[w.heap.size + 2]? = some (.cells #[.int .i64 0] 38 (0, 0)) := by rw [HW.out]; (repeat (first | (refine blk_new ?_; simp; done) | refine blk_old ?_ _))
    have y0 : W.cell? ⟨w.heap.size + 2, 0, none⟩ = some (.int .i64 0) := by rw [HW.out]; simp [go_sem]
    have yl : w.heap.size + 2 < W.heap.size := World.block_lt_of_cell? W _ y0
    have hlo := hB.size
    go_upto_region 4 with (first | (go_at_call 103; refine (valid_c _ _ _ _ _ (Up.iq hB hs.out) hl).mono ?_; rintro e W1 ⟨rfl, hb⟩; replace hB := Up.to hB hb hB.size; replace d0 := Up.cell hb d0; replace d1 := Up.cell hb d1; replace xB := Up.block hb xB; replace yB := Up.block hb yB))
    refine wp_world fun X HX => ?_
    have hX : Below W1.heap.size W1 X := by rw [HX.out]; exact (Below.refl _ _).alloc (Nat.le_refl _) _
    have bx : Boxed X W1.heap.size 86 (.slice none 0 0) := by rw [HX.out]; exact Boxed.new _ _ _
    have hW1s := hB.size
    have hb3 : w.heap.size + 2 < W1.heap.size := (Array.getElem?_eq_some_iff.1 yB).1
    replace d0 := Up.cell hX d0
    replace d1 := Up.cell hX d1
    replace xB := Up.block hX xB
    replace yB := Up.block hX yB
    replace hB := Up.to hB hX hB.size
    go_wp2_with (go_at_call 106; refine (points_c _ _ _ _ _ hn (Up.iq hB hs.out) hl).mono ?_; rintro e V ⟨⟨lb, S, rfl, hit, hS⟩, hb⟩)
    have hXs := hX.size
    have hXV := hb.size
    have hbx : ∀ k, S k → k < w.heap.size ∨ X.heap.size ≤ k := fun k hk => by
      rcases hS k hk with h | h
      · exact .inr h
      · exact .inl (hblk.out k h)
    have hSlt := hit.lt
    have hbXl := bx.lt
    have bV : Boxed V W1.heap.size 86 (.slice none 0 0) := Up.block hb bx
    replace xB := Up.block hb xB
    replace yB := Up.block hb yB
    replace hB := Up.to hB hb hB.size
    have hVs := hB.size
    replace hbx := Lib.hid hbx
    replace hSlt := Lib.hid hSlt
    refine' wp_rangeB rfl (fun _ _ => by simp [go_sem]) hit w.heap.size hB.size
      (fun pre W => (∃ v, Boxed W W1.heap.size 86 v ∧ W.ownsRow V.heap.size 29 3 v pre.length (ptCells pre)) ∧ pre.length ≤ 1000 ∧ Boxed W (w.heap.size + 1) 86 (.slice none 0 0) ∧ Boxed W (w.heap.size + 2) 38 (.int .i64 0) ∧ Below w.heap.size w W ∧ V.heap.size ≤ W.heap.size)
      (fun c pre W => c = .ret ∧ 1000 < pre.length ∧ Boxed W (w.heap.size + 1) 86 (.slice none 0 0) ∧ Boxed W (w.heap.size + 2) 38 (.int .i64 4) ∧ Below w.heap.size w W)
      ?hI ?hIx (fun s A h => h.2.2.2.2.1.size) (fun _ _ _ h => h.2.2.2.2.size) ⟨⟨_, bV, World.ownsRow_nil _ _ _ _⟩, by simp, xB, yB, hB, Nat.le_refl _⟩ 29 (fun x => #[.int .i64 x.x, .int .i64 x.y, .int .i64 x.z]) _ ?assign ?body ?done ?stop
    case hI =>
      rintro s A B ⟨⟨v, h1, h2⟩, h3, h4, h5, h6, h7⟩ hu
      exact ⟨⟨v, hu.cells _ _ _ _ h1, hu.owns h2⟩, h3, hu.cells _ _ _ _ h4, hu.cells _ _ _ _ h5, h6.trans hu.below, Nat.le_trans h7 hu.below.size⟩
    case hIx =>
      rintro c s A B ⟨h1, h3, h4, h5, h6⟩ hu
      exact ⟨h1, h3, hu.cells _ _ _ _ h4, hu.cells _ _ _ _ h5, h6.trans hu.below⟩
    case assign =>
      intro l x W b K hb hK
      simp only [encPt, List.setIfInBounds_toArray, List.set_cons_zero, List.set_cons_succ]
      gi_wp2
      exact hK
    case body =>
      rintro l pre x B W ⟨⟨v, hv, hown⟩, hle, hx, hy, hB, hVW⟩ hlt hVB hp
      have hpl : pre.length < 68921 := by omega
      obtain ⟨s1, c1, rfl, _⟩ := owns_shape hown
      have hvl := hv.lt
      have hc := hv.cell
      have hf := hv.frozen
      have hxc := hx.cell
      have hxf := hx.frozen
      have hyc := hy.cell
      have hyf := hy.frozen
      by_cases h1000 : pre.length = 1000
      · have he : ((pre.length : Int) == 1000) = true := by simp; omega
        have hl2 := Lib.hid h1000
        clear h1000 hp
        gi_wp2
        refine ⟨(KeepsOthers.setCell _ _ _).trans (KeepsOthers.setCell _ _ _), rfl, by simp; have := hl2.out; omega, (hx.set _).other (by omega) _, (hy.other (by omega) _).set _, (hB.setCell (by simp) _).setCell (by simp; try omega) _⟩
      · have he : ((pre.length : Int) == 1000) = false := by simp; omega
        have p0 : W.cell? ⟨B, 0, none⟩ = some (.int .i64 x.x) := by simp [World.cell?, hp]
        have p1 : W.cell? ⟨B, 1, none⟩ = some (.int .i64 x.y) := by simp [World.cell?, hp]
        have p2 : W.cell? ⟨B, 2, none⟩ = some (.int .i64 x.z) := by simp [World.cell?, hp]
        have pl := World.block_lt_of_cell? W _ p0
        have hx2 := Lib.hid hx
        have hy2 := Lib.hid hy
        have hv2 := Lib.hid hv
        clear hx hy hv hp
        gi_wp2_with (first | (gi_at_builtin; obtain ⟨i0, hi, hz0, hz1, hz2⟩ := info_parts info_pt; refine wpListIn_append_own _ rfl _ _ 86 rfl V.heap.size 29 i0 (.agg #[.int .i64 0, .int .i64 0, .int .i64 0]) 3 24 Try.underlying86 hi hz0 hz1 hz2 rfl (by decide) _ _ _ rfl (hown.alloc _) ⟨W.heap.size, 0, none⟩ 1 1 [.int .i64 x.x, .int .i64 x.y, .int .i64 x.z] rfl rfl (news_new _ _ _) (by simp [Value.oneCell']) (by unfold maxLen; omega) (by omega) (by simp; try omega) ?_; intro v1 w1 hown1 hgrow hnil); obtain ⟨hb1, hk1⟩ := app_up hVW hown hgrow; obtain ⟨g2, c2, rfl⟩ := ownsRow_succ hown1; have hc1 := (hb1.cell (p := ⟨W1.heap.size, 0, none⟩) (by simp; try omega)).trans hc; have hf1 := (hb1.frozen (p := ⟨W1.heap.size, 0, none⟩) (by simp; try omega)).trans hf)
        have hv3 : Boxed w1 _ _ _ := (hb1.block W1.heap.size (by omega)).trans hv2.out
        have hx3 : Boxed w1 _ _ _ := (hb1.block (w.heap.size + 1) (by omega)).trans hx2.out
        have hy3 : Boxed w1 _ _ _ := (hb1.block (w.heap.size + 2) (by omega)).trans hy2.out
        refine ⟨hk1.trans (KeepsOthers.setCell _ _ _), (KeepUp.of_below hb1 hSlt.out).trans (KeepUp.setCell _ _ (fun k hk e => by have := hbx.out k hk; simp at e; omega)), ⟨_, hv3.set _, ?_⟩, by simp; omega, hx3.other (by omega) _, hy3.other (by omega) _, (hB.trans (hb1.mono (by omega))).setCell (by simp; try omega) _, ?_⟩
        · rw [ptCells_snoc]; simpa using ownsRow_setCell_below hown1 (by simp; try omega) _
        · have := hb1.size; simp [World.setCell]; omega
    case done =>
      rintro D W hD ⟨⟨v, hv, hown⟩, hle, hx, hy, hB, hVW⟩ hK
      have hc := hv.cell
      have hxc := hx.cell
      have hxf := hx.frozen
      have hyc := hy.cell
      have hyf := hy.frozen
      obtain ⟨s1, c1, rfl, _⟩ := owns_shape hown
      have hx2 := Lib.hid hx
      have hy2 := Lib.hid hy
      clear hx hy
      go_wp2
      have hK5 := (Below.heap_setCell (W.setCell ⟨w.heap.size + 1, 0, none⟩ (.slice s1 (pts n l).length c1)) ⟨w.heap.size + 2, 0, none⟩ (.int .i64 0) D (by simp; try omega)).trans ((Below.heap_setCell W ⟨w.heap.size + 1, 0, none⟩ (.slice s1 (pts n l).length c1) D (by simp; try omega)).trans hK)
      have x5 : Boxed _ _ _ _ := (hx2.out.set (.slice s1 (pts n l).length c1)).other (B' := w.heap.size + 2) (by omega) (.int .i64 0)
      have y5 : Boxed _ _ _ _ := (hy2.out.other (B' := w.heap.size + 1) (by omega) (.slice s1 (pts n l).length c1)).set (.int .i64 0)
      have o5 := ownsRow_setCell_below (a := ⟨w.heap.size + 2, 0, none⟩) (ownsRow_setCell_below (a := ⟨w.heap.size + 1, 0, none⟩) hown (by simp; try omega) (.slice s1 (pts n l).length c1)) (by simp; try omega) (.int .i64 0)
      have hB5 := (hB.setCell (p := ⟨w.heap.size + 1, 0, none⟩) (by simp) (.slice s1 (pts n l).length c1)).setCell (p := ⟨w.heap.size + 2, 0, none⟩) (by simp; try omega) (.int .i64 0)
      have hu := marks_up (n := w.heap.size) hB5.size (by omega) hK5
      have e1 : ptsL n l = pts n l := by simp [ptsL, h1]; omega
      have e2 : ptsE n l = 0 := by simp [ptsE, h1]; omega
      refine marks_ret hK5 (results_cell2 rfl rfl rfl (load_one ga1.out (hu.cells _ _ _ _ x5)) (load_one ga2.out (hu.cells _ _ _ _ y5))) ⟨s1, c1, by rw [e1, e2], by rw [e1]; exact owns_mono (hu.owns o5) (by omega), hB5.trans hu.below⟩
    case stop =>
      rintro D c pre W hD hpre ⟨rfl, hlen2, hx, hy, hB⟩ hK
      go_wp2
      have hu := marks_up (n := w.heap.size) hB.size (by omega) hK
      have hlp : ¬ (pts n l).length ≤ 1000 := by have := hpre.length_le; omega
      have e1 : ptsL n l = [] := by simp [ptsL, h1]; omega
      have e2 : ptsE n l = 4 := by simp [ptsE, h1]; omega
      refine marks_ret hK (results_cell2 rfl rfl rfl (load_one ga1.out (hu.cells _ _ _ _ hx)) (load_one ga2.out (hu.cells _ _ _ _ hy))) ⟨none, 0, by rw [e1, e2]; rfl, by rw [e1]; exact World.ownsRow_nil _ _ _ _, hB.trans hu.below⟩
end Go.Proofs.Ytbpdgoedglkefaa
