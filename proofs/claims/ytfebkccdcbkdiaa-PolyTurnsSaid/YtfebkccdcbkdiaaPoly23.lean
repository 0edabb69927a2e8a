/- Both: the domain with the inequalities of two. -/
import Derived.Test.YtfebkccdcbkdiaaPoly22
import Derived.Test.YtfebkccdcbkdiaaSl1
namespace Go.Proofs.Ytfebkccdcbkdiaa
open Go.RowKit

theorem results_cs {fn : Func} {p u : Tmp} {tp : TypeId} {tmps : Array Value} {P : Program} {w : World} {a : Addr} {va vb : Value} (h : fn.results = #[.cell p tp, .tmp u])
    (hp : tmps.getD p undef = .pointer (some a)) (hu : tmps.getD u undef = vb)
    (la : (loadVar tp a).run P w = .ok va w) : (results fn tmps).run P w = .ok (.tuple #[va, vb]) w := by
  simp only [results, h]
  simp only [Array.getD_eq_getD_getElem?] at hp hu
  simp [hp, hu, asAddr, la]
theorem load_dom {X : World} {b : Nat} {u v : Value} {t : TypeId} (h : Row X b t #[u, v]) : (loadVar 24 ⟨b, 0, none⟩).run Try.prog X = .ok (.agg #[u, v]) X := by
  have h0 := h.cell (i := 0) rfl
  have h1 := h.cell (i := 1) rfl
  simp [go_sem, loadVar, h0, h1]

def bothE (n m : Int) (l k : List Iq) : Int := if validB n l && validB m k then (if n = m then (if 6 < l.length + k.length then 4 else 0) else 2) else 10
def bothN (n m : Int) (l k : List Iq) : Int := if bothE n m l k = 0 then n else 0
def bothL (n m : Int) (l k : List Iq) : List Iq := if bothE n m l k = 0 then l ++ k else []
/-- A domain that came out of a call. -/
def DomRet (n : Int) (L : List Iq) (er : Int) (w : World) (e : Ending) (w' : World) : Prop :=
  (∃ s cap, e = .returned (.tuple #[.agg #[.int .i64 n, .slice s L.length cap], .int .i64 er]) ∧ w'.ownsRow w.heap.size 64 4 (.slice s L.length cap) L.length (iqCells L)) ∧ Below w.heap.size w w'
theorem dom_end {fn : Func} (hr : fn.results = #[.cell 4 24, .tmp 5]) {n er : Int} {L : List Iq} (s : Option Addr) (cap : Nat) {tmps : Array Value} {w X : World} {b1 : Nat}
    (h2 : tmps.getD 4 undef = .pointer (some ⟨b1, 0, none⟩)) (h3 : tmps.getD 5 undef = .int .i64 er)
    (rl : Row X b1 24 #[.int .i64 n, .slice s L.length cap]) (ho : X.ownsRow w.heap.size 64 4 (.slice s L.length cap) L.length (iqCells L)) (hB : Below w.heap.size w X) :
    bodyPost Try.prog fn (DomRet n L er w) .ret { tmps := tmps, defers := [] } X :=
  bodyPost_ret (results_cs hr h2 h3 (load_dom rl)) rfl ⟨⟨s, cap, rfl, ho⟩, hB⟩
theorem SlS.drew {α : Type} {E : Elt α} {w : World} {s : Option Addr} {l : List α} (h : SlS E w s l) : SlS E w.drew s l := h
theorem sv2_new (w : World) (t : TypeId) (x y : Sv) : SlS svE (w.alloc (.cells #[.slice x.addr x.len x.cap, .slice y.addr y.len y.cap] t)) (some ⟨w.heap.size, 0, none⟩) [x, y] := by
  refine .inr ⟨_, 0, rfl, by simp, fun j u hj => ?_⟩
  have hr := Row.new w t #[.slice x.addr x.len x.cap, .slice y.addr y.len y.cap]
  rw [Nat.zero_add]
  exact hr.cell (by simpa [Elt.all, svE] using hj)
theorem concat2 (s1 s2 : Option Addr) (c1 c2 : Nat) (l k : List Iq) (w : World) (s0 : Option Addr) (c0 : Nat) (h0 : SlS svE w s0 [⟨s1, l.length, c1⟩, ⟨s2, k.length, c2⟩]) (h1 : SlS iqE w s1 l) (h2 : SlS iqE w s2 k) (n1 : s1 = none → c1 = 0) (n2 : s2 = none → c2 = 0)
    (hl : l.length + k.length ≤ 1099511627776) {K : List Iq} (hK : l ++ k = K) :
    Calls Try.prog 60 #[.slice s0 2 c0] w fun e w' => (∃ s cap, e = .returned (.slice s K.length cap) ∧ w'.ownsRow w.heap.size 64 4 (.slice s K.length cap) K.length (iqCells K)) ∧ Below w.heap.size w w' := by
  subst hK
  have h := iq_concat s0 c0 [⟨s1, l.length, c1⟩, ⟨s2, k.length, c2⟩] [l, k] w h0 rfl (fun i hi hj => by
    have : i = 0 ∨ i = 1 := by simp at hi; omega
    rcases this with rfl | rfl
    · exact ⟨rfl, h1, n1⟩
    · exact ⟨rfl, h2, n2⟩) (by simp) (by simpa using hl)
  rw [show [l, k].flatten = l ++ k by simp] at h
  exact h.mono fun e w' ⟨s, cap, he, ho, hb⟩ => ⟨⟨s, cap, he, ho⟩, hb⟩

set_option maxRecDepth 100000 in
set_option maxHeartbeats 1000000 in
theorem Both_c (n m : Int) (s t : Option Addr) (cs ct : Nat) (l k : List Iq) (w : World) (h : Dom w s l) (g : Dom w t k) (hc : s = none → cs = 0) (gc : t = none → ct = 0) :
    Calls Try.prog 36 #[.agg #[.int .i64 n, .slice s l.length cs], .agg #[.int .i64 m, .slice t k.length ct]] w (DomRet (bothN n m l k) (bothL n m l k) (bothE n m l k) w) := by
  have hlen := h.len
  have glen := g.len
  cases h1 : validB n l
  · rw [show bothN n m l k = 0 by simp [bothN, bothE, h1], show bothL n m l k = [] by simp [bothL, bothE, h1], show bothE n m l k = 10 by simp [bothE, h1]]
    go_enter Try.func36, Try.ntmps36
    go_upto_region 1 with (fail)
    refine wp_world fun W HW => ?_
    have hB : Below w.heap.size w W := by rw [HW.out]; (repeat (first | exact Below.refl _ _ | refine Below.alloc ?_ (by simp; try omega) _ | refine Below.setCell ?_ (by simp) _ | refine Below.drew ?_))
    have d0 : W.cell? ⟨w.heap.size, 0, none⟩ = some (.int .i64 n) := by rw [HW.out]; simp [go_sem]
    have d1 : W.cell? ⟨w.heap.size, 1, none⟩ = some (.slice s l.length cs) := by rw [HW.out]; simp [go_sem]
    have dl : w.heap.size < W.heap.size := World.block_lt_of_cell? W _ d0
    have e0 : W.cell? ⟨w.heap.size + 1, 0, none⟩ = some (.int .i64 m) := by rw [HW.out]; simp [go_sem]
    have e1 : W.cell? ⟨w.heap.size + 1, 1, none⟩ = some (.slice t k.length ct) := by rw [HW.out]; simp [go_sem]
    have el : w.heap.size + 1 < W.heap.size := World.block_lt_of_cell? W _ e0
    have rB : Row W (w.heap.size + 2) 24 #[.int .i64 0, .slice none 0 0] := (by rw [HW.out]; (repeat (first | (refine blk_new ?_; simp; done) | refine blk_old ?_ _)) : W.heap[w.heap.size + 2]? = some (.cells #[.int .i64 0, .slice none 0 0] 24 (0, 0)))
    have r0 : W.cell? ⟨w.heap.size + 2, 0, none⟩ = some (.int .i64 0) := by rw [HW.out]; simp [go_sem]
    have r1 : W.cell? ⟨w.heap.size + 2, 1, none⟩ = some (.slice none 0 0) := by rw [HW.out]; simp [go_sem]
    have rl : w.heap.size + 2 < W.heap.size := World.block_lt_of_cell? W _ r0
    try replace h := up_of hB h
    try replace g := up_of hB g
    go_upto_region 2 with (first | (go_at_call 17; refine (Valid_t _ _ _ _ _ (by first | exact h | exact g)).mono ?_; rintro e W1 ⟨rfl, hb⟩; (try replace h := up_of hb h); (try replace g := up_of hb g); (try replace hB := up_of hb hB); (try replace d0 := up_of hb d0); (try replace d1 := up_of hb d1); (try replace dl := up_of hb dl); (try replace e0 := up_of hb e0); (try replace e1 := up_of hb e1); (try replace el := up_of hb el); (try replace rB := up_of hb rB); (try replace r0 := up_of hb r0); (try replace r1 := up_of hb r1); (try replace rl := up_of hb rl)))
    have rf := fun i => Row.frozen rB i
    go_wp2
    refine dom_end rfl none 0 (b1 := w.heap.size + 2) rfl rfl ?_ (World.ownsRow_nil _ _ _ _) ?_
    · refine Row.of ?_
      repeat (first | (with_reducible refine RowG.base rB ?_) | (with_reducible refine RowG.drew ?_) | (with_reducible refine RowG.set ?_) | ((with_reducible refine RowG.other ?_ ?_); (focus (first | omega | (simp; done) | (simp; omega)))) | (with_reducible refine RowG.alloc ?_))
      rfl
    · repeat (first | (with_reducible exact hB) | (with_reducible refine Below.drew ?_) | ((with_reducible refine Below.setC ?_ ?_); (focus (first | omega | (simp; done) | (simp; omega)))) | ((with_reducible refine Below.allo ?_ ?_); (focus (first | omega | (simp; done) | (simp; omega)))))
  cases h2 : validB m k
  · rw [show bothN n m l k = 0 by simp [bothN, bothE, h2], show bothL n m l k = [] by simp [bothL, bothE, h2], show bothE n m l k = 10 by simp [bothE, h2]]
    go_enter Try.func36, Try.ntmps36
    go_upto_region 1 with (fail)
    refine wp_world fun W HW => ?_
    have hB : Below w.heap.size w W := by rw [HW.out]; (repeat (first | exact Below.refl _ _ | refine Below.alloc ?_ (by simp; try omega) _ | refine Below.setCell ?_ (by simp) _ | refine Below.drew ?_))
    have d0 : W.cell? ⟨w.heap.size, 0, none⟩ = some (.int .i64 n) := by rw [HW.out]; simp [go_sem]
    have d1 : W.cell? ⟨w.heap.size, 1, none⟩ = some (.slice s l.length cs) := by rw [HW.out]; simp [go_sem]
    have dl : w.heap.size < W.heap.size := World.block_lt_of_cell? W _ d0
    have e0 : W.cell? ⟨w.heap.size + 1, 0, none⟩ = some (.int .i64 m) := by rw [HW.out]; simp [go_sem]
    have e1 : W.cell? ⟨w.heap.size + 1, 1, none⟩ = some (.slice t k.length ct) := by rw [HW.out]; simp [go_sem]
    have el : w.heap.size + 1 < W.heap.size := World.block_lt_of_cell? W _ e0
    have rB : Row W (w.heap.size + 2) 24 #[.int .i64 0, .slice none 0 0] := (by rw [HW.out]; (repeat (first | (refine blk_new ?_; simp; done) | refine blk_old ?_ _)) : W.heap[w.heap.size + 2]? = some (.cells #[.int .i64 0, .slice none 0 0] 24 (0, 0)))
    have r0 : W.cell? ⟨w.heap.size + 2, 0, none⟩ = some (.int .i64 0) := by rw [HW.out]; simp [go_sem]
    have r1 : W.cell? ⟨w.heap.size + 2, 1, none⟩ = some (.slice none 0 0) := by rw [HW.out]; simp [go_sem]
    have rl : w.heap.size + 2 < W.heap.size := World.block_lt_of_cell? W _ r0
    try replace h := up_of hB h
    try replace g := up_of hB g
    go_upto_region 2 with (first | (go_at_call 17; refine (Valid_t _ _ _ _ _ (by first | exact h | exact g)).mono ?_; rintro e W1 ⟨rfl, hb⟩; (try replace h := up_of hb h); (try replace g := up_of hb g); (try replace hB := up_of hb hB); (try replace d0 := up_of hb d0); (try replace d1 := up_of hb d1); (try replace dl := up_of hb dl); (try replace e0 := up_of hb e0); (try replace e1 := up_of hb e1); (try replace el := up_of hb el); (try replace rB := up_of hb rB); (try replace r0 := up_of hb r0); (try replace r1 := up_of hb r1); (try replace rl := up_of hb rl)))
    have rf := fun i => Row.frozen rB i
    go_wp2
    refine dom_end rfl none 0 (b1 := w.heap.size + 2) rfl rfl ?_ (World.ownsRow_nil _ _ _ _) ?_
    · refine Row.of ?_
      repeat (first | (with_reducible refine RowG.base rB ?_) | (with_reducible refine RowG.drew ?_) | (with_reducible refine RowG.set ?_) | ((with_reducible refine RowG.other ?_ ?_); (focus (first | omega | (simp; done) | (simp; omega)))) | (with_reducible refine RowG.alloc ?_))
      rfl
    · repeat (first | (with_reducible exact hB) | (with_reducible refine Below.drew ?_) | ((with_reducible refine Below.setC ?_ ?_); (focus (first | omega | (simp; done) | (simp; omega)))) | ((with_reducible refine Below.allo ?_ ?_); (focus (first | omega | (simp; done) | (simp; omega)))))
  by_cases h3 : n = m
  case neg =>
    have h3' : (n != m) = true := by simpa using h3
    rw [show bothN n m l k = 0 by simp [bothN, bothE, h1, h2, h3], show bothL n m l k = [] by simp [bothL, bothE, h1, h2, h3], show bothE n m l k = 2 by simp [bothE, h1, h2, h3]]
    go_enter Try.func36, Try.ntmps36
    go_upto_region 1 with (fail)
    refine wp_world fun W HW => ?_
    have hB : Below w.heap.size w W := by rw [HW.out]; (repeat (first | exact Below.refl _ _ | refine Below.alloc ?_ (by simp; try omega) _ | refine Below.setCell ?_ (by simp) _ | refine Below.drew ?_))
    have d0 : W.cell? ⟨w.heap.size, 0, none⟩ = some (.int .i64 n) := by rw [HW.out]; simp [go_sem]
    have d1 : W.cell? ⟨w.heap.size, 1, none⟩ = some (.slice s l.length cs) := by rw [HW.out]; simp [go_sem]
    have dl : w.heap.size < W.heap.size := World.block_lt_of_cell? W _ d0
    have e0 : W.cell? ⟨w.heap.size + 1, 0, none⟩ = some (.int .i64 m) := by rw [HW.out]; simp [go_sem]
    have e1 : W.cell? ⟨w.heap.size + 1, 1, none⟩ = some (.slice t k.length ct) := by rw [HW.out]; simp [go_sem]
    have el : w.heap.size + 1 < W.heap.size := World.block_lt_of_cell? W _ e0
    have rB : Row W (w.heap.size + 2) 24 #[.int .i64 0, .slice none 0 0] := (by rw [HW.out]; (repeat (first | (refine blk_new ?_; simp; done) | refine blk_old ?_ _)) : W.heap[w.heap.size + 2]? = some (.cells #[.int .i64 0, .slice none 0 0] 24 (0, 0)))
    have r0 : W.cell? ⟨w.heap.size + 2, 0, none⟩ = some (.int .i64 0) := by rw [HW.out]; simp [go_sem]
    have r1 : W.cell? ⟨w.heap.size + 2, 1, none⟩ = some (.slice none 0 0) := by rw [HW.out]; simp [go_sem]
    have rl : w.heap.size + 2 < W.heap.size := World.block_lt_of_cell? W _ r0
    try replace h := up_of hB h
    try replace g := up_of hB g
    go_upto_region 4 with (first | (go_at_call 17; refine (Valid_t _ _ _ _ _ (by first | exact h | exact g)).mono ?_; rintro e W1 ⟨rfl, hb⟩; (try replace h := up_of hb h); (try replace g := up_of hb g); (try replace hB := up_of hb hB); (try replace d0 := up_of hb d0); (try replace d1 := up_of hb d1); (try replace dl := up_of hb dl); (try replace e0 := up_of hb e0); (try replace e1 := up_of hb e1); (try replace el := up_of hb el); (try replace rB := up_of hb rB); (try replace r0 := up_of hb r0); (try replace r1 := up_of hb r1); (try replace rl := up_of hb rl)))
    have rf := fun i => Row.frozen rB i
    go_wp2
    refine dom_end rfl none 0 (b1 := w.heap.size + 2) rfl rfl ?_ (World.ownsRow_nil _ _ _ _) ?_
    · refine Row.of ?_
      repeat (first | (with_reducible refine RowG.base rB ?_) | (with_reducible refine RowG.drew ?_) | (with_reducible refine RowG.set ?_) | ((with_reducible refine RowG.other ?_ ?_); (focus (first | omega | (simp; done) | (simp; omega)))) | (with_reducible refine RowG.alloc ?_))
      rfl
    · repeat (first | (with_reducible exact hB) | (with_reducible refine Below.drew ?_) | ((with_reducible refine Below.setC ?_ ?_); (focus (first | omega | (simp; done) | (simp; omega)))) | ((with_reducible refine Below.allo ?_ ?_); (focus (first | omega | (simp; done) | (simp; omega)))))
  subst h3
  have hl6 : l.length ≤ 6 ∧ k.length ≤ 6 := by
    simp only [validB, Bool.and_eq_true, decide_eq_true_eq] at h1 h2; omega
  have h3' : (n != n) = false := by simp
  by_cases h4 : (6 : Int) < (l.length : Int) + (k.length : Int)
  · have h4' : 6 < l.length + k.length := by omega
    rw [show bothN n n l k = 0 by simp [bothN, bothE, h1, h2, h4'], show bothL n n l k = [] by simp [bothL, bothE, h1, h2, h4'], show bothE n n l k = 4 by simp [bothE, h1, h2, h4']]
    clear h4'
    go_enter Try.func36, Try.ntmps36
    go_upto_region 1 with (fail)
    refine wp_world fun W HW => ?_
    have hB : Below w.heap.size w W := by rw [HW.out]; (repeat (first | exact Below.refl _ _ | refine Below.alloc ?_ (by simp; try omega) _ | refine Below.setCell ?_ (by simp) _ | refine Below.drew ?_))
    have d0 : W.cell? ⟨w.heap.size, 0, none⟩ = some (.int .i64 n) := by rw [HW.out]; simp [go_sem]
    have d1 : W.cell? ⟨w.heap.size, 1, none⟩ = some (.slice s l.length cs) := by rw [HW.out]; simp [go_sem]
    have dl : w.heap.size < W.heap.size := World.block_lt_of_cell? W _ d0
    have e0 : W.cell? ⟨w.heap.size + 1, 0, none⟩ = some (.int .i64 n) := by rw [HW.out]; simp [go_sem]
    have e1 : W.cell? ⟨w.heap.size + 1, 1, none⟩ = some (.slice t k.length ct) := by rw [HW.out]; simp [go_sem]
    have el : w.heap.size + 1 < W.heap.size := World.block_lt_of_cell? W _ e0
    have rB : Row W (w.heap.size + 2) 24 #[.int .i64 0, .slice none 0 0] := (by rw [HW.out]; (repeat (first | (refine blk_new ?_; simp; done) | refine blk_old ?_ _)) : W.heap[w.heap.size + 2]? = some (.cells #[.int .i64 0, .slice none 0 0] 24 (0, 0)))
    have r0 : W.cell? ⟨w.heap.size + 2, 0, none⟩ = some (.int .i64 0) := by rw [HW.out]; simp [go_sem]
    have r1 : W.cell? ⟨w.heap.size + 2, 1, none⟩ = some (.slice none 0 0) := by rw [HW.out]; simp [go_sem]
    have rl : w.heap.size + 2 < W.heap.size := World.block_lt_of_cell? W _ r0
    try replace h := up_of hB h
    try replace g := up_of hB g
    go_upto_region 6 with (first | (go_at_call 17; refine (Valid_t _ _ _ _ _ (by first | exact h | exact g)).mono ?_; rintro e W1 ⟨rfl, hb⟩; (try replace h := up_of hb h); (try replace g := up_of hb g); (try replace hB := up_of hb hB); (try replace d0 := up_of hb d0); (try replace d1 := up_of hb d1); (try replace dl := up_of hb dl); (try replace e0 := up_of hb e0); (try replace e1 := up_of hb e1); (try replace el := up_of hb el); (try replace rB := up_of hb rB); (try replace r0 := up_of hb r0); (try replace r1 := up_of hb r1); (try replace rl := up_of hb rl)))
    have rf := fun i => Row.frozen rB i
    go_wp2
    refine dom_end rfl none 0 (b1 := w.heap.size + 2) rfl rfl ?_ (World.ownsRow_nil _ _ _ _) ?_
    · refine Row.of ?_
      repeat (first | (with_reducible refine RowG.base rB ?_) | (with_reducible refine RowG.drew ?_) | (with_reducible refine RowG.set ?_) | ((with_reducible refine RowG.other ?_ ?_); (focus (first | omega | (simp; done) | (simp; omega)))) | (with_reducible refine RowG.alloc ?_))
      rfl
    · repeat (first | (with_reducible exact hB) | (with_reducible refine Below.drew ?_) | ((with_reducible refine Below.setC ?_ ?_); (focus (first | omega | (simp; done) | (simp; omega)))) | ((with_reducible refine Below.allo ?_ ?_); (focus (first | omega | (simp; done) | (simp; omega)))))
  · have h4' : ¬ 6 < l.length + k.length := by omega
    rw [show bothN n n l k = n by simp [bothN, bothE, h1, h2, h4'], show bothL n n l k = l ++ k by simp [bothL, bothE, h1, h2, h4'], show bothE n n l k = 0 by simp [bothE, h1, h2, h4']]
    clear h4'
    obtain ⟨K, hK⟩ : ∃ K, l ++ k = K := ⟨_, rfl⟩
    rw [hK]
    replace hK := Lib.hid hK
    replace hc := Lib.hid hc; replace gc := Lib.hid gc
    go_enter Try.func36, Try.ntmps36
    go_upto_region 1 with (fail)
    refine wp_world fun W HW => ?_
    have hB : Below w.heap.size w W := by rw [HW.out]; (repeat (first | exact Below.refl _ _ | refine Below.alloc ?_ (by simp; try omega) _ | refine Below.setCell ?_ (by simp) _ | refine Below.drew ?_))
    have d0 : W.cell? ⟨w.heap.size, 0, none⟩ = some (.int .i64 n) := by rw [HW.out]; simp [go_sem]
    have d1 : W.cell? ⟨w.heap.size, 1, none⟩ = some (.slice s l.length cs) := by rw [HW.out]; simp [go_sem]
    have dl : w.heap.size < W.heap.size := World.block_lt_of_cell? W _ d0
    have e0 : W.cell? ⟨w.heap.size + 1, 0, none⟩ = some (.int .i64 n) := by rw [HW.out]; simp [go_sem]
    have e1 : W.cell? ⟨w.heap.size + 1, 1, none⟩ = some (.slice t k.length ct) := by rw [HW.out]; simp [go_sem]
    have el : w.heap.size + 1 < W.heap.size := World.block_lt_of_cell? W _ e0
    have rB : Row W (w.heap.size + 2) 24 #[.int .i64 0, .slice none 0 0] := (by rw [HW.out]; (repeat (first | (refine blk_new ?_; simp; done) | refine blk_old ?_ _)) : W.heap[w.heap.size + 2]? = some (.cells #[.int .i64 0, .slice none 0 0] 24 (0, 0)))
    have r0 : W.cell? ⟨w.heap.size + 2, 0, none⟩ = some (.int .i64 0) := by rw [HW.out]; simp [go_sem]
    have r1 : W.cell? ⟨w.heap.size + 2, 1, none⟩ = some (.slice none 0 0) := by rw [HW.out]; simp [go_sem]
    have rl : w.heap.size + 2 < W.heap.size := World.block_lt_of_cell? W _ r0
    try replace h := up_of hB h
    try replace g := up_of hB g
    go_upto_region 7 with (first | (go_at_call 17; refine (Valid_t _ _ _ _ _ (by first | exact h | exact g)).mono ?_; rintro e W1 ⟨rfl, hb⟩; (try replace h := up_of hb h); (try replace g := up_of hb g); (try replace hB := up_of hb hB); (try replace d0 := up_of hb d0); (try replace d1 := up_of hb d1); (try replace dl := up_of hb dl); (try replace e0 := up_of hb e0); (try replace e1 := up_of hb e1); (try replace el := up_of hb el); (try replace rB := up_of hb rB); (try replace r0 := up_of hb r0); (try replace r1 := up_of hb r1); (try replace rl := up_of hb rl)))
    have rf := fun i => Row.frozen rB i
    go_region_held3 (fun V => V.cell? ⟨w.heap.size, 0, none⟩ = some (.int .i64 n) ∧ V.cell? ⟨w.heap.size, 1, none⟩ = some (.slice s l.length cs) ∧ V.cell? ⟨w.heap.size + 1, 1, none⟩ = some (.slice t k.length ct)) ((first | (with_reducible exact ⟨d0, d1, e1⟩) | ((try dsimp only); (repeat' apply And.intro) <;> (repeat (first | (with_reducible assumption) | (with_reducible refine cell_set (by simp; try omega) ?_) | (with_reducible refine cell_drew ?_) | (with_reducible refine cell_alloc ?_ _)))))) ((first | (go_at_call 60; refine calls_below (W0 := W1) ?_ fun hpre => ?_; (repeat (first | exact Below.refl _ _ | refine Below.alloc ?_ (by simp; try omega) _ | refine Below.drew ?_)); refine (concat2 s t cs ct l k _ _ _ (by first | exact sv2_new _ _ _ _ | exact SlS.drew (sv2_new _ _ _ _)) (up_of hpre h).iq.sl (up_of hpre g).iq.sl hc.out gc.out (by omega) hK.out).mono ?_; rintro e N1 ⟨⟨s3, c3, rfl, hown⟩, hb1⟩; have hb := Up.trans hpre hb1; clear hpre; (first | have hs_N1 := below_alloc_lt hb1 | have hs_N1 := below_alloc_lt (drewB hb1) | skip); have dl_N1 := dl; have el_N1 := el; have rl_N1 := rl; (try replace h := up_of hb h); (try replace g := up_of hb g); (try replace hB := up_of hb hB); (try replace d0 := up_of hb d0); (try replace d1 := up_of hb d1); (try replace dl := up_of hb dl); (try replace e0 := up_of hb e0); (try replace e1 := up_of hb e1); (try replace el := up_of hb el); (try replace rB := up_of hb rB); (try replace r0 := up_of hb r0); (try replace r1 := up_of hb r1); (try replace rl := up_of hb rl); (first | have nB := new_up hb1 | have nB := new_up (drewB hb1) | (try replace nB := up_of hb nB)); have rf := fun i => Row.frozen rB i)))
    all_goals
      refine exit_world fun X HX => ?_
      have hBX : Below w.heap.size w X := by
        rw [HX.out]
        repeat (first | (with_reducible exact hB) | (with_reducible refine Below.drew ?_) | ((with_reducible refine Below.setC ?_ ?_); (focus (first | omega | (simp; done) | (simp; omega)))) | ((with_reducible refine Below.allo ?_ ?_); (focus (first | omega | (simp; done) | (simp; omega)))))
      have rX : Row X (w.heap.size + 2) 24 #[.int .i64 n, .slice s3 K.length c3] := by
        rw [HX.out]
        refine Row.of ?_
        repeat (first | (with_reducible refine RowG.base rB ?_) | (with_reducible refine RowG.drew ?_) | (with_reducible refine RowG.set ?_) | ((with_reducible refine RowG.other ?_ ?_); (focus (first | omega | (simp; done) | (simp; omega)))) | (with_reducible refine RowG.alloc ?_))
        rfl
      have hoX : X.ownsRow w.heap.size 64 4 (.slice s3 K.length c3) K.length (iqCells K) := by
        have hC : Chg (fun j => j = w.heap.size + 2) N1 X := by
          rw [HX.out]
          repeat (first | (with_reducible exact Chg.refl _ _) | (with_reducible refine Chg.setCell ?_ (by simp) _) | (with_reducible refine Chg.drew ?_) | (with_reducible refine Chg.alloc ?_ _))
        exact owns_mono (own_chg hC (fun j hj e => by simp at hj; omega) hown) (by simp; omega)
      clear hown
      go_wp2
      refine dom_end rfl s3 c3 (b1 := w.heap.size + 2) rfl rfl ?_ hoX ?_
      · exact rX
      · exact hBX
end Go.Proofs.Ytfebkccdcbkdiaa
