/- Whether an element uses another one: the program. -/
import Derived.Test.YtakbpjgnjfigcaaGreatNet3
import Derived.Test.YtakbpjgnjfigcaaGreatB7
namespace Go.Proofs.YtakbpjgnjfigcaaGreat
open Go.RowKit Go.Maps

attribute [local go_sem] Oper.semAt_some

theorem loadB {X : World} {b : Nat} {v : Bool} (h : X.cell? ⟨b, 0, none⟩ = some (.bool v)) : (loadVar 4 ⟨b, 0, none⟩).run Tryz.prog X = .ok (.bool v) X := by
  go_simp
theorem MarksIn.none (base n : Nat) (W : World) : MarksIn base n [] W := ⟨[], rfl, List.nodup_nil, fun D h => absurd h (by simp)⟩
section
variable {g : Nat} {n : Int} {s : Option Addr} {cap : Nat} {l : List Iq} {s2 : Option Addr} {cq : Nat} {K : List Vv} {sp : Option Addr} {cp mb : Nat} {P : List Pt}
set_option maxRecDepth 100000 in
set_option maxHeartbeats 1000000 in
theorem uses_c (k u : Nat) (w : World) (h : Net 126 w g n s cap l s2 cq K sp cp mb P) (ok : NetOk n K P) (hk : k < K.length * P.length) :
    Calls Tryz.prog 93 #[.pointer (some ⟨g, 0, none⟩), .int .i64 k, .int .i64 u] w fun e w' => e = .returned (.bool ((useN K P k).contains u)) ∧ Below w.heap.size w w' := by
  have hused := fun V (hV : Below w.heap.size w V) => used_c k w V h ok hV hk (fun _ => False) (fun j hj => hj.elim)
  obtain ⟨US, hUS⟩ : ∃ x, useN K P k = x := ⟨_, rfl⟩
  simp only [hUS] at hused ⊢
  have hyes : u ∈ US → US.contains u = true := fun h => by simpa using h
  have hno : u ∉ US → US.contains u = false := fun h => by simpa using h
  obtain ⟨R, hR⟩ : ∃ x, US.contains u = x := ⟨_, rfl⟩
  rw [hR] at hyes hno ⊢
  clear hR hUS ok h
  replace hused := Lib.hid hused; replace hyes := Lib.hid hyes; replace hno := Lib.hid hno
  refine calls_of_wp_marks Tryz.func93 rfl ?_
  simp only [Tryz.ntmps93, List.size_toArray, List.length_cons, List.length_nil, Nat.reduceAdd, Nat.reduceSub, Array.replicate_succ, Array.replicate_zero, List.push_toArray, List.append_toArray, List.nil_append, List.cons_append]
  go_upto_region 1 with (fail)
  refine wp_world fun A1 HA1 => ?_
  have hA : Below w.heap.size w A1 := by rw [HA1.out]; (repeat (first | exact Below.refl _ _ | refine Below.alloc ?_ (by simp; try omega) _ | refine Below.setCell ?_ (by simp) _ | refine Below.drew ?_))
  have ubB : Row A1 (w.heap.size) 3 #[.int .i64 u] := (by rw [HA1.out]; (repeat (first | (refine blk_new ?_; simp; done) | refine blk_old ?_ _)) : A1.heap[w.heap.size]? = some (.cells #[.int .i64 u] 3 (0, 0)))
  have ub0 : A1.cell? ⟨w.heap.size, 0, none⟩ = some (.int .i64 u) := by rw [HA1.out]; simp [go_sem]
  have ubl : w.heap.size < A1.heap.size := World.block_lt_of_cell? A1 _ ub0
  have rbB : Row A1 (w.heap.size + 1) 4 #[.bool false] := (by rw [HA1.out]; (repeat (first | (refine blk_new ?_; simp; done) | refine blk_old ?_ _)) : A1.heap[w.heap.size + 1]? = some (.cells #[.bool false] 4 (0, 0)))
  have rb0 : A1.cell? ⟨w.heap.size + 1, 0, none⟩ = some (.bool false) := by rw [HA1.out]; simp [go_sem]
  have rbl : w.heap.size + 1 < A1.heap.size := World.block_lt_of_cell? A1 _ rb0
  have hAs : A1.heap.size = w.heap.size + 2 := by rw [HA1.out]; simp
  replace hAs := Lib.hid hAs
  clear HA1 ub0 rb0
  go_wp2_with (first | (go_at_call 39; refine (hused.out A1 hA).mono ?_; rintro e Y ⟨rfl, hit, hb, hYs⟩; replace hYs := Lib.hid hYs; replace ubB := up_of hb ubB; replace rbB := up_of hb rbB; replace hA := hA.trans (hb.mono hA.size)))
  have hwY := hA.size
  have hYV : Y.heap.size = w.heap.size + 4 := by have := hAs.out; have := hYs.out; omega
  replace hYV := Lib.hid hYV
  refine' wp_rangeT rfl (fun _ _ => by simp [go_sem]) hit (fun pre W => Below w.heap.size w W ∧ Row W w.heap.size 3 #[.int .i64 u] ∧ Row W (w.heap.size + 1) 4 #[.bool false] ∧ Y.heap.size ≤ W.heap.size ∧ u ∉ pre) (fun c _ W => c = .ret ∧ Below w.heap.size w W ∧ Row W (w.heap.size + 1) 4 #[.bool true] ∧ Y.heap.size ≤ W.heap.size ∧ u ∈ US) ?hI ?hIx (fun s W h => h.2.2.2.1) (fun _ s W h => h.2.2.2.1) ⟨hA, ubB, rbB, Nat.le_refl _, by simp⟩ _ ?assign ?body ?done ?stop
  case hI =>
    rintro pre A B ⟨h1, h2, h3, h4, h5⟩ hu
    exact ⟨h1.trans (hu.below.mono hwY), hu.cells _ _ _ _ h2, hu.cells _ _ _ _ h3, Nat.le_trans h4 hu.below.size, h5⟩
  case hIx =>
    rintro c pre A B ⟨h1, h2, h3, h4, h5⟩ hu
    exact ⟨h1, h2.trans (hu.below.mono hwY), hu.cells _ _ _ _ h3, Nat.le_trans h4 hu.below.size, h5⟩
  case assign =>
    intro l x W K hK
    simp only [List.setIfInBounds_toArray, List.set_cons_zero, List.set_cons_succ]
    gi_wp2
    exact hK
  case body =>
    rintro l pre x W ⟨h1, h2, h3, h4, h5⟩ hpre hW2
    have hxm : x ∈ US := hpre.subset (by simp)
    have c0 : W.cell? ⟨w.heap.size, 0, none⟩ = some (.int .i64 u) := h2.cell rfl
    have c1 : W.cell? ⟨w.heap.size + 1, 0, none⟩ = some (.bool false) := h3.cell rfl
    have cf := Row.frozen h3 0
    by_cases hxu : x = u
    · subst hxu
      have hx : ((x : Int) == (x : Int)) = true := by simp
      have hst : KeepsOthers W (W.setCell ⟨w.heap.size + 1, 0, none⟩ (.bool true)) := KeepsOthers.setCell _ _ _
      have hbs : Below w.heap.size w (W.setCell ⟨w.heap.size + 1, 0, none⟩ (.bool true)) := h1.setCell (by simp) _
      have hrs : Row (W.setCell ⟨w.heap.size + 1, 0, none⟩ (.bool true)) (w.heap.size + 1) 4 #[.bool true] := by
        refine Row.of ?_
        repeat (first | (with_reducible refine RowG.base h3 ?_) | (with_reducible refine RowG.drew ?_) | (with_reducible refine RowG.set ?_) | ((with_reducible refine RowG.other ?_ ?_); (focus (first | omega | (simp; done) | (simp; omega)))) | (with_reducible refine RowG.alloc ?_))
        rfl
      replace hst := Lib.hid hst; replace hbs := Lib.hid hbs; replace hrs := Lib.hid hrs
      gi_wp2
      exact ⟨hst.out.from _, rfl, hbs.out, hrs.out, by simpa [World.setCell] using h4, hxm⟩
    · have hx : ((x : Int) == (u : Int)) = false := by simpa using fun h => hxu (by omega)
      gi_wp2
      exact ⟨(KeepsOthers.of_below (Below.refl _ _)).from _, KeepN.refl _, h1, h2, h3, h4, by simp; exact ⟨h5, fun e => hxu e.symm⟩⟩
  case stop =>
    rintro D c pre W hD hpre ⟨rfl, h1, h2, h3, h4⟩ hK
    have hMD := (MarksIn.none w.heap.size Y.heap.size W).push hD (by omega) hK
    dsimp only
    go_wp2
    refine marks_retN hMD h1.size fun W' hu => ?_
    have h5 : Row W' (w.heap.size + 1) 4 #[.bool true] := hu.cells _ _ _ _ h2
    refine ⟨_, resC1 rfl rfl (loadB (h5.cell rfl)), ?_, h1.trans hu.below⟩
    rw [hyes.out h4]
  case done =>
    rintro D W hD ⟨h1, h2, h3, h4, h5⟩ hK
    have hMD := (MarksIn.none w.heap.size Y.heap.size W).push hD (by omega) hK
    have c1 : W.cell? ⟨w.heap.size + 1, 0, none⟩ = some (.bool false) := h3.cell rfl
    have cf := Row.frozen h3 0
    have hRf := hno.out h5
    have hst : KeepsOthers W (W.setCell ⟨w.heap.size + 1, 0, none⟩ (.bool false)) := KeepsOthers.setCell _ _ _
    have hMs := Marks.others hst hMD
    have hbs : Below w.heap.size w (W.setCell ⟨w.heap.size + 1, 0, none⟩ (.bool false)) := h1.setCell (by simp) _
    have hrs : Row (W.setCell ⟨w.heap.size + 1, 0, none⟩ (.bool false)) (w.heap.size + 1) 4 #[.bool false] := by
      refine Row.of ?_
      repeat (first | (with_reducible refine RowG.base h3 ?_) | (with_reducible refine RowG.drew ?_) | (with_reducible refine RowG.set ?_) | ((with_reducible refine RowG.other ?_ ?_); (focus (first | omega | (simp; done) | (simp; omega)))) | (with_reducible refine RowG.alloc ?_))
      rfl
    replace hMs := Lib.hid hMs; replace hbs := Lib.hid hbs; replace hrs := Lib.hid hrs; replace hRf := Lib.hid hRf; replace hMD := Lib.hid hMD; replace h1 := Lib.hid h1
    dsimp only
    go_wp2
    refine marks_retN hMs.out hbs.out.size fun W' hu => ?_
    have h6 : Row W' (w.heap.size + 1) 4 #[.bool false] := hu.cells _ _ _ _ hrs.out
    refine ⟨_, resC1 rfl rfl (loadB (h6.cell rfl)), ?_, hbs.out.trans hu.below⟩
    rw [hRf.out]
end
end Go.Proofs.YtakbpjgnjfigcaaGreat
