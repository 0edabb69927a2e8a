/- Several texts in one: each says what it proves. -/
import Derived.Test.YtadmnlkgefbhcaaB1
import Derived.Test.YtadmnlkgefbhcaaPtGet
import Derived.Test.YtadmnlkgefbhcaaB2
import Derived.Laws.OwnMore
import Derived.Laws.StructEq
/- Turned points and domains: plain functions, and what holds of them. -/
namespace Go.Proofs.Ytadmnlkgefbhcaa
open Go.RowKit

def setP (o : Pt) (k : Nat) (v : Int) : Pt := ⟨if k = 0 then v else o.x, if k = 1 then v else o.y, if k = 2 then v else o.z⟩
/-- The first k coordinates of a, turned. -/
def turnTo (p a : Pt) : Nat → Pt
  | 0 => ⟨0, 0, 0⟩
  | k + 1 => setP (turnTo p a k) (p.get k).toNat (a.get k)
def turnP (n : Int) (p a : Pt) : Pt := turnTo p a n.toNat
def turnQ (n : Int) (p : Pt) (q : Iq) : Iq := ⟨turnP n p q.a, q.b⟩
def turnL (n : Int) (p : Pt) (l : List Iq) : List Iq := l.map (turnQ n p)
/-- The i-th number is one that came before. -/
def seenB (p : Pt) (i : Nat) (k : Int) : Bool := (List.range i).any fun j => decide (p.get j = k)
/-- The i-th number is no right one. -/
def badAt (n : Int) (p : Pt) (i : Nat) : Bool := (decide ((i : Int) < n) && (!bw 0 (p.get i) (n - 1) || seenB p i (p.get i))) || (decide (n ≤ (i : Int)) && !decide (p.get i = 0))
def isOrd (n : Int) (p : Pt) : Bool := !badAt n p 0 && (!badAt n p 1 && !badAt n p 2)
theorem get0 (p : Pt) : p.get 0 = p.x := rfl
theorem get1 (p : Pt) : p.get 1 = p.y := rfl
theorem get2 (p : Pt) : p.get 2 = p.z := rfl
theorem seenB_succ (p : Pt) (i : Nat) (k : Int) : seenB p (i + 1) k = (seenB p i k || decide (p.get i = k)) := by
  simp [seenB, List.range_succ]
/-- All orders there are. -/
theorem ord_cases {n : Int} {p : Pt} (hn : 1 ≤ n ∧ n ≤ 3) (h : isOrd n p = true) :
    (n = 1 ∧ p = ⟨0, 0, 0⟩) ∨ (n = 2 ∧ (p = ⟨0, 1, 0⟩ ∨ p = ⟨1, 0, 0⟩)) ∨
    (n = 3 ∧ (p = ⟨0, 1, 2⟩ ∨ p = ⟨0, 2, 1⟩ ∨ p = ⟨1, 0, 2⟩ ∨ p = ⟨1, 2, 0⟩ ∨ p = ⟨2, 0, 1⟩ ∨ p = ⟨2, 1, 0⟩)) := by
  obtain ⟨x, y, z⟩ := p
  have hn3 : n = 1 ∨ n = 2 ∨ n = 3 := by omega
  rcases hn3 with rfl | rfl | rfl <;>
    simp [isOrd, badAt, bw, seenB, Pt.get, List.range_succ] at h ⊢ <;> omega
theorem turn_len (n : Int) (p : Pt) (l : List Iq) : (turnL n p l).length = l.length := by simp [turnL]
/-- An order's numbers below n. -/
theorem ord_get {n : Int} {p : Pt} (hn : 1 ≤ n ∧ n ≤ 3) (h : isOrd n p = true) {i : Nat} (hi : (i : Int) < n) : 0 ≤ p.get i ∧ p.get i < n := by
  rcases ord_cases hn h with ⟨rfl, rfl⟩ | ⟨rfl, rfl | rfl⟩ | ⟨rfl, rfl | rfl | rfl | rfl | rfl | rfl⟩ <;>
    (have h3 : i = 0 ∨ i = 1 ∨ i = 2 := by omega
     rcases h3 with rfl | rfl | rfl <;> simp [Pt.get] <;> omega)
end Go.Proofs.Ytadmnlkgefbhcaa

/- Pieces for turned domains (other layers' seats). -/
namespace Go.Proofs.Ytadmnlkgefbhcaa
open Go.RowKit

instance {V V' : World} {s : Option Addr} {l : List Iq} : UpF V V' (Dom V s l) (Dom V' s l) := ⟨fun h c => Up.dom h c⟩
def ptA (p : Pt) : Array Value := #[.int .i64 p.x, .int .i64 p.y, .int .i64 p.z]
def ptV (p : Pt) : Value := .agg #[.int .i64 p.x, .int .i64 p.y, .int .i64 p.z]
theorem load_pt {X : World} {b : Nat} {t : TypeId} {x y z : Value} (h : Row X b t #[x, y, z]) : (loadVar 29 ⟨b, 0, none⟩).run Try.prog X = .ok (.agg #[x, y, z]) X := by
  obtain ⟨h0, h1, h2⟩ := h.three
  simp [go_sem, loadVar, h0, h1, h2]
theorem load_P {X : World} {b : Nat} (p : Pt) (h0 : X.cell? ⟨b, 0, none⟩ = some (.int .i64 p.x)) (h1 : X.cell? ⟨b, 1, none⟩ = some (.int .i64 p.y)) (h2 : X.cell? ⟨b, 2, none⟩ = some (.int .i64 p.z)) : (loadVar 29 ⟨b, 0, none⟩).run Try.prog X = .ok (ptV p) X := by
  simp [go_sem, loadVar, h0, h1, h2, ptV]
theorem results_c1 {fn : Func} {p : Tmp} {tp : TypeId} {tmps : Array Value} {P : Program} {w : World} {a : Addr} {va : Value} (h : fn.results = #[.cell p tp])
    (hp : tmps.getD p undef = .pointer (some a)) (la : (loadVar tp a).run P w = .ok va w) : (results fn tmps).run P w = .ok va w := by
  simp only [results, h]
  simp only [Array.getD_eq_getD_getElem?] at hp
  simp [hp, asAddr, la]
theorem results_cs {fn : Func} {p u : Tmp} {tp : TypeId} {tmps : Array Value} {P : Program} {w : World} {a : Addr} {va vb : Value} (h : fn.results = #[.cell p tp, .tmp u])
    (hp : tmps.getD p undef = .pointer (some a)) (hu : tmps.getD u undef = vb)
    (la : (loadVar tp a).run P w = .ok va w) : (results fn tmps).run P w = .ok (.tuple #[va, vb]) w := by
  simp only [results, h]
  simp only [Array.getD_eq_getD_getElem?] at hp hu
  simp [hp, hu, asAddr, la]
theorem load_dom {X : World} {b : Nat} {u v : Value} {t : TypeId} (h : Row X b t #[u, v]) : (loadVar 24 ⟨b, 0, none⟩).run Try.prog X = .ok (.agg #[u, v]) X := by
  have h0 := h.cell (i := 0) rfl
  have h1 := h.cell (i := 1) rfl
  simp [go_sem, loadVar, h0, h1]

/-- A domain that came out of a call. -/
def DomRet (n : Int) (L : List Iq) (er : Int) (w : World) (e : Ending) (w' : World) : Prop :=
  (∃ s cap, e = .returned (.tuple #[.agg #[.int .i64 n, .slice s L.length cap], .int .i64 er]) ∧ w'.ownsRow w.heap.size 127 4 (.slice s L.length cap) L.length (iqCells L)) ∧ Below w.heap.size w w'
theorem dom_end {fn : Func} (hr : fn.results = #[.cell 4 24, .tmp 5]) {n er : Int} {L : List Iq} (s : Option Addr) (cap : Nat) {tmps : Array Value} {w X : World} {b1 : Nat}
    (h2 : tmps.getD 4 undef = .pointer (some ⟨b1, 0, none⟩)) (h3 : tmps.getD 5 undef = .int .i64 er)
    (rl : Row X b1 24 #[.int .i64 n, .slice s L.length cap]) (ho : X.ownsRow w.heap.size 127 4 (.slice s L.length cap) L.length (iqCells L)) (hB : Below w.heap.size w X) :
    bodyPost Try.prog fn (DomRet n L er w) .ret { tmps := tmps, defers := [] } X :=
  bodyPost_ret (results_cs hr h2 h3 (load_dom rl)) rfl ⟨⟨s, cap, rfl, ho⟩, hB⟩
theorem info_iq : (Try.prog.info? 127).map (fun i => (i.zero, i.size, i.bytes)) = some (some (.agg #[.int .i64 0, .int .i64 0, .int .i64 0, .int .i64 0]), 4, 32) := by kernel_rfl
set_option maxRecDepth 100000 in
set_option maxHeartbeats 400000 in
theorem iq_clone (s : Option Addr) (cap : Nat) (l : List Iq) (w : World) (hs : SlS iqE w s l) (hc : s = none → cap = 0) (hl : l.length ≤ 1099511627776) :
    Calls Try.prog 98 #[.slice s l.length cap] w (RetS iqE 127 l w) := by
  have hml : l.length ≤ maxLen := by unfold maxLen; omega
  have hin := hs
  cases s with
  | none =>
    obtain rfl := hs.none_nil
    obtain rfl := hc rfl
    clear hs hin hml hc
    have hq : ∀ w : World, (binOp .eql 22 (.slice none 0 0) (.slice none 0 0)).run Try.prog w = .ok (.bool true) w := fun w => Lib.run_eql_slice_nil w 22 127 _ _ _ _ _ Try.underlying22
    go_enter Try.func98, Try.ntmps98
    go_wp2
    go_ret
    exact ⟨none, 0, rfl, World.ownsRow_nil _ _ _ _, Below.refl _ _⟩
  | some a =>
    have hs2 := Lib.hid (up_of ((Below.refl w.heap.size w).alloc (Nat.le_refl _) (.cells #[] 127)) hs)
    replace hs := Lib.hid hs
    clear hin hc
    have hq : ∀ w : World, (binOp .eql 22 (.slice (some a) l.length cap) (.slice none 0 0)).run Try.prog w = .ok (.bool false) w := fun w => Lib.run_eql_slice_nil w 22 127 _ _ _ _ _ Try.underlying22
    go_enter Try.func98, Try.ntmps98
    obtain ⟨i0, hi, hz0, hz1, hz2⟩ := info_parts info_iq
    go_wp2_with (first | (at_builtin; refine wpList_append_own _ rfl _ _ 22 rfl w.heap.size 127 i0 (.agg #[.int .i64 0, .int .i64 0, .int .i64 0, .int .i64 0]) 4 32 Try.underlying22 hi hz0 hz1 hz2 rfl (by decide) _ _ _ rfl (owns_built w 127 4) a l.length cap (Elt.all iqE l) rfl (Elt.all_len _ _) (SlS.news hs2.out) (Elt.all_one _ _) (by unfold maxLen; omega) (by omega) (by simp) ?_; intro v1 w1 hown1 hgrow hnil))
    simp only [Nat.zero_add, List.nil_append] at hown1
    obtain ⟨s', c', rfl, _⟩ := owns_shape hown1
    go_wp2
    go_ret
    exact ⟨s', c', rfl, hown1, ((Below.refl _ w).alloc (Nat.le_refl _) _).grown hgrow (by simp) (fun k hk => by cases hk; exact Nat.le_refl _)⟩

end Go.Proofs.Ytadmnlkgefbhcaa

/- A point that is turned: the reference. -/
namespace Go.Proofs.Ytadmnlkgefbhcaa
open Go.RowKit

theorem ptA_set {o : Pt} {k : Nat} {v : Int} (hk : k < 3) : (ptA o).setIfInBounds k (.int .i64 v) = ptA (setP o k v) := by
  have h : k = 0 ∨ k = 1 ∨ k = 2 := by omega
  rcases h with rfl | rfl | rfl <;> rfl
theorem ptA_at (o : Pt) {k : Nat} (hk : k < 3) : (ptA o)[k]? = some (.int .i64 (o.get k)) := by
  have h : k = 0 ∨ k = 1 ∨ k = 2 := by omega
  rcases h with rfl | rfl | rfl <;> rfl
set_option maxRecDepth 100000 in
set_option maxHeartbeats 1000000 in
theorem TurnPoint_c (n : Int) (a p : Pt) (w : World) (hn : 0 ≤ n ∧ n ≤ 3) (hp : ∀ i : Nat, (i : Int) < n → 0 ≤ p.get i ∧ p.get i < 3) :
    Calls Try.prog 41 #[.agg #[.int .i64 a.x, .int .i64 a.y, .int .i64 a.z], .agg #[.int .i64 p.x, .int .i64 p.y, .int .i64 p.z], .int .i64 n] w fun e w' => e = .returned (ptV (turnP n p a)) ∧ Below w.heap.size w w' := by
  obtain ⟨N, rfl⟩ : ∃ N : Nat, n = N := ⟨n.toNat, by omega⟩
  have hN : N ≤ 3 := by omega
  replace hp := Lib.hid hp
  go_enter Try.func41, Try.ntmps41
  go_upto_region 2 with (fail)
  refine wp_world fun W HW => ?_
  have hB : Below w.heap.size w W := by rw [HW.out]; (repeat (first | exact Below.refl _ _ | refine Below.alloc ?_ (by simp; try omega) _ | refine Below.setCell ?_ (by simp) _ | refine Below.drew ?_))
  have aB : Row W (w.heap.size) 29 #[.int .i64 a.x, .int .i64 a.y, .int .i64 a.z] := (by rw [HW.out]; (repeat (first | (refine blk_new ?_; simp; done) | refine blk_old ?_ _)) : W.heap[w.heap.size]? = some (.cells #[.int .i64 a.x, .int .i64 a.y, .int .i64 a.z] 29 (0, 0)))
  have a0 : W.cell? ⟨w.heap.size, 0, none⟩ = some (.int .i64 a.x) := by rw [HW.out]; simp [go_sem]
  have a1 : W.cell? ⟨w.heap.size, 1, none⟩ = some (.int .i64 a.y) := by rw [HW.out]; simp [go_sem]
  have a2 : W.cell? ⟨w.heap.size, 2, none⟩ = some (.int .i64 a.z) := by rw [HW.out]; simp [go_sem]
  have al : w.heap.size < W.heap.size := World.block_lt_of_cell? W _ a0
  have oB : Row W (w.heap.size + 1) 29 #[.int .i64 p.x, .int .i64 p.y, .int .i64 p.z] := (by rw [HW.out]; (repeat (first | (refine blk_new ?_; simp; done) | refine blk_old ?_ _)) : W.heap[w.heap.size + 1]? = some (.cells #[.int .i64 p.x, .int .i64 p.y, .int .i64 p.z] 29 (0, 0)))
  have o0 : W.cell? ⟨w.heap.size + 1, 0, none⟩ = some (.int .i64 p.x) := by rw [HW.out]; simp [go_sem]
  have o1 : W.cell? ⟨w.heap.size + 1, 1, none⟩ = some (.int .i64 p.y) := by rw [HW.out]; simp [go_sem]
  have o2 : W.cell? ⟨w.heap.size + 1, 2, none⟩ = some (.int .i64 p.z) := by rw [HW.out]; simp [go_sem]
  have ol : w.heap.size + 1 < W.heap.size := World.block_lt_of_cell? W _ o0
  have rB : Row W (w.heap.size + 2) 29 #[.int .i64 0, .int .i64 0, .int .i64 0] := (by rw [HW.out]; (repeat (first | (refine blk_new ?_; simp; done) | refine blk_old ?_ _)) : W.heap[w.heap.size + 2]? = some (.cells #[.int .i64 0, .int .i64 0, .int .i64 0] 29 (0, 0)))
  have r0 : W.cell? ⟨w.heap.size + 2, 0, none⟩ = some (.int .i64 0) := by rw [HW.out]; simp [go_sem]
  have r1 : W.cell? ⟨w.heap.size + 2, 1, none⟩ = some (.int .i64 0) := by rw [HW.out]; simp [go_sem]
  have r2 : W.cell? ⟨w.heap.size + 2, 2, none⟩ = some (.int .i64 0) := by rw [HW.out]; simp [go_sem]
  have rl : w.heap.size + 2 < W.heap.size := World.block_lt_of_cell? W _ r0
  have uB : Row W (w.heap.size + 3) 29 #[.int .i64 0, .int .i64 0, .int .i64 0] := (by rw [HW.out]; (repeat (first | (refine blk_new ?_; simp; done) | refine blk_old ?_ _)) : W.heap[w.heap.size + 3]? = some (.cells #[.int .i64 0, .int .i64 0, .int .i64 0] 29 (0, 0)))
  have u0 : W.cell? ⟨w.heap.size + 3, 0, none⟩ = some (.int .i64 0) := by rw [HW.out]; simp [go_sem]
  have u1 : W.cell? ⟨w.heap.size + 3, 1, none⟩ = some (.int .i64 0) := by rw [HW.out]; simp [go_sem]
  have u2 : W.cell? ⟨w.heap.size + 3, 2, none⟩ = some (.int .i64 0) := by rw [HW.out]; simp [go_sem]
  have ul : w.heap.size + 3 < W.heap.size := World.block_lt_of_cell? W _ u0
  go_wp2
  go_loopw [10] (fun i wr => ∃ k : Nat, k ≤ N ∧ i = .int .i64 k ∧ Chg (fun j => j = w.heap.size + 3) W wr ∧ Row wr (w.heap.size + 3) 29 (ptA (turnTo p a k))) (fun i _ => N - (intOf i).toNat)
  case atStart => exact ⟨0, by omega, rfl, Chg.refl _ _, uB⟩
  case round =>
    obtain ⟨k, hk, rfl, hC, rU⟩ := hrel
    by_cases hlt : k < N
    · have hv := hp.out k (by omega)
      have ak := (hC.row (by omega) aB).cell (ptA_at a (k := k) (by omega))
      have ok := (hC.row (by omega) oB).cell (ptA_at p (k := k) (by omega))
      obtain ⟨v, hv2, hv3⟩ : ∃ v : Nat, p.get k = v ∧ v < 3 := ⟨(p.get k).toNat, by omega, by omega⟩
      rw [hv2] at ok
      have uk := rU.cell (ptA_at (turnTo p a k) hv3)
      have uf := rU.frozen v
      go_upto_region 5 with (fail)
      go_region
      all_goals
        go_wp2
        go_roundw
        case rel =>
          refine ⟨k + 1, by omega, rfl, ?_, ?_⟩
          · repeat (first | (with_reducible exact hC) | (with_reducible refine Chg.setCell ?_ (by simp) _) | (with_reducible refine Chg.drew ?_) | (with_reducible refine Chg.alloc ?_ _))
          · refine Row.of ?_
            repeat (first | (with_reducible refine RowG.base rU ?_) | (with_reducible refine RowG.drew ?_) | (with_reducible refine RowG.set ?_) | ((with_reducible refine RowG.other ?_ ?_); (focus (first | omega | (simp; done) | (simp; omega)))) | (with_reducible refine RowG.alloc ?_))
            (simp only [ptA_set hv3]; rw [turnTo, hv2, Int.toNat_natCast])
        case measure => exact meas hlt
    · obtain rfl : k = N := by omega
      obtain ⟨u0, u1, u2⟩ := rU.three
      have rB2 := hC.row (by omega) rB
      obtain ⟨z0, z1, z2⟩ := rB2.three
      have rf := fun i => Row.frozen rB2 i
      have hBr : Below w.heap.size w wr := hC.below (n := w.heap.size) (fun j hj => by omega) hB.size hB
      go_wp2
      refine bodyPost_ret (results_c1 rfl rfl (load_P (b := w.heap.size + 2) (turnTo p a k) ?_ ?_ ?_)) rfl ⟨rfl, ?_⟩
      · go_simp
      · go_simp
      · go_simp
      · repeat (first | (with_reducible exact hBr) | (with_reducible refine Below.drew ?_) | ((with_reducible refine Below.setC ?_ ?_); (focus (first | omega | (simp; done) | (simp; omega)))) | ((with_reducible refine Below.allo ?_ ?_); (focus (first | omega | (simp; done) | (simp; omega)))))
end Go.Proofs.Ytadmnlkgefbhcaa

/- Which points are orders: the reference. -/
namespace Go.Proofs.Ytadmnlkgefbhcaa
open Go.RowKit

theorem seen_of {p : Pt} {k : Nat} {v : Int} (h : ∀ j, j < k → p.get j ≠ v) : seenB p k v = false := by
  unfold seenB
  rw [List.any_eq_false]
  intro j hj
  simp at hj
  simpa using h j hj
theorem seen_at {p : Pt} {k j : Nat} {v : Int} (hj : j < k) (h : p.get j = v) : seenB p k v = true := by
  unfold seenB
  rw [List.any_eq_true]
  exact ⟨j, by simpa using hj, by simpa using h⟩
theorem ord_bad {n : Int} {p : Pt} {k : Nat} (hk : k < 3) (h : badAt n p k = true) : isOrd n p = false := by
  have h3 : k = 0 ∨ k = 1 ∨ k = 2 := by omega
  rcases h3 with rfl | rfl | rfl <;> simp [isOrd, h]
theorem ord_good {n : Int} {p : Pt} (h : ∀ j, j < 3 → badAt n p j = false) : isOrd n p = true := by
  simp [isOrd, h 0 (by omega), h 1 (by omega), h 2 (by omega)]
theorem upto_succ {p : Nat → Prop} {k : Nat} (h : ∀ j, j < k → p j) (hk : p k) : ∀ j, j < k + 1 → p j := fun j hj => by
  rcases Nat.lt_succ_iff_lt_or_eq.1 hj with h' | rfl
  · exact h j h'
  · exact hk
set_option maxRecDepth 100000 in
set_option maxHeartbeats 1000000 in
theorem IsOrder_c (n : Int) (p : Pt) (w : World) (hn : 1 ≤ n ∧ n ≤ 3) :
    Calls Try.prog 38 #[.agg #[.int .i64 p.x, .int .i64 p.y, .int .i64 p.z], .int .i64 n] w fun e w' => e = .returned (.bool (isOrd n p)) ∧ Below w.heap.size w w' := by
  go_enter Try.func38, Try.ntmps38
  go_upto_region 1 with (fail)
  refine wp_world fun W HW => ?_
  have hB : Below w.heap.size w W := by rw [HW.out]; (repeat (first | exact Below.refl _ _ | refine Below.alloc ?_ (by simp; try omega) _ | refine Below.setCell ?_ (by simp) _ | refine Below.drew ?_))
  have aB : Row W (w.heap.size) 29 #[.int .i64 p.x, .int .i64 p.y, .int .i64 p.z] := (by rw [HW.out]; (repeat (first | (refine blk_new ?_; simp; done) | refine blk_old ?_ _)) : W.heap[w.heap.size]? = some (.cells #[.int .i64 p.x, .int .i64 p.y, .int .i64 p.z] 29 (0, 0)))
  have a0 : W.cell? ⟨w.heap.size, 0, none⟩ = some (.int .i64 p.x) := by rw [HW.out]; simp [go_sem]
  have a1 : W.cell? ⟨w.heap.size, 1, none⟩ = some (.int .i64 p.y) := by rw [HW.out]; simp [go_sem]
  have a2 : W.cell? ⟨w.heap.size, 2, none⟩ = some (.int .i64 p.z) := by rw [HW.out]; simp [go_sem]
  have al : w.heap.size < W.heap.size := World.block_lt_of_cell? W _ a0
  go_wp2
  go_loopw [7] (fun i wr => ∃ k : Nat, k ≤ 3 ∧ i = .int .i64 k ∧ Below W.heap.size W wr ∧ Hid (∀ j, j < k → badAt n p j = false)) (fun i _ => 3 - (intOf i).toNat)
  case atStart => exact ⟨0, by omega, rfl, Below.refl _ _, fun j h => absurd h (by omega)⟩
  case round =>
    obtain ⟨k, hk, rfl, hR, hall⟩ := hrel
    try replace hB := up_of hR hB
    try replace aB := up_of hR aB
    try replace a0 := up_of hR a0
    try replace a1 := up_of hR a1
    try replace a2 := up_of hR a2
    try replace al := up_of hR al
    by_cases hlt : k < 3
    · have ak := aB.cell (ptA_at p hlt)
      have hb0 : badAt n p k = ((decide ((k : Int) < n) && (!bw 0 (p.get k) (n - 1) || seenB p k (p.get k))) || (decide (n ≤ (k : Int)) && !decide (p.get k = 0))) := rfl
      obtain ⟨v, hv⟩ : ∃ v, p.get k = v := ⟨_, rfl⟩
      rw [hv] at ak hb0
      replace hv := Lib.hid hv
      have hbad : badAt n p k = true → false = isOrd n p := fun h => (ord_bad hlt h).symm
      replace hbad := Lib.hid hbad
      by_cases h1 : n ≤ (k : Int)
      · have h1' : ¬ (k : Int) < n := by omega
        by_cases h2 : v = 0
        · have hg : badAt n p k = false := by rw [hb0]; simp [h1', h2]
          have hdk : decide ((k : Int) < n) = false := by simp [h1']
          replace hg := Lib.hid hg
          clear hb0 hbad
          go_wp2
          go_loopw [38] (fun i V => ∃ j : Nat, j ≤ k ∧ i = .int .i64 j ∧ Below wr.heap.size wr V) (fun i _ => k - (intOf i).toNat)
          case atStart => exact ⟨0, by omega, rfl, Below.refl _ _⟩
          case round =>
            obtain ⟨j, hj, rfl, hR2⟩ := hrel
            try replace hB := up_of hR2 hB
            try replace aB := up_of hR2 aB
            try replace a0 := up_of hR2 a0
            try replace a1 := up_of hR2 a1
            try replace a2 := up_of hR2 a2
            try replace al := up_of hR2 al
            try replace hR := up_of hR2 hR
            by_cases hlj : j < k
            · go_upto_region 9 with (fail)
              try have ld_a0 := World.block_lt_of_cell? _ _ a0
              refine region_q (by kernel_rfl) (by kernel_rfl) ?_
              dsimp only [List.toList_toArray]
              repeat (first
               | go_big_quiet_skip
               | (go_big_quiet_want
                  first
                  | (refine qq_det ?_
                     apply Exists.intro; refine ⟨fun W' hW' => ?_, ?_⟩
                     (· have hk := cellB hW'; go_simp; try (first | rfl | rw [if_pos (by omega)]))
                     simp only [Act.put, List.setIfInBounds_toArray, List.set_cons_zero, List.set_cons_succ]; go_big_quiet_on)))
              refine wpQuiet_nil ?_
              intro W1 hb
              try replace hB := up_of hb hB
              try replace aB := up_of hb aB
              try replace a0 := up_of hb a0
              try replace a1 := up_of hb a1
              try replace a2 := up_of hb a2
              try replace al := up_of hb al
              try replace hR := up_of hb hR
              try replace hR2 := up_of hb hR2
              go_wp2
              go_roundw
              case rel => exact ⟨j + 1, by omega, rfl, hR2⟩
              case measure => exact meas hlj
            · obtain rfl : j = k := by omega
              go_wp2
              go_roundw
              case rel => exact ⟨j + 1, by omega, rfl, hR, upto_succ hall.out hg.out⟩
              case measure => exact meas hlt
        · have hg : badAt n p k = true := by rw [hb0]; simp [h1, h1', h2]
          have hz := hbad.out hg
          replace hz := Lib.hid hz
          clear hb0 hbad hg
          go_wp2
          go_ret
          exact ⟨ret_bool hz.out, hB⟩
      · have h1' : (k : Int) < n := by omega
        by_cases h2 : v < 0
        · have hg : badAt n p k = true := by rw [hb0]; simp [h1', bw, h2]
          have hz := hbad.out hg
          replace hz := Lib.hid hz
          clear hb0 hbad hg
          go_wp2
          go_ret
          exact ⟨ret_bool hz.out, hB⟩
        by_cases h3 : n ≤ v
        · have hg : badAt n p k = true := by rw [hb0]; simp [h1', bw]; omega
          have hz := hbad.out hg
          replace hz := Lib.hid hz
          clear hb0 hbad hg
          go_wp2
          go_ret
          exact ⟨ret_bool hz.out, hB⟩
        replace hb0 := Lib.hid hb0
        have hdk : decide ((k : Int) < n) = true := by simp [h1']
        go_wp2
        go_loopw [38] (fun i V => ∃ j : Nat, j ≤ k ∧ i = .int .i64 j ∧ Below wr.heap.size wr V ∧ Hid (∀ i, i < j → p.get i ≠ v)) (fun i _ => k - (intOf i).toNat)
        case atStart => exact ⟨0, by omega, rfl, Below.refl _ _, fun j h => absurd h (by omega)⟩
        case round =>
          obtain ⟨j, hj, rfl, hR2, hne⟩ := hrel
          try replace hB := up_of hR2 hB
          try replace aB := up_of hR2 aB
          try replace a0 := up_of hR2 a0
          try replace a1 := up_of hR2 a1
          try replace a2 := up_of hR2 a2
          try replace al := up_of hR2 al
          try replace hR := up_of hR2 hR
          try replace hR2 := up_of hR2 hR2
          try replace ak := up_of hR2 ak
          by_cases hlj : j < k
          · have aj := aB.cell (ptA_at p (k := j) (by omega))
            obtain ⟨u, hu⟩ : ∃ u, p.get j = u := ⟨_, rfl⟩
            rw [hu] at aj
            replace hu := Lib.hid hu
            cases hd : (u == v)
            · go_upto_region 9 with (fail)
              try have ld_a0 := World.block_lt_of_cell? _ _ a0
              refine region_q (by kernel_rfl) (by kernel_rfl) ?_
              dsimp only [List.toList_toArray]
              repeat (first
               | go_big_quiet_skip
               | (go_big_quiet_want
                  first
                  | (refine qq_det ?_
                     apply Exists.intro; refine ⟨fun W' hW' => ?_, ?_⟩
                     (· have hk := cellB hW'; go_simp; try (first | rfl | rw [if_pos (by omega)]))
                     simp only [Act.put, List.setIfInBounds_toArray, List.set_cons_zero, List.set_cons_succ]; go_big_quiet_on)))
              refine wpQuiet_nil ?_
              intro W1 hb
              try replace hB := up_of hb hB
              try replace aB := up_of hb aB
              try replace a0 := up_of hb a0
              try replace a1 := up_of hb a1
              try replace a2 := up_of hb a2
              try replace al := up_of hb al
              try replace hR := up_of hb hR
              try replace hR2 := up_of hb hR2
              try replace ak := up_of hb ak
              go_wp2
              go_roundw
              case rel => exact ⟨j + 1, by omega, rfl, hR2, upto_succ hne.out (by rw [hu.out]; simpa using hd)⟩
              case measure => exact meas hlj
            · have hz := hbad.out (by rw [hb0.out, seen_at hlj (hu.out.trans (by simpa using hd))]; simp [h1'])
              replace hz := Lib.hid hz
              go_upto_region 9 with (fail)
              try have ld_a0 := World.block_lt_of_cell? _ _ a0
              refine region_q (by kernel_rfl) (by kernel_rfl) ?_
              dsimp only [List.toList_toArray]
              repeat (first
               | go_big_quiet_skip
               | (go_big_quiet_want
                  first
                  | (refine qq_det ?_
                     apply Exists.intro; refine ⟨fun W' hW' => ?_, ?_⟩
                     (· have hk := cellB hW'; go_simp; try (first | rfl | rw [if_pos (by omega)]))
                     simp only [Act.put, List.setIfInBounds_toArray, List.set_cons_zero, List.set_cons_succ]; go_big_quiet_on)))
              refine wpQuiet_nil ?_
              intro W1 hb
              try replace hB := up_of hb hB
              try replace aB := up_of hb aB
              try replace a0 := up_of hb a0
              try replace a1 := up_of hb a1
              try replace a2 := up_of hb a2
              try replace al := up_of hb al
              try replace hR := up_of hb hR
              try replace hR2 := up_of hb hR2
              try replace ak := up_of hb ak
              go_wp2
              go_ret
              exact ⟨ret_bool hz.out, hB⟩
          · obtain rfl : j = k := by omega
            have hg : badAt n p j = false := by rw [hb0.out, seen_of hne.out]; simp [h1, bw]; omega
            replace hg := Lib.hid hg
            go_wp2
            go_roundw
            case rel => exact ⟨j + 1, by omega, rfl, hR, upto_succ hall.out hg.out⟩
            case measure => exact meas hlt
    · obtain rfl : k = 3 := by omega
      have hz : true = isOrd n p := (ord_good hall.out).symm
      replace hz := Lib.hid hz
      go_wp2
      go_ret
      exact ⟨ret_bool hz.out, hB⟩
end Go.Proofs.Ytadmnlkgefbhcaa

/- The domain that is turned: plain laws; the map of the numbers seen. -/
namespace Go.Proofs.Ytadmnlkgefbhcaa
open Go.RowKit Go.Maps

def turnE (n : Int) (l : List Iq) (p : Pt) : Int := if validB n l then (if isOrd n p then 0 else 2) else 10
def turnN (n : Int) (l : List Iq) (p : Pt) : Int := if turnE n l p = 0 then n else 0
def turnR (n : Int) (l : List Iq) (p : Pt) : List Iq := if turnE n l p = 0 then turnL n p l else []

def seenD (p : Pt) : Nat → DataW Unit
  | 0 => .map []
  | k + 1 => (seenD p k).put (.int .i64 (p.get k)) (.lit (.bool true))
theorem seenD_isMap (p : Pt) : ∀ k, IsMap (seenD p k)
  | 0 => isMap_empty
  | k + 1 => (seenD_isMap p k).put _ _
theorem seenD_at (p : Pt) (v : Int) : ∀ k, (seenD p k).atKey (.int .i64 v) (.lit (.bool false)) = .lit (.bool (seenB p k v))
  | 0 => rfl
  | k + 1 => by
    rw [seenB_succ]
    by_cases h : p.get k = v
    · subst h
      rw [seenD, atKey_put_same (seenD_isMap p k) (k := .int .i64 (p.get k)) trivial]; simp
    · rw [seenD, atKey_put_other (fun e => h (by injection e with _ e; exact e.symm)), seenD_at p v k]; simp [h]
theorem key_int : Keyed Try.prog 3 := int_keyed Try.underlying3
theorem zero_bool (w : World) : (zeroValue 4).run Try.prog w = .ok (.bool false) w := by kernel_rfl

theorem clone2 (s : Option Addr) (cap : Nat) (l : List Iq) (w : World) (hs : SlS iqE w s l) (hc : s = none → cap = 0) (hl : l.length ≤ 1099511627776) :
    Calls Try.prog 98 #[.slice s l.length cap] w fun e w' => (∃ s cap, e = .returned (.slice s l.length cap) ∧ w'.ownsRow w.heap.size 127 4 (.slice s l.length cap) l.length (iqCells l)) ∧ Below w.heap.size w w' :=
  (iq_clone s cap l w hs hc hl).mono fun _ _ ⟨s, cap, he, ho, hb⟩ => ⟨⟨s, cap, he, ho⟩, hb⟩
theorem wf_small {v : Int} (h : 0 ≤ v ∧ v < 3) : (Lit.int .i64 v).wf = true := by
  have : IntKind.i64.min = -9223372036854775808 := rfl
  have : IntKind.i64.max = 9223372036854775807 := rfl
  simp [Lit.wf]; omega
theorem key_small {v : Int} (h : 0 ≤ v ∧ v < 3) : keyOf Try.prog 3 (.int .i64 v) = some (.int .i64 v) := keyOf_int_mk Try.underlying3 (wf_small h)
/-- The first k inequalities turned, the others as they were. -/
def mixL (n : Int) (p : Pt) (l : List Iq) : Nat → List Iq
  | 0 => l
  | k + 1 => (mixL n p l k).set k (turnQ n p (l.getD k default))
theorem mix_len (n : Int) (p : Pt) (l : List Iq) : ∀ k, (mixL n p l k).length = l.length
  | 0 => rfl
  | k + 1 => by rw [mixL, List.length_set, mix_len]
theorem mix_at (n : Int) (p : Pt) (l : List Iq) : ∀ k j, (mixL n p l k)[j]? = if j < k then (l[j]?).map (turnQ n p) else l[j]?
  | 0, j => by simp [mixL]
  | k + 1, j => by
    rw [mixL, List.getElem?_set, mix_len, mix_at n p l k j]
    by_cases h : k = j
    · subst h
      by_cases h2 : k < l.length
      · simp [h2]
      · simp [h2]
    · have : (j < k + 1) = (j < k) := by simp; omega
      simp [h, this]
theorem mix_all (n : Int) (p : Pt) (l : List Iq) : mixL n p l l.length = turnL n p l := by
  apply List.ext_getElem?
  intro j
  rw [mix_at, turnL, List.getElem?_map]
  by_cases h : j < l.length
  · simp [h]
  · rw [if_neg h]; simp [List.getElem?_eq_none (Nat.le_of_not_lt h)]
theorem iqCells_set (l : List Iq) : ∀ (k : Nat) (hk : k < l.length) (a : Pt), (((iqCells l).set (k * 4) (.int .i64 a.x)).set (k * 4 + 1) (.int .i64 a.y)).set (k * 4 + 2) (.int .i64 a.z) = iqCells (l.set k ⟨a, l[k].b⟩) := by
  induction l with
  | nil => intro k hk; simp at hk
  | cons q l ih =>
    intro k hk a
    cases k with
    | zero => rfl
    | succ k =>
      have := ih k (by simpa using hk) a
      rw [show (k + 1) * 4 = k * 4 + 1 + 1 + 1 + 1 by omega]
      show ((((q.cells ++ iqCells l).set _ _).set _ _).set _ _) = q.cells ++ iqCells _
      simp only [Iq.cells, List.cons_append, List.nil_append, List.set_cons_succ]
      rw [this]
      rfl
theorem mix_cells (n : Int) (p : Pt) (l : List Iq) (k : Nat) (hk : k < l.length) {a : Pt} (ha : turnP n p l[k].a = a) :
    (((iqCells (mixL n p l k)).set (k * 4) (.int .i64 a.x)).set (k * 4 + 1) (.int .i64 a.y)).set (k * 4 + 2) (.int .i64 a.z) = iqCells (mixL n p l (k + 1)) := by
  have hk2 : k < (mixL n p l k).length := by rw [mix_len]; exact hk
  rw [iqCells_set _ k hk2 a, mixL]
  have e1 := mix_at n p l k k
  rw [if_neg (by omega), List.getElem?_eq_getElem hk2, List.getElem?_eq_getElem hk] at e1
  have e2 := Option.some.inj e1
  rw [e2, List.getD, List.getElem?_eq_getElem hk]
  simp [turnQ, ha]
theorem own_some {w : World} {base e size n cap : Nat} {s : Option Addr} {xs : List Value} (h : w.ownsRow base e size (.slice s n cap) n xs) (hn : 0 < n) : ∃ g, s = some ⟨g, 0, none⟩ ∧ base ≤ g ∧ g < w.heap.size := by
  obtain ⟨s', cap', he, hs⟩ := owns_shape h
  simp only [Value.slice.injEq] at he
  obtain ⟨rfl, _, rfl⟩ := he
  rcases hs with ⟨h0, _⟩ | hs
  · omega
  · exact hs
theorem own_lt {w : World} {base e size n cap j : Nat} {s : Option Addr} {v : Nat} {xs : List Value} (h : w.ownsRow base e size (.slice s n cap) v xs) (e : s = some ⟨j, 0, none⟩) : base ≤ j ∧ j < w.heap.size := h.lt j (by subst e; rfl)
theorem iq_at (q : Iq) {k : Nat} (hk : k < 3) : (#[.int .i64 q.a.x, .int .i64 q.a.y, .int .i64 q.a.z, .int .i64 q.b] : Array Value)[k]? = some (.int .i64 (q.a.get k)) := by
  have h : k = 0 ∨ k = 1 ∨ k = 2 := by omega
  rcases h with rfl | rfl | rfl <;> rfl
theorem iqs_at {l : List Iq} {k j : Nat} (hk : k < l.length) (hj : j < 4) : ∃ u, (iqCells l)[k * 4 + j]? = some u := by
  have h1 := iqE.all_at l k j hk hj
  have h2 : j < (iqE.cells l[k]).length := by rw [iqE.len]; exact hj
  exact ⟨_, h1.trans (List.getElem?_eq_getElem h2)⟩
end Go.Proofs.Ytadmnlkgefbhcaa

/- The domain that is turned. -/
namespace Go.Proofs.Ytadmnlkgefbhcaa
open Go.RowKit Go.Maps

set_option maxRecDepth 100000 in
set_option maxHeartbeats 4000000 in
theorem Turned_c (n : Int) (s : Option Addr) (cs : Nat) (l : List Iq) (p : Pt) (w : World) (h : Dom w s l) (hc : s = none → cs = 0) :
    Calls Try.prog 50 #[.agg #[.int .i64 n, .slice s l.length cs], .agg #[.int .i64 p.x, .int .i64 p.y, .int .i64 p.z]] w (DomRet (turnN n l p) (turnR n l p) (turnE n l p) w) := by
  have hlen := h.len
  cases h1 : validB n l
  · rw [show turnN n l p = 0 by simp [turnN, turnE, h1], show turnR n l p = [] by simp [turnR, turnE, h1], show turnE n l p = 10 by simp [turnE, h1]]
    go_enter Try.func50, Try.ntmps50
    go_upto_region 1 with (fail)
    refine wp_world fun W HW => ?_
    have hB : Below w.heap.size w W := by rw [HW.out]; (repeat (first | exact Below.refl _ _ | refine Below.alloc ?_ (by simp; try omega) _ | refine Below.setCell ?_ (by simp) _ | refine Below.drew ?_))
    have d0 : W.cell? ⟨w.heap.size, 0, none⟩ = some (.int .i64 n) := by rw [HW.out]; simp [go_sem]
    have d1 : W.cell? ⟨w.heap.size, 1, none⟩ = some (.slice s l.length cs) := by rw [HW.out]; simp [go_sem]
    have dl : w.heap.size < W.heap.size := World.block_lt_of_cell? W _ d0
    have o0 : W.cell? ⟨w.heap.size + 1, 0, none⟩ = some (.int .i64 p.x) := by rw [HW.out]; simp [go_sem]
    have o1 : W.cell? ⟨w.heap.size + 1, 1, none⟩ = some (.int .i64 p.y) := by rw [HW.out]; simp [go_sem]
    have o2 : W.cell? ⟨w.heap.size + 1, 2, none⟩ = some (.int .i64 p.z) := by rw [HW.out]; simp [go_sem]
    have ol : w.heap.size + 1 < W.heap.size := World.block_lt_of_cell? W _ o0
    have rB : Row W (w.heap.size + 2) 24 #[.int .i64 0, .slice none 0 0] := (by rw [HW.out]; (repeat (first | (refine blk_new ?_; simp; done) | refine blk_old ?_ _)) : W.heap[w.heap.size + 2]? = some (.cells #[.int .i64 0, .slice none 0 0] 24 (0, 0)))
    have r0 : W.cell? ⟨w.heap.size + 2, 0, none⟩ = some (.int .i64 0) := by rw [HW.out]; simp [go_sem]
    have r1 : W.cell? ⟨w.heap.size + 2, 1, none⟩ = some (.slice none 0 0) := by rw [HW.out]; simp [go_sem]
    have rl : w.heap.size + 2 < W.heap.size := World.block_lt_of_cell? W _ r0
    try replace h := up_of hB h
    go_upto_region 2 with (first | (go_at_call 80; refine (Valid_t _ _ _ _ _ h).mono ?_; rintro e W1 ⟨rfl, hb⟩; (try replace h := up_of hb h); (try replace hB := up_of hb hB); (try replace d0 := up_of hb d0); (try replace d1 := up_of hb d1); (try replace dl := up_of hb dl); (try replace o0 := up_of hb o0); (try replace o1 := up_of hb o1); (try replace o2 := up_of hb o2); (try replace ol := up_of hb ol); (try replace rB := up_of hb rB); (try replace r0 := up_of hb r0); (try replace r1 := up_of hb r1); (try replace rl := up_of hb rl)))
    have rf := fun i => Row.frozen rB i
    go_wp2
    refine dom_end rfl none 0 (b1 := w.heap.size + 2) rfl rfl ?_ (World.ownsRow_nil _ _ _ _) ?_
    · refine Row.of ?_
      repeat (first | (with_reducible refine RowG.base rB ?_) | (with_reducible refine RowG.drew ?_) | (with_reducible refine RowG.set ?_) | ((with_reducible refine RowG.other ?_ ?_); (focus (first | omega | (simp; done) | (simp; omega)))) | (with_reducible refine RowG.alloc ?_))
      rfl
    · repeat (first | (with_reducible exact hB) | (with_reducible refine Below.drew ?_) | ((with_reducible refine Below.setC ?_ ?_); (focus (first | omega | (simp; done) | (simp; omega)))) | ((with_reducible refine Below.allo ?_ ?_); (focus (first | omega | (simp; done) | (simp; omega)))))
  have hn : 1 ≤ n ∧ n ≤ 3 := by simp only [validB, Bool.and_eq_true, bw_iff] at h1; exact h1.1
  have hl6 : l.length ≤ 6 := by simp only [validB, Bool.and_eq_true, decide_eq_true_eq] at h1; exact h1.2.1
  have hbad : ∀ k, k < 3 → badAt n p k = true → turnN n l p = 0 ∧ turnR n l p = [] ∧ turnE n l p = 2 := fun k hk hb => by
    have := ord_bad hk hb
    simp [turnN, turnR, turnE, h1, this]
  have hgood : (∀ k, k < 3 → badAt n p k = false) → isOrd n p = true ∧ turnN n l p = n ∧ turnR n l p = turnL n p l ∧ turnE n l p = 0 := fun hb => by
    have := ord_good hb
    simp [turnN, turnR, turnE, h1, this]
  obtain ⟨tN, htN⟩ : ∃ x, turnN n l p = x := ⟨_, rfl⟩
  obtain ⟨tR, htR⟩ : ∃ x, turnR n l p = x := ⟨_, rfl⟩
  obtain ⟨tE, htE⟩ : ∃ x, turnE n l p = x := ⟨_, rfl⟩
  rw [htN, htR, htE] at hbad hgood ⊢
  clear htN htR htE
  replace hbad := Lib.hid hbad; replace hgood := Lib.hid hgood; replace hc := Lib.hid hc; replace hl6 := Lib.hid hl6
  have hmm := @run_makeMap Try.prog
  have h0 := Lib.hid h
  go_enter Try.func50, Try.ntmps50
  go_upto_region 1 with (fail)
  refine wp_world fun W HW => ?_
  have hB : Below w.heap.size w W := by rw [HW.out]; (repeat (first | exact Below.refl _ _ | refine Below.alloc ?_ (by simp; try omega) _ | refine Below.setCell ?_ (by simp) _ | refine Below.drew ?_))
  have dB : Row W (w.heap.size) 24 #[.int .i64 n, .slice s l.length cs] := (by rw [HW.out]; (repeat (first | (refine blk_new ?_; simp; done) | refine blk_old ?_ _)) : W.heap[w.heap.size]? = some (.cells #[.int .i64 n, .slice s l.length cs] 24 (0, 0)))
  have d0 : W.cell? ⟨w.heap.size, 0, none⟩ = some (.int .i64 n) := by rw [HW.out]; simp [go_sem]
  have d1 : W.cell? ⟨w.heap.size, 1, none⟩ = some (.slice s l.length cs) := by rw [HW.out]; simp [go_sem]
  have dl : w.heap.size < W.heap.size := World.block_lt_of_cell? W _ d0
  have oB : Row W (w.heap.size + 1) 29 #[.int .i64 p.x, .int .i64 p.y, .int .i64 p.z] := (by rw [HW.out]; (repeat (first | (refine blk_new ?_; simp; done) | refine blk_old ?_ _)) : W.heap[w.heap.size + 1]? = some (.cells #[.int .i64 p.x, .int .i64 p.y, .int .i64 p.z] 29 (0, 0)))
  have o0 : W.cell? ⟨w.heap.size + 1, 0, none⟩ = some (.int .i64 p.x) := by rw [HW.out]; simp [go_sem]
  have o1 : W.cell? ⟨w.heap.size + 1, 1, none⟩ = some (.int .i64 p.y) := by rw [HW.out]; simp [go_sem]
  have o2 : W.cell? ⟨w.heap.size + 1, 2, none⟩ = some (.int .i64 p.z) := by rw [HW.out]; simp [go_sem]
  have ol : w.heap.size + 1 < W.heap.size := World.block_lt_of_cell? W _ o0
  have rB : Row W (w.heap.size + 2) 24 #[.int .i64 0, .slice none 0 0] := (by rw [HW.out]; (repeat (first | (refine blk_new ?_; simp; done) | refine blk_old ?_ _)) : W.heap[w.heap.size + 2]? = some (.cells #[.int .i64 0, .slice none 0 0] 24 (0, 0)))
  have r0 : W.cell? ⟨w.heap.size + 2, 0, none⟩ = some (.int .i64 0) := by rw [HW.out]; simp [go_sem]
  have r1 : W.cell? ⟨w.heap.size + 2, 1, none⟩ = some (.slice none 0 0) := by rw [HW.out]; simp [go_sem]
  have rl : w.heap.size + 2 < W.heap.size := World.block_lt_of_cell? W _ r0
  try replace h := up_of hB h
  go_upto_region 4 with (first | (go_at_call 80; refine (Valid_t _ _ _ _ _ h).mono ?_; rintro e W1 ⟨rfl, hb⟩; (try replace h := up_of hb h); (try replace hB := up_of hb hB); (try replace dB := up_of hb dB); (try replace d0 := up_of hb d0); (try replace d1 := up_of hb d1); (try replace dl := up_of hb dl); (try replace oB := up_of hb oB); (try replace o0 := up_of hb o0); (try replace o1 := up_of hb o1); (try replace o2 := up_of hb o2); (try replace ol := up_of hb ol); (try replace rB := up_of hb rB); (try replace r0 := up_of hb r0); (try replace r1 := up_of hb r1); (try replace rl := up_of hb rl)))
  refine wp_world fun M HM => ?_
  have hM : Below W1.heap.size W1 M := by
    rw [HM.out]
    repeat (first | (with_reducible exact Below.refl _ _) | (with_reducible refine Below.drew ?_) | ((with_reducible refine Below.setC ?_ ?_); (focus (first | omega | (simp; done) | (simp; omega)))) | ((with_reducible refine Below.allo ?_ ?_); (focus (first | omega | (simp; done) | (simp; omega)))))
  have hown : M.ownsMap Try.prog 3 (plainElem Try.prog 4) W1.heap.size 0 (seenD p 0) := by
    rw [HM.out]
    exact World.ownsMap_made _ _ _ _
  have hW1 := hB.size
  have hrl := rl
  try replace h := up_of hM h
  try replace hB := up_of hM hB
  try replace dB := up_of hM dB
  try replace d0 := up_of hM d0
  try replace d1 := up_of hM d1
  try replace dl := up_of hM dl
  try replace oB := up_of hM oB
  try replace o0 := up_of hM o0
  try replace o1 := up_of hM o1
  try replace o2 := up_of hM o2
  try replace ol := up_of hM ol
  try replace rB := up_of hM rB
  try replace r0 := up_of hM r0
  try replace r1 := up_of hM r1
  try replace rl := up_of hM rl
  have hMs : W1.heap.size < M.heap.size := hown.lt
  go_wp2
  go_loopw [20] (fun i V => ∃ k : Nat, k ≤ 3 ∧ i = .int .i64 k ∧ V.ownsMap Try.prog 3 (plainElem Try.prog 4) W1.heap.size k (seenD p k) ∧ Below w.heap.size w V ∧
    Row V w.heap.size 24 #[.int .i64 n, .slice s l.length cs] ∧ Row V (w.heap.size + 1) 29 #[.int .i64 p.x, .int .i64 p.y, .int .i64 p.z] ∧ Row V (w.heap.size + 2) 24 #[.int .i64 0, .slice none 0 0] ∧ Hid (∀ j, j < k → badAt n p j = false)) (fun i _ => 3 - (intOf i).toNat)
  case atStart => exact ⟨0, by omega, rfl, hown, hB, dB, oB, rB, fun j h => absurd h (by omega)⟩
  case round =>
    clear hB dB oB rB hown d0 d1 o0 o1 o2 r0 r1
    obtain ⟨k, hk, rfl, hown, hB, dB, oB, rB, hall⟩ := hrel
    obtain ⟨d0, d1⟩ := dB.two
    obtain ⟨o0, o1, o2⟩ := oB.three
    obtain ⟨r0, r1⟩ := rB.two
    have rf := fun i => Row.frozen rB i
    have hl2 := hown.lt
    by_cases hlt : k < 3
    · have hx := fun W => ixk p W hlt
      have hb0 : badAt n p k = ((decide ((k : Int) < n) && (!bw 0 (p.get k) (n - 1) || seenB p k (p.get k))) || (decide (n ≤ (k : Int)) && !decide (p.get k = 0))) := rfl
      have hD : seenD p (k + 1) = (seenD p k).put (.int .i64 (p.get k)) (.lit (.bool true)) := rfl
      have hS := seenD_at p (p.get k) k
      obtain ⟨v, hv⟩ : ∃ v, p.get k = v := ⟨_, rfl⟩
      rw [hv] at hx hb0 hD hS
      replace hv := Lib.hid hv; replace hD := Lib.hid hD
      replace hbad := Lib.hid (hbad.out k hlt)
      by_cases hkn : (k : Int) < n
      · have hnk : ¬ n ≤ (k : Int) := by omega
        have hdk : decide ((k : Int) < n) = true := by simp [hkn]
        have hn1 : IntKind.i64.wrap (n - 1) = n - 1 := by rw [i64_wrap]; unfold wrap64; omega
        cases hbw : bw 0 v (n - 1)
        · have hg := hbad.out (by rw [hb0]; simp [hkn, hbw])
          rw [hg.1, hg.2.1, hg.2.2]
          replace hb0 := Lib.hid hb0
          go_wp2_with (first | (go_at_call 97; refine (between_c _ _ _ _).mono ?_; rintro e w' ⟨rfl, rfl⟩))
          refine dom_end rfl none 0 (b1 := w.heap.size + 2) rfl rfl ?_ (World.ownsRow_nil _ _ _ _) ?_
          · refine Row.of ?_
            repeat (first | (with_reducible refine RowG.base rB ?_) | (with_reducible refine RowG.drew ?_) | (with_reducible refine RowG.set ?_) | ((with_reducible refine RowG.other ?_ ?_); (focus (first | omega | (simp; done) | (simp; omega)))) | (with_reducible refine RowG.alloc ?_))
            rfl
          · repeat (first | (with_reducible exact hB) | (with_reducible refine Below.drew ?_) | ((with_reducible refine Below.setC ?_ ?_); (focus (first | omega | (simp; done) | (simp; omega)))) | ((with_reducible refine Below.allo ?_ ?_); (focus (first | omega | (simp; done) | (simp; omega)))))
        have hv3 : 0 ≤ v ∧ v < 3 := by have := bw_iff.1 hbw; omega
        have hkey := key_small hv3
        obtain ⟨c, hrun, hat⟩ := lookup_bool hown key_int Try.underlying132 Try.underlying4 (zero_bool _) hkey
        rw [hS] at hat
        have hat : seenB p k v = c := by injection hat with e; injection e
        cases c
        · skip
          have hg : badAt n p k = false := by rw [hb0, hat]; simp [hkn, hnk, hbw]
          replace hg := Lib.hid hg
          replace hb0 := Lib.hid hb0
          go_wp2_with (first | (go_at_call 97; refine (between_c _ _ _ _).mono ?_; rintro e w' ⟨rfl, rfl⟩) | (at_mapUpdate; refine wpList_mapUpdate_own _ rfl _ _ _ 132 rfl 3 4 key_int Try.underlying132 _ W1.heap.size k (seenD p k) rfl hown (by unfold maxLen; omega) _ _ _ rfl rfl hkey (.lit (.bool true)) [] (plainElem_bool Try.underlying4 true) ?_; intro w1 hown1 hgrow1))
          go_roundw
          case rel => exact ⟨k + 1, by omega, rfl, by rw [hD.out]; exact hown1, hB.grown hgrow1 (by omega) (fun j e => by cases e; omega), (hgrow1.block _ dB.lt (by simp; omega)).trans dB, (hgrow1.block _ oB.lt (by simp; omega)).trans oB, (hgrow1.block _ rB.lt (by simp; omega)).trans rB, upto_succ hall.out hg.out⟩
          case measure => exact meas hlt
        · have hg := hbad.out (by rw [hb0, hat]; simp [hkn])
          rw [hg.1, hg.2.1, hg.2.2]
          replace hb0 := Lib.hid hb0
          go_wp2_with (first | (go_at_call 97; refine (between_c _ _ _ _).mono ?_; rintro e w' ⟨rfl, rfl⟩))
          refine dom_end rfl none 0 (b1 := w.heap.size + 2) rfl rfl ?_ (World.ownsRow_nil _ _ _ _) ?_
          · refine Row.of ?_
            repeat (first | (with_reducible refine RowG.base rB ?_) | (with_reducible refine RowG.drew ?_) | (with_reducible refine RowG.set ?_) | ((with_reducible refine RowG.other ?_ ?_); (focus (first | omega | (simp; done) | (simp; omega)))) | (with_reducible refine RowG.alloc ?_))
            rfl
          · repeat (first | (with_reducible exact hB) | (with_reducible refine Below.drew ?_) | ((with_reducible refine Below.setC ?_ ?_); (focus (first | omega | (simp; done) | (simp; omega)))) | ((with_reducible refine Below.allo ?_ ?_); (focus (first | omega | (simp; done) | (simp; omega)))))
      · have hnk : n ≤ (k : Int) := by omega
        have hdk : decide ((k : Int) < n) = false := by simp [hkn]
        by_cases hv0 : v = 0
        · subst hv0
          have hkey := key_small (v := 0) (by omega)
          have hg : badAt n p k = false := by rw [hb0]; simp [hkn]
          replace hg := Lib.hid hg
          replace hb0 := Lib.hid hb0
          go_wp2_with (first | (go_at_call 97; refine (between_c _ _ _ _).mono ?_; rintro e w' ⟨rfl, rfl⟩) | (at_mapUpdate; refine wpList_mapUpdate_own _ rfl _ _ _ 132 rfl 3 4 key_int Try.underlying132 _ W1.heap.size k (seenD p k) rfl hown (by unfold maxLen; omega) _ _ _ rfl rfl hkey (.lit (.bool true)) [] (plainElem_bool Try.underlying4 true) ?_; intro w1 hown1 hgrow1))
          go_roundw
          case rel => exact ⟨k + 1, by omega, rfl, by rw [hD.out]; exact hown1, hB.grown hgrow1 (by omega) (fun j e => by cases e; omega), (hgrow1.block _ dB.lt (by simp; omega)).trans dB, (hgrow1.block _ oB.lt (by simp; omega)).trans oB, (hgrow1.block _ rB.lt (by simp; omega)).trans rB, upto_succ hall.out hg.out⟩
          case measure => exact meas hlt
        · have hg := hbad.out (by rw [hb0]; simp [hnk, hv0])
          rw [hg.1, hg.2.1, hg.2.2]
          replace hb0 := Lib.hid hb0
          go_wp2_with (first | (go_at_call 97; refine (between_c _ _ _ _).mono ?_; rintro e w' ⟨rfl, rfl⟩))
          refine dom_end rfl none 0 (b1 := w.heap.size + 2) rfl rfl ?_ (World.ownsRow_nil _ _ _ _) ?_
          · refine Row.of ?_
            repeat (first | (with_reducible refine RowG.base rB ?_) | (with_reducible refine RowG.drew ?_) | (with_reducible refine RowG.set ?_) | ((with_reducible refine RowG.other ?_ ?_); (focus (first | omega | (simp; done) | (simp; omega)))) | (with_reducible refine RowG.alloc ?_))
            rfl
          · repeat (first | (with_reducible exact hB) | (with_reducible refine Below.drew ?_) | ((with_reducible refine Below.setC ?_ ?_); (focus (first | omega | (simp; done) | (simp; omega)))) | ((with_reducible refine Below.allo ?_ ?_); (focus (first | omega | (simp; done) | (simp; omega)))))
    · obtain rfl : k = 3 := by omega
      obtain ⟨hord, rfl, hTR, rfl⟩ := hgood.out hall.out
      replace hTR := Lib.hid hTR
      clear hown hgood hbad
      replace h := up_of hB h0.out
      go_upto_region 11 with (fail)
      go_region_held3 (fun V => V.cell? ⟨w.heap.size, 0, none⟩ = some (.int .i64 tN) ∧ V.cell? ⟨w.heap.size, 1, none⟩ = some (.slice s l.length cs)) ((first | (with_reducible exact ⟨d0, d1⟩) | ((try dsimp only); (repeat' apply And.intro) <;> (repeat (first | (with_reducible assumption) | (with_reducible refine cell_set (by simp; try omega) ?_) | (with_reducible refine cell_drew ?_) | (with_reducible refine cell_alloc ?_ _)))))) ((first | (go_at_call 98; refine calls_below (W0 := wr) ?_ fun hpre => ?_; (repeat (first | exact Below.refl _ _ | refine Below.alloc ?_ (by simp; try omega) _ | refine Below.drew ?_)); refine (clone2 s cs l _ (up_of hpre h).iq.sl hc.out (by have := hl6.out; omega)).mono ?_; rintro e N1 ⟨⟨s3, c3, rfl, hown⟩, hb1⟩; have hcc := cellB hb1; have hff := frozB hb1; have hb := Up.trans hpre hb1; clear hpre; (first | have hs_N1 := below_alloc_lt hb1 | have hs_N1 := below_alloc_lt (drewB hb1) | skip); have dl_N1 := dl; have ol_N1 := ol; have rl_N1 := rl; (try replace h := up_of hb h); (try replace hB := up_of hb hB); (try replace dB := up_of hb dB); (try replace d0 := up_of hb d0); (try replace d1 := up_of hb d1); (try replace dl := up_of hb dl); (try replace oB := up_of hb oB); (try replace o0 := up_of hb o0); (try replace o1 := up_of hb o1); (try replace o2 := up_of hb o2); (try replace ol := up_of hb ol); (try replace rB := up_of hb rB); (try replace r0 := up_of hb r0); (try replace r1 := up_of hb r1); (try replace rl := up_of hb rl); (first | have nB := new_up hb1 | have nB := new_up (drewB hb1) | (try replace nB := up_of hb nB)))))
      all_goals
        have hBs := hB.size
        have hwN := hb.size
        refine exit_world fun X HX => ?_
        have hBX : Below w.heap.size w X := by
          rw [HX.out]
          repeat (first | (with_reducible exact hB) | (with_reducible refine Below.drew ?_) | ((with_reducible refine Below.setC ?_ ?_); (focus (first | omega | (simp; done) | (simp; omega)))) | ((with_reducible refine Below.allo ?_ ?_); (focus (first | omega | (simp; done) | (simp; omega)))))
        first | (refine have_it (Row X N1.heap.size 24 #[.int .i64 tN, .slice s3 l.length c3]) ?_ fun tX => ?_; (focus (rw [HX.out]; refine Row.of ?_; (repeat (first | (with_reducible refine RowG.base nB ?_) | (with_reducible refine RowG.drew ?_) | (with_reducible refine RowG.set ?_) | (with_reducible refine RowG.new ?_) | ((with_reducible refine RowG.other ?_ ?_); (focus (first | omega | (simp; done) | (simp; omega)))) | (with_reducible refine RowG.alloc ?_))); rfl; done))) | (refine have_it (Row X wr.heap.size 24 #[.int .i64 tN, .slice s3 l.length c3]) ?_ fun tX => ?_; (focus (rw [HX.out]; refine Row.of ?_; (repeat (first | (with_reducible refine RowG.base nB ?_) | (with_reducible refine RowG.drew ?_) | (with_reducible refine RowG.set ?_) | (with_reducible refine RowG.new ?_) | ((with_reducible refine RowG.other ?_ ?_); (focus (first | omega | (simp; done) | (simp; omega)))) | (with_reducible refine RowG.alloc ?_))); rfl; done)))
        have hlr := rB.lt
        have hrw : w.heap.size + 2 < wr.heap.size := by first | exact rl | omega
        have dX : Row X w.heap.size 24 #[.int .i64 tN, .slice s l.length cs] := by
          rw [HX.out]
          refine Row.of ?_
          repeat (first | (with_reducible refine RowG.base dB ?_) | (with_reducible refine RowG.drew ?_) | (with_reducible refine RowG.set ?_) | ((with_reducible refine RowG.other ?_ ?_); (focus (first | omega | (simp; done) | (simp; omega)))) | (with_reducible refine RowG.alloc ?_))
          rfl
        have oX : Row X (w.heap.size + 1) 29 #[.int .i64 p.x, .int .i64 p.y, .int .i64 p.z] := by
          rw [HX.out]
          refine Row.of ?_
          repeat (first | (with_reducible refine RowG.base oB ?_) | (with_reducible refine RowG.drew ?_) | (with_reducible refine RowG.set ?_) | ((with_reducible refine RowG.other ?_ ?_); (focus (first | omega | (simp; done) | (simp; omega)))) | (with_reducible refine RowG.alloc ?_))
          rfl
        have rX : Row X (w.heap.size + 2) 24 #[.int .i64 0, .slice none 0 0] := by
          rw [HX.out]
          refine Row.of ?_
          repeat (first | (with_reducible refine RowG.base rB ?_) | (with_reducible refine RowG.drew ?_) | (with_reducible refine RowG.set ?_) | ((with_reducible refine RowG.other ?_ ?_); (focus (first | omega | (simp; done) | (simp; omega)))) | (with_reducible refine RowG.alloc ?_))
          rfl
        have hoX : X.ownsRow (w.heap.size + 3) 127 4 (.slice s3 l.length c3) l.length (iqCells (mixL tN p l 0)) := by
          first
          | (have hC : Chg (fun _ => False) N1 X := by
               rw [HX.out]
               repeat (first | (with_reducible exact Chg.refl _ _) | (with_reducible refine Chg.setCell ?_ (by simp) _) | (with_reducible refine Chg.drew ?_) | (with_reducible refine Chg.alloc ?_ _))
             exact owns_mono (own_chg hC (fun _ _ e => e) hown) (by simp; omega))
          | (have hC : Chg (fun j => j = wr.heap.size) N1 X := by
               rw [HX.out]
               repeat (first | (with_reducible exact Chg.refl _ _) | (with_reducible refine Chg.setCell ?_ (by simp) _) | (with_reducible refine Chg.drew ?_) | (with_reducible refine Chg.alloc ?_ _))
             exact owns_mono (own_chg hC (fun j hj e => by simp at hj; omega) hown) (by simp; omega))
        obtain ⟨b9, e9, tX, h9a, h9b⟩ : ∃ b9, b9 = _ ∧ Row X b9 _ _ ∧ w.heap.size + 2 < b9 ∧ ∀ j, s3 = some ⟨j, 0, none⟩ → j ≠ b9 := ⟨_, rfl, tX, by omega, fun j e => by have := own_lt hown e; simp at this; omega⟩
        rw [← e9]
        clear e9
        clear HX
        have hsX := tX.lt
        replace hown := hoX
        try clear nB
        clear hoX hb hcc hff dB d0 d1 oB o0 o1 o2 rB r0 r1 hall hM h hB
        obtain ⟨N, rfl⟩ : ∃ N : Nat, tN = N := ⟨tN.toNat, by omega⟩
        obtain ⟨d0, d1⟩ := dX.two
        go_wp2
        clear d0 d1
        go_loopw [64] (fun i V => ∃ k : Nat, k ≤ l.length ∧ i = .int .i64 k ∧ Chg (fun j => s3 = some ⟨j, 0, none⟩) X V ∧ V.ownsRow (w.heap.size + 3) 127 4 (.slice s3 l.length c3) l.length (iqCells (mixL N p l k))) (fun i _ => l.length - (intOf i).toNat)
        case atStart => exact ⟨0, by omega, rfl, Chg.refl _ _, hown⟩
        case round =>
          clear hown
          obtain ⟨k, hk, rfl, hC, hown⟩ := hrel
          have hCs := hC.size
          have hBr : Below w.heap.size w _ := hC.below (n := w.heap.size) (fun j hj => by have := own_lt hown hj; omega) hBX.size hBX
          have dV := hC.row (fun e => by have := own_lt hown e; omega) dX
          have oV := hC.row (fun e => by have := own_lt hown e; omega) oX
          have tV := hC.row (fun e => h9b _ e rfl) tX
          obtain ⟨d0, d1⟩ := dV.two
          obtain ⟨t0, t1⟩ := tV.two
          by_cases hlt : k < l.length
          · obtain ⟨g, rfl, hg1, hg2⟩ := own_some hown (by omega)
            obtain ⟨b1, of1, rfl, hb1, q0, q1, q2, q3⟩ := (Up.iq hBr h0.out.iq).at hlt
            have g1 : (0 : Int) ≤ (k : Int) := by omega
            have g2 : (k : Int) < (l.length : Int) := by omega
            go_upto_region 16 with (fail)
            refine wp_world fun Y HY => ?_
            have hY : Below wr.heap.size wr Y := by rw [HY.out]; (repeat (first | exact Below.refl _ _ | refine Below.alloc ?_ (by simp; try omega) _ | refine Below.setCell ?_ (by simp) _ | refine Below.drew ?_))
            have qB : Row Y (wr.heap.size) 127 #[.int .i64 l[k].a.x, .int .i64 l[k].a.y, .int .i64 l[k].a.z, .int .i64 l[k].b] := (by rw [HY.out]; (repeat (first | (refine blk_new ?_; simp; done) | refine blk_old ?_ _)) : Y.heap[wr.heap.size]? = some (.cells #[.int .i64 l[k].a.x, .int .i64 l[k].a.y, .int .i64 l[k].a.z, .int .i64 l[k].b] 127 (0, 0)))
            have q0 : Y.cell? ⟨wr.heap.size, 0, none⟩ = some (.int .i64 l[k].a.x) := by rw [HY.out]; simp [go_sem]
            have q1 : Y.cell? ⟨wr.heap.size, 1, none⟩ = some (.int .i64 l[k].a.y) := by rw [HY.out]; simp [go_sem]
            have q2 : Y.cell? ⟨wr.heap.size, 2, none⟩ = some (.int .i64 l[k].a.z) := by rw [HY.out]; simp [go_sem]
            have q3 : Y.cell? ⟨wr.heap.size, 3, none⟩ = some (.int .i64 l[k].b) := by rw [HY.out]; simp [go_sem]
            have ql : wr.heap.size < Y.heap.size := World.block_lt_of_cell? Y _ q0
            have uB : Row Y (wr.heap.size + 1) 29 #[.int .i64 0, .int .i64 0, .int .i64 0] := (by rw [HY.out]; (repeat (first | (refine blk_new ?_; simp; done) | refine blk_old ?_ _)) : Y.heap[wr.heap.size + 1]? = some (.cells #[.int .i64 0, .int .i64 0, .int .i64 0] 29 (0, 0)))
            have u0 : Y.cell? ⟨wr.heap.size + 1, 0, none⟩ = some (.int .i64 0) := by rw [HY.out]; simp [go_sem]
            have u1 : Y.cell? ⟨wr.heap.size + 1, 1, none⟩ = some (.int .i64 0) := by rw [HY.out]; simp [go_sem]
            have u2 : Y.cell? ⟨wr.heap.size + 1, 2, none⟩ = some (.int .i64 0) := by rw [HY.out]; simp [go_sem]
            have ul : wr.heap.size + 1 < Y.heap.size := World.block_lt_of_cell? Y _ u0
            try replace d0 := up_of hY d0
            try replace t1 := up_of hY t1
            try replace dV := up_of hY dV
            try replace oV := up_of hY oV
            try replace tV := up_of hY tV
            try replace hBr := up_of hY hBr
            have hws : w.heap.size + 2 < wr.heap.size := by have := (hC.row (fun e => by have := own_lt hown e; omega) rX).lt; omega
            go_wp2
            go_loopw [71] (fun i V => ∃ j : Nat, j ≤ N ∧ i = .int .i64 j ∧ Chg (fun x => x = wr.heap.size + 1) Y V ∧ Row V (wr.heap.size + 1) 29 (ptA (turnTo p l[k].a j))) (fun i _ => N - (intOf i).toNat)
            case atStart => exact ⟨0, by omega, rfl, Chg.refl _ _, uB⟩
            case round =>
              clear uB
              obtain ⟨j, hj, rfl, hC2, uB⟩ := hrel
              replace qB := hC2.row (by omega) qB
              replace oV := hC2.row (by omega) oV
              replace tV := hC2.row (by have := tV.lt; omega) tV
              by_cases hlj : j < N
              · have hv := ord_get hn hord (i := j) (by omega)
                have ak := qB.cell (iq_at l[k] (k := j) (by omega))
                have ok := oV.cell (ptA_at p (k := j) (by omega))
                obtain ⟨v, hv2, hv3⟩ : ∃ v : Nat, p.get j = v ∧ v < 3 := ⟨(p.get j).toNat, by omega, by omega⟩
                rw [hv2] at ok
                have uk := uB.cell (ptA_at (turnTo p l[k].a j) hv3)
                have uf := uB.frozen v
                go_upto_region 19 with (fail)
                go_region
                all_goals
                  go_wp2
                  go_roundw
                  case rel =>
                    refine ⟨j + 1, by omega, rfl, ?_, ?_⟩
                    · repeat (first | (with_reducible exact hC2) | (with_reducible refine Chg.setCell ?_ (by simp) _) | (with_reducible refine Chg.drew ?_) | (with_reducible refine Chg.alloc ?_ _))
                    · refine Row.of ?_
                      repeat (first | (with_reducible refine RowG.base uB ?_) | (with_reducible refine RowG.drew ?_) | (with_reducible refine RowG.set ?_) | ((with_reducible refine RowG.other ?_ ?_); (focus (first | omega | (simp; done) | (simp; omega)))) | (with_reducible refine RowG.alloc ?_))
                      (simp only [ptA_set hv3]; rw [turnTo, hv2, Int.toNat_natCast])
                  case measure => exact meas hlj
              · obtain rfl : j = N := by omega
                have hc3 := mix_cells j p l k hlt (a := turnTo p l[k].a j) (by simp [turnP])
                obtain ⟨ta, hta⟩ : ∃ ta, turnTo p l[k].a j = ta := ⟨_, rfl⟩
                rw [hta] at uB hc3
                replace hc3 := Lib.hid hc3
                clear hta
                obtain ⟨u0, u1, u2⟩ := uB.three
                obtain ⟨t0, t1⟩ := tV.two
                have hB3 := hC2.below (fun x hx => by omega) hY.size hY
                have hown3 := up_of hB3 hown
                obtain ⟨c0, hc0⟩ := iqs_at (l := mixL j p l k) (k := k) (j := 0) (by rw [mix_len]; exact hlt) (by omega)
                obtain ⟨c1, hc1⟩ := iqs_at (l := mixL j p l k) (k := k) (j := 1) (by rw [mix_len]; exact hlt) (by omega)
                obtain ⟨c2, hc2⟩ := iqs_at (l := mixL j p l k) (k := k) (j := 2) (by rw [mix_len]; exact hlt) (by omega)
                rw [Nat.add_zero] at hc0
                have h4 := hown3.stored (k * 4) (.int .i64 ta.x)
                have h5 := h4.1.stored (k * 4 + 1) (.int .i64 ta.y)
                have h6 := h5.1.stored (k * 4 + 2) (.int .i64 ta.z)
                have w0 := owns_cell hown3 hc0
                have w1 := owns_cell h4.1 ((List.getElem?_set_ne (by omega)).trans hc1)
                have w2 := owns_cell h5.1 ((List.getElem?_set_ne (by omega)).trans ((List.getElem?_set_ne (by omega)).trans hc2))
                have gf := World.ownsRow.frozenAt hown3 (k * 4)
                have gf1 := World.ownsRow.frozenAt h4.1 (k * 4 + 1)
                have gf2 := World.ownsRow.frozenAt h5.1 (k * 4 + 2)
                have hown4 := Lib.hid h6.1
                have hC3 := hC.trans (Chg.of_below hB3)
                clear h4 h5 h6 hc0 hc1 hc2
                go_wp2
                go_roundw
                case rel =>
                  refine ⟨k + 1, by omega, rfl, ?_, ?_⟩
                  · repeat (first | (with_reducible exact hC3) | (with_reducible refine Chg.setCell ?_ (by simp) _) | (with_reducible refine Chg.drew ?_) | (with_reducible refine Chg.alloc ?_ _))
                  · rw [← hc3.out]; exact hown4.out
                case measure => exact meas hlt
          · obtain rfl : k = l.length := by omega
            have rV := hC.row (fun e => by have := own_lt hown e; omega) rX
            have rf := fun i => Row.frozen rV i
            obtain ⟨r0, r1⟩ := rV.two
            rw [mix_all, ← hTR.out] at hown
            have hlR : tR.length = l.length := by rw [hTR.out, turn_len]
            replace hTR := Lib.hid hTR.out
            replace hlR := Lib.hid hlR
            go_wp2
            refine dom_end rfl s3 c3 (b1 := w.heap.size + 2) rfl rfl ?_ ?_ ?_
            · rw [hlR.out]
              refine Row.of ?_
              repeat (first | (with_reducible refine RowG.base rV ?_) | (with_reducible refine RowG.drew ?_) | (with_reducible refine RowG.set ?_) | ((with_reducible refine RowG.other ?_ ?_); (focus (first | omega | (simp; done) | (simp; omega)))) | (with_reducible refine RowG.alloc ?_))
              rfl
            · rw [hlR.out]
              refine owns_mono (own_chg (p := fun j => j = w.heap.size + 2) (W := wr) ?_ (fun j hj e => by omega) hown) (by omega)
              repeat (first | (with_reducible exact Chg.refl _ _) | (with_reducible refine Chg.setCell ?_ (by simp) _) | (with_reducible refine Chg.drew ?_) | (with_reducible refine Chg.alloc ?_ _))
            · repeat (first | (with_reducible exact hBr) | (with_reducible refine Below.drew ?_) | ((with_reducible refine Below.setC ?_ ?_); (focus (first | omega | (simp; done) | (simp; omega)))) | ((with_reducible refine Below.allo ?_ ?_); (focus (first | omega | (simp; done) | (simp; omega)))))
end Go.Proofs.Ytadmnlkgefbhcaa

/- Equality of points. -/
namespace Go.Proofs.Ytadmnlkgefbhcaa
open Go.RowKit

theorem run_equalIn_int3 {P : Program} (w : World) (d : Nat) (t e : TypeId) (k : IntKind) (a0 a1 a2 b0 b1 b2 : Int)
    (ht : P.underlying t = some (.array 3 e)) (he : P.underlying e = some (.int k)) (hs : ∀ w, (sizeOf e).run P w = .ok 1 w) (hg : ∀ w, (isAgg e).run P w = .ok false w) :
    (Op.equalIn (d + 1 + 1) t (.agg #[.int k a0, .int k a1, .int k a2]) (.agg #[.int k b0, .int k b1, .int k b2])).run P w = .ok (a0 == b0 && (a1 == b1 && a2 == b2)) w := by
  rw [Op.equalIn]
  simp only [Sem.run_bind, run_underlying ht, Result.andThen_ok, hs]
  simp only [Std.Legacy.Range.forIn_eq_forIn_range', Std.Legacy.Range.size]
  simp [Sem.run_bind, Result.andThen_ok, hs, hg, List.range', Op.equalIn, run_underlying he, part]
  by_cases h0 : a0 = b0 <;> by_cases h1 : a1 = b1 <;> by_cases h2 : a2 = b2 <;> simp [h0, h1, h2]
set_option maxRecDepth 100000 in
theorem pt_eql (w : World) (d : Nat) (a0 a1 a2 b0 b1 b2 : Int) : (Op.equalIn (d + 1 + 1) 29 (.agg #[.int .i64 a0, .int .i64 a1, .int .i64 a2]) (.agg #[.int .i64 b0, .int .i64 b1, .int .i64 b2])).run Try.prog w = .ok (a0 == b0 && (a1 == b1 && a2 == b2)) w :=
  run_equalIn_int3 w d _ 3 .i64 _ _ _ _ _ _ rfl rfl (fun _ => rfl) (fun _ => rfl)
end Go.Proofs.Ytadmnlkgefbhcaa

/- Domains that are the same; the references Turned and Both. -/
namespace Go.Proofs.Ytadmnlkgefbhcaa
open Go.RowKit

set_option maxRecDepth 100000 in
theorem iq_eql (a b : Iq) (w : World) : (Op.equalIn 10000 127 (.agg #[.int .i64 a.a.x, .int .i64 a.a.y, .int .i64 a.a.z, .int .i64 a.b]) (.agg #[.int .i64 b.a.x, .int .i64 b.a.y, .int .i64 b.a.z, .int .i64 b.b])).run Try.prog w = .ok ((a.a.x == b.a.x && (a.a.y == b.a.y && a.a.z == b.a.z)) && a.b == b.b) w := by
  rw [show (10000 : Nat) = 9999 + 1 from rfl, run_equalIn_agg w 9999 127 _ _ (by kernel_rfl) (by kernel_rfl)]
  simp only [Program.fieldsOf, Try.underlying127]
  have hp : ∀ (xs : Array Value) (w : World), (part 29 xs 0).run Try.prog w = .ok (.agg (xs.extract 0 3)) w := fun xs w => by kernel_rfl
  have hi : ∀ (x y z b : Value) (w : World), (part 3 #[x, y, z, b] 3).run Try.prog w = .ok b w := fun x y z b w => by simp [part, go_sem]
  have h1 := pt_eql w 9997 a.a.x a.a.y a.a.z b.a.x b.a.y b.a.z
  have h2 : ∀ w, (Op.equalIn 9999 3 (.int .i64 a.b) (.int .i64 b.b)).run Try.prog w = .ok (a.b == b.b) w := fun w => run_equalIn_int w 9998 _ _ .i64 _ _ Try.underlying3
  simp [Op.eqFields, hp, hi, Sem.run_bind, h1, h2]
  by_cases e0 : a.a.x = b.a.x <;> by_cases e1 : a.a.y = b.a.y <;> by_cases e2 : a.a.z = b.a.z <;> by_cases e3 : a.b = b.b <;> simp [e0, e1, e2, e3]
theorem iq_self (a : Iq) (w : World) : (Op.equalIn 10000 127 (.agg #[.int .i64 a.a.x, .int .i64 a.a.y, .int .i64 a.a.z, .int .i64 a.b]) (.agg #[.int .i64 a.a.x, .int .i64 a.a.y, .int .i64 a.a.z, .int .i64 a.b])).run Try.prog w = .ok true w := by
  rw [iq_eql]; simp

set_option maxRecDepth 100000 in
set_option maxHeartbeats 1000000 in
theorem Same_eq (n : Int) (s1 s2 : Option Addr) (c1 c2 : Nat) (l : List Iq) (w : World) (h1 : IqS w s1 l) (h2 : IqS w s2 l) (hl : l.length ≤ 9223372036854775807) :
    Calls Try.prog 54 #[.agg #[.int .i64 n, .slice s1 l.length c1], .agg #[.int .i64 n, .slice s2 l.length c2]] w fun e w' => e = .returned (.bool true) ∧ Below w.heap.size w w' := by
  have hb : ((l.length : Int) != l.length) = false := by simp
  have hbn : (n != n) = false := by simp
  replace h1 := Lib.hid h1; replace h2 := Lib.hid h2
  go_enter Try.func54, Try.ntmps54
  go_upto_region 1 with (fail)
  refine wp_world fun W HW => ?_
  have hB : Below w.heap.size w W := by rw [HW.out]; (repeat (first | exact Below.refl _ _ | refine Below.alloc ?_ (by simp; try omega) _ | refine Below.setCell ?_ (by simp) _ | refine Below.drew ?_))
  have d0 : W.cell? ⟨w.heap.size, 0, none⟩ = some (.int .i64 n) := by rw [HW.out]; simp [go_sem]
  have d1 : W.cell? ⟨w.heap.size, 1, none⟩ = some (.slice s1 l.length c1) := by rw [HW.out]; simp [go_sem]
  have dl : w.heap.size < W.heap.size := World.block_lt_of_cell? W _ d0
  have e0 : W.cell? ⟨w.heap.size + 1, 0, none⟩ = some (.int .i64 n) := by rw [HW.out]; simp [go_sem]
  have e1 : W.cell? ⟨w.heap.size + 1, 1, none⟩ = some (.slice s2 l.length c2) := by rw [HW.out]; simp [go_sem]
  have el : w.heap.size + 1 < W.heap.size := World.block_lt_of_cell? W _ e0
  go_wp2
  go_loopw [23] (fun i wr => ∃ k : Nat, k ≤ l.length ∧ i = .int .i64 k ∧ Below W.heap.size W wr) (fun i _ => l.length - (intOf i).toNat)
  case atStart => exact ⟨0, by omega, rfl, Below.refl _ _⟩
  case round =>
    obtain ⟨k, hk, rfl, hR⟩ := hrel
    try replace hB := up_of hR hB
    try replace d0 := up_of hR d0
    try replace d1 := up_of hR d1
    try replace dl := up_of hR dl
    try replace e0 := up_of hR e0
    try replace e1 := up_of hR e1
    try replace el := up_of hR el
    by_cases hlt : k < l.length
    · obtain ⟨b1, o1, rfl, hb1, p0, p1, p2, p3⟩ := (Up.iq hB h1.out).at hlt
      obtain ⟨b2, o2, rfl, hb2, q0, q1, q2, q3⟩ := (Up.iq hB h2.out).at hlt
      have g1 : (0 : Int) ≤ (k : Int) := by omega
      have g2 : (k : Int) < (l.length : Int) := by omega
      have he := fun w => iq_self l[k] w
      go_upto_region 6 with (fail)
      refine region_q (by kernel_rfl) (by kernel_rfl) ?_
      dsimp only [List.toList_toArray]
      repeat (first
       | go_big_quiet_skip
       | (go_big_quiet_want
          first
          | (refine qq_det ?_
             apply Exists.intro; refine ⟨fun W' hW' => ?_, ?_⟩
             (· have hk := cellB hW'; go_simp; try (first | rfl | rw [if_pos (by omega)]))
             simp only [Act.put, List.setIfInBounds_toArray, List.set_cons_zero, List.set_cons_succ]; go_big_quiet_on)))
      refine wpQuiet_nil ?_
      intro W1 hb
      try replace hR := up_of hb hR
      go_wp2
      go_roundw
      case rel => exact ⟨k + 1, by omega, rfl, hR⟩
      case measure => exact meas hlt
    · obtain rfl : k = l.length := by omega
      go_wp2
      go_ret
      exact ⟨rfl, hB⟩
end Go.Proofs.Ytadmnlkgefbhcaa

/- The domain that is turned: the reference. -/
namespace Go.Proofs.Ytadmnlkgefbhcaa
open Go.RowKit

theorem TurnPoint_e (n : Int) (a p : Pt) (w : World) (hn : 0 ≤ n ∧ n ≤ 3) (hp : ∀ i : Nat, (i : Int) < n → 0 ≤ p.get i ∧ p.get i < 3) {q : Pt} (hq : turnP n p a = q) :
    Calls Try.prog 41 #[.agg #[.int .i64 a.x, .int .i64 a.y, .int .i64 a.z], .agg #[.int .i64 p.x, .int .i64 p.y, .int .i64 p.z], .int .i64 n] w fun e w' => e = .returned (.agg #[.int .i64 q.x, .int .i64 q.y, .int .i64 q.z]) ∧ Below w.heap.size w w' := by
  subst hq; exact TurnPoint_c n a p w hn hp
theorem turn_take (n : Int) (p : Pt) (l : List Iq) {k : Nat} (hk : k < l.length) : iqCells ((turnL n p l).take (k + 1)) = iqCells ((turnL n p l).take k) ++ [.int .i64 (turnP n p l[k].a).x, .int .i64 (turnP n p l[k].a).y, .int .i64 (turnP n p l[k].a).z, .int .i64 l[k].b] := by
  have hk2 : k < (turnL n p l).length := by rw [turn_len]; exact hk
  rw [List.take_succ_eq_append_getElem hk2]
  simp [iqCells, turnL, turnQ, Iq.cells]

set_option maxRecDepth 100000 in
set_option maxHeartbeats 4000000 in
theorem rTurned_c (n : Int) (s : Option Addr) (cs : Nat) (l : List Iq) (p : Pt) (w : World) (h : Dom w s l) :
    Calls Try.prog 53 #[.agg #[.int .i64 n, .slice s l.length cs], .agg #[.int .i64 p.x, .int .i64 p.y, .int .i64 p.z]] w (DomRet (turnN n l p) (turnR n l p) (turnE n l p) w) := by
  have hlen := h.len
  cases h1 : validB n l
  · rw [show turnN n l p = 0 by simp [turnN, turnE, h1], show turnR n l p = [] by simp [turnR, turnE, h1], show turnE n l p = 10 by simp [turnE, h1]]
    go_enter Try.func53, Try.ntmps53
    go_upto_region 1 with (fail)
    refine wp_world fun W HW => ?_
    have hB : Below w.heap.size w W := by rw [HW.out]; (repeat (first | exact Below.refl _ _ | refine Below.alloc ?_ (by simp; try omega) _ | refine Below.setCell ?_ (by simp) _ | refine Below.drew ?_))
    have d0 : W.cell? ⟨w.heap.size, 0, none⟩ = some (.int .i64 n) := by rw [HW.out]; simp [go_sem]
    have d1 : W.cell? ⟨w.heap.size, 1, none⟩ = some (.slice s l.length cs) := by rw [HW.out]; simp [go_sem]
    have dl : w.heap.size < W.heap.size := World.block_lt_of_cell? W _ d0
    have o0 : W.cell? ⟨w.heap.size + 1, 0, none⟩ = some (.int .i64 p.x) := by rw [HW.out]; simp [go_sem]
    have o1 : W.cell? ⟨w.heap.size + 1, 1, none⟩ = some (.int .i64 p.y) := by rw [HW.out]; simp [go_sem]
    have o2 : W.cell? ⟨w.heap.size + 1, 2, none⟩ = some (.int .i64 p.z) := by rw [HW.out]; simp [go_sem]
    have ol : w.heap.size + 1 < W.heap.size := World.block_lt_of_cell? W _ o0
    have rB : Row W (w.heap.size + 2) 24 #[.int .i64 0, .slice none 0 0] := (by rw [HW.out]; (repeat (first | (refine blk_new ?_; simp; done) | refine blk_old ?_ _)) : W.heap[w.heap.size + 2]? = some (.cells #[.int .i64 0, .slice none 0 0] 24 (0, 0)))
    have r0 : W.cell? ⟨w.heap.size + 2, 0, none⟩ = some (.int .i64 0) := by rw [HW.out]; simp [go_sem]
    have r1 : W.cell? ⟨w.heap.size + 2, 1, none⟩ = some (.slice none 0 0) := by rw [HW.out]; simp [go_sem]
    have rl : w.heap.size + 2 < W.heap.size := World.block_lt_of_cell? W _ r0
    try replace h := up_of hB h
    go_upto_region 2 with (first | (go_at_call 47; refine (rValid_t _ _ _ _ _ h).mono ?_; rintro e W1 ⟨rfl, hb⟩; (try replace h := up_of hb h); (try replace hB := up_of hb hB); (try replace d0 := up_of hb d0); (try replace d1 := up_of hb d1); (try replace dl := up_of hb dl); (try replace o0 := up_of hb o0); (try replace o1 := up_of hb o1); (try replace o2 := up_of hb o2); (try replace ol := up_of hb ol); (try replace rB := up_of hb rB); (try replace r0 := up_of hb r0); (try replace r1 := up_of hb r1); (try replace rl := up_of hb rl)))
    have rf := fun i => Row.frozen rB i
    go_wp2
    refine dom_end rfl none 0 (b1 := w.heap.size + 2) rfl rfl ?_ (World.ownsRow_nil _ _ _ _) ?_
    · refine Row.of ?_
      repeat (first | (with_reducible refine RowG.base rB ?_) | (with_reducible refine RowG.drew ?_) | (with_reducible refine RowG.set ?_) | ((with_reducible refine RowG.other ?_ ?_); (focus (first | omega | (simp; done) | (simp; omega)))) | (with_reducible refine RowG.alloc ?_))
      rfl
    · repeat (first | (with_reducible exact hB) | (with_reducible refine Below.drew ?_) | ((with_reducible refine Below.setC ?_ ?_); (focus (first | omega | (simp; done) | (simp; omega)))) | ((with_reducible refine Below.allo ?_ ?_); (focus (first | omega | (simp; done) | (simp; omega)))))
  have hn : 1 ≤ n ∧ n ≤ 3 := by simp only [validB, Bool.and_eq_true, bw_iff] at h1; exact h1.1
  have hl6 : l.length ≤ 6 := by simp only [validB, Bool.and_eq_true, decide_eq_true_eq] at h1; exact h1.2.1
  cases hord : isOrd n p
  · rw [show turnN n l p = 0 by simp [turnN, turnE, h1, hord], show turnR n l p = [] by simp [turnR, turnE, h1, hord], show turnE n l p = 2 by simp [turnE, h1, hord]]
    go_enter Try.func53, Try.ntmps53
    go_upto_region 1 with (fail)
    refine wp_world fun W HW => ?_
    have hB : Below w.heap.size w W := by rw [HW.out]; (repeat (first | exact Below.refl _ _ | refine Below.alloc ?_ (by simp; try omega) _ | refine Below.setCell ?_ (by simp) _ | refine Below.drew ?_))
    have d0 : W.cell? ⟨w.heap.size, 0, none⟩ = some (.int .i64 n) := by rw [HW.out]; simp [go_sem]
    have d1 : W.cell? ⟨w.heap.size, 1, none⟩ = some (.slice s l.length cs) := by rw [HW.out]; simp [go_sem]
    have dl : w.heap.size < W.heap.size := World.block_lt_of_cell? W _ d0
    have o0 : W.cell? ⟨w.heap.size + 1, 0, none⟩ = some (.int .i64 p.x) := by rw [HW.out]; simp [go_sem]
    have o1 : W.cell? ⟨w.heap.size + 1, 1, none⟩ = some (.int .i64 p.y) := by rw [HW.out]; simp [go_sem]
    have o2 : W.cell? ⟨w.heap.size + 1, 2, none⟩ = some (.int .i64 p.z) := by rw [HW.out]; simp [go_sem]
    have ol : w.heap.size + 1 < W.heap.size := World.block_lt_of_cell? W _ o0
    have rB : Row W (w.heap.size + 2) 24 #[.int .i64 0, .slice none 0 0] := (by rw [HW.out]; (repeat (first | (refine blk_new ?_; simp; done) | refine blk_old ?_ _)) : W.heap[w.heap.size + 2]? = some (.cells #[.int .i64 0, .slice none 0 0] 24 (0, 0)))
    have r0 : W.cell? ⟨w.heap.size + 2, 0, none⟩ = some (.int .i64 0) := by rw [HW.out]; simp [go_sem]
    have r1 : W.cell? ⟨w.heap.size + 2, 1, none⟩ = some (.slice none 0 0) := by rw [HW.out]; simp [go_sem]
    have rl : w.heap.size + 2 < W.heap.size := World.block_lt_of_cell? W _ r0
    try replace h := up_of hB h
    go_upto_region 4 with (first | (go_at_call 47; refine (rValid_t _ _ _ _ _ h).mono ?_; rintro e W1 ⟨rfl, hb⟩; (try replace h := up_of hb h); (try replace hB := up_of hb hB); (try replace d0 := up_of hb d0); (try replace d1 := up_of hb d1); (try replace dl := up_of hb dl); (try replace o0 := up_of hb o0); (try replace o1 := up_of hb o1); (try replace o2 := up_of hb o2); (try replace ol := up_of hb ol); (try replace rB := up_of hb rB); (try replace r0 := up_of hb r0); (try replace r1 := up_of hb r1); (try replace rl := up_of hb rl)) | (go_at_call 38; refine (IsOrder_c _ _ _ hn).mono ?_; rintro e W1 ⟨rfl, hb⟩; (try replace h := up_of hb h); (try replace hB := up_of hb hB); (try replace d0 := up_of hb d0); (try replace d1 := up_of hb d1); (try replace dl := up_of hb dl); (try replace o0 := up_of hb o0); (try replace o1 := up_of hb o1); (try replace o2 := up_of hb o2); (try replace ol := up_of hb ol); (try replace rB := up_of hb rB); (try replace r0 := up_of hb r0); (try replace r1 := up_of hb r1); (try replace rl := up_of hb rl)))
    have rf := fun i => Row.frozen rB i
    go_wp2
    refine dom_end rfl none 0 (b1 := w.heap.size + 2) rfl rfl ?_ (World.ownsRow_nil _ _ _ _) ?_
    · refine Row.of ?_
      repeat (first | (with_reducible refine RowG.base rB ?_) | (with_reducible refine RowG.drew ?_) | (with_reducible refine RowG.set ?_) | ((with_reducible refine RowG.other ?_ ?_); (focus (first | omega | (simp; done) | (simp; omega)))) | (with_reducible refine RowG.alloc ?_))
      rfl
    · repeat (first | (with_reducible exact hB) | (with_reducible refine Below.drew ?_) | ((with_reducible refine Below.setC ?_ ?_); (focus (first | omega | (simp; done) | (simp; omega)))) | ((with_reducible refine Below.allo ?_ ?_); (focus (first | omega | (simp; done) | (simp; omega)))))
  rw [show turnN n l p = n by simp [turnN, turnE, h1, hord], show turnR n l p = turnL n p l by simp [turnR, turnE, h1, hord], show turnE n l p = 0 by simp [turnE, h1, hord]]
  have hog : ∀ i : Nat, (i : Int) < n → 0 ≤ p.get i ∧ p.get i < 3 := fun i hi => by have := ord_get hn hord hi; omega
  have hn3 : 0 ≤ n ∧ n ≤ 3 := by omega
  obtain ⟨tR, hTR⟩ : ∃ x, turnL n p l = x := ⟨_, rfl⟩
  have htk := fun k (hk : k < l.length) => turn_take n p l hk
  have hlR := turn_len n p l
  rw [hTR] at htk hlR ⊢
  replace hTR := Lib.hid hTR; replace htk := Lib.hid htk; replace hlR := Lib.hid hlR; replace hog := Lib.hid hog; replace hl6 := Lib.hid hl6
  have h0 := Lib.hid h
  obtain ⟨i0, hi, hz0, hz1, hz2⟩ := info_parts info_iq
  go_enter Try.func53, Try.ntmps53
  go_upto_region 1 with (fail)
  refine wp_world fun W HW => ?_
  have hB : Below w.heap.size w W := by rw [HW.out]; (repeat (first | exact Below.refl _ _ | refine Below.alloc ?_ (by simp; try omega) _ | refine Below.setCell ?_ (by simp) _ | refine Below.drew ?_))
  have dB : Row W (w.heap.size) 24 #[.int .i64 n, .slice s l.length cs] := (by rw [HW.out]; (repeat (first | (refine blk_new ?_; simp; done) | refine blk_old ?_ _)) : W.heap[w.heap.size]? = some (.cells #[.int .i64 n, .slice s l.length cs] 24 (0, 0)))
  have d0 : W.cell? ⟨w.heap.size, 0, none⟩ = some (.int .i64 n) := by rw [HW.out]; simp [go_sem]
  have d1 : W.cell? ⟨w.heap.size, 1, none⟩ = some (.slice s l.length cs) := by rw [HW.out]; simp [go_sem]
  have dl : w.heap.size < W.heap.size := World.block_lt_of_cell? W _ d0
  have oB : Row W (w.heap.size + 1) 29 #[.int .i64 p.x, .int .i64 p.y, .int .i64 p.z] := (by rw [HW.out]; (repeat (first | (refine blk_new ?_; simp; done) | refine blk_old ?_ _)) : W.heap[w.heap.size + 1]? = some (.cells #[.int .i64 p.x, .int .i64 p.y, .int .i64 p.z] 29 (0, 0)))
  have o0 : W.cell? ⟨w.heap.size + 1, 0, none⟩ = some (.int .i64 p.x) := by rw [HW.out]; simp [go_sem]
  have o1 : W.cell? ⟨w.heap.size + 1, 1, none⟩ = some (.int .i64 p.y) := by rw [HW.out]; simp [go_sem]
  have o2 : W.cell? ⟨w.heap.size + 1, 2, none⟩ = some (.int .i64 p.z) := by rw [HW.out]; simp [go_sem]
  have ol : w.heap.size + 1 < W.heap.size := World.block_lt_of_cell? W _ o0
  have rB : Row W (w.heap.size + 2) 24 #[.int .i64 0, .slice none 0 0] := (by rw [HW.out]; (repeat (first | (refine blk_new ?_; simp; done) | refine blk_old ?_ _)) : W.heap[w.heap.size + 2]? = some (.cells #[.int .i64 0, .slice none 0 0] 24 (0, 0)))
  have r0 : W.cell? ⟨w.heap.size + 2, 0, none⟩ = some (.int .i64 0) := by rw [HW.out]; simp [go_sem]
  have r1 : W.cell? ⟨w.heap.size + 2, 1, none⟩ = some (.slice none 0 0) := by rw [HW.out]; simp [go_sem]
  have rl : w.heap.size + 2 < W.heap.size := World.block_lt_of_cell? W _ r0
  try replace h := up_of hB h
  go_upto_region 6 with (first | (go_at_call 47; refine (rValid_t _ _ _ _ _ h).mono ?_; rintro e W1 ⟨rfl, hb⟩; (try replace h := up_of hb h); (try replace hB := up_of hb hB); (try replace dB := up_of hb dB); (try replace d0 := up_of hb d0); (try replace d1 := up_of hb d1); (try replace dl := up_of hb dl); (try replace oB := up_of hb oB); (try replace o0 := up_of hb o0); (try replace o1 := up_of hb o1); (try replace o2 := up_of hb o2); (try replace ol := up_of hb ol); (try replace rB := up_of hb rB); (try replace r0 := up_of hb r0); (try replace r1 := up_of hb r1); (try replace rl := up_of hb rl)) | (go_at_call 38; refine (IsOrder_c _ _ _ hn).mono ?_; rintro e W2 ⟨rfl, hb⟩; (try replace h := up_of hb h); (try replace hB := up_of hb hB); (try replace dB := up_of hb dB); (try replace d0 := up_of hb d0); (try replace d1 := up_of hb d1); (try replace dl := up_of hb dl); (try replace oB := up_of hb oB); (try replace o0 := up_of hb o0); (try replace o1 := up_of hb o1); (try replace o2 := up_of hb o2); (try replace ol := up_of hb ol); (try replace rB := up_of hb rB); (try replace r0 := up_of hb r0); (try replace r1 := up_of hb r1); (try replace rl := up_of hb rl)))
  have hW2 := rl
  refine wp_world fun M HM => ?_
  have hM : Below W2.heap.size W2 M := by rw [HM.out]; (repeat (first | exact Below.refl _ _ | refine Below.alloc ?_ (by simp; try omega) _ | refine Below.setCell ?_ (by simp) _ | refine Below.drew ?_))
  have uB : Row M (W2.heap.size) 24 #[.int .i64 n, .slice none 0 0] := (by rw [HM.out]; (repeat (first | (refine blk_new ?_; simp; done) | refine blk_old ?_ _)) : M.heap[W2.heap.size]? = some (.cells #[.int .i64 n, .slice none 0 0] 24 (0, 0)))
  have u0 : M.cell? ⟨W2.heap.size, 0, none⟩ = some (.int .i64 n) := by rw [HM.out]; simp [go_sem]
  have u1 : M.cell? ⟨W2.heap.size, 1, none⟩ = some (.slice none 0 0) := by rw [HM.out]; simp [go_sem]
  have ul : W2.heap.size < M.heap.size := World.block_lt_of_cell? M _ u0
  try replace h := up_of hM h
  try replace hB := up_of hM hB
  try replace dB := up_of hM dB
  try replace d0 := up_of hM d0
  try replace d1 := up_of hM d1
  try replace dl := up_of hM dl
  try replace oB := up_of hM oB
  try replace o0 := up_of hM o0
  try replace o1 := up_of hM o1
  try replace o2 := up_of hM o2
  try replace ol := up_of hM ol
  try replace rB := up_of hM rB
  try replace r0 := up_of hM r0
  try replace r1 := up_of hM r1
  try replace rl := up_of hM rl
  go_wp2
  go_loopw [25] (fun i V => ∃ k : Nat, k ≤ l.length ∧ i = .int .i64 k ∧ ∃ v, Row V W2.heap.size 24 #[.int .i64 n, v] ∧ V.ownsRow (W2.heap.size + 1) 127 4 v k (iqCells (tR.take k)) ∧ Below w.heap.size w V ∧
    Row V w.heap.size 24 #[.int .i64 n, .slice s l.length cs] ∧ Row V (w.heap.size + 1) 29 #[.int .i64 p.x, .int .i64 p.y, .int .i64 p.z] ∧ Row V (w.heap.size + 2) 24 #[.int .i64 0, .slice none 0 0]) (fun i _ => l.length - (intOf i).toNat)
  case atStart => exact ⟨0, by omega, rfl, _, uB, World.ownsRow_nil _ _ _ _, hB, dB, oB, rB⟩
  case round =>
    clear hB dB oB rB uB d0 d1 o0 o1 o2 r0 r1 u0 u1
    obtain ⟨k, hk, rfl, v, uB, hown, hB, dB, oB, rB⟩ := hrel
    obtain ⟨d0, d1⟩ := dB.two
    obtain ⟨o0, o1, o2⟩ := oB.three
    obtain ⟨r0, r1⟩ := rB.two
    obtain ⟨u0, u1⟩ := uB.two
    obtain ⟨s3, c3, rfl, _⟩ := owns_shape hown
    have hus := uB.lt
    by_cases hlt : k < l.length
    · obtain ⟨b1, of1, rfl, hb1, q0, q1, q2, q3⟩ := (Up.iq hB h0.out.iq).at hlt
      have g1 : (0 : Int) ≤ (k : Int) := by omega
      have g2 : (k : Int) < (l.length : Int) := by omega
      have e1 := htk.out k hlt
      obtain ⟨ta, hta⟩ : ∃ ta, turnP n p l[k].a = ta := ⟨_, rfl⟩
      rw [hta] at e1
      replace e1 := Lib.hid e1; replace hta := Lib.hid hta
      have hk6 : k < 6 := by have := hl6.out; omega
      have hown0 := hown
      go_upto_region 9 with (fail)
      refine wp_world fun Y HY => ?_
      have hY : Below wr.heap.size wr Y := by rw [HY.out]; (repeat (first | exact Below.refl _ _ | refine Below.alloc ?_ (by simp; try omega) _ | refine Below.setCell ?_ (by simp) _ | refine Below.drew ?_))
      have qB : Row Y (wr.heap.size) 127 #[.int .i64 l[k].a.x, .int .i64 l[k].a.y, .int .i64 l[k].a.z, .int .i64 l[k].b] := (by rw [HY.out]; (repeat (first | (refine blk_new ?_; simp; done) | refine blk_old ?_ _)) : Y.heap[wr.heap.size]? = some (.cells #[.int .i64 l[k].a.x, .int .i64 l[k].a.y, .int .i64 l[k].a.z, .int .i64 l[k].b] 127 (0, 0)))
      have q0 : Y.cell? ⟨wr.heap.size, 0, none⟩ = some (.int .i64 l[k].a.x) := by rw [HY.out]; simp [go_sem]
      have q1 : Y.cell? ⟨wr.heap.size, 1, none⟩ = some (.int .i64 l[k].a.y) := by rw [HY.out]; simp [go_sem]
      have q2 : Y.cell? ⟨wr.heap.size, 2, none⟩ = some (.int .i64 l[k].a.z) := by rw [HY.out]; simp [go_sem]
      have q3 : Y.cell? ⟨wr.heap.size, 3, none⟩ = some (.int .i64 l[k].b) := by rw [HY.out]; simp [go_sem]
      have ql : wr.heap.size < Y.heap.size := World.block_lt_of_cell? Y _ q0
      try replace hown := up_of hY hown
      try replace hB := up_of hY hB
      try replace dB := up_of hY dB
      try replace oB := up_of hY oB
      try replace rB := up_of hY rB
      try replace uB := up_of hY uB
      try replace d0 := up_of hY d0
      try replace d1 := up_of hY d1
      try replace o0 := up_of hY o0
      try replace o1 := up_of hY o1
      try replace o2 := up_of hY o2
      try replace r0 := up_of hY r0
      try replace r1 := up_of hY r1
      try replace u0 := up_of hY u0
      try replace u1 := up_of hY u1
      have hYs := hY.size
      have hvb : ∀ j, Value.ownBlock (.slice s3 k c3) = some j → j < wr.heap.size := fun j e => (hown0.lt j e).2
      refine wpL.region (m := 14) (S := fun V => V.cell? ⟨W2.heap.size, 1, none⟩ = some (.slice s3 k c3) ∧ V.cell? ⟨wr.heap.size, 0, none⟩ = some (.int .i64 l[k].a.x) ∧ V.cell? ⟨wr.heap.size, 1, none⟩ = some (.int .i64 l[k].a.y) ∧ V.cell? ⟨wr.heap.size, 2, none⟩ = some (.int .i64 l[k].a.z) ∧ V.cell? ⟨w.heap.size + 1, 0, none⟩ = some (.int .i64 p.x) ∧ V.cell? ⟨w.heap.size + 1, 1, none⟩ = some (.int .i64 p.y) ∧ V.cell? ⟨w.heap.size + 1, 2, none⟩ = some (.int .i64 p.z) ∧ V.cell? ⟨w.heap.size, 0, none⟩ = some (.int .i64 n) ∧ V.cell? ⟨wr.heap.size, 3, none⟩ = some (.int .i64 l[k].b)) (by kernel_rfl) ?_ (fun hHeld => ?_)
      (focus ((first | exact ⟨u1, q0, q1, q2, o0, o1, o2, d0, q3⟩ | ((first | (with_reducible exact ⟨u1, q0, q1, q2, o0, o1, o2, d0, q3⟩) | ((try dsimp only); (repeat' apply And.intro) <;> (repeat (first | (with_reducible assumption) | (with_reducible refine cell_set (by simp; try omega) ?_) | (with_reducible refine cell_drew ?_) | (with_reducible refine cell_alloc ?_ _))))))); done))
      refine wpL.take' (i := 0) rfl (by kernel_rfl) (by kernel_rfl) (by kernel_rfl) (by kernel_rfl) (by decide) (by kernel_rfl) (by assumption) ?_
      apply Exists.intro; refine ⟨fun _ _ _ h => h, Or.inl ⟨by rfl, fun V hV => ?_⟩, ?_⟩
      (focus ((try dsimp only at hV); go_simp; (try (with_reducible rfl)); done))
      try simp only [Act.put, List.setIfInBounds_toArray, List.set_cons_zero, List.set_cons_succ]
      refine wpL.take' (i := 1) rfl (by kernel_rfl) (by kernel_rfl) (by kernel_rfl) (by kernel_rfl) (by decide) (by kernel_rfl) (by assumption) ?_
      apply Exists.intro; refine ⟨fun _ _ _ h => h, Or.inl ⟨by rfl, fun V hV => ?_⟩, ?_⟩
      (focus ((try dsimp only at hV); go_simp; (try (with_reducible rfl)); done))
      try simp only [Act.put, List.setIfInBounds_toArray, List.set_cons_zero, List.set_cons_succ]
      refine wpL.take' (i := 2) rfl (by kernel_rfl) (by kernel_rfl) (by kernel_rfl) (by kernel_rfl) (by decide) (by kernel_rfl) (by assumption) ?_
      apply Exists.intro; refine ⟨fun _ _ _ h => h, Or.inl ⟨by rfl, fun V hV => ?_⟩, ?_⟩
      (focus ((try dsimp only at hV); go_simp; (try (with_reducible rfl)); done))
      try simp only [Act.put, List.setIfInBounds_toArray, List.set_cons_zero, List.set_cons_succ]
      refine wpL.take' (i := 3) rfl (by kernel_rfl) (by kernel_rfl) (by kernel_rfl) (by kernel_rfl) (by decide) (by kernel_rfl) (by assumption) ?_
      apply Exists.intro; refine ⟨fun _ _ _ h => h, Or.inl ⟨by rfl, fun V hV => ?_⟩, ?_⟩
      (focus ((try dsimp only at hV); go_simp; (try (with_reducible rfl)); done))
      try simp only [Act.put, List.setIfInBounds_toArray, List.set_cons_zero, List.set_cons_succ]
      refine wpL.take' (i := 4) rfl (by kernel_rfl) (by kernel_rfl) (by kernel_rfl) (by kernel_rfl) (by decide) (by kernel_rfl) (by assumption) ?_
      apply Exists.intro; refine ⟨fun _ _ _ h => h, Or.inl ⟨by rfl, fun V hV => ?_⟩, ?_⟩
      (focus ((try dsimp only at hV); go_simp; (try (with_reducible rfl)); done))
      try simp only [Act.put, List.setIfInBounds_toArray, List.set_cons_zero, List.set_cons_succ]
      refine wpL.take' (i := 5) rfl (by kernel_rfl) (by kernel_rfl) (by kernel_rfl) (by kernel_rfl) (by decide) (by kernel_rfl) (by assumption) ?_
      apply Exists.intro; refine ⟨fun _ _ _ h => h, Or.inl ⟨by rfl, fun V hV => ?_⟩, ?_⟩
      (focus ((try dsimp only at hV); go_simp; (try (with_reducible rfl)); done))
      try simp only [Act.put, List.setIfInBounds_toArray, List.set_cons_zero, List.set_cons_succ]
      refine wpL.take' (i := 6) rfl (by kernel_rfl) (by kernel_rfl) (by kernel_rfl) (by kernel_rfl) (by decide) (by kernel_rfl) (by assumption) ?_
      apply Exists.intro; refine ⟨fun _ _ _ h => h, Or.inl ⟨by rfl, fun V hV => ?_⟩, ?_⟩
      (focus ((try dsimp only at hV); go_simp; (try (with_reducible rfl)); done))
      try simp only [Act.put, List.setIfInBounds_toArray, List.set_cons_zero, List.set_cons_succ]
      refine wpL.take' (i := 8) rfl (by kernel_rfl) (by kernel_rfl) (by kernel_rfl) (by kernel_rfl) (by decide) (by kernel_rfl) (by assumption) ?_
      apply Exists.intro; refine ⟨fun _ _ _ h => h, Or.inl ⟨by rfl, fun V hV => ?_⟩, ?_⟩
      (focus ((try dsimp only at hV); go_simp; (try (with_reducible rfl)); done))
      try simp only [Act.put, List.setIfInBounds_toArray, List.set_cons_zero, List.set_cons_succ]
      refine wpL.take' (i := 9) rfl (by kernel_rfl) (by kernel_rfl) (by kernel_rfl) (by kernel_rfl) (by decide) (by kernel_rfl) (by assumption) ?_
      apply Exists.intro; refine ⟨fun _ _ _ h => h, Or.inl ⟨by rfl, fun V hV => ?_⟩, ?_⟩
      (focus ((try dsimp only at hV); go_simp; (try (with_reducible rfl)); done))
      try simp only [Act.put, List.setIfInBounds_toArray, List.set_cons_zero, List.set_cons_succ]
      refine wpL.one (i := 7) (by kernel_rfl) rfl fun K hK => ?_
      rw [if_pos (by rfl)]
      go_simp
      ((first | (go_at_call 41; refine calls_below (W0 := Y) ?_ fun hpre => ?_; (repeat (first | exact Below.refl _ _ | refine Below.alloc ?_ (by simp; try omega) _ | refine Below.drew ?_)); refine (TurnPoint_e n l[k].a p _ hn3 hog.out hta.out).mono ?_; rintro e N1 ⟨rfl, hb1⟩; have hb := Up.trans hpre hb1; clear hpre; (first | have hs_N1 := below_alloc_lt hb1 | have hs_N1 := below_alloc_lt (drewB hb1) | skip); have ql_N1 := ql; (try replace hown := up_of hb hown); (try replace hB := up_of hb hB); (try replace dB := up_of hb dB); (try replace oB := up_of hb oB); (try replace rB := up_of hb rB); (try replace uB := up_of hb uB); (try replace d0 := up_of hb d0); (try replace d1 := up_of hb d1); (try replace o0 := up_of hb o0); (try replace o1 := up_of hb o1); (try replace o2 := up_of hb o2); (try replace r0 := up_of hb r0); (try replace r1 := up_of hb r1); (try replace u0 := up_of hb u0); (try replace u1 := up_of hb u1); (try replace hY := up_of hb hY); (try replace qB := up_of hb qB); (try replace q0 := up_of hb q0); (try replace q1 := up_of hb q1); (try replace q2 := up_of hb q2); (try replace q3 := up_of hb q3); (try replace ql := up_of hb ql); (first | have nB := new_up hb1 | have nB := new_up (drewB hb1) | (try replace nB := up_of hb nB))) | (refine step_append_lies _ (by rfl) _ _ 22 (by rfl) (W2.heap.size + 1) 127 i0 (.agg #[.int .i64 0, .int .i64 0, .int .i64 0, .int .i64 0]) 4 32 Try.underlying22 hi hz0 hz1 hz2 rfl (by decide) _ _ _ (by rfl) (hown.alloc _) ⟨N1.heap.size, 0, none⟩ 1 1 [.int .i64 ta.x, .int .i64 ta.y, .int .i64 ta.z, .int .i64 l[k].b] (by rfl) (by rfl) (news_new _ _ _) (by simp [Value.oneCell']) (by decide) (by unfold maxLen; omega) (by omega) (by simp; omega) (N1.heap.size + 1) (by simp) ?_; intro gg cap w1 hown1 hgrow hat hlt2; replace uB := grown_row hgrow hown (by omega) uB; replace dB := grown_row hgrow hown (by omega) dB; replace oB := grown_row hgrow hown (by omega) oB; replace rB := grown_row hgrow hown (by omega) rB; obtain ⟨u0, u1⟩ := uB.two; obtain ⟨d0, d1⟩ := dB.two; obtain ⟨o0, o1, o2⟩ := oB.three; have uf := uB.frozen 1; replace q0 := grown_keep hgrow hvb (Nat.le_refl _) q0; replace q1 := grown_keep hgrow hvb (Nat.le_refl _) q1; replace q2 := grown_keep hgrow hvb (Nat.le_refl _) q2; replace q3 := grown_keep hgrow hvb (Nat.le_refl _) q3)))
      try clear hHeld
      refine hK.out _ _ ?_ (fun hHeld => ?_)
      (focus ((first | exact ⟨u1, q0, q1, q2, o0, o1, o2, d0, q3⟩ | ((first | (with_reducible exact ⟨u1, q0, q1, q2, o0, o1, o2, d0, q3⟩) | ((try dsimp only); (repeat' apply And.intro) <;> (repeat (first | (with_reducible assumption) | (with_reducible refine cell_set (by simp; try omega) ?_) | (with_reducible refine cell_drew ?_) | (with_reducible refine cell_alloc ?_ _))))))); done))
      clear hK K
      try simp only [Act.put, List.setIfInBounds_toArray, List.set_cons_zero, List.set_cons_succ]
      refine wpL.take' (i := 10) rfl (by kernel_rfl) (by kernel_rfl) (by kernel_rfl) (by kernel_rfl) (by decide) (by kernel_rfl) (by assumption) ?_
      apply Exists.intro; refine ⟨fun _ _ _ h => h, Or.inl ⟨by rfl, fun V hV => ?_⟩, ?_⟩
      (focus ((try dsimp only at hV); go_simp; (try (with_reducible rfl)); done))
      try simp only [Act.put, List.setIfInBounds_toArray, List.set_cons_zero, List.set_cons_succ]
      refine wpL.one (i := 11) (by kernel_rfl) rfl fun K hK => ?_
      rw [if_pos (by rfl)]
      go_simp
      try clear hHeld
      refine hK.out _ _ ?_ (fun hHeld => ?_)
      (focus ((first | exact ⟨u1, q0, q1, q2, o0, o1, o2, d0, q3⟩ | ((first | (with_reducible exact ⟨u1, q0, q1, q2, o0, o1, o2, d0, q3⟩) | ((try dsimp only); (repeat' apply And.intro) <;> (repeat (first | (with_reducible assumption) | (with_reducible refine cell_set (by simp; try omega) ?_) | (with_reducible refine cell_drew ?_) | (with_reducible refine cell_alloc ?_ _))))))); done))
      clear hK K
      try simp only [Act.put, List.setIfInBounds_toArray, List.set_cons_zero, List.set_cons_succ]
      refine wpL.one (i := 12) (by kernel_rfl) rfl fun K hK => ?_
      ((first | (go_at_call 41; refine calls_below (W0 := Y) ?_ fun hpre => ?_; (repeat (first | exact Below.refl _ _ | refine Below.alloc ?_ (by simp; try omega) _ | refine Below.drew ?_)); refine (TurnPoint_e n l[k].a p _ hn3 hog.out hta.out).mono ?_; rintro e N1 ⟨rfl, hb1⟩; have hb := Up.trans hpre hb1; clear hpre; (first | have hs_N1 := below_alloc_lt hb1 | have hs_N1 := below_alloc_lt (drewB hb1) | skip); have ql_N1 := ql; (try replace hown := up_of hb hown); (try replace hB := up_of hb hB); (try replace dB := up_of hb dB); (try replace oB := up_of hb oB); (try replace rB := up_of hb rB); (try replace uB := up_of hb uB); (try replace d0 := up_of hb d0); (try replace d1 := up_of hb d1); (try replace o0 := up_of hb o0); (try replace o1 := up_of hb o1); (try replace o2 := up_of hb o2); (try replace r0 := up_of hb r0); (try replace r1 := up_of hb r1); (try replace u0 := up_of hb u0); (try replace u1 := up_of hb u1); (try replace hY := up_of hb hY); (try replace qB := up_of hb qB); (try replace q0 := up_of hb q0); (try replace q1 := up_of hb q1); (try replace q2 := up_of hb q2); (try replace q3 := up_of hb q3); (try replace ql := up_of hb ql); (first | have nB := new_up hb1 | have nB := new_up (drewB hb1) | (try replace nB := up_of hb nB))) | (refine step_append_lies _ (by rfl) _ _ 22 (by rfl) (W2.heap.size + 1) 127 i0 (.agg #[.int .i64 0, .int .i64 0, .int .i64 0, .int .i64 0]) 4 32 Try.underlying22 hi hz0 hz1 hz2 rfl (by decide) _ _ _ (by rfl) (hown.alloc _) ⟨N1.heap.size, 0, none⟩ 1 1 [.int .i64 ta.x, .int .i64 ta.y, .int .i64 ta.z, .int .i64 l[k].b] (by rfl) (by rfl) (news_new _ _ _) (by simp [Value.oneCell']) (by decide) (by unfold maxLen; omega) (by omega) (by simp; omega) (N1.heap.size + 1) (by simp) ?_; intro gg cap w1 hown1 hgrow hat hlt2; replace uB := grown_row hgrow hown (by omega) uB; replace dB := grown_row hgrow hown (by omega) dB; replace oB := grown_row hgrow hown (by omega) oB; replace rB := grown_row hgrow hown (by omega) rB; obtain ⟨u0, u1⟩ := uB.two; obtain ⟨d0, d1⟩ := dB.two; obtain ⟨o0, o1, o2⟩ := oB.three; have uf := uB.frozen 1; replace q0 := grown_keep hgrow hvb (Nat.le_refl _) q0; replace q1 := grown_keep hgrow hvb (Nat.le_refl _) q1; replace q2 := grown_keep hgrow hvb (Nat.le_refl _) q2; replace q3 := grown_keep hgrow hvb (Nat.le_refl _) q3)))
      try clear hHeld
      refine hK.out _ _ ?_ (fun hHeld => ?_)
      (focus ((first | exact ⟨u1, q0, q1, q2, o0, o1, o2, d0, q3⟩ | ((first | (with_reducible exact ⟨u1, q0, q1, q2, o0, o1, o2, d0, q3⟩) | ((try dsimp only); (repeat' apply And.intro) <;> (repeat (first | (with_reducible assumption) | (with_reducible refine cell_set (by simp; try omega) ?_) | (with_reducible refine cell_drew ?_) | (with_reducible refine cell_alloc ?_ _))))))); done))
      clear hK K
      try simp only [Act.put, List.setIfInBounds_toArray, List.set_cons_zero, List.set_cons_succ]
      refine wpL.take' (i := 13) rfl (by kernel_rfl) (by kernel_rfl) (by kernel_rfl) (by kernel_rfl) (by decide) (by kernel_rfl) (by assumption) ?_
      apply Exists.intro; refine ⟨fun _ _ _ h => h, Or.inl ⟨by rfl, fun V hV => ?_⟩, ?_⟩
      (focus ((try dsimp only at hV); go_simp; (try (with_reducible rfl)); done))
      try simp only [Act.put, List.setIfInBounds_toArray, List.set_cons_zero, List.set_cons_succ]
      refine wpL.last (by kernel_rfl) (by kernel_rfl) rfl fun K hK => ?_
      rw [if_pos (by rfl)]
      go_simp
      refine hK.out _ _ (wpL.fin (by kernel_rfl) ?_ _)
      clear hK K
      try simp only [Act.put, List.setIfInBounds_toArray, List.set_cons_zero, List.set_cons_succ]
      all_goals
        go_wp2
        go_roundw
        case rel =>
          refine ⟨k + 1, by omega, rfl, .slice (some ⟨gg, 0, none⟩) (k + 1) cap, ?_, ?_, ?_, ?_, ?_, ?_⟩
          · refine Row.of ?_
            repeat (first | (with_reducible refine RowG.base uB ?_) | (with_reducible refine RowG.drew ?_) | (with_reducible refine RowG.set ?_) | ((with_reducible refine RowG.other ?_ ?_); (focus (first | omega | (simp; done) | (simp; omega)))) | (with_reducible refine RowG.alloc ?_))
            rfl
          · rw [e1.out]
            refine own_chg (p := fun j => j = W2.heap.size) ?_ (fun j hj e => by omega) hown1
            repeat (first | (with_reducible exact Chg.refl _ _) | (with_reducible refine Chg.setCell ?_ (by simp) _) | (with_reducible refine Chg.drew ?_) | (with_reducible refine Chg.alloc ?_ _))
          · have hB1 := hB.trans (((Below.refl _ _).alloc hB.size _).grown hgrow (by simp; omega) (fun j e => by have := (hown.lt j e).1; omega))
            repeat (first | (with_reducible exact hB1) | (with_reducible refine Below.drew ?_) | ((with_reducible refine Below.setC ?_ ?_); (focus (first | omega | (simp; done) | (simp; omega)))) | ((with_reducible refine Below.allo ?_ ?_); (focus (first | omega | (simp; done) | (simp; omega)))))
          · refine Row.of ?_
            repeat (first | (with_reducible refine RowG.base dB ?_) | (with_reducible refine RowG.drew ?_) | (with_reducible refine RowG.set ?_) | ((with_reducible refine RowG.other ?_ ?_); (focus (first | omega | (simp; done) | (simp; omega)))) | (with_reducible refine RowG.alloc ?_))
            rfl
          · refine Row.of ?_
            repeat (first | (with_reducible refine RowG.base oB ?_) | (with_reducible refine RowG.drew ?_) | (with_reducible refine RowG.set ?_) | ((with_reducible refine RowG.other ?_ ?_); (focus (first | omega | (simp; done) | (simp; omega)))) | (with_reducible refine RowG.alloc ?_))
            rfl
          · refine Row.of ?_
            repeat (first | (with_reducible refine RowG.base rB ?_) | (with_reducible refine RowG.drew ?_) | (with_reducible refine RowG.set ?_) | ((with_reducible refine RowG.other ?_ ?_); (focus (first | omega | (simp; done) | (simp; omega)))) | (with_reducible refine RowG.alloc ?_))
            rfl
        case measure => exact meas hlt
    · obtain rfl : k = l.length := by omega
      have hlR2 := hlR.out
      rw [← hlR2, List.take_of_length_le (Nat.le_refl _)] at hown
      rw [← hlR2] at uB u1
      have rf := fun i => Row.frozen rB i
      clear hlR2
      go_wp2
      refine dom_end rfl s3 c3 (b1 := w.heap.size + 2) rfl rfl ?_ ?_ ?_
      · refine Row.of ?_
        repeat (first | (with_reducible refine RowG.base rB ?_) | (with_reducible refine RowG.drew ?_) | (with_reducible refine RowG.set ?_) | ((with_reducible refine RowG.other ?_ ?_); (focus (first | omega | (simp; done) | (simp; omega)))) | (with_reducible refine RowG.alloc ?_))
        rfl
      · refine owns_mono (own_chg (p := fun j => j = w.heap.size + 2) ?_ (fun j hj e => by omega) hown) (by omega)
        repeat (first | (with_reducible exact Chg.refl _ _) | (with_reducible refine Chg.setCell ?_ (by simp) _) | (with_reducible refine Chg.drew ?_) | (with_reducible refine Chg.alloc ?_ _))
      · repeat (first | (with_reducible exact hB) | (with_reducible refine Below.drew ?_) | ((with_reducible refine Below.setC ?_ ?_); (focus (first | omega | (simp; done) | (simp; omega)))) | ((with_reducible refine Below.allo ?_ ?_); (focus (first | omega | (simp; done) | (simp; omega)))))
end Go.Proofs.Ytadmnlkgefbhcaa
