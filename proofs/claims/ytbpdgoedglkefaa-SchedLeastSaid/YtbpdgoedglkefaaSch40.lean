/- The program's iterator over all forms. -/
import Derived.Test.YtbpdgoedglkefaaIterX
import Derived.Test.YtbpdgoedglkefaaSchBst2
import Derived.LoopNIn
import Derived.Sort.CutIn
namespace Go.Proofs.Ytbpdgoedglkefaa
open Go.RowKit

attribute [local go_sem] Oper.semAt_some

/-- What comes behind a form. -/
def frR (n m x y z : Int) : List Pt := frZ n m x y (up (z + 1) (fa n m 2)) ++ (frY n m x (up (y + 1) (fa n m 1)) ++ frX n m (up (x + 1) (fa n m 0)))
theorem fr_z {n m x y z : Int} (h : z < fa n m 2) : frR n m x y z = ⟨x, y, z + 1⟩ :: frR n m x y (z + 1) := by
  unfold frR
  rw [up_cons (show z + 1 ≤ fa n m 2 by omega)]; rfl
theorem fr_y {n m x y : Int} (h : y < fa n m 1) (hz : 0 ≤ fa n m 2) : frR n m x y (fa n m 2) = ⟨x, y + 1, -fa n m 2⟩ :: frR n m x (y + 1) (-fa n m 2) := by
  unfold frR
  rw [up_nil (show fa n m 2 < fa n m 2 + 1 by omega), up_cons (show y + 1 ≤ fa n m 1 by omega)]
  simp only [frZ, List.map_nil, List.nil_append, frY, List.flatMap_cons]
  rw [up_cons (show -fa n m 2 ≤ fa n m 2 by omega)]
  simp
theorem fr_x {n m x : Int} (h : x < fa n m 0) (hy : 0 ≤ fa n m 1) (hz : 0 ≤ fa n m 2) : frR n m x (fa n m 1) (fa n m 2) = ⟨x + 1, -fa n m 1, -fa n m 2⟩ :: frR n m (x + 1) (-fa n m 1) (-fa n m 2) := by
  unfold frR
  rw [up_nil (show fa n m 2 < fa n m 2 + 1 by omega), up_nil (show fa n m 1 < fa n m 1 + 1 by omega), up_cons (show x + 1 ≤ fa n m 0 by omega)]
  simp only [frZ, List.map_nil, List.nil_append, frY, List.flatMap_nil, frX, List.flatMap_cons]
  rw [up_cons (show -fa n m 1 ≤ fa n m 1 by omega), up_cons (show -fa n m 2 ≤ fa n m 2 by omega)]
  simp [frY, frZ]
theorem fr_end (n m : Int) : frR n m (fa n m 0) (fa n m 1) (fa n m 2) = [] := by
  unfold frR
  rw [up_nil (show fa n m 2 < fa n m 2 + 1 by omega), up_nil (show fa n m 1 < fa n m 1 + 1 by omega), up_nil (show fa n m 0 < fa n m 0 + 1 by omega)]
  rfl
theorem fr_all {n m : Int} (h0 : 0 ≤ fa n m 0) (h1 : 0 ≤ fa n m 1) (h2 : 0 ≤ fa n m 2) : frm n m = ⟨-fa n m 0, -fa n m 1, -fa n m 2⟩ :: frR n m (-fa n m 0) (-fa n m 1) (-fa n m 2) := by
  unfold frm frR
  rw [up_cons (show -fa n m 0 ≤ fa n m 0 by omega)]
  simp only [frX, List.flatMap_cons, frY]
  rw [up_cons (show -fa n m 1 ≤ fa n m 1 by omega)]
  simp only [List.flatMap_cons, frZ]
  rw [up_cons (show -fa n m 2 ≤ fa n m 2 by omega)]
  simp
theorem KeepX.cell {T : Nat → Prop} {W W' : World} (h : KeepX T W W') {a : Addr} {v : Value} (ht : ¬ T a.block) (c : W.cell? a = some v) : W'.cell? a = some v := by
  unfold World.cell? at c ⊢
  cases hk : W.heap[a.block]? with
  | none => rw [hk] at c; cases c
  | some o =>
    rw [hk] at c
    cases o with
    | cells cc t f => rw [h.same _ _ _ _ ht hk]; exact c
    | _ => cases c
/-- A cell's number. -/
def rdI (V : World) (a : Addr) : Int := match V.cell? a with | some (.int .i64 i) => i | _ => 0
theorem rdI_of {V : World} {a : Addr} {i : Int} (h : V.cell? a = some (.int .i64 i)) : rdI V a = i := by unfold rdI; rw [h]
theorem rdI_row {V : World} {b t : Nat} {x y z : Int} (h : Row V b t #[.int .i64 x, .int .i64 y, .int .i64 z]) : rdI V ⟨b, 0, none⟩ = x ∧ rdI V ⟨b, 1, none⟩ = y ∧ rdI V ⟨b, 2, none⟩ = z := ⟨rdI_of h.three.1, rdI_of h.three.2.1, rdI_of h.three.2.2⟩
theorem grownBy_setOff (W : World) (b off : Nat) (v : Value) : W.grownBy (W.setCell ⟨b, off, none⟩ v) (some b) :=
  ⟨rfl, rfl, rfl, (KeepsWalks.setCell W _ v).size, fun k _ hk => Below.heap_setCell _ _ _ k (fun e => hk (by rw [e]))⟩
/-- The coordinates from j on are reset. -/
def rsP (k : Nat) (m : Int) (j : Nat) (p : Pt) : Pt := ⟨if j ≤ 0 ∧ 0 < k then -m else p.x, if j ≤ 1 ∧ 1 < k then -m else p.y, if j ≤ 2 ∧ 2 < k then -m else p.z⟩
def bmP (j : Nat) (p : Pt) : Pt := match j with
  | 0 => ⟨p.x + 1, p.y, p.z⟩
  | 1 => ⟨p.x, p.y + 1, p.z⟩
  | _ => ⟨p.x, p.y, p.z + 1⟩
def stP (j : Nat) (v : Int) (p : Pt) : Pt := match j with
  | 0 => ⟨v, p.y, p.z⟩
  | 1 => ⟨p.x, v, p.z⟩
  | _ => ⟨p.x, p.y, v⟩
def arP (p : Pt) : Array Value := #[.int .i64 p.x, .int .i64 p.y, .int .i64 p.z]
theorem arP_at (p : Pt) {j : Nat} (hj : j < 3) : (arP p)[j]? = some (.int .i64 (p.get j)) := by
  obtain rfl | rfl | rfl : j = 0 ∨ j = 1 ∨ j = 2 := by omega
  all_goals rfl
theorem arP_set (p : Pt) {j : Nat} (hj : j < 3) (v : Int) : (arP p).setIfInBounds j (.int .i64 v) = arP (stP j v p) := by
  obtain rfl | rfl | rfl : j = 0 ∨ j = 1 ∨ j = 2 := by omega
  all_goals simp [arP, stP]
theorem rsP_all (k : Nat) (m : Int) (p : Pt) (hk : k ≤ 3) : rsP k m k p = p := by
  obtain ⟨x, y, z⟩ := p
  simp only [rsP, Pt.mk.injEq]
  refine ⟨?_, ?_, ?_⟩ <;> (rw [if_neg]; omega)
theorem rsP_get {k : Nat} {m : Int} {j : Nat} {p : Pt} (hj : j < 3) : (rsP k m (j + 1) p).get j = p.get j := by
  obtain rfl | rfl | rfl : j = 0 ∨ j = 1 ∨ j = 2 := by omega
  all_goals simp [rsP, Pt.get]
theorem rsP_step {k : Nat} {m : Int} {j : Nat} {p : Pt} (hj : j < k) (hk : k ≤ 3) : stP j (-m) (rsP k m (j + 1) p) = rsP k m j p := by
  obtain rfl | rfl | rfl : j = 0 ∨ j = 1 ∨ j = 2 := by omega
  · simp [rsP, stP, hj]
  · simp [rsP, stP, hj]
  · simp [rsP, stP, hj]
def inP (k : Nat) (m : Int) (p : Pt) : Prop := (-fa k m 0 ≤ p.x ∧ p.x ≤ fa k m 0) ∧ (-fa k m 1 ≤ p.y ∧ p.y ≤ fa k m 1) ∧ (-fa k m 2 ≤ p.z ∧ p.z ≤ fa k m 2)
def frP (n m : Int) (p : Pt) : List Pt := frR n m p.x p.y p.z
theorem fa_lt {k : Nat} {m : Int} {i : Nat} (h : i < k) : fa k m i = m := by unfold fa; rw [if_pos (by omega)]
theorem fa_ge {k : Nat} {m : Int} {i : Nat} (h : k ≤ i) : fa k m i = 0 := by unfold fa; rw [if_neg (by omega)]
theorem frP_end {k : Nat} {m : Int} {p : Pt} (hp : inP k m p) (h : ∀ i, i < k → p.get i = m) (hk : k ≤ 3) : frP k m p = [] := by
  obtain ⟨x, y, z⟩ := p
  obtain ⟨h0, h1, h2⟩ := hp
  simp only at h0 h1 h2
  have e : ∀ i v, (-fa k m i ≤ v ∧ v ≤ fa k m i) → (i < k → v = m) → v = fa k m i := fun i v hb hv => by
    by_cases hi : i < k
    · rw [fa_lt hi]; exact hv hi
    · rw [fa_ge (by omega)] at hb ⊢; omega
  have e0 := e 0 x h0 (fun hi => h 0 hi)
  have e1 := e 1 y h1 (fun hi => h 1 hi)
  have e2 := e 2 z h2 (fun hi => h 2 hi)
  show frR k m x y z = []
  rw [e0, e1, e2]
  exact fr_end _ _
theorem frP_next {k : Nat} {m : Int} {p : Pt} {j : Nat} (hm : 0 ≤ m) (hp : inP k m p) (hj : j < k) (hk : k ≤ 3) (h : ∀ i, j < i → i < k → p.get i = m) (hlt : p.get j ≠ m) :
    frP k m p = bmP j (rsP k m (j + 1) p) :: frP k m (bmP j (rsP k m (j + 1) p)) ∧ inP k m (bmP j (rsP k m (j + 1) p)) ∧ bmP j (rsP k m (j + 1) p) = stP j (p.get j + 1) (rsP k m (j + 1) p) := by
  obtain ⟨x, y, z⟩ := p
  obtain ⟨h0, h1, h2⟩ := hp
  simp only at h0 h1 h2
  have hf0 : 0 ≤ fa k m 0 := by unfold fa; split <;> omega
  have hf1 : 0 ≤ fa k m 1 := by unfold fa; split <;> omega
  have hf2 : 0 ≤ fa k m 2 := by unfold fa; split <;> omega
  have e : ∀ i v, (-fa k m i ≤ v ∧ v ≤ fa k m i) → (i < k → v = m) → v = fa k m i := fun i v hb hv => by
    by_cases hi : i < k
    · rw [fa_lt hi]; exact hv hi
    · rw [fa_ge (by omega)] at hb ⊢; omega
  have r : ∀ i v (j : Nat), j ≤ i → (-fa k m i ≤ v ∧ v ≤ fa k m i) → (if j ≤ i ∧ i < k then -m else v) = -fa k m i := fun i v j hj hb => by
    by_cases hi : i < k
    · rw [if_pos ⟨hj, hi⟩, fa_lt hi]
    · rw [if_neg (fun h => hi h.2)]; rw [fa_ge (by omega)] at hb ⊢; omega
  obtain rfl | rfl | rfl : j = 0 ∨ j = 1 ∨ j = 2 := by omega
  · have e1 := e 1 y h1 (fun hi => h 1 (by omega) hi)
    have e2 := e 2 z h2 (fun hi => h 2 (by omega) hi)
    have r1 := r 1 y 1 (by omega) h1
    have r2 := r 2 z 1 (by omega) h2
    have hx0 := fa_lt (m := m) (i := 0) hj
    have hlt' : x ≠ m := hlt
    have eq : bmP 0 (rsP k m (0 + 1) ⟨x, y, z⟩) = ⟨x + 1, -fa k m 1, -fa k m 2⟩ := by
      simp only [bmP, rsP, Nat.zero_add, r1, r2]; simp
    refine ⟨?_, ?_, ?_⟩
    · rw [eq]
      show frR k m x y z = _
      rw [e1, e2, fr_x (by omega) hf1 hf2]; rfl
    · rw [eq]; exact ⟨by simp only; omega, by simp only; omega, by simp only; omega⟩
    · simp [bmP, stP, rsP, Pt.get]
  · have e2 := e 2 z h2 (fun hi => h 2 (by omega) hi)
    have r2 := r 2 z 2 (by omega) h2
    have hx0 := fa_lt (m := m) (i := 1) hj
    have hlt' : y ≠ m := hlt
    have eq : bmP 1 (rsP k m (1 + 1) ⟨x, y, z⟩) = ⟨x, y + 1, -fa k m 2⟩ := by
      simp only [bmP, rsP, Nat.reduceAdd, r2]; simp
    refine ⟨?_, ?_, ?_⟩
    · rw [eq]
      show frR k m x y z = _
      rw [e2, fr_y (by omega) hf2]; rfl
    · rw [eq]; exact ⟨by simp only; omega, by simp only; omega, by simp only; omega⟩
    · simp [bmP, stP, rsP, Pt.get]
  · have hx0 := fa_lt (m := m) (i := 2) hj
    have hlt' : z ≠ m := hlt
    have eq : bmP 2 (rsP k m (2 + 1) ⟨x, y, z⟩) = ⟨x, y, z + 1⟩ := by
      simp [bmP, rsP]
    refine ⟨?_, ?_, ?_⟩
    · rw [eq]
      show frR k m x y z = _
      rw [fr_z (by omega)]; rfl
    · rw [eq]; exact ⟨by simp only; omega, by simp only; omega, by simp only; omega⟩
    · simp [bmP, stP, rsP, Pt.get]
set_option maxRecDepth 100000 in
set_option maxHeartbeats 4000000 in
theorem forms1_iter (n m : Int) (hn : 1 ≤ n ∧ n ≤ 3) (hm : 0 ≤ m ∧ m ≤ 3) (b1 b2 : Nat) (T : Nat → Prop) (w : World) (m1 : w.cell? ⟨b1, 0, none⟩ = some (.int .i64 n)) (m2 : w.cell? ⟨b2, 0, none⟩ = some (.int .i64 m)) (hT : ∀ k, T k → k ≠ b1 ∧ k ≠ b2 ∧ k < w.heap.size) :
    SeqX Try.prog 120 #[.pointer (some ⟨b1, 0, none⟩), .pointer (some ⟨b2, 0, none⟩)] encPt T (frm n m) w := by
  intro ly J Jx W hW hJ hY h0
  have e1 := up_of hW m1
  have e2 := up_of hW m2
  have hJb : ∀ s A B, J s A → Below A.heap.size A B → J s B := fun s A B h hb => hJ s A B none h (grownBy_of_below hb) (fun r e => by cases e)
  have l1 := World.block_lt_of_cell? W _ e1
  have l2 := World.block_lt_of_cell? W _ e2
  have hJs : ∀ s A i v, J s A → J s (A.setCell ⟨W.heap.size, i, none⟩ v) := fun s A i v h => hJ s A _ (some W.heap.size) h (grownBy_setOff A _ i v) (fun r e => by cases e; rfl)
  have hJd : ∀ s A, J s A → J s A.drew := fun s A h => hJb s A _ h ((Below.refl _ A).drew)
  replace hJs := Lib.hid hJs; replace hJd := Lib.hid hJd
  replace hJb := Lib.hid hJb; replace hY := Lib.hid hY; replace hT := Lib.hid hT
  refine callsIn_of_wp Try.func120 rfl trivial ?_ rfl
  simp only [Try.ntmps120, List.size_toArray, List.length_cons, List.length_nil, Nat.reduceAdd, Nat.reduceSub, Array.replicate_succ, Array.replicate_zero, List.push_toArray, List.append_toArray, List.nil_append, List.cons_append]
  gi_wp2
  gi_loopw [8] (fun ii V => ∃ k : Nat, (k : Int) ≤ n ∧ ii = .int .i64 k ∧ Row V W.heap.size 29 #[.int .i64 (if 0 < k then -m else 0), .int .i64 (if 1 < k then -m else 0), .int .i64 (if 2 < k then -m else 0)] ∧ Below W.heap.size W V ∧ W.heap.size < V.heap.size) (fun ii _ => (n - intOf ii).toNat)
  case atStart => exact ⟨0, by omega, rfl, Row.new _ _ _, (Below.refl _ W).alloc (Nat.le_refl _) _, by simp⟩
  case round =>
    obtain ⟨k, hk, rfl, qB, hBV, hWV⟩ := hrel
    replace e1 := up_of hBV e1; replace e2 := up_of hBV e2
    have wm : wrap64 (-m) = -m := by unfold wrap64; omega
    have wm2 : IntKind.i64.wrap (-m) = -m := i64_small (by omega)
    by_cases hlt : (k : Int) < n
    · have rf := fun i => Row.frozen qB i
      obtain ⟨q0, q1, q2⟩ := qB.three
      obtain rfl | rfl | rfl : k = 0 ∨ k = 1 ∨ k = 2 := by omega
      · gi_wp2
        go_roundw
        case rel =>
          refine ⟨1, by omega, rfl, ?_, ?_, ?_⟩
          · show Row _ _ _ #[.int .i64 (-m), .int .i64 0, .int .i64 0]
            refine Row.of ?_
            repeat (first | (with_reducible refine RowG.base qB ?_) | (with_reducible refine RowG.drew ?_) | (with_reducible refine RowG.set ?_) | ((with_reducible refine RowG.other ?_ ?_); (focus (first | omega | (simp; done) | (simp; omega)))) | (with_reducible refine RowG.alloc ?_))
            rfl
          · repeat (first | (with_reducible exact hBV) | (with_reducible refine Below.drew ?_) | ((with_reducible refine Below.setC ?_ ?_); (focus (first | omega | (simp; done) | (simp; omega)))) | ((with_reducible refine Below.allo ?_ ?_); (focus (first | omega | (simp; done) | (simp; omega)))))
          · simp; exact hWV
        case measure => simp [intOf]; omega
      · gi_wp2
        go_roundw
        case rel =>
          refine ⟨2, by omega, rfl, ?_, ?_, ?_⟩
          · show Row _ _ _ #[.int .i64 (-m), .int .i64 (-m), .int .i64 0]
            refine Row.of ?_
            repeat (first | (with_reducible refine RowG.base qB ?_) | (with_reducible refine RowG.drew ?_) | (with_reducible refine RowG.set ?_) | ((with_reducible refine RowG.other ?_ ?_); (focus (first | omega | (simp; done) | (simp; omega)))) | (with_reducible refine RowG.alloc ?_))
            rfl
          · repeat (first | (with_reducible exact hBV) | (with_reducible refine Below.drew ?_) | ((with_reducible refine Below.setC ?_ ?_); (focus (first | omega | (simp; done) | (simp; omega)))) | ((with_reducible refine Below.allo ?_ ?_); (focus (first | omega | (simp; done) | (simp; omega)))))
          · simp; exact hWV
        case measure => simp [intOf]; omega
      · gi_wp2
        go_roundw
        case rel =>
          refine ⟨3, by omega, rfl, ?_, ?_, ?_⟩
          · show Row _ _ _ #[.int .i64 (-m), .int .i64 (-m), .int .i64 (-m)]
            refine Row.of ?_
            repeat (first | (with_reducible refine RowG.base qB ?_) | (with_reducible refine RowG.drew ?_) | (with_reducible refine RowG.set ?_) | ((with_reducible refine RowG.other ?_ ?_); (focus (first | omega | (simp; done) | (simp; omega)))) | (with_reducible refine RowG.alloc ?_))
            rfl
          · repeat (first | (with_reducible exact hBV) | (with_reducible refine Below.drew ?_) | ((with_reducible refine Below.setC ?_ ?_); (focus (first | omega | (simp; done) | (simp; omega)))) | ((with_reducible refine Below.allo ?_ ?_); (focus (first | omega | (simp; done) | (simp; omega)))))
          · simp; exact hWV
        case measure => simp [intOf]; omega
    · obtain rfl : n = (k : Int) := by omega
      have hfa : ∀ j : Nat, (if j < k then -m else 0) = -fa k m j := fun j => by
        unfold fa
        by_cases hj : j < k
        · rw [if_pos hj, if_pos (by omega)]
        · rw [if_neg hj, if_neg (by omega)]; rfl
      simp only [hfa] at qB
      clear hfa hlt hk
      have f0 : 0 ≤ fa k m 0 := by unfold fa; split <;> omega
      have f1 : 0 ≤ fa k m 1 := by unfold fa; split <;> omega
      have f2 : 0 ≤ fa k m 2 := by unfold fa; split <;> omega
      have hfr := Lib.hid (fr_all f0 f1 f2)
      have hj0 := hJb.out _ _ _ h0 hBV
      have hW9 := hW.size
      clear h0
      gi_wp2
      gi_loopw [6] (fun kk V => ∃ (kv : Value) (x y z : Int) (pre : List Pt), kk = kv ∧ (-fa k m 0 ≤ x ∧ x ≤ fa k m 0) ∧ (-fa k m 1 ≤ y ∧ y ≤ fa k m 1) ∧ (-fa k m 2 ≤ z ∧ z ≤ fa k m 2) ∧ Hid (frm k m = pre ++ (⟨x, y, z⟩ :: frR k m x y z)) ∧ J pre V ∧ Row V W.heap.size 29 #[.int .i64 x, .int .i64 y, .int .i64 z] ∧ V.cell? ⟨b1, 0, none⟩ = some (.int .i64 k) ∧ V.cell? ⟨b2, 0, none⟩ = some (.int .i64 m) ∧ W.heap.size < V.heap.size) (fun _ V => (frR k m (rdI V ⟨W.heap.size, 0, none⟩) (rdI V ⟨W.heap.size, 1, none⟩) (rdI V ⟨W.heap.size, 2, none⟩)).length)
      case atStart => exact ⟨_, _, _, _, [], rfl, ⟨Int.le_refl _, by omega⟩, ⟨Int.le_refl _, by omega⟩, ⟨Int.le_refl _, by omega⟩, hfr, hj0, qB, e1, e2, hWV⟩
      case round =>
        clear hfr hj0 qB e1 e2 hWV hBV
        obtain ⟨kv, x, y, z, pre, rfl, hx, hy1, hz, hpre, hj, qB, e1, e2, hWV⟩ := hrel
        obtain ⟨q0, q1, q2⟩ := qB.three
        have hrw := Lib.hid (rdI_row qB)
        have hlt : pre ++ [⟨x, y, z⟩] <+: frm k m := ⟨frR k m x y z, by rw [hpre.out]; simp⟩
        obtain ⟨fn, tmps, assign, body, hy, hRd⟩ := hY.out pre ⟨x, y, z⟩ wr hj hlt
        dsimp only [encPt] at hy
        clear hlt
        gi_wp2
        refine hRd.mono ?_
        rintro e Z (⟨rfl, hjZ, hkZ⟩ | ⟨rfl, hjZ⟩)
        · have nB : ¬ T W.heap.size := fun h => by have := (hT.out _ h).2.2; omega
          have n1 : ¬ T b1 := fun h => (hT.out _ h).1 rfl
          have n2 : ¬ T b2 := fun h => (hT.out _ h).2.1 rfl
          replace qB := hkZ.row nB qB
          replace e1 := hkZ.cell (a := ⟨b1, 0, none⟩) n1 e1; replace e2 := hkZ.cell (a := ⟨b2, 0, none⟩) n2 e2
          obtain ⟨q0, q1, q2⟩ := qB.three
          have hWZ := Nat.lt_of_lt_of_le hWV hkZ.size
          have hk3 : k ≤ 3 := by omega
          obtain ⟨p, hp⟩ : ∃ p : Pt, p = ⟨x, y, z⟩ := ⟨_, rfl⟩
          have hpI : Hid (inP k m p) := Lib.hid (by rw [hp]; exact ⟨hx, hy1, hz⟩)
          have hpB : ∀ i, i < 3 → -3 ≤ p.get i ∧ p.get i ≤ 3 := fun i hi => by
            have b0 : fa k m 0 ≤ 3 := by unfold fa; split <;> omega
            have b1 : fa k m 1 ≤ 3 := by unfold fa; split <;> omega
            have b2 : fa k m 2 ≤ 3 := by unfold fa; split <;> omega
            rw [hp]
            obtain rfl | rfl | rfl : i = 0 ∨ i = 1 ∨ i = 2 := by omega
            · show -3 ≤ x ∧ x ≤ 3; omega
            · show -3 ≤ y ∧ y ≤ 3; omega
            · show -3 ≤ z ∧ z ≤ 3; omega
          have hpre2 : Hid (frm k m = pre ++ (p :: frP k m p)) := Lib.hid (by rw [hp]; exact hpre.out)
          have hms : (frR k m (rdI wr ⟨W.heap.size, 0, none⟩) (rdI wr ⟨W.heap.size, 1, none⟩) (rdI wr ⟨W.heap.size, 2, none⟩)).length = (frP k m p).length := by
            rw [hrw.out.1, hrw.out.2.1, hrw.out.2.2, hp]; rfl
          have qP : Row Z W.heap.size 29 (arP (rsP k m k p)) := by rw [rsP_all k m p hk3, hp]; exact qB
          have hall : Hid (∀ i, k ≤ i → i < k → p.get i = m) := Lib.hid (fun i h1 h2 => by omega)
          rw [show (⟨x, y, z⟩ : Pt) = p from hp.symm] at hjZ
          replace hp := Lib.hid hp; replace hpB := Lib.hid hpB; replace hms := Lib.hid hms
          clear q0 q1 q2 hrw hpre qB hx hy1 hz
          have wk : IntKind.i64.wrap ((k : Int) - 1) = (k : Int) - 1 := i64_small (by omega)
          gi_wp2
          gi_loopw [6] (fun kk V => ∃ j : Nat, j ≤ k ∧ kk = .int .i64 ((j : Int) - 1) ∧ Hid (∀ i, j ≤ i → i < k → p.get i = m) ∧ Row V W.heap.size 29 (arP (rsP k m j p)) ∧ J (pre ++ [p]) V ∧ V.cell? ⟨b1, 0, none⟩ = some (.int .i64 k) ∧ V.cell? ⟨b2, 0, none⟩ = some (.int .i64 m) ∧ W.heap.size < V.heap.size) (fun kk _ => (intOf kk + 1).toNat)
          case atStart => exact ⟨k, Nat.le_refl _, rfl, hall, qP, hjZ, e1, e2, hWZ⟩
          case round =>
            clear hall qP hjZ e1 e2 hWZ hj hWV
            obtain ⟨j, hjk, rfl, hal, qV, hjV, e1, e2, hWV2⟩ := hrel
            have rf := fun i => Row.frozen qV i
            rcases Nat.eq_zero_or_pos j with rfl | hjp
            · have hend : frm k m = pre ++ [p] := by rw [hpre2.out, frP_end hpI.out (fun i hi => hal.out i (Nat.zero_le _) hi) hk3]
              rw [show ((0 : Nat) : Int) - 1 = -1 from rfl]
              have hneg : ¬ (0 : Int) ≤ -1 := by decide
              have hlt1 : (-1 : Int) < 0 := by decide
              replace hend := Lib.hid hend
              gi_upto_region 8 with (fail)
              refine wpIn_wide.2 ?_
              refine region_q (by kernel_rfl) (by kernel_rfl) ?_
              dsimp only [List.toList_toArray]
              repeat (first
               | go_big_quiet_skip
               | (go_big_quiet_want
                  first
                  | (refine qq_det ?_
                     apply Exists.intro; refine ⟨fun W' hW' => ?_, ?_⟩
                     (· have hk := cellB hW'; go_simp; try (first | rfl | rw [if_pos (by omega)]))
                     simp only [Act.put, List.setIfInBounds_toArray, List.set_cons_zero, List.set_cons_succ]; go_big_quiet_on)))
              refine wpQuiet_nil ?_
              intro Z2 hb
              try replace e1 := up_of hb e1
              try replace e2 := up_of hb e2
              have hj2 := hJb.out _ _ _ hjV hb
              replace hj2 := Lib.hid hj2
              gi_wp2
              refine bodyPost_ret (results_none rfl _ _ _) rfl ?_
              exact ⟨⟨_, rfl⟩, .inl (by rw [hend.out]; exact hj2.out)⟩
            · obtain ⟨i, rfl⟩ : ∃ i, j = i + 1 := ⟨j - 1, by omega⟩
              have hi3 : i < 3 := by omega
              have c0 : wr.cell? ⟨W.heap.size, i, none⟩ = some (.int .i64 (p.get i)) := qV.cell (by rw [arP_at _ hi3, rsP_get hi3])
              have hgb := hpB.out i hi3
              rw [show ((i + 1 : Nat) : Int) - 1 = (i : Int) by omega]
              have i1 : (0 : Int) ≤ (i : Int) := by omega
              have i2 : (i : Int) < 3 := by omega
              have i4 : ¬ (i : Int) < 0 := by omega
              have m0 := e2
              obtain ⟨g, hg⟩ : ∃ g, p.get i = g := ⟨_, rfl⟩
              rw [hg] at c0 hgb
              by_cases hgm : g = m
              · have hq : (g == m) = true := beq_iff_eq.2 hgm
                have hal2 : ∀ i', i ≤ i' → i' < k → p.get i' = m := fun i' h1 h2 => by
                  by_cases h3 : i' = i
                  · subst h3; rw [hg, hgm]
                  · exact hal.out i' (by omega) h2
                have qS : Row (wr.setCell ⟨W.heap.size, i, none⟩ (.int .i64 (-m))) W.heap.size 29 (arP (rsP k m i p)) := by
                  have h1 := qV.set i (.int .i64 (-m))
                  rw [arP_set _ hi3, rsP_step (by omega) hk3] at h1
                  exact h1
                replace hal2 := Lib.hid hal2; replace hgm := Lib.hid hgm; replace hg := Lib.hid hg
                have wm : wrap64 (-m) = -m := by unfold wrap64; omega
                have wm2 : IntKind.i64.wrap (-m) = -m := i64_small (by omega)
                have wi : IntKind.i64.wrap ((i : Int) - 1) = (i : Int) - 1 := i64_small (by omega)
                gi_upto_region 8 with (fail)
                refine wpIn_wide.2 ?_
                try have ld_c0 := World.block_lt_of_cell? _ _ c0
                try have ld_m0 := World.block_lt_of_cell? _ _ m0
                refine region_q (by kernel_rfl) (by kernel_rfl) ?_
                dsimp only [List.toList_toArray]
                repeat (first
                 | go_big_quiet_skip
                 | (go_big_quiet_want
                    first
                    | (refine qq_det ?_
                       apply Exists.intro; refine ⟨fun W' hW' => ?_, ?_⟩
                       (· have hk := cellB hW'; go_simp; try (first | rfl | rw [if_pos (by omega)]))
                       simp only [Act.put, List.setIfInBounds_toArray, List.set_cons_zero, List.set_cons_succ]; go_big_quiet_on)))
                refine wpQuiet_nil ?_
                intro Z2 hb
                try replace e1 := up_of hb e1
                try replace e2 := up_of hb e2
                try replace c0 := up_of hb c0
                try replace m0 := up_of hb m0
                try replace qV := up_of hb qV
                try replace hWV2 := up_of hb hWV2
                have hj2 := hJs.out _ _ i (.int .i64 (-m)) (hJb.out _ _ _ hjV hb)
                have rf := fun i => Row.frozen qV i
                have qS2 : Row (Z2.setCell ⟨W.heap.size, i, none⟩ (.int .i64 (-m))) W.heap.size 29 (arP (rsP k m i p)) := by
                  have h1 := qV.set i (.int .i64 (-m))
                  rw [arP_set _ hi3, rsP_step (by omega) hk3] at h1
                  exact h1
                have hkY := KeepX.setCell (T := fun k => k = W.heap.size) Z2 (a := ⟨W.heap.size, i, none⟩) (.int .i64 (-m)) rfl
                have e1' := hkY.cell (a := ⟨b1, 0, none⟩) (by show ¬ b1 = W.heap.size; omega) e1
                have e2' := hkY.cell (a := ⟨b2, 0, none⟩) (by show ¬ b2 = W.heap.size; omega) e2
                have hsz := Nat.lt_of_lt_of_le hWV2 hkY.size
                replace hj2 := Lib.hid hj2; replace qS2 := Lib.hid qS2; replace e1' := Lib.hid e1'; replace e2' := Lib.hid e2'; replace hsz := Lib.hid hsz; replace hkY := Lib.hid hkY
                clear qS
                gi_wp2
                go_roundw
                case rel => exact ⟨i, by omega, rfl, hal2, qS2.out, hj2.out, e1'.out, e2'.out, hsz.out⟩
                case measure => simp [intOf] <;> omega
              · have hq : (g == m) = false := beq_eq_false_iff_ne.2 hgm
                obtain ⟨hn1, hn2, hn3⟩ := frP_next hm.1 hpI.out (j := i) (by omega) hk3 (fun i' h1 h2 => hal.out i' (by omega) h2) (by rw [hg]; exact hgm)
                rw [hg] at hn3
                obtain ⟨q, hq0⟩ : ∃ q, bmP i (rsP k m (i + 1) p) = q := ⟨_, rfl⟩
                rw [hq0] at hn1 hn2 hn3
                have hnx : frm k m = (pre ++ [p]) ++ (q :: frP k m q) := by rw [hpre2.out, hn1]; simp
                have hml : (frP k m q).length < (frP k m p).length := by rw [hn1]; simp
                have wg : IntKind.i64.wrap (g + 1) = g + 1 := i64_small (by omega)
                replace hgm := Lib.hid hgm; replace hg := Lib.hid hg; replace hn1 := Lib.hid hn1; replace hn2 := Lib.hid hn2; replace hn3 := Lib.hid hn3; replace hq0 := Lib.hid hq0; replace hnx := Lib.hid hnx; replace hml := Lib.hid hml
                gi_upto_region 8 with (fail)
                refine wpIn_wide.2 ?_
                try have ld_c0 := World.block_lt_of_cell? _ _ c0
                try have ld_m0 := World.block_lt_of_cell? _ _ m0
                refine region_q (by kernel_rfl) (by kernel_rfl) ?_
                dsimp only [List.toList_toArray]
                repeat (first
                 | go_big_quiet_skip
                 | (go_big_quiet_want
                    first
                    | (refine qq_det ?_
                       apply Exists.intro; refine ⟨fun W' hW' => ?_, ?_⟩
                       (· have hk := cellB hW'; go_simp; try (first | rfl | rw [if_pos (by omega)]))
                       simp only [Act.put, List.setIfInBounds_toArray, List.set_cons_zero, List.set_cons_succ]; go_big_quiet_on)))
                refine wpQuiet_nil ?_
                intro Z2 hb
                try replace e1 := up_of hb e1
                try replace e2 := up_of hb e2
                try replace c0 := up_of hb c0
                try replace m0 := up_of hb m0
                try replace qV := up_of hb qV
                try replace hWV2 := up_of hb hWV2
                have hj2 := hJs.out _ _ i (.int .i64 (g + 1)) (hJb.out _ _ _ hjV hb)
                have rf := fun i => Row.frozen qV i
                have qS2 : Row (Z2.setCell ⟨W.heap.size, i, none⟩ (.int .i64 (g + 1))) W.heap.size 29 (arP q) := by
                  have h1 := qV.set i (.int .i64 (g + 1))
                  rw [arP_set _ hi3, ← hn3.out] at h1
                  exact h1
                have hkY := KeepX.setCell (T := fun k => k = W.heap.size) Z2 (a := ⟨W.heap.size, i, none⟩) (.int .i64 (g + 1)) rfl
                have e1' := hkY.cell (a := ⟨b1, 0, none⟩) (by show ¬ b1 = W.heap.size; omega) e1
                have e2' := hkY.cell (a := ⟨b2, 0, none⟩) (by show ¬ b2 = W.heap.size; omega) e2
                have hsz := Nat.lt_of_lt_of_le hWV2 hkY.size
                replace hj2 := Lib.hid hj2; replace qS2 := Lib.hid qS2; replace e1' := Lib.hid e1'; replace e2' := Lib.hid e2'; replace hsz := Lib.hid hsz; replace hkY := Lib.hid hkY
                gi_wp2
                go_roundw
                case rel => exact ⟨_, q.x, q.y, q.z, pre ++ [p], rfl, hn2.out.1, hn2.out.2.1, hn2.out.2.2, hnx, hj2.out, qS2.out, e1'.out, e2'.out, hsz.out⟩
                case measure =>
                  rw [hms.out]
                  have hr := rdI_row qS2.out
                  rw [hr.1, hr.2.1, hr.2.2]
                  exact hml.out
        · gi_wp2
          refine bodyPost_ret (results_none rfl _ _ _) rfl ?_
          exact ⟨⟨_, rfl⟩, .inr ⟨_, ⟨frR k m x y z, by rw [hpre.out]; simp⟩, hjZ⟩⟩
end Go.Proofs.Ytbpdgoedglkefaa
