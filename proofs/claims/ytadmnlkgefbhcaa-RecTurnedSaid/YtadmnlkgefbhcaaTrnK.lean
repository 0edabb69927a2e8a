/- Turned recurrences: what they are; a turned point in the program. -/
import Derived.Test.YtadmnlkgefbhcaaB9
import Derived.Test.YtadmnlkgefbhcaaB7
import Derived.Test.YtadmnlkgefbhcaaPtGet
namespace Go.Proofs.Ytadmnlkgefbhcaa
open Go.RowKit

def tnz (o a : Pt) : Nat → Pt
  | 0 => ⟨0, 0, 0⟩
  | k + 1 => if a.get k = 0 then tnz o a k else setP (tnz o a k) (o.get k).toNat (a.get k)
theorem tnz_eq {n : Int} {o a : Pt} (hn : 1 ≤ n ∧ n ≤ 3) (ho : isOrd n o = true) (hz : ∀ i : Nat, i < 3 → n ≤ (i : Int) → a.get i = 0) : tnz o a 3 = turnP n o a := by
  have h0 := hz 0 (by omega); have h1 := hz 1 (by omega); have h2 := hz 2 (by omega)
  obtain ⟨x, y, z⟩ := a
  simp only [Pt.get] at h0 h1 h2
  rcases ord_cases hn ho with ⟨rfl, rfl⟩ | ⟨rfl, rfl | rfl⟩ | ⟨rfl, rfl | rfl | rfl | rfl | rfl | rfl⟩ <;>
    (simp at h0 h1 h2
     simp only [tnz, turnP, turnTo, setP, Pt.get, Int.toNat]
     by_cases e0 : x = 0 <;> by_cases e1 : y = 0 <;> by_cases e2 : z = 0 <;> simp_all)
theorem ord_all {n : Int} {o : Pt} (hn : 1 ≤ n ∧ n ≤ 3) (ho : isOrd n o = true) : ∀ i : Nat, i < 3 → 0 ≤ o.get i ∧ o.get i < 3 := by
  intro i hi
  have h3 : i = 0 ∨ i = 1 ∨ i = 2 := by omega
  rcases ord_cases hn ho with ⟨rfl, rfl⟩ | ⟨rfl, rfl | rfl⟩ | ⟨rfl, rfl | rfl | rfl | rfl | rfl | rfl⟩ <;>
    (rcases h3 with rfl | rfl | rfl <;> simp [Pt.get])
def turnA (n : Int) (o : Pt) (a : Ar) : Ar := ⟨a.v, turnP n o a.p⟩
def turnI (n : Int) (o : Pt) (v : Vv) : Pt := turnP n o ⟨v.i1, v.i2, v.i3⟩
def turnV (n : Int) (o : Pt) (v : Vv) : Vv := ⟨v.name, v.op, v.args.map (turnA n o), v.i0, (turnI n o v).x, (turnI n o v).y, (turnI n o v).z⟩
def turnK (n : Int) (o : Pt) (K : List Vv) : List Vv := K.map (turnV n o)
theorem turnK_len (n : Int) (o : Pt) (K : List Vv) : (turnK n o K).length = K.length := by simp [turnK]
theorem turnK_at {n : Int} {o : Pt} {K : List Vv} {i : Nat} (h : i < K.length) (h' : i < (turnK n o K).length) : (turnK n o K)[i] = turnV n o K[i] := by simp [turnK]
theorem ptA_set2 {o : Pt} {k : Nat} {v : Int} (hk : k < 3) : (ptA o).setIfInBounds k (.int .i64 v) = ptA (setP o k v) := ptA_set hk
set_option maxRecDepth 100000 in
set_option maxHeartbeats 1000000 in
theorem turned_c (a p : Pt) (w : World) (hp : ∀ i : Nat, i < 3 → 0 ≤ p.get i ∧ p.get i < 3) :
    Calls Try.prog 52 #[.agg #[.int .i64 a.x, .int .i64 a.y, .int .i64 a.z], .agg #[.int .i64 p.x, .int .i64 p.y, .int .i64 p.z]] w fun e w' => e = .returned (ptV (tnz p a 3)) ∧ Below w.heap.size w w' := by
  obtain ⟨T, hT⟩ : ∃ T, tnz p a 3 = T := ⟨_, rfl⟩
  rw [hT]
  replace hT := Lib.hid hT
  replace hp := Lib.hid hp
  go_enter Try.func52, Try.ntmps52
  go_upto_region 2 with (fail)
  refine wp_world fun W HW => ?_
  have hB : Below w.heap.size w W := by rw [HW.out]; (repeat (first | exact Below.refl _ _ | refine Below.alloc ?_ (by simp; try omega) _ | refine Below.setCell ?_ (by simp) _ | refine Below.drew ?_))
  have aB : Row W (w.heap.size) 29 #[.int .i64 a.x, .int .i64 a.y, .int .i64 a.z] := (by rw [HW.out]; (repeat (first | (refine blk_new ?_; simp; done) | refine blk_old ?_ _)) : W.heap[w.heap.size]? = some (.cells #[.int .i64 a.x, .int .i64 a.y, .int .i64 a.z] 29 (0, 0)))
  have a0 : W.cell? ⟨w.heap.size, 0, none⟩ = some (.int .i64 a.x) := by rw [HW.out]; simp [go_sem]
  have a1 : W.cell? ⟨w.heap.size, 1, none⟩ = some (.int .i64 a.y) := by rw [HW.out]; simp [go_sem]
  have a2 : W.cell? ⟨w.heap.size, 2, none⟩ = some (.int .i64 a.z) := by rw [HW.out]; simp [go_sem]
  have al : w.heap.size < W.heap.size := World.block_lt_of_cell? W _ a0
  have oB : Row W (w.heap.size + 1) 29 #[.int .i64 p.x, .int .i64 p.y, .int .i64 p.z] := (by rw [HW.out]; (repeat (first | (refine blk_new ?_; simp; done) | refine blk_old ?_ _)) : W.heap[w.heap.size + 1]? = some (.cells #[.int .i64 p.x, .int .i64 p.y, .int .i64 p.z] 29 (0, 0)))
  have o0 : W.cell? ⟨w.heap.size + 1, 0, none⟩ = some (.int .i64 p.x) := by rw [HW.out]; simp [go_sem]
  have o1 : W.cell? ⟨w.heap.size + 1, 1, none⟩ = some (.int .i64 p.y) := by rw [HW.out]; simp [go_sem]
  have o2 : W.cell? ⟨w.heap.size + 1, 2, none⟩ = some (.int .i64 p.z) := by rw [HW.out]; simp [go_sem]
  have ol : w.heap.size + 1 < W.heap.size := World.block_lt_of_cell? W _ o0
  have rB : Row W (w.heap.size + 2) 29 #[.int .i64 0, .int .i64 0, .int .i64 0] := (by rw [HW.out]; (repeat (first | (refine blk_new ?_; simp; done) | refine blk_old ?_ _)) : W.heap[w.heap.size + 2]? = some (.cells #[.int .i64 0, .int .i64 0, .int .i64 0] 29 (0, 0)))
  have r0 : W.cell? ⟨w.heap.size + 2, 0, none⟩ = some (.int .i64 0) := by rw [HW.out]; simp [go_sem]
  have r1 : W.cell? ⟨w.heap.size + 2, 1, none⟩ = some (.int .i64 0) := by rw [HW.out]; simp [go_sem]
  have r2 : W.cell? ⟨w.heap.size + 2, 2, none⟩ = some (.int .i64 0) := by rw [HW.out]; simp [go_sem]
  have rl : w.heap.size + 2 < W.heap.size := World.block_lt_of_cell? W _ r0
  have uB : Row W (w.heap.size + 3) 29 #[.int .i64 0, .int .i64 0, .int .i64 0] := (by rw [HW.out]; (repeat (first | (refine blk_new ?_; simp; done) | refine blk_old ?_ _)) : W.heap[w.heap.size + 3]? = some (.cells #[.int .i64 0, .int .i64 0, .int .i64 0] 29 (0, 0)))
  have u0 : W.cell? ⟨w.heap.size + 3, 0, none⟩ = some (.int .i64 0) := by rw [HW.out]; simp [go_sem]
  have u1 : W.cell? ⟨w.heap.size + 3, 1, none⟩ = some (.int .i64 0) := by rw [HW.out]; simp [go_sem]
  have u2 : W.cell? ⟨w.heap.size + 3, 2, none⟩ = some (.int .i64 0) := by rw [HW.out]; simp [go_sem]
  have ul : w.heap.size + 3 < W.heap.size := World.block_lt_of_cell? W _ u0
  go_wp2
  go_loopw [9] (fun i wr => ∃ k : Nat, k ≤ 3 ∧ i = .int .i64 k ∧ Chg (fun j => j = w.heap.size + 3) W wr ∧ Row wr (w.heap.size + 3) 29 (ptA (tnz p a k))) (fun i _ => 3 - (intOf i).toNat)
  case atStart => exact ⟨0, by omega, rfl, Chg.refl _ _, uB⟩
  case round =>
    obtain ⟨k, hk, rfl, hC, rU⟩ := hrel
    by_cases hlt : k < 3
    · have hv := hp.out k (by omega)
      have hix := fun V => ixk a V hlt
      have ok := (hC.row (by omega) oB).cell (ptA_at p (k := k) (by omega))
      obtain ⟨v, hv2, hv3⟩ : ∃ v : Nat, p.get k = v ∧ v < 3 := ⟨(p.get k).toNat, by omega, by omega⟩
      rw [hv2] at ok
      have uk := rU.cell (ptA_at (tnz p a k) hv3)
      have uf := rU.frozen v
      have k3 : (k : Int) < 3 := by omega
      have v1 : (v : Int) < 3 := by omega
      have v0 : (0 : Int) ≤ (v : Int) := by omega
      obtain ⟨x, hx⟩ : ∃ x, a.get k = x := ⟨_, rfl⟩
      simp only [hx] at hix
      have htz : tnz p a (k + 1) = if a.get k = 0 then tnz p a k else setP (tnz p a k) (p.get k).toNat (a.get k) := rfl
      rw [hx, hv2, Int.toNat_natCast] at htz
      replace hv2 := Lib.hid hv2
      by_cases hx0 : x = 0
      · have hb : (x != 0) = false := by simpa using hx0
        rw [if_pos hx0] at htz
        replace htz := Lib.hid htz; replace hx0 := Lib.hid hx0; replace hx := Lib.hid hx
        go_wp2
        go_roundw
        case rel => exact ⟨k + 1, by omega, rfl, hC, by rw [htz.out]; exact rU⟩
        case measure => exact meas hlt
      · have hb : (x != 0) = true := by simpa using hx0
        rw [if_neg hx0] at htz
        replace htz := Lib.hid htz; replace hx0 := Lib.hid hx0; replace hx := Lib.hid hx
        go_wp2
        go_roundw
        case rel =>
          refine ⟨k + 1, by omega, rfl, ?_, ?_⟩
          · repeat (first | (with_reducible exact hC) | (with_reducible refine Chg.setCell ?_ (by simp) _) | (with_reducible refine Chg.drew ?_) | (with_reducible refine Chg.alloc ?_ _))
          · refine Row.of ?_
            repeat (first | (with_reducible refine RowG.base rU ?_) | (with_reducible refine RowG.drew ?_) | (with_reducible refine RowG.set ?_) | ((with_reducible refine RowG.other ?_ ?_); (focus (first | omega | (simp; done) | (simp; omega)))) | (with_reducible refine RowG.alloc ?_))
            (simp only [ptA_set2 hv3]; rw [htz.out])
        case measure => exact meas hlt
    · obtain rfl : k = 3 := by omega
      rw [hT.out] at rU
      obtain ⟨u0, u1, u2⟩ := rU.three
      have rB2 := hC.row (by omega) rB
      obtain ⟨z0, z1, z2⟩ := rB2.three
      have rf := fun i => Row.frozen rB2 i
      have hBr : Below w.heap.size w wr := hC.below (n := w.heap.size) (fun j hj => by omega) hB.size hB
      go_wp2
      refine bodyPost_ret (results_c1 rfl rfl (load_P (b := w.heap.size + 2) T ?_ ?_ ?_)) rfl ⟨rfl, ?_⟩
      · go_simp
      · go_simp
      · go_simp
      · repeat (first | (with_reducible exact hBr) | (with_reducible refine Below.drew ?_) | ((with_reducible refine Below.setC ?_ ?_); (focus (first | omega | (simp; done) | (simp; omega)))) | ((with_reducible refine Below.allo ?_ ?_); (focus (first | omega | (simp; done) | (simp; omega)))))
end Go.Proofs.Ytadmnlkgefbhcaa
