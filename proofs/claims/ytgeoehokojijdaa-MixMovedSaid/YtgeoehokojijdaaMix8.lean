/- Loads of cells; the bound of the program. -/
import Derived.Test.YtgeoehokojijdaaMix7
namespace Go.Proofs.Ytgeoehokojijdaa
open Go.RowKit

def cntA (l : List Clm) : Array Value := arrA 16 (fun c => .int .i64 (cntC l c))
theorem cntA_nil : cntA [] = #[.int .i64 0, .int .i64 0, .int .i64 0, .int .i64 0, .int .i64 0, .int .i64 0, .int .i64 0, .int .i64 0, .int .i64 0, .int .i64 0, .int .i64 0, .int .i64 0, .int .i64 0, .int .i64 0, .int .i64 0, .int .i64 0] := rfl
theorem cntA_set (l : List Clm) (x : Clm) (C : Nat) (h : x.cell = C) : (cntA l).setIfInBounds C (.int .i64 ((cntC l C : Nat) + 1)) = cntA (l ++ [x]) := by
  unfold cntA
  rw [arrA_set]
  refine arrA_congr fun i hi => ?_
  rw [cntC_snoc]
  by_cases h2 : i = C
  · subst h2; simp [h]
  · have h3 : ¬ x.cell = (i : Int) := by omega
    simp [h2, h3]
theorem arrA_one {n : Nat} {f : Nat → Value} (h : ∀ i, (f i).oneCell' = true) : (arrA n f).all (·.oneCell') = true := by
  unfold arrA; rw [Array.all_eq_true_iff_forall_mem]
  intro v hv
  simp at hv
  obtain ⟨i, _, rfl⟩ := hv
  exact h i
theorem arrA_size {n : Nat} {f : Nat → Value} : (arrA n f).size = n := by simp [arrA]
theorem setRow_row {W : World} {g t : Nat} {old cs : Array Value} (h : Row W g t old) : Row (W.setRow g cs) g t cs := setRow_heap W g old cs t (0, 0) h
theorem setRow_off {W : World} {g b t : Nat} {arr cs : Array Value} (hne : b ≠ g) (h : Row W b t arr) : Row (W.setRow g cs) b t arr := (setRow_other W g b cs hne).trans h
theorem setRow_below {n : Nat} {w W : World} {g : Nat} {cs : Array Value} (hg : n ≤ g) (h : Below n w W) : Below n w (W.setRow g cs) :=
  h.trans ⟨rfl, rfl, rfl, by simp [World.setRow], fun k hk => setRow_other W g k cs (by omega)⟩
theorem results_c1r {fn : Func} {p : Tmp} {tp : TypeId} {tmps : Array Value} {P : Program} {w : World} {a : Addr} {va : Value} (h : fn.results = #[.cell p tp])
    (hp : tmps.getD p undef = .pointer (some a)) (la : (loadVar tp a).run P w = .ok va w) : (results fn tmps).run P w = .ok va w := by
  simp only [results, h]
  simp only [Array.getD_eq_getD_getElem?] at hp
  simp [hp, asAddr, la]
theorem info_a16 : (Try.prog.info? 66).map (·.size) = some 16 := by kernel_rfl
set_option maxRecDepth 100000 in
set_option maxHeartbeats 1000000 in
theorem loads_c (s : Option Addr) (cap : Nat) (k : List (List Clm)) (w : World) (h : Ker w s cap k) (hf : k.flatten.length ≤ 1000000) (hk : k.length ≤ 1000000) (hv : ∀ l ∈ k, ∀ c ∈ l, 0 ≤ c.cell ∧ c.cell ≤ 15) :
    Calls Try.prog 45 #[.slice s k.length cap] w fun e w' => e = .returned (.agg (cntA k.flatten)) ∧ Below w.heap.size w w' := by
  have hcc := fun W (h : SlSS clmE W s k) => concat_c s cap k W h (by omega) (by omega)
  have hvf : ∀ c ∈ k.flatten, 0 ≤ c.cell ∧ c.cell ≤ 15 := fun c hc => by
    obtain ⟨l, hl, hcl⟩ := List.mem_flatten.1 hc; exact hv l hl c hcl
  obtain ⟨L, hL⟩ : ∃ L, k.flatten = L := ⟨_, rfl⟩
  rw [hL] at hcc hvf hf ⊢
  clear hL hv
  have hk0 := hk
  replace hcc := Lib.hid hcc; replace hvf := Lib.hid hvf
  have hss := h.ss
  clear h
  go_enter Try.func45, Try.ntmps45
  go_upto_region 2 with (fail)
  refine wp_world fun W HW => ?_
  have hB : Below w.heap.size w W := by rw [HW.out]; (repeat (first | exact Below.refl _ _ | refine Below.alloc ?_ (by simp; try omega) _ | refine Below.setCell ?_ (by simp) _ | refine Below.drew ?_))
  have aB : Row W (w.heap.size) 66 #[.int .i64 0, .int .i64 0, .int .i64 0, .int .i64 0, .int .i64 0, .int .i64 0, .int .i64 0, .int .i64 0, .int .i64 0, .int .i64 0, .int .i64 0, .int .i64 0, .int .i64 0, .int .i64 0, .int .i64 0, .int .i64 0] := (by rw [HW.out]; (repeat (first | (refine blk_new ?_; simp; done) | refine blk_old ?_ _)) : W.heap[w.heap.size]? = some (.cells #[.int .i64 0, .int .i64 0, .int .i64 0, .int .i64 0, .int .i64 0, .int .i64 0, .int .i64 0, .int .i64 0, .int .i64 0, .int .i64 0, .int .i64 0, .int .i64 0, .int .i64 0, .int .i64 0, .int .i64 0, .int .i64 0] 66 (0, 0)))
  have a0 : W.cell? ⟨w.heap.size, 0, none⟩ = some (.int .i64 0) := by rw [HW.out]; simp [go_sem]
  have a1 : W.cell? ⟨w.heap.size, 1, none⟩ = some (.int .i64 0) := by rw [HW.out]; simp [go_sem]
  have a2 : W.cell? ⟨w.heap.size, 2, none⟩ = some (.int .i64 0) := by rw [HW.out]; simp [go_sem]
  have a3 : W.cell? ⟨w.heap.size, 3, none⟩ = some (.int .i64 0) := by rw [HW.out]; simp [go_sem]
  have a4 : W.cell? ⟨w.heap.size, 4, none⟩ = some (.int .i64 0) := by rw [HW.out]; simp [go_sem]
  have a5 : W.cell? ⟨w.heap.size, 5, none⟩ = some (.int .i64 0) := by rw [HW.out]; simp [go_sem]
  have a6 : W.cell? ⟨w.heap.size, 6, none⟩ = some (.int .i64 0) := by rw [HW.out]; simp [go_sem]
  have a7 : W.cell? ⟨w.heap.size, 7, none⟩ = some (.int .i64 0) := by rw [HW.out]; simp [go_sem]
  have a8 : W.cell? ⟨w.heap.size, 8, none⟩ = some (.int .i64 0) := by rw [HW.out]; simp [go_sem]
  have a9 : W.cell? ⟨w.heap.size, 9, none⟩ = some (.int .i64 0) := by rw [HW.out]; simp [go_sem]
  have a10 : W.cell? ⟨w.heap.size, 10, none⟩ = some (.int .i64 0) := by rw [HW.out]; simp [go_sem]
  have a11 : W.cell? ⟨w.heap.size, 11, none⟩ = some (.int .i64 0) := by rw [HW.out]; simp [go_sem]
  have a12 : W.cell? ⟨w.heap.size, 12, none⟩ = some (.int .i64 0) := by rw [HW.out]; simp [go_sem]
  have a13 : W.cell? ⟨w.heap.size, 13, none⟩ = some (.int .i64 0) := by rw [HW.out]; simp [go_sem]
  have a14 : W.cell? ⟨w.heap.size, 14, none⟩ = some (.int .i64 0) := by rw [HW.out]; simp [go_sem]
  have a15 : W.cell? ⟨w.heap.size, 15, none⟩ = some (.int .i64 0) := by rw [HW.out]; simp [go_sem]
  have al : w.heap.size < W.heap.size := World.block_lt_of_cell? W _ a0
  have uB : Row W (w.heap.size + 1) 66 #[.int .i64 0, .int .i64 0, .int .i64 0, .int .i64 0, .int .i64 0, .int .i64 0, .int .i64 0, .int .i64 0, .int .i64 0, .int .i64 0, .int .i64 0, .int .i64 0, .int .i64 0, .int .i64 0, .int .i64 0, .int .i64 0] := (by rw [HW.out]; (repeat (first | (refine blk_new ?_; simp; done) | refine blk_old ?_ _)) : W.heap[w.heap.size + 1]? = some (.cells #[.int .i64 0, .int .i64 0, .int .i64 0, .int .i64 0, .int .i64 0, .int .i64 0, .int .i64 0, .int .i64 0, .int .i64 0, .int .i64 0, .int .i64 0, .int .i64 0, .int .i64 0, .int .i64 0, .int .i64 0, .int .i64 0] 66 (0, 0)))
  have u0 : W.cell? ⟨w.heap.size + 1, 0, none⟩ = some (.int .i64 0) := by rw [HW.out]; simp [go_sem]
  have u1 : W.cell? ⟨w.heap.size + 1, 1, none⟩ = some (.int .i64 0) := by rw [HW.out]; simp [go_sem]
  have u2 : W.cell? ⟨w.heap.size + 1, 2, none⟩ = some (.int .i64 0) := by rw [HW.out]; simp [go_sem]
  have u3 : W.cell? ⟨w.heap.size + 1, 3, none⟩ = some (.int .i64 0) := by rw [HW.out]; simp [go_sem]
  have u4 : W.cell? ⟨w.heap.size + 1, 4, none⟩ = some (.int .i64 0) := by rw [HW.out]; simp [go_sem]
  have u5 : W.cell? ⟨w.heap.size + 1, 5, none⟩ = some (.int .i64 0) := by rw [HW.out]; simp [go_sem]
  have u6 : W.cell? ⟨w.heap.size + 1, 6, none⟩ = some (.int .i64 0) := by rw [HW.out]; simp [go_sem]
  have u7 : W.cell? ⟨w.heap.size + 1, 7, none⟩ = some (.int .i64 0) := by rw [HW.out]; simp [go_sem]
  have u8 : W.cell? ⟨w.heap.size + 1, 8, none⟩ = some (.int .i64 0) := by rw [HW.out]; simp [go_sem]
  have u9 : W.cell? ⟨w.heap.size + 1, 9, none⟩ = some (.int .i64 0) := by rw [HW.out]; simp [go_sem]
  have u10 : W.cell? ⟨w.heap.size + 1, 10, none⟩ = some (.int .i64 0) := by rw [HW.out]; simp [go_sem]
  have u11 : W.cell? ⟨w.heap.size + 1, 11, none⟩ = some (.int .i64 0) := by rw [HW.out]; simp [go_sem]
  have u12 : W.cell? ⟨w.heap.size + 1, 12, none⟩ = some (.int .i64 0) := by rw [HW.out]; simp [go_sem]
  have u13 : W.cell? ⟨w.heap.size + 1, 13, none⟩ = some (.int .i64 0) := by rw [HW.out]; simp [go_sem]
  have u14 : W.cell? ⟨w.heap.size + 1, 14, none⟩ = some (.int .i64 0) := by rw [HW.out]; simp [go_sem]
  have u15 : W.cell? ⟨w.heap.size + 1, 15, none⟩ = some (.int .i64 0) := by rw [HW.out]; simp [go_sem]
  have ul : w.heap.size + 1 < W.heap.size := World.block_lt_of_cell? W _ u0
  try replace hss := up_of hB hss
  rw [← cntA_nil] at aB uB
  clear a0 a1 a2 a3 a4 a5 a6 a7 a8 a9 a10 a11 a12 a13 a14 a15 u0 u1 u2 u3 u4 u5 u6 u7 u8 u9 u10 u11 u12 u13 u14 u15
  go_wp2_with (go_at_call 66; refine (hcc.out _ hss).mono ?_; rintro e W1 ⟨s3, c3, rfl, hown, hb⟩)
  try replace hB := up_of hb hB
  try replace aB := up_of hb aB
  try replace uB := up_of hb uB
  have hub := ul
  replace hown := Lib.hid hown
  go_loopw [9] (fun ii V => ∃ i : Nat, i ≤ L.length ∧ ii = .int .i64 i ∧ Chg (fun j => j = w.heap.size + 1) W1 V ∧ Row V (w.heap.size + 1) 66 (cntA (L.take i))) (fun ii _ => L.length - (intOf ii).toNat)
  case atStart => exact ⟨0, by omega, rfl, Chg.refl _ _, uB⟩
  case round =>
    clear uB
    obtain ⟨i, hi, rfl, hC, uB⟩ := hrel
    have hBr : Below w.heap.size w _ := hC.below (n := w.heap.size) (fun j hj => by omega) hB.size hB
    by_cases hlt : i < L.length
    · obtain ⟨bx, ox, rfl, hbx, x0, x1⟩ := (SlS.of_own (own_chg hC (fun j hj e => by omega) hown.out)).clm_at hlt
      have hcb := hvf.out _ (List.getElem_mem hlt)
      have hset := fun C => cntA_set (L.take i) L[i] C
      have e4 : L.take (i + 1) = L.take i ++ [L[i]] := List.take_succ_eq_append_getElem hlt
      rw [← e4] at hset
      have hle := cntC_le (L.take i) L[i].cell
      rw [List.length_take] at hle
      replace e4 := Lib.hid e4
      obtain ⟨x, hx⟩ : ∃ x, L[i] = x := ⟨_, rfl⟩
      rw [hx] at hcb hset x0 x1 hle
      replace hx := Lib.hid hx
      obtain ⟨C, hCe, hC2⟩ : ∃ C : Nat, x.cell = C ∧ C < 16 := ⟨x.cell.toNat, by omega, by omega⟩
      have hset2 := hset C hCe
      rw [hCe] at x0 hle
      have uc := uB.cell (arrA_at (fun c => .int .i64 (cntC (L.take i) c)) hC2)
      have uf := uB.frozen C
      obtain ⟨M, hMe⟩ : ∃ M : Nat, cntC (L.take i) C = M := ⟨_, rfl⟩
      rw [hMe] at hset2 uc hle
      replace hset2 := Lib.hid hset2; replace hMe := Lib.hid hMe; replace hCe := Lib.hid hCe
      clear hset hcb
      have i4 : (0 : Int) ≤ (i : Int) := by omega
      have i5 : (i : Int) < (L.length : Int) := by omega
      have i6 : (0 : Int) ≤ (C : Int) := by omega
      have i7 : (C : Int) < 16 := by omega
      have hM6 : M ≤ 1000000 := by omega
      clear hle
      have hul := uB.lt
      go_upto_region 5 with (fail)
      refine wp_world fun Y HY => ?_
      have hY : Below wr.heap.size wr Y := by rw [HY.out]; (repeat (first | exact Below.refl _ _ | refine Below.alloc ?_ (by simp; try omega) _ | refine Below.setCell ?_ (by simp) _ | refine Below.drew ?_))
      have x0 : Y.cell? ⟨wr.heap.size, 0, none⟩ = some (.int .i64 C) := by rw [HY.out]; simp [go_sem]
      have x1 : Y.cell? ⟨wr.heap.size, 1, none⟩ = some (.int .i64 x.time) := by rw [HY.out]; simp [go_sem]
      have xl : wr.heap.size < Y.heap.size := World.block_lt_of_cell? Y _ x0
      try replace uB := up_of hY uB
      try replace uc := up_of hY uc
      have uf := uB.frozen C
      go_wp2
      go_roundw
      case rel =>
        refine ⟨i + 1, by omega, by go_num, ?_, ?_⟩
        · have hC3 := hC.trans (Chg.of_below hY)
          repeat (first | (with_reducible exact hC3) | (with_reducible refine Chg.setCell ?_ (by simp) _) | (with_reducible refine Chg.drew ?_) | (with_reducible refine Chg.alloc ?_ _))
        · refine Row.of ?_
          repeat (first | (with_reducible refine RowG.base uB ?_) | (with_reducible refine RowG.drew ?_) | (with_reducible refine RowG.set ?_) | ((with_reducible refine RowG.other ?_ ?_); (focus (first | omega | (simp; done) | (simp; omega)))) | (with_reducible refine RowG.alloc ?_))
          exact hset2.out
      case measure => exact meas hlt
    · obtain rfl : i = L.length := by omega
      rw [List.take_length] at uB
      have aV := hC.row (by omega) aB
      have hsz : ∀ l, some (16 : Nat) = some (cntA l).size := fun l => by simp [cntA, arrA_size]
      have hone := arrA_one (n := 16) (f := fun c => .int .i64 (cntC L c)) (fun _ => rfl)
      replace hsz := Lib.hid hsz; replace hone := Lib.hid hone
      go_wp2_with (first | (refine wpList_load_row rfl 66 _ rfl (w.heap.size + 1) rfl 66 (cntA L) (0, 0) _ uB Try.underlying66 rfl (info_a16.trans (hsz.out L)) ?_) | (refine wpList_store_row rfl 66 _ _ rfl w.heap.size (cntA L) rfl rfl 66 (cntA []) aV (info_a16.trans (hsz.out L)) (by simp [cntA, arrA_size]) hone.out ?_))
      refine bodyPost_ret (results_c1r rfl rfl (run_loadVar_row _ w.heap.size 66 66 (cntA L) (0, 0) _ (setRow_row aV) Try.underlying66 rfl (info_a16.trans (hsz.out L)))) rfl ⟨rfl, ?_⟩
      exact setRow_below (Nat.le_refl _) hBr

theorem cntA_cells {W : World} {b : Nat} {l : List Clm} (h : Row W b 66 (cntA l)) : SlS intE W (some ⟨b, 0, none⟩) ((List.range 16).map fun (c : Nat) => ((cntC l (c : Int) : Nat) : Int)) := by
  refine .inr ⟨b, 0, rfl, h.lt, fun j u hj => ?_⟩
  rw [Nat.zero_add]
  have e : intE.all ((List.range 16).map fun (c : Nat) => ((cntC l (c : Int) : Nat) : Int)) = (List.range 16).map fun (c : Nat) => Value.int .i64 ((cntC l (c : Int) : Nat) : Int) := by
    rfl
  rw [e] at hj
  exact h.cell (i := j) (by simpa [cntA, arrA] using hj)
set_option maxRecDepth 100000 in
set_option maxHeartbeats 1000000 in
theorem Bound_c (s : Option Addr) (cap : Nat) (k : List (List Clm)) (w : World) (h : Ker w s cap k) :
    Calls Try.prog 18 #[.slice s k.length cap] w fun e w' => e = .returned (.tuple #[.int .i64 (bndV k), .int .i64 (bndE k)]) ∧ Below w.heap.size w w' := by
  have hl := h.len
  have H := Lib.hid (valid_c s cap k w h)
  cases h1 : vldB k
  · rw [show bndV k = 0 by simp [bndV, h1], show bndE k = 90 by simp [bndE, h1]]
    rw [h1] at H
    clear h
    go_enter Try.func18, Try.ntmps18
    go_wp2_with (go_at_call 36; refine H.out.mono ?_; rintro e W1 ⟨rfl, hb⟩)
    go_ret2
    exact ⟨rfl, hb⟩
  rw [show bndV k = (maxTo (fun c => cntC k.flatten c) 16 : Nat) by simp [bndV, h1, bndN], show bndE k = 0 by simp [bndE, h1]]
  rw [h1] at H
  have hf := vld_flat h1
  have hk3 := vldB_k h1
  have hC := fun W (h : Ker W s cap k) => loads_c s cap k W h (by omega) (by omega) (fun l hl c hc => (vldB_c h1 hl hc).1)
  have hcx : ∀ c : Nat, cntC k.flatten (c : Int) ≤ 1000000 := fun c => Nat.le_trans (cntC_le _ _) (by omega)
  obtain ⟨L, hL⟩ : ∃ L, k.flatten = L := ⟨_, rfl⟩
  rw [hL] at hC
  simp only [hL] at hcx ⊢
  have hsz : some (16 : Nat) = some (cntA L).size := by simp [cntA, arrA_size]
  have hone := arrA_one (n := 16) (f := fun c => .int .i64 (cntC L c)) (fun _ => rfl)
  replace h := Lib.hid h; replace hC := Lib.hid hC; replace hcx := Lib.hid hcx; replace hL := Lib.hid hL; replace hsz := Lib.hid hsz; replace hone := Lib.hid hone
  clear h1 hf hk3
  go_enter Try.func18, Try.ntmps18
  go_upto_region 3 with (go_at_call 36; refine H.out.mono ?_; rintro e W1 ⟨rfl, hb⟩)
  go_upto_region 4 with (first | (go_at_call 45; refine (hC.out _ (up_of hb h).out).mono ?_; rintro e W2 ⟨rfl, hb2⟩) | (refine wpList_store_row rfl 66 _ _ rfl W2.heap.size (cntA L) rfl rfl 66 _ (Row.new W2 _ _) (info_a16.trans hsz.out) (by simp [cntA, arrA_size]) hone.out ?_))
  refine wp_world fun X HX => ?_
  have r4 : Row X W2.heap.size 66 (cntA L) := by
    rw [HX.out]
    exact setRow_row (Row.new W2 _ _)
  have hBX : Below w.heap.size w X := by
    rw [HX.out]
    have hs1 := hb.size
    have hs2 := hb2.size
    exact setRow_below (by omega) ((hb.trans (hb2.mono hs1)).alloc (by omega) _)
  have hMx := Lib.hid (Max_c (some ⟨W2.heap.size, 0, none⟩) 16 16 (fun c => cntC L c) X (by omega) (cntA_cells r4) hcx.out)
  clear r4
  go_wp2_with (go_at_call 46; refine hMx.out.mono ?_; rintro e w' ⟨rfl, rfl⟩)
  go_ret2
  exact ⟨rfl, hBX⟩
end Go.Proofs.Ytgeoehokojijdaa
