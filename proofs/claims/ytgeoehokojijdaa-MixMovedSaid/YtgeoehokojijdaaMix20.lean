/- Which starts a kernel forbids to another: the program. -/
import Derived.Test.YtgeoehokojijdaaMix19
import Derived.Test.YtgeoehokojijdaaMix15
namespace Go.Proofs.Ytgeoehokojijdaa
open Go.RowKit

/-- The differences in time, modulo p, of a claim and those of a list on its cell. -/
def rowD (B : List Clm) (p : Int) (x : Clm) : List Int := (B.filter fun y => decide (x.cell = y.cell)).map fun y => (x.time - y.time) % p
def dLs (A B : List Clm) (p : Int) : List Int := A.flatMap (rowD B p)
def forbL (A B : List Clm) (p : Nat) : List Int := ((List.range p).filter fun (n : Nat) => decide ((n : Int) ∈ dLs A B p)).map fun (n : Nat) => (n : Int)
theorem rowD_take (B : List Clm) (p : Int) (x : Clm) {j : Nat} (hj : j < B.length) : rowD (B.take (j + 1)) p x = rowD (B.take j) p x ++ (if x.cell = B[j].cell then [(x.time - B[j].time) % p] else []) := by
  unfold rowD
  rw [List.take_succ_eq_append_getElem hj, List.filter_append, List.map_append]
  congr 1
  by_cases h : x.cell = B[j].cell <;> simp [h]
theorem dLs_take (A B : List Clm) (p : Int) {i : Nat} (hi : i < A.length) : dLs (A.take (i + 1)) B p = dLs (A.take i) B p ++ rowD B p A[i] := by
  unfold dLs; rw [List.take_succ_eq_append_getElem hi, List.flatMap_append]; simp
def bolA (p : Nat) (D : List Int) : Array Value := arrA p (fun n => .bool (decide ((n : Int) ∈ D)))
theorem bolA_set (p : Nat) (D : List Int) (u : Nat) : (bolA p D).setIfInBounds u (.bool true) = bolA p (D ++ [(u : Int)]) := by
  unfold bolA
  rw [arrA_set]
  refine arrA_congr fun i _ => ?_
  by_cases h : i = u
  · subst h; simp
  · have h2 : ¬ (i : Int) = (u : Int) := by omega
    simp [h, h2]
theorem bolA_at {p : Nat} {D : List Int} {u : Nat} (h : u < p) : (bolA p D)[u]? = some (.bool (decide ((u : Int) ∈ D))) := arrA_at _ h
theorem rem2 (d : Int) (p : Nat) (hp : 1 ≤ p) : ∃ (T : Int) (U : Nat), d.tmod p = T ∧ -(p : Int) < T ∧ T < p ∧ (T + p).tmod p = U ∧ d % (p : Int) = U ∧ U < p := by
  have h1 := Int.emod_nonneg d (b := (p : Int)) (by omega)
  have h2 := Int.emod_lt_of_pos d (b := (p : Int)) (by omega)
  have h3 := Int.tmod_eq_emod (a := d) (b := (p : Int))
  have h4 : d.tmod p = d % p ∨ (d.tmod p = d % p - p ∧ ¬ d % (p : Int) = 0) := by
    split at h3
    · left; omega
    · rename_i hn
      right; exact ⟨by omega, fun e => hn (.inr (Int.dvd_of_emod_eq_zero e))⟩
  clear h3
  refine ⟨d.tmod p, (d % p).toNat, rfl, by omega, by omega, ?_, by omega, by omega⟩
  have h5 : 0 ≤ d.tmod p + p := by omega
  rw [Int.tmod_eq_emod_of_nonneg h5]
  rcases h4 with e | ⟨e, -⟩
  · rw [e, Int.add_emod_right, Int.emod_emod, Int.toNat_of_nonneg h1]
  · rw [e, show d % (p : Int) - p + p = d % p by omega, Int.emod_emod, Int.toNat_of_nonneg h1]
theorem info_bool : (Try.prog.info? 4).map (fun i => (i.zero, i.size, i.bytes)) = some (some (.bool false), 1, 1) := by kernel_rfl
theorem run_make_bools (n : Nat) (hn : n ≤ 1000000) (w : World) : (Instr.makeSlice 78 (.int .i64 n) (.int .i64 n)).run Try.prog w = .ok (.slice (some ⟨w.heap.size, 0, none⟩) n n) (w.alloc (.cells (bolA n []) 4)) := by
  obtain ⟨i, hi, hz, hs, hb⟩ := info_parts info_bool
  have h := run_makeSlice (P := Try.prog) (w := w) 78 4 i _ Try.underlying78 hi hz .i64 .i64 n n (by omega) (by omega) (by rw [hs]; omega) (by rw [hb]; omega) (by omega)
  rw [h, hs]
  have e : madeCells (Value.cells (.bool false)) ((n : Int).toNat * 1) = bolA n [] := by
    apply Array.ext
    · simp [size_madeCells, bolA, arrA]
    · intro j h1 h2
      simp [madeCells, bolA, arrA, Value.cells, Nat.mod_one]
  rw [e]
  simp
def fbE (k : List (List Clm)) (a b p : Int) : Int := if chkE k p = 0 then (if bw 0 a (k.length - 1) && bw 0 b (k.length - 1) && decide (a ≠ b) then 0 else 2) else chkE k p
def fbL (k : List (List Clm)) (a b p : Int) : List Int := if fbE k a b p = 0 then forbL (k.getD a.toNat []) (k.getD b.toNat []) p.toNat else []
theorem forb_len (A B : List Clm) (p : Nat) : (forbL A B p).length ≤ p := by
  unfold forbL; rw [List.length_map]
  exact Nat.le_trans (List.length_filter_le _ _) (by simp)
/-- What has come of the list when n numbers are looked at. -/
def fbTo (D : List Int) (n : Nat) : List Int := ((List.range n).filter fun (n : Nat) => decide ((n : Int) ∈ D)).map fun (n : Nat) => (n : Int)
theorem fbTo_succ (D : List Int) (n : Nat) : fbTo D (n + 1) = fbTo D n ++ (if (n : Int) ∈ D then [(n : Int)] else []) := by
  unfold fbTo
  rw [List.range_succ, List.filter_append, List.map_append]
  congr 1
  by_cases h : (n : Int) ∈ D <;> simp [h]
theorem fbTo_len (D : List Int) (n : Nat) : (fbTo D n).length ≤ n := by
  unfold fbTo; rw [List.length_map]
  exact Nat.le_trans (List.length_filter_le _ _) (by simp)
set_option maxRecDepth 100000 in
set_option maxHeartbeats 2000000 in
theorem Forbidden_c (s : Option Addr) (cap : Nat) (k : List (List Clm)) (a b p : Int) (w : World) (h : Ker w s cap k) :
    Calls Try.prog 32 #[.slice s k.length cap, .int .i64 a, .int .i64 b, .int .i64 p] w (IntsErr (fbL k a b p) (fbE k a b p) w) := by
  have H := Lib.hid (checked_c s cap k p w h)
  have hkl := h.len
  by_cases h1 : chkE k p = 0
  case neg =>
    have e1 : fbE k a b p = chkE k p := by simp [fbE, h1]
    rw [show fbL k a b p = [] by simp [fbL, e1, h1], e1]
    obtain ⟨E, hE⟩ : ∃ E, chkE k p = E := ⟨_, rfl⟩
    rw [hE] at H h1 ⊢
    have h1' : (E != 0) = true := by simpa using h1
    clear h hE h1 e1
    go_enter Try.func32, Try.ntmps32
    go_wp2_with (go_at_call 49; refine H.out.mono ?_; rintro e W1 ⟨rfl, hb⟩)
    go_ret2
    exact IntsErr.nil hb
  have hv := chk_ok h1
  have hk3 := vldB_k hv.1
  rw [h1] at H
  have hw1 := i64_small (n := (k.length : Int) - 1) (by omega)
  have hbad : (bw 0 a (k.length - 1) && bw 0 b (k.length - 1) && decide (a ≠ b)) = false → fbE k a b p = 2 ∧ fbL k a b p = [] := fun hh => by
    have e1 : fbE k a b p = 2 := by unfold fbE; rw [if_pos h1, hh]; rfl
    exact ⟨e1, by simp [fbL, e1]⟩
  cases h2 : bw 0 a (k.length - 1)
  · obtain ⟨e1, e2⟩ := hbad (by rw [h2]; rfl)
    rw [e1, e2]
    clear h e1 e2 h1 hv hbad
    go_enter Try.func32, Try.ntmps32
    go_wp2_with (first | (go_at_call 54; refine (between_c _ _ _ _).mono ?_; rintro e w' ⟨rfl, rfl⟩) | (go_at_call 49; refine H.out.mono ?_; rintro e W1 ⟨rfl, hb⟩))
    go_ret2
    exact IntsErr.nil hb
  cases h3 : bw 0 b (k.length - 1)
  · obtain ⟨e1, e2⟩ := hbad (by rw [h2, h3]; rfl)
    rw [e1, e2]
    clear h e1 e2 h1 hv hbad
    go_enter Try.func32, Try.ntmps32
    go_wp2_with (first | (go_at_call 54; refine (between_c _ _ _ _).mono ?_; rintro e w' ⟨rfl, rfl⟩) | (go_at_call 49; refine H.out.mono ?_; rintro e W1 ⟨rfl, hb⟩))
    go_ret2
    exact IntsErr.nil hb
  cases h4 : (a == b)
  case true =>
    obtain ⟨e1, e2⟩ := hbad (by rw [h2, h3]; simp at h4; simp [h4])
    rw [e1, e2]
    clear h e1 e2 h1 hv hbad
    go_enter Try.func32, Try.ntmps32
    go_wp2_with (first | (go_at_call 54; refine (between_c _ _ _ _).mono ?_; rintro e w' ⟨rfl, rfl⟩) | (go_at_call 49; refine H.out.mono ?_; rintro e W1 ⟨rfl, hb⟩))
    go_ret2
    exact IntsErr.nil hb
  have hab : a ≠ b := by simpa using h4
  have e1 : fbE k a b p = 0 := by unfold fbE; rw [if_pos h1, h2, h3]; simp [hab]
  have ha := bw_iff.1 h2
  have hb := bw_iff.1 h3
  have hp := bw_iff.1 hv.2
  obtain ⟨a, rfl⟩ : ∃ n : Nat, a = n := ⟨a.toNat, by omega⟩
  obtain ⟨b, rfl⟩ : ∃ n : Nat, b = n := ⟨b.toNat, by omega⟩
  obtain ⟨p, rfl⟩ : ∃ n : Nat, p = n := ⟨p.toNat, by omega⟩
  have hal : a < k.length := by omega
  have hbl : b < k.length := by omega
  rw [show fbL k a b p = forbL k[a] k[b] p by simp [fbL, e1, List.getElem?_eq_getElem hal, List.getElem?_eq_getElem hbl], e1]
  have hcA := fun c hc => vldB_c hv.1 (List.getElem_mem hal) (c := c) hc
  have hcB := fun c hc => vldB_c hv.1 (List.getElem_mem hbl) (c := c) hc
  have hAl := (vldB_l hv.1 (List.getElem_mem hal)).2.2
  have hBl := (vldB_l hv.1 (List.getElem_mem hbl)).2.2
  obtain ⟨A, hA⟩ : ∃ A, k[a] = A := ⟨_, rfl⟩
  obtain ⟨B, hB⟩ : ∃ B, k[b] = B := ⟨_, rfl⟩
  obtain ⟨ba, oa, sa, ca, rfl, -, qa, sla, -, -⟩ := h.ss.at hal
  obtain ⟨ba', oa', sb, cb, eb, -, qb, slb, -, -⟩ := h.ss.at hbl
  cases eb
  rw [hA] at hcA hAl qa sla ⊢
  rw [hB] at hcB hBl qb slb ⊢
  have hmk := fun w => run_make_bools p (by omega) w
  have hdA := fun (i : Nat) hi => dLs_take A B p (i := i) hi
  have hdB := fun x (j : Nat) hj => rowD_take B p x (j := j) hj
  have hset := fun D u => bolA_set p D u
  have hd0 : dLs (A.take 0) B p = [] := rfl
  have hr0 : ∀ x, rowD (B.take 0) (p : Int) x = [] := fun x => rfl
  have hfz : forbL A B p = fbTo (dLs A B p) p := rfl
  have hp2 : (1 : Int) ≤ (p : Int) ∧ (p : Int) ≤ 20 := hp
  replace hcA := Lib.hid hcA; replace hcB := Lib.hid hcB; replace hdA := Lib.hid hdA; replace hdB := Lib.hid hdB; replace hset := Lib.hid hset; replace hd0 := Lib.hid hd0; replace hr0 := Lib.hid hr0; replace hfz := Lib.hid hfz
  replace qa := Lib.hid qa; replace qb := Lib.hid qb; replace sla := Lib.hid sla; replace slb := Lib.hid slb
  have j1 : (0 : Int) ≤ (a : Int) := by omega
  have j2 : (a : Int) < (k.length : Int) := by omega
  have j3 : (0 : Int) ≤ (b : Int) := by omega
  have j4 : (b : Int) < (k.length : Int) := by omega
  clear hbad h1 hv e1 ha hb hp hal hbl hA hB hab h
  go_enter Try.func32, Try.ntmps32
  go_upto_region 7 with (first | (go_at_call 54; refine (between_c _ _ _ _).mono ?_; rintro e w' ⟨rfl, rfl⟩) | (go_at_call 49; refine H.out.mono ?_; rintro e W1 ⟨rfl, hb⟩))
  refine wp_world fun X HX => ?_
  have hW1 := hb.size
  have hX : Below w.heap.size w X := by
    rw [HX.out]
    repeat (first | (with_reducible exact hb) | (with_reducible refine Below.drew ?_) | ((with_reducible refine Below.setC ?_ ?_); (focus (first | omega | (simp; done) | (simp; omega)))) | ((with_reducible refine Below.allo ?_ ?_); (focus (first | omega | (simp; done) | (simp; omega)))))
  have hrow : Row X W1.heap.size 4 (bolA p (dLs (A.take 0) B p)) := by
    rw [HX.out, hd0.out]
    exact Row.new _ _ _
  have qa1 := (up_of hX qa).out
  have hBB := hX
  clear H hmk
  go_wp2
  go_loopw [51] (fun ii V => ∃ i : Nat, i ≤ A.length ∧ ii = .int .i64 i ∧ Below w.heap.size w V ∧ Row V W1.heap.size 4 (bolA p (dLs (A.take i) B p))) (fun ii _ => A.length - (intOf ii).toNat)
  case atStart => exact ⟨0, by omega, rfl, hX, hrow⟩
  case round =>
    clear hX hrow qa1
    obtain ⟨i, hi, rfl, hX, hrow⟩ := hrel
    by_cases hlt : i < A.length
    · obtain ⟨bx, ox, rfl, hbx, x0, x1⟩ := (up_of hX sla).out.clm_at hlt
      have hxb := hcA.out _ (List.getElem_mem hlt)
      have e2 := hdA.out i hlt
      obtain ⟨x, hx⟩ : ∃ x, A[i] = x := ⟨_, rfl⟩
      rw [hx] at x0 x1 hxb e2
      replace hx := Lib.hid hx
      have qb1 := (up_of hX qb).out
      have e3 : dLs (A.take i) B p = dLs (A.take i) B p ++ rowD (B.take 0) p x := by rw [hr0.out]; simp
      obtain ⟨D, hD⟩ : ∃ D, dLs (A.take i) B p = D := ⟨_, rfl⟩
      rw [hD] at e2 e3 hrow
      replace hD := Lib.hid hD; replace e2 := Lib.hid e2; replace e3 := Lib.hid e3
      have i4 : (0 : Int) ≤ (i : Int) := by omega
      have i5 : (i : Int) < (A.length : Int) := by omega
      have hrl := hrow.lt
      go_upto_region 10 with (fail)
      refine wp_world fun Y HY => ?_
      have hY : Below wr.heap.size wr Y := by rw [HY.out]; (repeat (first | exact Below.refl _ _ | refine Below.alloc ?_ (by simp; try omega) _ | refine Below.setCell ?_ (by simp) _ | refine Below.drew ?_))
      have x0 : Y.cell? ⟨wr.heap.size, 0, none⟩ = some (.int .i64 x.cell) := by rw [HY.out]; simp [go_sem]
      have x1 : Y.cell? ⟨wr.heap.size, 1, none⟩ = some (.int .i64 x.time) := by rw [HY.out]; simp [go_sem]
      have xl : wr.heap.size < Y.heap.size := World.block_lt_of_cell? Y _ x0
      try replace hX := up_of hY hX
      try replace hrow := up_of hY hrow
      try replace qb1 := up_of hY qb1
      rw [e3.out] at hrow
      go_wp2
      go_loopw [60] (fun ii V => ∃ j : Nat, j ≤ B.length ∧ ii = .int .i64 j ∧ Below w.heap.size w V ∧ Row V W1.heap.size 4 (bolA p (D ++ rowD (B.take j) p x)) ∧ Chg (fun z => z = W1.heap.size) Y V) (fun ii _ => B.length - (intOf ii).toNat)
      case atStart => exact ⟨0, by omega, rfl, hX, hrow, Chg.refl _ _⟩
      case round =>
        clear hX hrow
        obtain ⟨j, hj, rfl, hX, hrow, hCh⟩ := hrel
        have x0' := hCh.cell (by simp; omega) x0
        have x1' := hCh.cell (by simp; omega) x1
        by_cases hlj : j < B.length
        · obtain ⟨by_, oy, rfl, hby, y0, y1⟩ := (up_of hX slb).out.clm_at hlj
          have hyb := hcB.out _ (List.getElem_mem hlj)
          have e4 := hdB.out x j hlj
          obtain ⟨y, hy⟩ : ∃ y, B[j] = y := ⟨_, rfl⟩
          rw [hy] at y0 y1 hyb e4
          replace hy := Lib.hid hy
          have i6 : (0 : Int) ≤ (j : Int) := by omega
          have i7 : (j : Int) < (B.length : Int) := by omega
          have hrl := hrow.lt
          have hYs := hCh.size
          go_upto_region 13 with (fail)
          refine wp_world fun Z HZ => ?_
          have hZ : Below wr.heap.size wr Z := by rw [HZ.out]; (repeat (first | exact Below.refl _ _ | refine Below.alloc ?_ (by simp; try omega) _ | refine Below.setCell ?_ (by simp) _ | refine Below.drew ?_))
          have y0 : Z.cell? ⟨wr.heap.size, 0, none⟩ = some (.int .i64 y.cell) := by rw [HZ.out]; simp [go_sem]
          have y1 : Z.cell? ⟨wr.heap.size, 1, none⟩ = some (.int .i64 y.time) := by rw [HZ.out]; simp [go_sem]
          have yl : wr.heap.size < Z.heap.size := World.block_lt_of_cell? Z _ y0
          try replace hX := up_of hZ hX
          try replace hrow := up_of hZ hrow
          try replace x0' := up_of hZ x0'
          try replace x1' := up_of hZ x1'
          try replace hCh := up_of hZ hCh
          by_cases hxy : x.cell = y.cell
          · rw [if_pos hxy] at e4
            obtain ⟨T, U, u1, u2, u3, u4, u5, u6⟩ := rem2 (x.time - y.time) p (by omega)
            rw [u5] at e4
            have u7 := i64_small (n := x.time - y.time) (by omega)
            have u8 := i64_small (n := T + (p : Int)) (by omega)
            have hat := hrow.cell (bolA_at (D := D ++ rowD (B.take j) (p : Int) x) u6)
            have hfr := hrow.frozen U
            have e6 : Row Z W1.heap.size 4 (bolA p (D ++ rowD (B.take j) (p : Int) x)) := hrow
            have hs1 := hset.out (D ++ rowD (B.take j) (p : Int) x) U
            rw [List.append_assoc, ← e4] at hs1
            obtain ⟨u, hu⟩ : ∃ u, decide ((U : Int) ∈ D ++ rowD (B.take j) (p : Int) x) = u := ⟨_, rfl⟩
            rw [hu] at hat
            replace hs1 := Lib.hid hs1
            have hp0 : ¬ (p : Int) = 0 := by omega
            have hp1 : ¬ p = 0 := by omega
            have i8 : (0 : Int) ≤ (U : Int) := by omega
            have i9 : (U : Int) < (p : Int) := by omega
            have hXs := hX.size
            clear hu u5 e4 hrow
            rw [hxy] at x0
            go_wp2
            go_roundw
            case rel =>
              refine ⟨j + 1, by omega, by go_num, ?_, ?_, ?_⟩
              · repeat (first | (with_reducible exact hX) | (with_reducible refine Below.drew ?_) | ((with_reducible refine Below.setC ?_ ?_); (focus (first | omega | (simp; done) | (simp; omega)))) | ((with_reducible refine Below.allo ?_ ?_); (focus (first | omega | (simp; done) | (simp; omega)))))
              · rw [← hs1.out]; exact e6.set _ _
              · repeat (first | (with_reducible exact hCh) | (with_reducible refine Chg.setCell ?_ (by simp) _) | (with_reducible refine Chg.drew ?_) | (with_reducible refine Chg.alloc ?_ _))
            case measure => exact meas hlj
          · rw [if_neg hxy, List.append_nil] at e4
            have hxy2 : (x.cell == y.cell) = false := by simpa using hxy
            go_wp2
            go_roundw
            case rel => exact ⟨j + 1, by omega, by go_num, hX, by rw [e4]; exact hrow, hCh⟩
            case measure => exact meas hlj
        · obtain rfl : j = B.length := by omega
          have e5 : D ++ rowD (B.take B.length) p x = dLs (A.take (i + 1)) B p := by rw [List.take_length, e2.out]
          rw [e5] at hrow
          clear e5
          go_wp2
          go_roundw
          case rel => exact ⟨i + 1, by omega, by go_num, hX, hrow⟩
          case measure => exact meas hlt
    · obtain rfl : i = A.length := by omega
      rw [List.take_length] at hrow
      rw [hfz.out]
      obtain ⟨D, hD⟩ : ∃ D, dLs A B p = D := ⟨_, rfl⟩
      rw [hD] at hrow ⊢
      have hfs := fun n => fbTo_succ D n
      have hfl := fun n => fbTo_len D n
      replace hD := Lib.hid hD; replace hfs := Lib.hid hfs; replace hfl := Lib.hid hfl
      clear sla slb
      obtain ⟨wo, hwo⟩ : ∃ wo : World, wo = wr := ⟨_, rfl⟩
      subst hwo
      have hrl := hrow.lt
      have hXs := hX.size
      go_wp2
      go_loopw [16, 86] (fun v i V => ∃ n : Nat, n ≤ p ∧ i = .int .i64 n ∧ V.ownsRow wo.heap.size 3 1 v (fbTo D n).length (intE.all (fbTo D n)) ∧ Below wo.heap.size wo V) (fun _ i _ => p - (intOf i).toNat)
      case atStart => exact ⟨0, by omega, rfl, World.ownsRow_nil _ _ _ _, Below.refl _ _⟩
      case round =>
        obtain ⟨n, hn, rfl, hown, hR⟩ := hrel
        have hrow2 := up_of hR hrow
        by_cases hlt : n < p
        · have hat := hrow2.cell (bolA_at (D := D) hlt)
          have hfs1 := hfs.out n
          have hfl1 := hfl.out n
          have hRs := hR.size
          have hfr := hrow2.frozen n
          obtain ⟨F, hF⟩ : ∃ F, fbTo D n = F := ⟨_, rfl⟩
          rw [hF] at hown hfs1 hfl1
          replace hF := Lib.hid hF
          have i1 : (0 : Int) ≤ (n : Int) := by omega
          have i2 : (n : Int) < (p : Int) := by omega
          clear hrow2
          by_cases hd : (n : Int) ∈ D
          · rw [if_pos hd] at hfs1
            rw [decide_eq_true hd] at hat
            replace hfs1 := Lib.hid hfs1
            clear hd
            go_wp2_with (first | (at_builtin; obtain ⟨i0, hi, hz0, hz1, hz2⟩ := info_parts info_int; refine wpList_append_own _ rfl _ _ 28 rfl wo.heap.size 3 i0 (.int .i64 0) 1 8 Try.underlying28 hi hz0 hz1 hz2 rfl (by decide) _ _ _ rfl (hown.alloc _) ⟨wr.heap.size, 0, none⟩ 1 1 [.int .i64 n] rfl rfl (news_new _ _ _) (by simp [Value.oneCell']) (by unfold maxLen; omega) (by omega) (by simp; omega) ?_; intro v1 w1 hown1 hgrow hnil))
            go_roundw
            case rel => exact ⟨n + 1, by omega, by go_num, by rw [hfs1.out, Elt.all_append, Elt.all_single, List.length_append]; exact hown1, Up.grown hR hRs hown hgrow⟩
            case measure => exact meas hlt
          · rw [if_neg hd, List.append_nil] at hfs1
            rw [decide_eq_false hd] at hat
            replace hfs1 := Lib.hid hfs1
            clear hd
            go_wp2
            go_roundw
            case rel => exact ⟨n + 1, by omega, by go_num, by rw [hfs1.out]; exact hown, hR⟩
            case measure => exact meas hlt
        · obtain rfl : n = p := by omega
          obtain ⟨s', c', rfl, _⟩ := owns_shape hown
          have e9 : forbL A B n = fbTo D n := by rw [hfz.out, hD.out]
          replace e9 := Lib.hid e9
          go_wp2
          go_ret2
          rw [e9.out]
          exact ⟨⟨s', c', rfl, owns_mono hown hXs⟩, hX.trans (hR.mono hXs)⟩
end Go.Proofs.Ytgeoehokojijdaa
