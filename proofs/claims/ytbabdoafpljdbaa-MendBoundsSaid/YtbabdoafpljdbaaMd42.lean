/- Which lists are cuts: the program. -/
import Derived.Test.YtbabdoafpljdbaaMd41
import Derived.Test.YtbabdoafpljdbaaMd14
import Derived.Test.YtbabdoafpljdbaaHeld
namespace Go.Proofs.Ytbabdoafpljdbaa
open Go.RowKit

theorem sl_two {W : World} {b : Nat} {x y : Int} {t : Nat} (h : W.heap[b]? = some (.cells #[.int .i64 x, .int .i64 y] t (0, 0))) : SlS intE W (some ⟨b, 0, none⟩) [x, y] := by
  refine .inr ⟨b, 0, rfl, (Array.getElem?_eq_some_iff.1 h).1, fun j u hj => ?_⟩
  rw [Nat.zero_add, cell_of_row W b j _ _ (0, 0) h]
  simpa [Elt.all, intE] using hj
/-- What a cell of the list says of the cut. -/
theorem okc_at {wd ht : Nat} {R : List (List Bool)} {K : List Cel} {i : Nat} (hi : i < K.length) : okcAt wd ht R K i = (onB wd ht K[i] && (cellR R K[i].y.toNat K[i].x && (decide (i = 0) || lexB (celN K (i - 1)) K[i]))) := by
  unfold okcAt; rw [celN_at hi]
set_option maxRecDepth 100000 in
set_option maxHeartbeats 4000000 in
theorem IsCut_c (wd ht r : Int) (s : Option Addr) (cap : Nat) (F : List Cel) (t : Option Addr) (ct : Nat) (K : List Cel) (w : World) (h : Cels w s cap F) (g : SlS celE w t K) (hK : K.length ≤ 200) :
    Calls Try.prog 42 #[.agg #[.int .i64 wd, .int .i64 ht, .slice s F.length cap], .int .i64 r, .slice t K.length ct] w fun e w' => e = .returned (.tuple #[.bool (icutB wd ht F r K), .int .i64 (opE wd ht F r)]) ∧ Below w.heap.size w w' := by
  have hop := fun V (h : Cels V s cap F) => opened_c wd ht r s cap F V h
  have hl := h.len
  by_cases h1 : opE wd ht F r = 0
  case neg =>
    rw [show icutB wd ht F r K = false by simp [icutB, h1]]
    rw [show opR wd ht F r = [] by simp [opR, h1]] at hop
    obtain ⟨E, hE⟩ : ∃ E, opE wd ht F r = E := ⟨_, rfl⟩
    rw [hE] at hop h1 ⊢
    have h2 : (E != 0) = true := by simpa using h1
    replace hop := Lib.hid hop
    clear hE h1
    go_enter Try.func42, Try.ntmps42
    go_upto_region 1 with (fail)
    refine wp_world fun W HW => ?_
    have hB : Below w.heap.size w W := by rw [HW.out]; (repeat (first | exact Below.refl _ _ | refine Below.alloc ?_ (by simp; try omega) _ | refine Below.setCell ?_ (by simp) _ | refine Below.drew ?_))
    have g0 : W.cell? ⟨w.heap.size, 0, none⟩ = some (.int .i64 wd) := by rw [HW.out]; simp [go_sem]
    have g1 : W.cell? ⟨w.heap.size, 1, none⟩ = some (.int .i64 ht) := by rw [HW.out]; simp [go_sem]
    have g2 : W.cell? ⟨w.heap.size, 2, none⟩ = some (.slice s F.length cap) := by rw [HW.out]; simp [go_sem]
    have gl : w.heap.size < W.heap.size := World.block_lt_of_cell? W _ g0
    try replace h := up_of hB h
    have hBs := hB.size
    go_wp2_with (go_at_call 48; refine (hop.out _ h).mono ?_; rintro e A1 ⟨⟨s1, k1, ss1, rfl, ht1⟩, hb⟩)
    go_ret2
    exact ⟨rfl, hB.trans (hb.mono hBs)⟩
  obtain ⟨hv, hr⟩ := opE_ok h1
  obtain ⟨f1, f2, f3⟩ := fld_facts hv
  obtain ⟨g1, g2, g3, -⟩ := gv_nat hv
  obtain ⟨hW, hH, -, -⟩ := gv_facts hv
  rw [show icutB wd ht F r K = cutB wd.toNat ht.toNat F r K by simp [icutB, h1], h1]
  rw [show opR wd ht F r = fld wd.toNat ht.toNat F by simp [opR, h1], h1] at hop
  obtain ⟨wd, rfl⟩ : ∃ n : Nat, wd = n := ⟨wd.toNat, g1.symm⟩
  obtain ⟨ht, rfl⟩ : ∃ n : Nat, ht = n := ⟨ht.toNat, g2.symm⟩
  obtain ⟨r, rfl⟩ : ∃ n : Nat, r = n := ⟨r.toNat, by omega⟩
  have hr3 : r ≤ 3 := by omega
  simp only [Int.toNat_natCast] at hop f1 f2 f3 g3 ⊢
  have con := fun c V => on_c wd ht s F.length cap c V hW hH
  have hno := fun (i : Nat) (hi : i < K.length) hh => cut_no (wd := wd) (ht := ht) (F := F) (r := r) hi hh
  have hys := fun hh => cut_yes (wd := wd) (ht := ht) (F := F) (r := r) (K := K) hh
  have hat := fun (i : Nat) (hi : i < K.length) => okc_at (wd := wd) (ht := ht) (R := fld wd ht F) hi
  have hfs := fun (k : Nat) (hk : k < K.length) (cx cy : Nat) (hx : cx < wd) (hy : cy < ht) (e : K[k] = ⟨cx, cy⟩) => (show fld wd ht (F ++ K.take (k + 1)) = (fld wd ht (F ++ K.take k)).set cy (((fld wd ht (F ++ K.take k))[cy]'(by rw [fld_len]; exact hy)).set cx false) by rw [List.take_succ_eq_append_getElem hk, e, ← List.append_assoc]; exact fld_snoc hx hy)
  have hfl := fun (k : Nat) => fld_len wd ht (F ++ K.take k)
  have hfr := fun (k cy : Nat) (hy : cy < ht) => (show ((fld wd ht (F ++ K.take k))[cy]'(by rw [fld_len]; exact hy)).length = wd by rw [fld_row hy]; simp)
  have hf0 : fld wd ht (F ++ K.take 0) = fld wd ht F := by simp
  have hfa : fld wd ht (F ++ K.take K.length) = fld wd ht (F ++ K) := by rw [List.take_length]
  have hF2l := fld_len wd ht (F ++ K)
  have hF2w : ∀ row ∈ fld wd ht (F ++ K), row.length = wd := fun row hr => by
    obtain ⟨y, hy, rfl⟩ := List.getElem_of_mem hr
    rw [fld_len] at hy
    rw [fld_row hy]; simp
  have hRl := fld_len wd ht F
  obtain ⟨R2, hR2⟩ : ∃ x, fld wd ht (F ++ K) = x := ⟨_, rfl⟩
  obtain ⟨R, hR⟩ : ∃ x, fld wd ht F = x := ⟨_, rfl⟩
  simp only [hR2] at hys hfa hF2l hF2w
  simp only [hR] at hop f1 f2 hno hys hat hf0 hRl ⊢
  have hcol := fun V s c (h : SlSS boolE V s R2) => first_c s c R2 r wd V h (by omega) hF2w f3 hr3
  unfold LeftRet at hcol
  obtain ⟨FL, hFL⟩ : ∃ x, firL (r : Int) R2 = x := ⟨_, rfl⟩
  simp only [hFL] at hcol hys
  obtain ⟨B, hB0⟩ : ∃ x, cutB wd ht F r K = x := ⟨_, rfl⟩
  simp only [hB0] at hno hys ⊢
  obtain ⟨f4, f5⟩ := f1
  replace hop := Lib.hid hop; replace con := Lib.hid con; replace hno := Lib.hid hno; replace hys := Lib.hid hys; replace hat := Lib.hid hat; replace hfs := Lib.hid hfs; replace hfl := Lib.hid hfl; replace hfr := Lib.hid hfr; replace hf0 := Lib.hid hf0; replace hfa := Lib.hid hfa; replace hF2l := Lib.hid hF2l; replace hF2w := Lib.hid hF2w; replace hR2 := Lib.hid hR2; replace hR := Lib.hid hR; replace hFL := Lib.hid hFL; replace hB0 := Lib.hid hB0; replace hcol := Lib.hid hcol; replace f2 := Lib.hid f2; replace hRl := Lib.hid hRl
  clear h1 hv g1 g2
  have hgw := Lib.hid g
  go_enter Try.func42, Try.ntmps42
  go_upto_region 1 with (fail)
  refine wp_world fun W HW => ?_
  have hB : Below w.heap.size w W := by rw [HW.out]; (repeat (first | exact Below.refl _ _ | refine Below.alloc ?_ (by simp; try omega) _ | refine Below.setCell ?_ (by simp) _ | refine Below.drew ?_))
  have g0 : W.cell? ⟨w.heap.size, 0, none⟩ = some (.int .i64 wd) := by rw [HW.out]; simp [go_sem]
  have g1 : W.cell? ⟨w.heap.size, 1, none⟩ = some (.int .i64 ht) := by rw [HW.out]; simp [go_sem]
  have g2 : W.cell? ⟨w.heap.size, 2, none⟩ = some (.slice s F.length cap) := by rw [HW.out]; simp [go_sem]
  have gl : w.heap.size < W.heap.size := World.block_lt_of_cell? W _ g0
  try replace h := up_of hB h
  try replace g := up_of hB g
  have hBs := hB.size
  have hg0 := Lib.hid g
  clear g
  go_upto_region 2 with (go_at_call 48; refine (hop.out _ h).mono ?_; rintro e A1 ⟨⟨s1, k1, ss1, rfl, ht1⟩, hb⟩)
  have htb1 := ht1.mono hBs
  replace htb1 := Lib.hid htb1
  have hg1 := Lib.hid (up_of hb hg0.out)
  have gA0 := Lib.hid (Up.cell hb g0)
  have gA1 := Lib.hid (Up.cell hb g1)
  have gA2 := Lib.hid (Up.cell hb g2)
  have hBA := hB.trans (hb.mono hBs)
  have hAs := hBA.size
  have glA : w.heap.size < A1.heap.size := Nat.lt_of_lt_of_le gl hb.size
  clear ht1 hb hg0 g0 g1 g2 gl
  go_wp2
  go_loopw [27] (fun ii V => ∃ i : Nat, i ≤ K.length ∧ ii = .int .i64 i ∧ Below A1.heap.size A1 V ∧ Hid (∀ j, j < i → okcAt wd ht R K j = true)) (fun ii _ => K.length - (intOf ii).toNat)
  case atStart => exact ⟨0, by omega, rfl, Below.refl _ _, fun j h => absurd h (by omega)⟩
  case round =>
    obtain ⟨i, hi, rfl, hbl, hall⟩ := hrel
    have hbls := hbl.size
    by_cases hlt : i < K.length
    · obtain ⟨bk, ok, e1, hbk, x0, x1⟩ := (up_of hbl hg1.out).cel_at hlt
      have hbad := hno.out i hlt
      have hai := hat.out i hlt
      obtain ⟨c, hc⟩ : ∃ c, K[i] = c := ⟨_, rfl⟩
      simp only [hc] at x0 x1 hai
      have i1 : (0 : Int) ≤ (i : Int) := by omega
      have i2 : (i : Int) < (K.length : Int) := by omega
      have hcon := con.out c
      have g0 := Up.cell hbl gA0.out
      have g1 := Up.cell hbl gA1.out
      have g2 := Up.cell hbl gA2.out
      have gl : w.heap.size < wr.heap.size := by omega
      have hpv := fun (m : Nat) (hm : m < K.length) => (up_of hbl hg1.out).cel_at hm
      have htW := up_of hbl htb1.out
      replace hc := Lib.hid hc; replace hcon := Lib.hid hcon; replace hai := Lib.hid hai; replace hbad := Lib.hid hbad; replace hpv := Lib.hid hpv; replace htW := Lib.hid htW
      subst e1
      obtain ⟨N0, rfl⟩ : ∃ N0, N0 = wr := ⟨wr, rfl⟩
      go_upto_region 7 with (fail)
      refine wp_world fun Y HY => ?_
      have hY : Below N0.heap.size N0 Y := by rw [HY.out]; (repeat (first | exact Below.refl _ _ | refine Below.alloc ?_ (by simp; try omega) _ | refine Below.setCell ?_ (by simp) _ | refine Below.drew ?_))
      have cb0 : Y.cell? ⟨N0.heap.size, 0, none⟩ = some (.int .i64 c.x) := by rw [HY.out]; simp [go_sem]
      have cb1 : Y.cell? ⟨N0.heap.size, 1, none⟩ = some (.int .i64 c.y) := by rw [HY.out]; simp [go_sem]
      have cbl : N0.heap.size < Y.heap.size := World.block_lt_of_cell? Y _ cb0
      try replace g0 := up_of hY g0
      try replace g1 := up_of hY g1
      try replace g2 := up_of hY g2
      try replace gl := up_of hY gl
      have hYB := hbl.trans (hY.mono hbls)
      have hYs := hYB.size
      have hviewY := Lib.hid (up_of hY htW.out.seen)
      have hpvY : ∀ (m : Nat) (hm : m < K.length), ∃ b off, some (⟨bk, ok, none⟩ : Addr) = some ⟨b, off, none⟩ ∧ b < Y.heap.size ∧ Y.cell? ⟨b, off + m * 2, none⟩ = some (.int .i64 K[m].x) ∧ Y.cell? ⟨b, off + m * 2 + 1, none⟩ = some (.int .i64 K[m].y) := fun m hm => by
        obtain ⟨b, off, e, hb, y0, y1⟩ := hpv.out m hm
        exact ⟨b, off, e, Nat.lt_of_lt_of_le hb hY.size, Up.cell hY y0, Up.cell hY y1⟩
      replace hpvY := Lib.hid hpvY
      clear x0 x1 hbk
      cases hon : onB wd ht c
      · have hz : okcAt wd ht R K i = false := by rw [hai.out, hon]; rfl
        obtain rfl := hbad.out hz
        have hcn := fun V => hcon.out V
        rw [hon] at hcn
        replace hcn := Lib.hid hcn; replace hz := Lib.hid hz
        clear hon
        try have ld_g0 := World.block_lt_of_cell? _ _ g0
        try have ld_cb0 := World.block_lt_of_cell? _ _ cb0
        refine region_q (by kernel_rfl) (by kernel_rfl) ?_
        dsimp only [List.toList_toArray]
        repeat (first
         | go_big_quiet_skip
         | (go_big_quiet_want
            first
            | (refine qq_det ?_
               apply Exists.intro; refine ⟨fun W' hW' => ?_, ?_⟩
               (· have hk := cellB hW'; go_simp; try (first | rfl | rw [if_pos (by omega)]))
               simp only [Act.put, List.setIfInBounds_toArray, List.set_cons_zero, List.set_cons_succ]; go_big_quiet_on)
            | (refine qq_call ?_
               apply Exists.intro; apply Exists.intro; refine ⟨fun W' hW' => ?_, ?_⟩
               (· have hk := cellB hW'; go_simp; exact ⟨rfl, rfl⟩)
               apply Exists.intro; refine ⟨fun W' hW' => ?_, ?_⟩
               (· first | (go_at_call 46; exact qc hW' (hcn.out _)))
               simp only [Act.put, List.setIfInBounds_toArray, List.set_cons_zero, List.set_cons_succ]; go_big_quiet_on)))
        refine wpQuiet_nil ?_
        intro W1 hb
        try replace hYB := up_of hb hYB
        try replace g0 := up_of hb g0
        try replace g1 := up_of hb g1
        try replace g2 := up_of hb g2
        try replace cb0 := up_of hb cb0
        try replace cb1 := up_of hb cb1
        go_wp2
        go_ret2
        exact ⟨rfl, hBA.trans (hYB.mono hAs)⟩
      have hcn := fun V => hcon.out V
      rw [hon] at hcn
      replace hcn := Lib.hid hcn
      have hon2 := hon
      rw [onB, Bool.and_eq_true, bw_iff, bw_iff] at hon2
      obtain ⟨cx, cy⟩ := c
      simp only at hon2 cb0 cb1
      obtain ⟨x, rfl⟩ : ∃ n : Nat, cx = n := ⟨cx.toNat, by omega⟩
      obtain ⟨y, rfl⟩ : ∃ n : Nat, cy = n := ⟨cy.toNat, by omega⟩
      have hyR : y < R.length := by have := hRl.out; omega
      have hRw := f2.out _ (List.getElem_mem hyR)
      have hxR : x < R[y].length := by omega
      obtain ⟨bd, od, sd, cd, e2, hbd, q0, hsd, -, -⟩ := hviewY.out.at hyR
      obtain ⟨ba, oa, ea, hba, p0⟩ := hsd.bool_at hxR
      have hcr : cellR R y x = R[y][x] := by rw [cellR_at hyR]; simp [List.getElem?_eq_getElem hxR]
      have hai2 : okcAt wd ht R K i = (R[y][x] && (decide (i = 0) || lexB (celN K (i - 1)) ⟨x, y⟩)) := by rw [hai.out, hon]; simp only [Int.toNat_natCast, hcr, Bool.true_and]
      obtain ⟨p, hp⟩ : ∃ p, R[y][x] = p := ⟨_, rfl⟩
      rw [hp] at p0 hai2
      rw [hRw] at q0
      have j1 : (0 : Int) ≤ (x : Int) := by omega
      have j2 : (x : Int) < (wd : Int) := by omega
      have j3 : (0 : Int) ≤ (y : Int) := by omega
      have j4 : (y : Int) < (R.length : Int) := by omega
      replace hai2 := Lib.hid hai2; replace hp := Lib.hid hp; replace hcr := Lib.hid hcr; replace hRw := Lib.hid hRw; replace hsd := Lib.hid hsd
      subst e2 ea
      clear hon hai
      cases p
      · obtain rfl := hbad.out hai2.out
        try have ld_g0 := World.block_lt_of_cell? _ _ g0
        try have ld_cb0 := World.block_lt_of_cell? _ _ cb0
        try have ld_q0 := World.block_lt_of_cell? _ _ q0
        try have ld_p0 := World.block_lt_of_cell? _ _ p0
        refine region_q (by kernel_rfl) (by kernel_rfl) ?_
        dsimp only [List.toList_toArray]
        repeat (first
         | go_big_quiet_skip
         | (go_big_quiet_want
            first
            | (refine qq_det ?_
               apply Exists.intro; refine ⟨fun W' hW' => ?_, ?_⟩
               (· have hk := cellB hW'; go_simp; try (first | rfl | rw [if_pos (by omega)]))
               simp only [Act.put, List.setIfInBounds_toArray, List.set_cons_zero, List.set_cons_succ]; go_big_quiet_on)
            | (refine qq_call ?_
               apply Exists.intro; apply Exists.intro; refine ⟨fun W' hW' => ?_, ?_⟩
               (· have hk := cellB hW'; go_simp; exact ⟨rfl, rfl⟩)
               apply Exists.intro; refine ⟨fun W' hW' => ?_, ?_⟩
               (· first | (go_at_call 46; exact qc hW' (hcn.out _)))
               simp only [Act.put, List.setIfInBounds_toArray, List.set_cons_zero, List.set_cons_succ]; go_big_quiet_on)))
        refine wpQuiet_nil ?_
        intro W1 hb
        try replace hYB := up_of hb hYB
        try replace g0 := up_of hb g0
        try replace g1 := up_of hb g1
        try replace g2 := up_of hb g2
        try replace cb0 := up_of hb cb0
        try replace cb1 := up_of hb cb1
        try replace q0 := up_of hb q0
        try replace p0 := up_of hb p0
        go_wp2
        go_ret2
        exact ⟨rfl, hBA.trans (hYB.mono hAs)⟩
      by_cases hi0 : i = 0
      · have k9 : decide (0 < i) = false := decide_eq_false (by omega)
        have k8 : ¬ (0 : Int) < (i : Int) := by omega
        have hok : okcAt wd ht R K i = true := by rw [hai2.out, hi0]; rfl
        have hall2 : ∀ j, j < i + 1 → okcAt wd ht R K j = true := fun j hj => by
          rcases Nat.lt_succ_iff_lt_or_eq.1 hj with h | h
          · exact hall.out j h
          · subst h; exact hok
        replace hi0 := Lib.hid hi0; replace hok := Lib.hid hok; replace hall2 := Lib.hid hall2
        try have ld_g0 := World.block_lt_of_cell? _ _ g0
        try have ld_cb0 := World.block_lt_of_cell? _ _ cb0
        try have ld_q0 := World.block_lt_of_cell? _ _ q0
        try have ld_p0 := World.block_lt_of_cell? _ _ p0
        refine region_q (by kernel_rfl) (by kernel_rfl) ?_
        dsimp only [List.toList_toArray]
        repeat (first
         | go_big_quiet_skip
         | (go_big_quiet_want
            first
            | (refine qq_det ?_
               apply Exists.intro; refine ⟨fun W' hW' => ?_, ?_⟩
               (· have hk := cellB hW'; go_simp; try (first | rfl | rw [if_pos (by omega)]))
               simp only [Act.put, List.setIfInBounds_toArray, List.set_cons_zero, List.set_cons_succ]; go_big_quiet_on)
            | (refine qq_call ?_
               apply Exists.intro; apply Exists.intro; refine ⟨fun W' hW' => ?_, ?_⟩
               (· have hk := cellB hW'; go_simp; exact ⟨rfl, rfl⟩)
               apply Exists.intro; refine ⟨fun W' hW' => ?_, ?_⟩
               (· first | (go_at_call 46; exact qc hW' (hcn.out _)))
               simp only [Act.put, List.setIfInBounds_toArray, List.set_cons_zero, List.set_cons_succ]; go_big_quiet_on)))
        refine wpQuiet_nil ?_
        intro W1 hb
        try replace hYB := up_of hb hYB
        try replace g0 := up_of hb g0
        try replace g1 := up_of hb g1
        try replace g2 := up_of hb g2
        try replace cb0 := up_of hb cb0
        try replace cb1 := up_of hb cb1
        try replace q0 := up_of hb q0
        try replace p0 := up_of hb p0
        go_wp2
        go_roundw
        case rel => exact ⟨i + 1, by omega, by go_num, hYB, hall2⟩
        case measure => exact meas hlt
      obtain ⟨m, hm1, hm2⟩ : ∃ m : Nat, (m : Int) = (i : Int) - 1 ∧ m = i - 1 := ⟨i - 1, by omega, rfl⟩
      have hmK : m < K.length := by omega
      obtain ⟨bk', ok', e3, hbk, y0, y1⟩ := hpvY.out m hmK
      cases e3
      have k9 : decide (0 < i) = true := decide_eq_true (by omega)
      have k8 : (0 : Int) < (i : Int) := by omega
      have k7 : (0 : Int) ≤ (m : Int) := by omega
      have k6 : (m : Int) < (K.length : Int) := by omega
      have w4 : IntKind.i64.wrap ((i : Int) - 1) = (m : Int) := by rw [hm1]; exact i64_small (by omega)
      have hlx := lex_cmp (celN K (i - 1)) ⟨x, y⟩
      rw [← hm2, celN_at hmK] at hlx
      have hai3 : okcAt wd ht R K i = lexB K[m] ⟨x, y⟩ := by rw [hai2.out, decide_eq_false hi0, ← hm2, celN_at hmK]; simp
      obtain ⟨⟨px, py⟩, hpk⟩ : ∃ p, K[m] = p := ⟨_, rfl⟩
      simp only [hpk] at y0 y1 hlx hai3
      replace hi0 := Lib.hid hi0; replace hm1 := Lib.hid hm1; replace hm2 := Lib.hid hm2; replace hpk := Lib.hid hpk; replace hlx := Lib.hid hlx; replace hai3 := Lib.hid hai3
      go_region_held3 (fun V => V.cell? ⟨w.heap.size, 0, none⟩ = some (.int .i64 wd) ∧ V.cell? ⟨w.heap.size, 1, none⟩ = some (.int .i64 ht) ∧ V.cell? ⟨w.heap.size, 2, none⟩ = some (.slice s F.length cap) ∧ V.cell? ⟨N0.heap.size, 0, none⟩ = some (.int .i64 x) ∧ V.cell? ⟨N0.heap.size, 1, none⟩ = some (.int .i64 y) ∧ V.cell? ⟨bd, od + y, none⟩ = some (.slice (some ⟨ba, oa, none⟩) wd cd) ∧ V.cell? ⟨ba, oa + x, none⟩ = some (.bool true) ∧ V.cell? ⟨bk, ok + m * 2, none⟩ = some (.int .i64 px) ∧ V.cell? ⟨bk, ok + m * 2 + 1, none⟩ = some (.int .i64 py)) ((first | (with_reducible exact ⟨g0, g1, g2, cb0, cb1, q0, p0, y0, y1⟩) | ((try dsimp only); (repeat' apply And.intro) <;> (repeat (first | (with_reducible assumption) | (with_reducible refine cell_set (by simp; try omega) ?_) | (with_reducible refine cell_drew ?_) | (with_reducible refine cell_alloc ?_ _)))))) ((first | (go_at_call 46; refine calls_below (W0 := Y) ?_ fun hpre => ?_; (repeat (first | exact Below.refl _ _ | refine Below.alloc ?_ (by simp; try omega) _ | refine Below.drew ?_)); refine (hcn.out _).mono ?_; rintro e N1 ⟨rfl, hb1⟩; have hb := Up.trans hpre hb1; clear hpre; (first | have hs_N1 := below_alloc_lt hb1 | have hs_N1 := below_alloc_lt (drewB hb1) | skip); have gl_N1 := gl; (try replace hYB := up_of hb hYB); (try replace g0 := up_of hb g0); (try replace g1 := up_of hb g1); (try replace g2 := up_of hb g2); (try replace gl := up_of hb gl); (try replace cb0 := up_of hb cb0); (try replace cb1 := up_of hb cb1); (try replace cbl := up_of hb cbl); (try replace q0 := up_of hb q0); (try replace p0 := up_of hb p0); (try replace y0 := up_of hb y0); (try replace y1 := up_of hb y1); (first | have nB := new_up hb1 | have nB := new_up (drewB hb1) | (try replace nB := up_of hb nB))) | (go_at_call 66; refine (compare_c py px y x _ _ _ _ _ (sl_two (t := 3) ?_) (sl_two (t := 3) ?_)).mono ?_; (focus (repeat (first | (refine blk_new ?_; simp; done) | refine blk_old ?_ _))); (focus (repeat (first | (refine blk_new ?_; simp; done) | refine blk_old ?_ _))); rintro e w' ⟨rfl, rfl⟩)))
      all_goals
        refine exit_world fun X HX => ?_
        have hX : Below A1.heap.size A1 X := by
          rw [HX.out]
          repeat (first | (with_reducible exact hYB) | (with_reducible refine Below.drew ?_) | ((with_reducible refine Below.setC ?_ ?_); (focus (first | omega | (simp; done) | (simp; omega)))) | ((with_reducible refine Below.allo ?_ ?_); (focus (first | omega | (simp; done) | (simp; omega)))))
        clear HX hYB g0 g1 g2 cb0 cb1 q0 p0 y0 y1 hb
        cases hlb : lexB ⟨px, py⟩ ⟨x, y⟩
        · obtain rfl := hbad.out (hai3.out.trans hlb)
          have k5 : ¬ cmp2 py px y x < 0 := by have := hlx.out; rw [hlb] at this; simpa using this
          replace hlb := Lib.hid hlb
          go_wp2
          go_ret2
          exact ⟨rfl, hBA.trans (hX.mono hAs)⟩
        · have k5 : cmp2 py px y x < 0 := by have := hlx.out; rw [hlb] at this; simpa using this
          have hall2 : ∀ j, j < i + 1 → okcAt wd ht R K j = true := fun j hj => by
            rcases Nat.lt_succ_iff_lt_or_eq.1 hj with h | h
            · exact hall.out j h
            · subst h; exact hai3.out.trans hlb
          replace hlb := Lib.hid hlb; replace hall2 := Lib.hid hall2
          go_wp2
          go_roundw
          case rel => exact ⟨i + 1, by omega, by go_num, hX, hall2⟩
          case measure => exact meas hlt
    · obtain rfl : i = K.length := by omega
      have hok := fun (j : Nat) (hj : j < K.length) => hall.out j hj
      have hBe := hys.out hok
      have hin : ∀ (j : Nat) (hj : j < K.length), ∃ x y : Nat, K[j] = ⟨x, y⟩ ∧ x < wd ∧ y < ht := fun j hj => by
        have h1 := hok j hj
        rw [hat.out j hj, Bool.and_eq_true] at h1
        have h2 := h1.1
        rw [onB, Bool.and_eq_true, bw_iff, bw_iff] at h2
        refine ⟨K[j].x.toNat, K[j].y.toNat, ?_, by omega, by omega⟩
        rcases hq : K[j] with ⟨a, b⟩
        rw [hq] at h2
        simp only at h2 ⊢
        rw [Cel.mk.injEq]; omega
      have htW : Tbl boolE 75 4 wr w.heap.size (.slice s1 R.length k1) ss1 (fld wd ht (F ++ K.take 0)) := by rw [hf0.out]; exact up_of hbl htb1.out
      have hbW := hBA.trans (hbl.mono hAs)
      subst hBe
      replace hin := Lib.hid hin; replace htW := Lib.hid htW; replace hbW := Lib.hid hbW
      clear hall hok hbl con hno hys hat hop gA0 gA1 gA2
      go_wp2
      go_loopw [77] (fun ii V => ∃ (k : Nat) (ss : List Sv), k ≤ K.length ∧ ii = .int .i64 k ∧ Tbl boolE 75 4 V w.heap.size (.slice s1 R.length k1) ss (fld wd ht (F ++ K.take k)) ∧ Below w.heap.size w V) (fun ii _ => K.length - (intOf ii).toNat)
      case atStart => exact ⟨0, _, by omega, rfl, htW.out, hbW.out⟩
      case round =>
        clear htW hbW
        obtain ⟨k, ss, hk, rfl, htb, hbl⟩ := hrel
        have hbs := hbl.size
        by_cases hlk : k < K.length
        · obtain ⟨bk, ok, rfl, hbk, x0, x1⟩ := (up_of hbl hgw.out).cel_at hlk
          obtain ⟨cx, cy, hcxy, hcx, hcy⟩ := hin.out k hlk
          have hsn := hfs.out k hlk cx cy hcx hcy hcxy
          have hl1 := hfl.out k
          have hl2 := hfr.out k cy hcy
          rw [hcxy] at x0 x1
          simp only at x0 x1
          replace hcxy := Lib.hid hcxy
          have i4 : (0 : Int) ≤ (k : Int) := by omega
          have i5 : (k : Int) < (K.length : Int) := by omega
          have j1 : (0 : Int) ≤ (cx : Int) := by omega
          have j2 : (cx : Int) < (wd : Int) := by omega
          have j3 : (0 : Int) ≤ (cy : Int) := by omega
          have j4 : (cy : Int) < (R.length : Int) := by have := hRl.out; omega
          obtain ⟨RR, hRR⟩ : ∃ x, fld wd ht (F ++ K.take k) = x := ⟨_, rfl⟩
          simp only [hRR] at hsn hl1 hl2 htb
          replace hRR := Lib.hid hRR; replace hsn := Lib.hid hsn
          replace htb := Lib.hid htb; replace hbl := Lib.hid hbl
          obtain ⟨N0, rfl⟩ : ∃ N0, N0 = wr := ⟨wr, rfl⟩
          go_upto_region 13 with (fail)
          refine wp_world fun Y HY => ?_
          have hY : Below N0.heap.size N0 Y := by rw [HY.out]; (repeat (first | exact Below.refl _ _ | refine Below.alloc ?_ (by simp; try omega) _ | refine Below.setCell ?_ (by simp) _ | refine Below.drew ?_))
          have cb0 : Y.cell? ⟨N0.heap.size, 0, none⟩ = some (.int .i64 cx) := by rw [HY.out]; simp [go_sem]
          have cb1 : Y.cell? ⟨N0.heap.size, 1, none⟩ = some (.int .i64 cy) := by rw [HY.out]; simp [go_sem]
          have cbl : N0.heap.size < Y.heap.size := World.block_lt_of_cell? Y _ cb0
          try replace hgw := up_of hY hgw
          have htbY := up_of hY htb.out
          have htbD : Tbl boolE 75 4 Y.drew w.heap.size (.slice s1 R.length k1) ss RR := htbY.upto fun _ _ _ => rfl
          have hyR : cy < RR.length := by omega
          have hxR : cx < RR[cy].length := by omega
          obtain ⟨b2, gi, ci, e2, hbb, hgg, q0, q1, qf, -, hbg⟩ := htbY.cell (i := cy) (j := cx) hyR hxR
          obtain ⟨b3, gi3, ci3, e3, -, -, p0, -, -, pset, -⟩ := htbD.cell (i := cy) (j := cx) hyR hxR
          have hgi : gi3 = gi := by
            have hb : b3 = b2 := by rw [e2] at e3; simpa using e3.symm
            subst hb
            have : Y.drew.cell? ⟨b3, cy, none⟩ = Y.cell? ⟨b3, cy, none⟩ := rfl
            rw [this, q0] at p0
            simp at p0
            exact p0.1.symm
          rw [hgi] at pset
          have hps := Lib.hid (pset false)
          have hrl : RR[cy].length = wd := hl2
          have hblY := Lib.hid (hbl.out.trans ((hY.drew).mono hbl.out.size))
          subst e2
          clear p0 pset hgi htbD htbY e3
          obtain ⟨LL, hLL⟩ : ∃ x, RR[cy].length = x := ⟨_, rfl⟩
          obtain ⟨BV, hBV⟩ : ∃ x, RR[cy][cx] = x := ⟨_, rfl⟩
          rw [hLL] at q0 hrl
          rw [hBV] at q1
          replace hLL := Lib.hid hLL; replace hBV := Lib.hid hBV
          go_region
          all_goals
            go_wp2
            go_roundw
            case rel => exact ⟨k + 1, ss, by omega, by go_num, by rw [hsn.out]; exact hps.out, hblY.out.setCell hgg.1 _⟩
            case measure => exact meas hlk
        · obtain rfl : k = K.length := by omega
          rw [hfa.out] at htb
          have hRe : R.length = R2.length := by rw [hRl.out, hF2l.out]
          rw [hRe] at htb
          have hc1 := hcol.out wr s1 k1 htb.seen
          rw [← hRe] at hc1
          replace hc1 := Lib.hid hc1; replace hRe := Lib.hid hRe
          clear htb
          go_wp2_with (go_at_call 60; refine hc1.out.mono ?_; rintro e A2 ⟨⟨s2, k2, rfl, ho2⟩, hb2⟩)
          have hBf := hbl.trans (hb2.mono hbs)
          cases FL
          all_goals
            go_ret2
            exact ⟨rfl, hBf⟩
end Go.Proofs.Ytbabdoafpljdbaa
