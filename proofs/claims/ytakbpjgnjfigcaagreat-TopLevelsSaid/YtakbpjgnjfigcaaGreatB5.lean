/- Several texts in one: each says what it proves. -/
import Derived.Test.YtakbpjgnjfigcaaGreatB4
/- The least and the greatest of numbers. -/
namespace Go.Proofs.YtakbpjgnjfigcaaGreat
open Go.RowKit

def loL (l : List Int) : Int := l.foldl min (l.headD 0)
def hiL (l : List Int) : Int := l.foldl max (l.headD 0)
theorem loL_snoc {l : List Int} {x : Int} (h : l ≠ []) : loL (l ++ [x]) = min (loL l) x := by
  cases l with
  | nil => exact absurd rfl h
  | cons a l => simp [loL, List.foldl_append]
theorem hiL_snoc {l : List Int} {x : Int} (h : l ≠ []) : hiL (l ++ [x]) = max (hiL l) x := by
  cases l with
  | nil => exact absurd rfl h
  | cons a l => simp [hiL, List.foldl_append]
theorem lo_succ {l : List Int} {j : Nat} (h1 : 1 ≤ j) (hj : j < l.length) : loL (l.take (j + 1)) = min (loL (l.take j)) l[j] := by
  rw [List.take_succ_eq_append_getElem hj]
  exact loL_snoc (fun h => by have := congrArg List.length h; rw [List.length_take, List.length_nil] at this; omega)
theorem hi_succ {l : List Int} {j : Nat} (h1 : 1 ≤ j) (hj : j < l.length) : hiL (l.take (j + 1)) = max (hiL (l.take j)) l[j] := by
  rw [List.take_succ_eq_append_getElem hj]
  exact hiL_snoc (fun h => by have := congrArg List.length h; rw [List.length_take, List.length_nil] at this; omega)
theorem lo_one {l : List Int} (h : 0 < l.length) : loL (l.take 1) = l[0] := by
  cases l with
  | nil => simp at h
  | cons a l => simp [loL]
theorem hi_one {l : List Int} (h : 0 < l.length) : hiL (l.take 1) = l[0] := by
  cases l with
  | nil => simp at h
  | cons a l => simp [hiL]
set_option maxRecDepth 100000 in
theorem sMin_c (s : Option Addr) (cap : Nat) (l : List Int) (w : World) (hs : SlS intE w s l) (h1 : 1 ≤ l.length) (hl : l.length ≤ 9223372036854775807) :
    Calls Tryz.prog 133 #[.slice s l.length cap] w fun e w' => e = .returned (.int .i64 (loL l)) ∧ w = w' := by
  have h0 := lo_one (l := l) (by omega)
  have hsx := fun j h1 hj => lo_succ (l := l) (j := j) h1 hj
  have hfull : loL (l.take l.length) = loL l := by rw [List.take_length]
  have h2 : ¬ (l.length : Int) < 1 := by omega
  have hs0 := Lib.hid hs
  obtain ⟨b, off, rfl, hb, q0⟩ := hs.int_at (i := 0) (by omega)
  rw [← h0] at q0
  simp only [Nat.add_zero] at q0
  rw [← hfull]
  replace hsx := Lib.hid hsx
  clear hs h0 hfull
  go_enter Tryz.func133, Tryz.ntmps133
  go_wp2
  go_loop [3, 4] (fun v i => ∃ j : Nat, 1 ≤ j ∧ j ≤ l.length ∧ i = .int .i64 j ∧ v = .int .i64 (loL (l.take j))) (fun _ i => l.length - (intOf i).toNat)
  case atStart => exact ⟨1, by omega, by omega, rfl, rfl⟩
  case round =>
    clear q0
    obtain ⟨j, hj1, hj, rfl, rfl⟩ := hrel
    by_cases hlt : j < l.length
    · have e1 := hsx.out j hj1 hlt
      obtain ⟨b', off', e', hb', e0⟩ := hs0.out.int_at hlt
      cases e'
      obtain ⟨C, hCe⟩ : ∃ C, l[j] = C := ⟨_, rfl⟩
      rw [hCe] at e1 e0
      obtain ⟨G, hG⟩ : ∃ G, loL (l.take j) = G := ⟨_, rfl⟩
      rw [hG] at e1 ⊢
      replace hCe := Lib.hid hCe; replace hG := Lib.hid hG; replace e1 := Lib.hid e1
      have i4 : (0 : Int) ≤ (j : Int) := by omega
      have i5 : (j : Int) < (l.length : Int) := by omega
      go_wp2
      go_round
      case rel => exact ⟨j + 1, by omega, by omega, by go_num, congrArg (Value.int .i64) (by rw [e1.out]; (first | rfl | ((repeat' split) <;> omega)))⟩
      case measure => simp [intOf]; omega
    · obtain rfl : j = l.length := by omega
      go_wp2
      go_ret
      exact ⟨rfl, rfl⟩
set_option maxRecDepth 100000 in
theorem sMax_c (s : Option Addr) (cap : Nat) (l : List Int) (w : World) (hs : SlS intE w s l) (h1 : 1 ≤ l.length) (hl : l.length ≤ 9223372036854775807) :
    Calls Tryz.prog 50 #[.slice s l.length cap] w fun e w' => e = .returned (.int .i64 (hiL l)) ∧ w = w' := by
  have h0 := hi_one (l := l) (by omega)
  have hsx := fun j h1 hj => hi_succ (l := l) (j := j) h1 hj
  have hfull : hiL (l.take l.length) = hiL l := by rw [List.take_length]
  have h2 : ¬ (l.length : Int) < 1 := by omega
  have hs0 := Lib.hid hs
  obtain ⟨b, off, rfl, hb, q0⟩ := hs.int_at (i := 0) (by omega)
  rw [← h0] at q0
  simp only [Nat.add_zero] at q0
  rw [← hfull]
  replace hsx := Lib.hid hsx
  clear hs h0 hfull
  go_enter Tryz.func50, Tryz.ntmps50
  go_wp2
  go_loop [3, 4] (fun v i => ∃ j : Nat, 1 ≤ j ∧ j ≤ l.length ∧ i = .int .i64 j ∧ v = .int .i64 (hiL (l.take j))) (fun _ i => l.length - (intOf i).toNat)
  case atStart => exact ⟨1, by omega, by omega, rfl, rfl⟩
  case round =>
    clear q0
    obtain ⟨j, hj1, hj, rfl, rfl⟩ := hrel
    by_cases hlt : j < l.length
    · have e1 := hsx.out j hj1 hlt
      obtain ⟨b', off', e', hb', e0⟩ := hs0.out.int_at hlt
      cases e'
      obtain ⟨C, hCe⟩ : ∃ C, l[j] = C := ⟨_, rfl⟩
      rw [hCe] at e1 e0
      obtain ⟨G, hG⟩ : ∃ G, hiL (l.take j) = G := ⟨_, rfl⟩
      rw [hG] at e1 ⊢
      replace hCe := Lib.hid hCe; replace hG := Lib.hid hG; replace e1 := Lib.hid e1
      have i4 : (0 : Int) ≤ (j : Int) := by omega
      have i5 : (j : Int) < (l.length : Int) := by omega
      go_wp2
      go_round
      case rel => exact ⟨j + 1, by omega, by omega, by go_num, congrArg (Value.int .i64) (by rw [e1.out]; (first | rfl | ((repeat' split) <;> omega)))⟩
      case measure => simp [intOf]; omega
    · obtain rfl : j = l.length := by omega
      go_wp2
      go_ret
      exact ⟨rfl, rfl⟩
end Go.Proofs.YtakbpjgnjfigcaaGreat

/- The least and the greatest time: the program's span. -/
namespace Go.Proofs.YtakbpjgnjfigcaaGreat
open Go.RowKit

def tmP (f p : Pt) : Int := wrap64 (dotZ f p)
theorem lo_seq {T : List Int} (h : 1 ≤ T.length) : ∃ g : Nat → Int, g 0 = T[0] ∧ (∀ j (hj : j < T.length), g (j + 1) = min (g j) T[j]) ∧ g T.length = loL T := by
  refine ⟨fun j => if j = 0 then T[0] else loL (T.take j), by simp, fun j hj => ?_, ?_⟩
  · by_cases h0 : j = 0
    · subst h0
      show (if 0 + 1 = 0 then T[0] else loL (T.take (0 + 1))) = min (if 0 = 0 then T[0] else loL (T.take 0)) T[0]
      rw [if_neg (by omega), if_pos rfl]
      exact (lo_one (l := T) (by omega)).trans (by omega)
    · simp only [if_neg h0, if_neg (show ¬ j + 1 = 0 by omega)]; exact lo_succ (by omega) hj
  · simp only [if_neg (show ¬ T.length = 0 by omega), List.take_length]
theorem hi_seq {T : List Int} (h : 1 ≤ T.length) : ∃ g : Nat → Int, g 0 = T[0] ∧ (∀ j (hj : j < T.length), g (j + 1) = max (g j) T[j]) ∧ g T.length = hiL T := by
  refine ⟨fun j => if j = 0 then T[0] else hiL (T.take j), by simp, fun j hj => ?_, ?_⟩
  · by_cases h0 : j = 0
    · subst h0
      show (if 0 + 1 = 0 then T[0] else hiL (T.take (0 + 1))) = max (if 0 = 0 then T[0] else hiL (T.take 0)) T[0]
      rw [if_neg (by omega), if_pos rfl]
      exact (hi_one (l := T) (by omega)).trans (by omega)
    · simp only [if_neg h0, if_neg (show ¬ j + 1 = 0 by omega)]; exact hi_succ (by omega) hj
  · simp only [if_neg (show ¬ T.length = 0 by omega), List.take_length]
set_option maxRecDepth 100000 in
set_option maxHeartbeats 2000000 in
theorem span_c (s : Option Addr) (cap : Nat) (L : List Pt) (q : Sd) (w : World) (hp : PtS w s L) (h1 : 1 ≤ L.length) (hl : L.length ≤ 9223372036854775807) (hq : SdM w q) (ho : 1 ≤ q.off.length) :
    Calls Tryz.prog 100 #[.slice s L.length cap, .agg #[.int .i64 q.f.x, .int .i64 q.f.y, .int .i64 q.f.z, .slice q.s q.off.length q.cap]] w fun e w' => e = .returned (.tuple #[.int .i64 (IntKind.i64.wrap (loL (L.map (tmP q.f)) + loL q.off)), .int .i64 (IntKind.i64.wrap (hiL (L.map (tmP q.f)) + hiL q.off))]) ∧ Below w.heap.size w w' := by
  have hmn := fun V (h : SdM V q) => sMin_c q.s q.cap q.off V h.off ho h.len
  have hmx := fun V (h : SdM V q) => sMax_c q.s q.cap q.off V h.off ho h.len
  obtain ⟨T, hT, hlen, hat⟩ : ∃ T : List Int, L.map (tmP q.f) = T ∧ T.length = L.length ∧ ∀ j (hj : j < L.length) (hj' : j < T.length), T[j] = tmP q.f L[j] := ⟨_, rfl, List.length_map .., fun j hj hj' => List.getElem_map ..⟩
  rw [hT]
  clear hT
  obtain ⟨fl, l0, lx, lf⟩ := lo_seq (T := T) (by omega)
  obtain ⟨fh, m0, mx, mf⟩ := hi_seq (T := T) (by omega)
  have htm2 : ∀ (j : Nat) (hj : j < L.length) (hj' : j < T.length) V, Calls Tryz.prog 104 #[.agg #[.int .i64 q.f.x, .int .i64 q.f.y, .int .i64 q.f.z], .agg #[.int .i64 L[j].x, .int .i64 L[j].y, .int .i64 L[j].z]] V fun e w' => e = .returned (.int .i64 T[j]) ∧ Below V.heap.size V w' := fun j hj hj' V => by rw [hat j hj hj']; exact schTimes_c q.f L[j] V
  rw [hat 0 (by omega) (by omega)] at l0 m0
  have ht0 := htm2 0 (by omega) (by omega)
  rw [hat 0 (by omega) (by omega)] at ht0
  obtain ⟨p0, hp0⟩ : ∃ x, L[0]'(by omega) = x := ⟨_, rfl⟩
  obtain ⟨t0, ht⟩ : ∃ x, tmP q.f p0 = x := ⟨_, rfl⟩
  rw [hp0, ht] at l0 m0
  simp only [hp0, ht] at ht0
  obtain ⟨lo1, hlo1⟩ : ∃ x, loL q.off = x := ⟨_, rfl⟩
  obtain ⟨hi1, hhi1⟩ : ∃ x, hiL q.off = x := ⟨_, rfl⟩
  simp only [hlo1] at hmn ⊢
  simp only [hhi1] at hmx ⊢
  rw [← lf, ← mf, hlen]
  clear hlo1 hhi1 lf mf ht
  replace hat := Lib.hid hat; replace l0 := Lib.hid l0; replace m0 := Lib.hid m0; replace lx := Lib.hid lx; replace mx := Lib.hid mx
  replace htm2 := Lib.hid htm2; replace ht0 := Lib.hid ht0; replace hmn := Lib.hid hmn; replace hmx := Lib.hid hmx; replace hp0 := Lib.hid hp0; replace hlen := Lib.hid hlen
  have v0 : (0 : Int) < (L.length : Int) := by omega
  have v8 : 0 < L.length := by omega
  have v9 : L ≠ [] := by rintro rfl; simp at h1
  go_enter Tryz.func100, Tryz.ntmps100
  go_upto_region 1 with (fail)
  refine wp_world fun W HW => ?_
  have hB : Below w.heap.size w W := by rw [HW.out]; (repeat (first | exact Below.refl _ _ | refine Below.alloc ?_ (by simp; try omega) _ | refine Below.setCell ?_ (by simp) _ | refine Below.drew ?_))
  have g0 : W.cell? ⟨w.heap.size, 0, none⟩ = some (.int .i64 q.f.x) := by rw [HW.out]; simp [go_sem]
  have g1 : W.cell? ⟨w.heap.size, 1, none⟩ = some (.int .i64 q.f.y) := by rw [HW.out]; simp [go_sem]
  have g2 : W.cell? ⟨w.heap.size, 2, none⟩ = some (.int .i64 q.f.z) := by rw [HW.out]; simp [go_sem]
  have g3 : W.cell? ⟨w.heap.size, 3, none⟩ = some (.slice q.s q.off.length q.cap) := by rw [HW.out]; simp [go_sem]
  have gl : w.heap.size < W.heap.size := World.block_lt_of_cell? W _ g0
  try replace hp := up_of hB hp
  try replace hq := up_of hB hq
  obtain ⟨b, off, rfl, hb, y0, y1, y2⟩ := hp.at (i := 0) (by omega)
  rw [hp0.out] at y0 y1 y2
  simp only [Nat.zero_mul, Nat.add_zero] at y0 y1 y2
  go_region_held3 (fun V => V.cell? ⟨w.heap.size, 0, none⟩ = some (.int .i64 q.f.x) ∧ V.cell? ⟨w.heap.size, 1, none⟩ = some (.int .i64 q.f.y) ∧ V.cell? ⟨w.heap.size, 2, none⟩ = some (.int .i64 q.f.z) ∧ V.cell? ⟨b, off, none⟩ = some (.int .i64 p0.x) ∧ V.cell? ⟨b, off + 1, none⟩ = some (.int .i64 p0.y) ∧ V.cell? ⟨b, off + 2, none⟩ = some (.int .i64 p0.z)) ((first | (with_reducible exact ⟨g0, g1, g2, y0, y1, y2⟩) | ((try dsimp only); (repeat' apply And.intro) <;> (repeat (first | (with_reducible assumption) | (with_reducible refine cell_set (by simp; try omega) ?_) | (with_reducible refine cell_drew ?_) | (with_reducible refine cell_alloc ?_ _)))))) ((first | (go_at_call 104; refine calls_below (W0 := W) ?_ fun hpre => ?_; (repeat (first | exact Below.refl _ _ | refine Below.alloc ?_ (by simp; try omega) _ | refine Below.drew ?_)); refine (ht0.out _).mono ?_; rintro e N1 ⟨rfl, hb1⟩; have hb := Up.trans hpre hb1; clear hpre; (first | have hs_N1 := below_alloc_lt hb1 | have hs_N1 := below_alloc_lt (drewB hb1) | skip); have gl_N1 := gl; (try replace hp := up_of hb hp); (try replace hq := up_of hb hq); (try replace hB := up_of hb hB); (try replace g0 := up_of hb g0); (try replace g1 := up_of hb g1); (try replace g2 := up_of hb g2); (try replace g3 := up_of hb g3); (try replace gl := up_of hb gl); (try replace y0 := up_of hb y0); (try replace y1 := up_of hb y1); (try replace y2 := up_of hb y2); (first | have nB := new_up hb1 | have nB := new_up (drewB hb1) | (try replace nB := up_of hb nB))) | (go_at_call 104; refine calls_below (W0 := N1) ?_ fun hpre => ?_; (repeat (first | exact Below.refl _ _ | refine Below.alloc ?_ (by simp; try omega) _ | refine Below.drew ?_)); refine (ht0.out _).mono ?_; rintro e N2 ⟨rfl, hb1⟩; have hb := Up.trans hpre hb1; clear hpre; (first | have hs_N2 := below_alloc_lt hb1 | have hs_N2 := below_alloc_lt (drewB hb1) | skip); have gl_N2 := gl; (try replace hp := up_of hb hp); (try replace hq := up_of hb hq); (try replace hB := up_of hb hB); (try replace g0 := up_of hb g0); (try replace g1 := up_of hb g1); (try replace g2 := up_of hb g2); (try replace g3 := up_of hb g3); (try replace gl := up_of hb gl); (try replace y0 := up_of hb y0); (try replace y1 := up_of hb y1); (try replace y2 := up_of hb y2); (first | have nB := new_up hb1 | have nB := new_up (drewB hb1) | (try replace nB := up_of hb nB)))))
  all_goals
    go_wp2
    go_loopw [6, 7, 25] (fun a c i V => ∃ j : Nat, j ≤ L.length ∧ i = .int .i64 j ∧ a = .int .i64 (fl j) ∧ c = .int .i64 (fh j) ∧ Below N2.heap.size N2 V) (fun _ _ i _ => L.length - (intOf i).toNat)
    case atStart => exact ⟨0, by omega, rfl, by rw [l0.out], by rw [m0.out], Below.refl _ _⟩
    case round =>
      obtain ⟨j, hj, rfl, rfl, rfl, hBV⟩ := hrel
      try replace hp := up_of hBV hp
      try replace hq := up_of hBV hq
      try replace hB := up_of hBV hB
      try replace g0 := up_of hBV g0
      try replace g1 := up_of hBV g1
      try replace g2 := up_of hBV g2
      try replace g3 := up_of hBV g3
      try replace gl := up_of hBV gl
      try replace y0 := up_of hBV y0
      try replace y1 := up_of hBV y1
      try replace y2 := up_of hBV y2
      by_cases hlt : j < L.length
      · have hjT : j < T.length := by have := hlen.out; omega
        obtain ⟨b', off', e', hb', z0, z1, z2⟩ := hp.at hlt
        cases e'
        have htj := htm2.out j hlt hjT
        have e1 := lx.out j hjT
        have e2 := mx.out j hjT
        obtain ⟨tj, htj0⟩ : ∃ x, T[j] = x := ⟨_, rfl⟩
        obtain ⟨pj, hpj0⟩ : ∃ x, L[j] = x := ⟨_, rfl⟩
        simp only [htj0] at htj e1 e2
        simp only [hpj0] at htj z0 z1 z2
        clear htj0 hpj0
        replace htj := Lib.hid htj; replace e1 := Lib.hid e1; replace e2 := Lib.hid e2
        have i4 : (0 : Int) ≤ (j : Int) := by omega
        have i5 : (j : Int) < (L.length : Int) := by omega
        go_upto_region 5 with (fail)
        refine wp_world fun Y HY => ?_
        have hY : Below wr.heap.size wr Y := by rw [HY.out]; (repeat (first | exact Below.refl _ _ | refine Below.alloc ?_ (by simp; try omega) _ | refine Below.setCell ?_ (by simp) _ | refine Below.drew ?_))
        have x0 : Y.cell? ⟨wr.heap.size, 0, none⟩ = some (.int .i64 pj.x) := by rw [HY.out]; simp [go_sem]
        have x1 : Y.cell? ⟨wr.heap.size, 1, none⟩ = some (.int .i64 pj.y) := by rw [HY.out]; simp [go_sem]
        have x2 : Y.cell? ⟨wr.heap.size, 2, none⟩ = some (.int .i64 pj.z) := by rw [HY.out]; simp [go_sem]
        have xl : wr.heap.size < Y.heap.size := World.block_lt_of_cell? Y _ x0
        try replace hp := up_of hY hp
        try replace hq := up_of hY hq
        try replace hB := up_of hY hB
        try replace g0 := up_of hY g0
        try replace g1 := up_of hY g1
        try replace g2 := up_of hY g2
        try replace g3 := up_of hY g3
        try replace gl := up_of hY gl
        try replace y0 := up_of hY y0
        try replace y1 := up_of hY y1
        try replace y2 := up_of hY y2
        try replace hBV := up_of hY hBV
        go_wp2_with (first | (go_at_call 104; refine (htj.out _).mono ?_; rintro e W1 ⟨rfl, hb⟩; (try replace hp := up_of hb hp); (try replace hq := up_of hb hq); (try replace hB := up_of hb hB); (try replace g0 := up_of hb g0); (try replace g1 := up_of hb g1); (try replace g2 := up_of hb g2); (try replace g3 := up_of hb g3); (try replace gl := up_of hb gl); (try replace y0 := up_of hb y0); (try replace y1 := up_of hb y1); (try replace y2 := up_of hb y2); (try replace hBV := up_of hb hBV); (try replace hY := up_of hb hY); (try replace x0 := up_of hb x0); (try replace x1 := up_of hb x1); (try replace x2 := up_of hb x2); (try replace xl := up_of hb xl)))
        go_roundw
        case rel => exact ⟨j + 1, by omega, rfl, congrArg (Value.int .i64) (by rw [e1.out]; (first | rfl | ((repeat' split) <;> omega))), congrArg (Value.int .i64) (by rw [e2.out]; (first | rfl | ((repeat' split) <;> omega))), hBV⟩
        case measure => exact meas hlt
      · obtain rfl : j = L.length := by omega
        go_upto_region 8 with (fail)
        try have ld_g0 := World.block_lt_of_cell? _ _ g0
        try have ld_y0 := World.block_lt_of_cell? _ _ y0
        try have ld_x0 := World.block_lt_of_cell? _ _ x0
        refine region_q (by kernel_rfl) (by kernel_rfl) ?_
        dsimp only [List.toList_toArray]
        repeat (first
         | go_big_quiet_skip
         | (go_big_quiet_want
            first
            | (refine qq_det ?_
               apply Exists.intro; refine ⟨fun W' hW' => ?_, ?_⟩
               (· have hk := cellB hW'; go_simp; try (first | rfl | rw [if_pos (by omega)]))
               simp only [Act.put, List.setIfInBounds_toArray, List.set_cons_zero, List.set_cons_succ]; go_big_quiet_on)
            | (refine qq_call ?_
               apply Exists.intro; apply Exists.intro; refine ⟨fun W' hW' => ?_, ?_⟩
               (· have hk := cellB hW'; go_simp; exact ⟨rfl, rfl⟩)
               apply Exists.intro; refine ⟨fun W' hW' => ?_, ?_⟩
               (· first | (go_at_call 133; exact qs hW' (hmn.out _ (up_of hW' hq))) | (go_at_call 50; exact qs hW' (hmx.out _ (up_of hW' hq))))
               simp only [Act.put, List.setIfInBounds_toArray, List.set_cons_zero, List.set_cons_succ]; go_big_quiet_on)))
        refine wpQuiet_nil ?_
        intro W1 hb
        try replace hp := up_of hb hp
        try replace hq := up_of hb hq
        try replace hB := up_of hb hB
        try replace g0 := up_of hb g0
        try replace g1 := up_of hb g1
        try replace g2 := up_of hb g2
        try replace g3 := up_of hb g3
        try replace gl := up_of hb gl
        try replace y0 := up_of hb y0
        try replace y1 := up_of hb y1
        try replace y2 := up_of hb y2
        try replace hBV := up_of hb hBV
        try replace hY := up_of hb hY
        try replace x0 := up_of hb x0
        try replace x1 := up_of hb x1
        try replace x2 := up_of hb x2
        try replace xl := up_of hb xl
        go_wp2
        go_ret2
        exact ⟨rfl, hB⟩
end Go.Proofs.YtakbpjgnjfigcaaGreat

/- Spans and latencies: the program. -/
namespace Go.Proofs.YtakbpjgnjfigcaaGreat
open Go.RowKit

def spLo (q : Sd) (L : List Pt) : Int := IntKind.i64.wrap (loL (L.map (tmP q.f)) + loL q.off)
def spHi (q : Sd) (L : List Pt) : Int := IntKind.i64.wrap (hiL (L.map (tmP q.f)) + hiL q.off)
def spanE (n : Int) (l : List Iq) (K : List Vv) (q : Sd) : Int := if chkE n l K [q] ≠ 0 then chkE n l K [q] else if (pts n l).length = 0 then 5 else 0
def spanL (n : Int) (l : List Iq) (K : List Vv) (q : Sd) : Int := if spanE n l K q = 0 then spLo q (pts n l) else 0
def spanH (n : Int) (l : List Iq) (K : List Vv) (q : Sd) : Int := if spanE n l K q = 0 then spHi q (pts n l) else 0
def spanR (n : Int) (l : List Iq) (K : List Vv) (q : Sd) : Value := .tuple #[.int .i64 (spanL n l K q), .int .i64 (spanH n l K q), .int .i64 (spanE n l K q)]
theorem span_ways (n : Int) (l : List Iq) (K : List Vv) (q : Sd) : (chkE n l K [q] ≠ 0 ∧ spanR n l K q = .tuple #[.int .i64 0, .int .i64 0, .int .i64 (chkE n l K [q])]) ∨
    (chkE n l K [q] = 0 ∧ (pts n l).length = 0 ∧ spanR n l K q = .tuple #[.int .i64 0, .int .i64 0, .int .i64 5]) ∨
    (chkE n l K [q] = 0 ∧ 1 ≤ (pts n l).length ∧ spanR n l K q = .tuple #[.int .i64 (spLo q (pts n l)), .int .i64 (spHi q (pts n l)), .int .i64 0]) := by
  by_cases h : chkE n l K [q] = 0
  · by_cases h2 : (pts n l).length = 0
    · exact .inr (.inl ⟨h, h2, by simp [spanR, spanL, spanH, spanE, h, h2]⟩)
    · exact .inr (.inr ⟨h, by omega, by unfold spanR spanL spanH spanE; simp only [h, h2, ne_eq, not_true_eq_false, if_false, if_true]⟩)
  · exact .inl ⟨h, by unfold spanR spanL spanH spanE; simp only [h, ne_eq, not_false_eq_true, if_true, if_false]⟩
set_option maxRecDepth 100000 in
set_option maxHeartbeats 2000000 in
theorem Span_c (n : Int) (s : Option Addr) (cap : Nat) (l : List Iq) (s2 : Option Addr) (cq : Nat) (K : List Vv) (q : Sd) (w : World) (hr : RecM w s l s2 cq K) (hq : SdM w q) :
    Calls Tryz.prog 55 #[.agg #[.int .i64 n, .slice s l.length cap, .slice s2 K.length cq], .agg #[.int .i64 q.f.x, .int .i64 q.f.y, .int .i64 q.f.z, .slice q.s q.off.length q.cap]] w fun e w' => e = .returned (spanR n l K q) ∧ Below w.heap.size w w' := by
  have hck := fun V t (h : RecM V s l s2 cq K) (h2 : SdM V q) => checkedN_c n s cap l s2 cq K q t V h h2
  have hpt := fun V (h : RecM V s l s2 cq K) => (Points_c n s cap l V h.dom.iq h.dom.len).mono fun e w' => PtsRet.mono
  have hok := chk_ok (n := n) (l := l) (K := K) (q := q)
  have hpl := pts_len n l
  have hw := span_ways n l K q
  have hsp := fun V sp cp (h : PtS V sp (pts n l)) (h1 : 1 ≤ (pts n l).length) (h2 : SdM V q) (h3 : 1 ≤ q.off.length) => span_c sp cp (pts n l) q V h h1 (by omega) h2 h3
  have hp1 : validB n l = true → (pts n l).length ≤ 1000 → ptsL n l = pts n l := fun h h2 => by unfold ptsL; rw [if_pos (by rw [h, decide_eq_true h2]; rfl)]
  have hp2 : validB n l = true → (pts n l).length ≤ 1000 → ptsE n l = 0 := fun h h2 => by unfold ptsE; rw [if_pos h, if_pos h2]
  change ∀ V sp cp, PtS V sp (pts n l) → 1 ≤ (pts n l).length → SdM V q → 1 ≤ q.off.length → Calls Tryz.prog 100 #[.slice sp (pts n l).length cp, .agg #[.int .i64 q.f.x, .int .i64 q.f.y, .int .i64 q.f.z, .slice q.s q.off.length q.cap]] V fun e w' => e = .returned (.tuple #[.int .i64 (spLo q (pts n l)), .int .i64 (spHi q (pts n l))]) ∧ Below V.heap.size V w' at hsp
  obtain ⟨R, hR⟩ : ∃ x, spanR n l K q = x := ⟨_, rfl⟩
  obtain ⟨ck, hck0⟩ : ∃ x, chkE n l K [q] = x := ⟨_, rfl⟩
  obtain ⟨P, hP⟩ : ∃ x, pts n l = x := ⟨_, rfl⟩
  obtain ⟨lo1, hlo1⟩ : ∃ x, spLo q P = x := ⟨_, rfl⟩
  obtain ⟨hi1, hhi1⟩ : ∃ x, spHi q P = x := ⟨_, rfl⟩
  simp only [hR, hck0, hP, hlo1, hhi1] at hck hok hw hpl hp1 hp2 hsp ⊢
  clear hR hck0 hP hlo1 hhi1
  replace hck := Lib.hid hck
  rcases hw with ⟨h0, rfl⟩ | ⟨rfl, h2, rfl⟩ | ⟨rfl, h2, rfl⟩
  · have k1 : (ck != 0) = true := bne_iff_ne.2 h0
    clear hok hpt hpl hsp hp1 hp2
    go_enter Tryz.func55, Tryz.ntmps55
    go_upto_region 1 with (fail)
    refine wp_world fun W HW => ?_
    have hB : Below w.heap.size w W := by rw [HW.out]; (repeat (first | exact Below.refl _ _ | refine Below.alloc ?_ (by simp; try omega) _ | refine Below.setCell ?_ (by simp) _ | refine Below.drew ?_))
    have d0 : W.cell? ⟨w.heap.size, 0, none⟩ = some (.int .i64 n) := by rw [HW.out]; simp [go_sem]
    have d1 : W.cell? ⟨w.heap.size, 1, none⟩ = some (.slice s l.length cap) := by rw [HW.out]; simp [go_sem]
    have d2 : W.cell? ⟨w.heap.size, 2, none⟩ = some (.slice s2 K.length cq) := by rw [HW.out]; simp [go_sem]
    have dl : w.heap.size < W.heap.size := World.block_lt_of_cell? W _ d0
    have g0 : W.cell? ⟨w.heap.size + 1, 0, none⟩ = some (.int .i64 q.f.x) := by rw [HW.out]; simp [go_sem]
    have g1 : W.cell? ⟨w.heap.size + 1, 1, none⟩ = some (.int .i64 q.f.y) := by rw [HW.out]; simp [go_sem]
    have g2 : W.cell? ⟨w.heap.size + 1, 2, none⟩ = some (.int .i64 q.f.z) := by rw [HW.out]; simp [go_sem]
    have g3 : W.cell? ⟨w.heap.size + 1, 3, none⟩ = some (.slice q.s q.off.length q.cap) := by rw [HW.out]; simp [go_sem]
    have gl : w.heap.size + 1 < W.heap.size := World.block_lt_of_cell? W _ g0
    try replace hr := up_of hB hr
    try replace hq := up_of hB hq
    go_wp2_with (first | (go_at_call 34; refine (hck.out _ _ hr hq).mono ?_; rintro e W1 ⟨rfl, hb⟩; (try replace hr := up_of hb hr); (try replace hq := up_of hb hq); (try replace hB := up_of hb hB); (try replace d0 := up_of hb d0); (try replace d1 := up_of hb d1); (try replace d2 := up_of hb d2); (try replace dl := up_of hb dl); (try replace g0 := up_of hb g0); (try replace g1 := up_of hb g1); (try replace g2 := up_of hb g2); (try replace g3 := up_of hb g3); (try replace gl := up_of hb gl)))
    go_ret3
    exact ⟨rfl, hB⟩
  · obtain ⟨-, hvd, -, -, -, hp9, -⟩ := hok rfl
    rw [hp1 hvd hp9, hp2 hvd hp9] at hpt
    have k2 : ((P.length : Int) == 0) = true := by rw [h2]; rfl
    replace hpt := Lib.hid hpt; replace h2 := Lib.hid h2
    clear hok hpl hsp hp1 hp2 hvd hp9
    go_enter Tryz.func55, Tryz.ntmps55
    go_upto_region 1 with (fail)
    refine wp_world fun W HW => ?_
    have hB : Below w.heap.size w W := by rw [HW.out]; (repeat (first | exact Below.refl _ _ | refine Below.alloc ?_ (by simp; try omega) _ | refine Below.setCell ?_ (by simp) _ | refine Below.drew ?_))
    have d0 : W.cell? ⟨w.heap.size, 0, none⟩ = some (.int .i64 n) := by rw [HW.out]; simp [go_sem]
    have d1 : W.cell? ⟨w.heap.size, 1, none⟩ = some (.slice s l.length cap) := by rw [HW.out]; simp [go_sem]
    have d2 : W.cell? ⟨w.heap.size, 2, none⟩ = some (.slice s2 K.length cq) := by rw [HW.out]; simp [go_sem]
    have dl : w.heap.size < W.heap.size := World.block_lt_of_cell? W _ d0
    have g0 : W.cell? ⟨w.heap.size + 1, 0, none⟩ = some (.int .i64 q.f.x) := by rw [HW.out]; simp [go_sem]
    have g1 : W.cell? ⟨w.heap.size + 1, 1, none⟩ = some (.int .i64 q.f.y) := by rw [HW.out]; simp [go_sem]
    have g2 : W.cell? ⟨w.heap.size + 1, 2, none⟩ = some (.int .i64 q.f.z) := by rw [HW.out]; simp [go_sem]
    have g3 : W.cell? ⟨w.heap.size + 1, 3, none⟩ = some (.slice q.s q.off.length q.cap) := by rw [HW.out]; simp [go_sem]
    have gl : w.heap.size + 1 < W.heap.size := World.block_lt_of_cell? W _ g0
    try replace hr := up_of hB hr
    try replace hq := up_of hB hq
    go_upto_region 4 with (first | (go_at_call 34; refine (hck.out _ _ hr hq).mono ?_; rintro e W1 ⟨rfl, hb⟩; (try replace hr := up_of hb hr); (try replace hq := up_of hb hq); (try replace hB := up_of hb hB); (try replace d0 := up_of hb d0); (try replace d1 := up_of hb d1); (try replace d2 := up_of hb d2); (try replace dl := up_of hb dl); (try replace g0 := up_of hb g0); (try replace g1 := up_of hb g1); (try replace g2 := up_of hb g2); (try replace g3 := up_of hb g3); (try replace gl := up_of hb gl)))
    go_wp2_with (first | (go_at_call 75; refine (hpt.out _ hr).mono ?_; rintro e W5 ⟨sp, cp, rfl, hps, hb⟩; (try replace hr := up_of hb hr); (try replace hq := up_of hb hq); (try replace hB := up_of hb hB); (try replace d0 := up_of hb d0); (try replace d1 := up_of hb d1); (try replace d2 := up_of hb d2); (try replace dl := up_of hb dl); (try replace g0 := up_of hb g0); (try replace g1 := up_of hb g1); (try replace g2 := up_of hb g2); (try replace g3 := up_of hb g3); (try replace gl := up_of hb gl)))
    go_ret3
    exact ⟨rfl, hB⟩
  · obtain ⟨-, hvd, hk1, -, -, hp9, -, hol, -⟩ := hok rfl
    rw [hp1 hvd hp9, hp2 hvd hp9] at hpt
    have k2 : ((P.length : Int) == 0) = false := by simp; intro h; rw [h] at h2; simp at h2
    have ho1 : 1 ≤ q.off.length := by omega
    have hsp2 := fun V sp cp (h : PtS V sp P) (h3 : SdM V q) => hsp V sp cp h h2 h3 ho1
    replace hpt := Lib.hid hpt; replace h2 := Lib.hid h2; replace hsp2 := Lib.hid hsp2
    clear hok hpl hsp hp1 hp2 hvd hp9 hk1 hol ho1
    go_enter Tryz.func55, Tryz.ntmps55
    go_upto_region 1 with (fail)
    refine wp_world fun W HW => ?_
    have hB : Below w.heap.size w W := by rw [HW.out]; (repeat (first | exact Below.refl _ _ | refine Below.alloc ?_ (by simp; try omega) _ | refine Below.setCell ?_ (by simp) _ | refine Below.drew ?_))
    have d0 : W.cell? ⟨w.heap.size, 0, none⟩ = some (.int .i64 n) := by rw [HW.out]; simp [go_sem]
    have d1 : W.cell? ⟨w.heap.size, 1, none⟩ = some (.slice s l.length cap) := by rw [HW.out]; simp [go_sem]
    have d2 : W.cell? ⟨w.heap.size, 2, none⟩ = some (.slice s2 K.length cq) := by rw [HW.out]; simp [go_sem]
    have dl : w.heap.size < W.heap.size := World.block_lt_of_cell? W _ d0
    have g0 : W.cell? ⟨w.heap.size + 1, 0, none⟩ = some (.int .i64 q.f.x) := by rw [HW.out]; simp [go_sem]
    have g1 : W.cell? ⟨w.heap.size + 1, 1, none⟩ = some (.int .i64 q.f.y) := by rw [HW.out]; simp [go_sem]
    have g2 : W.cell? ⟨w.heap.size + 1, 2, none⟩ = some (.int .i64 q.f.z) := by rw [HW.out]; simp [go_sem]
    have g3 : W.cell? ⟨w.heap.size + 1, 3, none⟩ = some (.slice q.s q.off.length q.cap) := by rw [HW.out]; simp [go_sem]
    have gl : w.heap.size + 1 < W.heap.size := World.block_lt_of_cell? W _ g0
    try replace hr := up_of hB hr
    try replace hq := up_of hB hq
    go_upto_region 4 with (first | (go_at_call 34; refine (hck.out _ _ hr hq).mono ?_; rintro e W1 ⟨rfl, hb⟩; (try replace hr := up_of hb hr); (try replace hq := up_of hb hq); (try replace hB := up_of hb hB); (try replace d0 := up_of hb d0); (try replace d1 := up_of hb d1); (try replace d2 := up_of hb d2); (try replace dl := up_of hb dl); (try replace g0 := up_of hb g0); (try replace g1 := up_of hb g1); (try replace g2 := up_of hb g2); (try replace g3 := up_of hb g3); (try replace gl := up_of hb gl)))
    go_wp2_with (first | (go_at_call 100; refine (hsp2.out _ _ _ hps hq).mono ?_; rintro e W1 ⟨rfl, hb⟩; (try replace hr := up_of hb hr); (try replace hq := up_of hb hq); (try replace hB := up_of hb hB); (try replace d0 := up_of hb d0); (try replace d1 := up_of hb d1); (try replace d2 := up_of hb d2); (try replace dl := up_of hb dl); (try replace g0 := up_of hb g0); (try replace g1 := up_of hb g1); (try replace g2 := up_of hb g2); (try replace g3 := up_of hb g3); (try replace gl := up_of hb gl)) | (go_at_call 75; refine (hpt.out _ hr).mono ?_; rintro e W5 ⟨sp, cp, rfl, hps, hb⟩; (try replace hr := up_of hb hr); (try replace hq := up_of hb hq); (try replace hB := up_of hb hB); (try replace d0 := up_of hb d0); (try replace d1 := up_of hb d1); (try replace d2 := up_of hb d2); (try replace dl := up_of hb dl); (try replace g0 := up_of hb g0); (try replace g1 := up_of hb g1); (try replace g2 := up_of hb g2); (try replace g3 := up_of hb g3); (try replace gl := up_of hb gl)))
    go_ret3
    exact ⟨rfl, hB⟩
end Go.Proofs.YtakbpjgnjfigcaaGreat

/- Latencies: the program. -/
namespace Go.Proofs.YtakbpjgnjfigcaaGreat
open Go.RowKit

def latR (n : Int) (l : List Iq) (K : List Vv) (q : Sd) : Value :=
  if spanE n l K q ≠ 0 then .tuple #[.int .i64 0, .int .i64 (spanE n l K q)]
  else .tuple #[.int .i64 (wrap64 (wrap64 (spanH n l K q - spanL n l K q) + 1)), .int .i64 0]
set_option maxRecDepth 100000 in
set_option maxHeartbeats 2000000 in
theorem Latency_c (n : Int) (s : Option Addr) (cap : Nat) (l : List Iq) (s2 : Option Addr) (cq : Nat) (K : List Vv) (q : Sd) (w : World) (hr : RecM w s l s2 cq K) (hq : SdM w q) :
    Calls Tryz.prog 18 #[.agg #[.int .i64 n, .slice s l.length cap, .slice s2 K.length cq], .agg #[.int .i64 q.f.x, .int .i64 q.f.y, .int .i64 q.f.z, .slice q.s q.off.length q.cap]] w fun e w' => e = .returned (latR n l K q) ∧ Below w.heap.size w w' := by
  have hsp := fun V (h : RecM V s l s2 cq K) (h2 : SdM V q) => Span_c n s cap l s2 cq K q V h h2
  unfold spanR at hsp
  unfold latR
  obtain ⟨E1, hE⟩ : ∃ x, spanE n l K q = x := ⟨_, rfl⟩
  obtain ⟨A1, hA⟩ : ∃ x, spanL n l K q = x := ⟨_, rfl⟩
  obtain ⟨Z1, hZ⟩ : ∃ x, spanH n l K q = x := ⟨_, rfl⟩
  simp only [hE, hA, hZ] at hsp ⊢
  clear hE hA hZ
  replace hsp := Lib.hid hsp
  by_cases h0 : E1 = 0
  · subst h0
    go_enter Tryz.func18, Tryz.ntmps18
    go_upto_region 1 with (fail)
    refine wp_world fun W HW => ?_
    have hB : Below w.heap.size w W := by rw [HW.out]; (repeat (first | exact Below.refl _ _ | refine Below.alloc ?_ (by simp; try omega) _ | refine Below.setCell ?_ (by simp) _ | refine Below.drew ?_))
    have d0 : W.cell? ⟨w.heap.size, 0, none⟩ = some (.int .i64 n) := by rw [HW.out]; simp [go_sem]
    have d1 : W.cell? ⟨w.heap.size, 1, none⟩ = some (.slice s l.length cap) := by rw [HW.out]; simp [go_sem]
    have d2 : W.cell? ⟨w.heap.size, 2, none⟩ = some (.slice s2 K.length cq) := by rw [HW.out]; simp [go_sem]
    have dl : w.heap.size < W.heap.size := World.block_lt_of_cell? W _ d0
    have g0 : W.cell? ⟨w.heap.size + 1, 0, none⟩ = some (.int .i64 q.f.x) := by rw [HW.out]; simp [go_sem]
    have g1 : W.cell? ⟨w.heap.size + 1, 1, none⟩ = some (.int .i64 q.f.y) := by rw [HW.out]; simp [go_sem]
    have g2 : W.cell? ⟨w.heap.size + 1, 2, none⟩ = some (.int .i64 q.f.z) := by rw [HW.out]; simp [go_sem]
    have g3 : W.cell? ⟨w.heap.size + 1, 3, none⟩ = some (.slice q.s q.off.length q.cap) := by rw [HW.out]; simp [go_sem]
    have gl : w.heap.size + 1 < W.heap.size := World.block_lt_of_cell? W _ g0
    try replace hr := up_of hB hr
    try replace hq := up_of hB hq
    go_wp2_with (first | (go_at_call 55; refine (hsp.out _ hr hq).mono ?_; rintro e W1 ⟨rfl, hb⟩; (try replace hr := up_of hb hr); (try replace hq := up_of hb hq); (try replace hB := up_of hb hB); (try replace d0 := up_of hb d0); (try replace d1 := up_of hb d1); (try replace d2 := up_of hb d2); (try replace dl := up_of hb dl); (try replace g0 := up_of hb g0); (try replace g1 := up_of hb g1); (try replace g2 := up_of hb g2); (try replace g3 := up_of hb g3); (try replace gl := up_of hb gl)))
    go_ret2
    exact ⟨rfl, hB⟩
  · rw [if_pos h0]
    have k1 : (E1 != 0) = true := bne_iff_ne.2 h0
    go_enter Tryz.func18, Tryz.ntmps18
    go_upto_region 1 with (fail)
    refine wp_world fun W HW => ?_
    have hB : Below w.heap.size w W := by rw [HW.out]; (repeat (first | exact Below.refl _ _ | refine Below.alloc ?_ (by simp; try omega) _ | refine Below.setCell ?_ (by simp) _ | refine Below.drew ?_))
    have d0 : W.cell? ⟨w.heap.size, 0, none⟩ = some (.int .i64 n) := by rw [HW.out]; simp [go_sem]
    have d1 : W.cell? ⟨w.heap.size, 1, none⟩ = some (.slice s l.length cap) := by rw [HW.out]; simp [go_sem]
    have d2 : W.cell? ⟨w.heap.size, 2, none⟩ = some (.slice s2 K.length cq) := by rw [HW.out]; simp [go_sem]
    have dl : w.heap.size < W.heap.size := World.block_lt_of_cell? W _ d0
    have g0 : W.cell? ⟨w.heap.size + 1, 0, none⟩ = some (.int .i64 q.f.x) := by rw [HW.out]; simp [go_sem]
    have g1 : W.cell? ⟨w.heap.size + 1, 1, none⟩ = some (.int .i64 q.f.y) := by rw [HW.out]; simp [go_sem]
    have g2 : W.cell? ⟨w.heap.size + 1, 2, none⟩ = some (.int .i64 q.f.z) := by rw [HW.out]; simp [go_sem]
    have g3 : W.cell? ⟨w.heap.size + 1, 3, none⟩ = some (.slice q.s q.off.length q.cap) := by rw [HW.out]; simp [go_sem]
    have gl : w.heap.size + 1 < W.heap.size := World.block_lt_of_cell? W _ g0
    try replace hr := up_of hB hr
    try replace hq := up_of hB hq
    go_wp2_with (first | (go_at_call 55; refine (hsp.out _ hr hq).mono ?_; rintro e W1 ⟨rfl, hb⟩; (try replace hr := up_of hb hr); (try replace hq := up_of hb hq); (try replace hB := up_of hb hB); (try replace d0 := up_of hb d0); (try replace d1 := up_of hb d1); (try replace d2 := up_of hb d2); (try replace dl := up_of hb dl); (try replace g0 := up_of hb g0); (try replace g1 := up_of hb g1); (try replace g2 := up_of hb g2); (try replace g3 := up_of hb g3); (try replace gl := up_of hb gl)))
    go_ret2
    exact ⟨rfl, hB⟩

end Go.Proofs.YtakbpjgnjfigcaaGreat
