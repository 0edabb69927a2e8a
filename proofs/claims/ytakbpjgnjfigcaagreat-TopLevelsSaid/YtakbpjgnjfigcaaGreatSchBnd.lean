/- The greatest level, as exported by layer 3: the program. -/
import Derived.Test.YtakbpjgnjfigcaaGreatMostL
import Derived.Test.YtakbpjgnjfigcaaGreatB12
namespace Go.Proofs.YtakbpjgnjfigcaaGreat
open Go.RowKit Go.Maps

def BndR (n : Int) (l : List Iq) (K : List Vv) (e : Ending) : Prop :=
  (recB n l K = false ∧ e = .returned (.tuple #[.int .i64 0, .int .i64 20])) ∨ (recB n l K = true ∧ ¬ okN2 K (pts n l) ∧ e = .returned (.tuple #[.int .i64 0, .int .i64 21])) ∨
  (recB n l K = true ∧ okN2 K (pts n l) ∧ e = .returned (.tuple #[.int .i64 (mostL (rowsN (pts n l).length (lvsL K (pts n l)) K.length)), .int .i64 0]))
set_option maxRecDepth 100000 in
set_option maxHeartbeats 2000000 in
theorem Bound_c (n : Int) (s : Option Addr) (cap : Nat) (l : List Iq) (s2 : Option Addr) (cq : Nat) (K : List Vv) (w : World) (hr : RecM w s l s2 cq K) :
    Calls Tryz.prog 13 #[.agg #[.int .i64 n, .slice s l.length cap, .slice s2 K.length cq]] w fun e w' => BndR n l K e ∧ Below w.heap.size w w' := by
  have hlv := fun V (h : RecM V s l s2 cq K) => Levels_c n s cap l s2 cq K V h
  by_cases hok : recB n l K = true ∧ okN2 K (pts n l)
  case neg =>
    have hl1 := fun V (h : RecM V s l s2 cq K) => (hlv V h).mono (R' := fun e w' => (∃ c : Int, c ≠ 0 ∧ e = .returned (.tuple #[.slice none 0 0, .int .i64 c]) ∧ BndR n l K (.returned (.tuple #[.int .i64 0, .int .i64 c]))) ∧ Below V.heap.size V w') (fun e w' ⟨h1, h2⟩ => ⟨by
      rcases h1 with ⟨h1, h3⟩ | ⟨h1, h4, h3⟩ | ⟨h1, h4, -⟩
      · exact ⟨20, by decide, h3, .inl ⟨h1, rfl⟩⟩
      · exact ⟨21, by decide, h3, .inr (.inl ⟨h1, h4, rfl⟩)⟩
      · exact absurd ⟨h1, h4⟩ hok, h2⟩)
    obtain ⟨R, hR⟩ : ∃ R, BndR n l K = R := ⟨_, rfl⟩
    simp only [hR] at hl1 ⊢
    clear hR hlv hok
    replace hl1 := Lib.hid hl1
    go_enter Tryz.func13, Tryz.ntmps13
    go_upto_region 1 with (fail)
    refine wp_world fun W HW => ?_
    have hB : Below w.heap.size w W := by rw [HW.out]; (repeat (first | exact Below.refl _ _ | refine Below.alloc ?_ (by simp; try omega) _ | refine Below.setCell ?_ (by simp) _ | refine Below.drew ?_))
    have d0 : W.cell? ⟨w.heap.size, 0, none⟩ = some (.int .i64 n) := by rw [HW.out]; simp [go_sem]
    have d1 : W.cell? ⟨w.heap.size, 1, none⟩ = some (.slice s l.length cap) := by rw [HW.out]; simp [go_sem]
    have d2 : W.cell? ⟨w.heap.size, 2, none⟩ = some (.slice s2 K.length cq) := by rw [HW.out]; simp [go_sem]
    have dl : w.heap.size < W.heap.size := World.block_lt_of_cell? W _ d0
    try replace hr := up_of hB hr
    go_upto_region 2 with (first | (go_at_call 47; refine (hl1.out _ hr).mono ?_; rintro e W2 ⟨⟨c, hc, rfl, hR⟩, hb⟩; (try replace hr := up_of hb hr); (try replace hB := up_of hb hB); (try replace d0 := up_of hb d0); (try replace d1 := up_of hb d1); (try replace d2 := up_of hb d2); (try replace dl := up_of hb dl)))
    have hc2 : (c != 0) = true := by simpa using hc
    replace hR := Lib.hid hR
    go_wp2
    go_ret2
    exact ⟨hR.out, hB⟩
  have hl1 := fun V (h : RecM V s l s2 cq K) => (hlv V h).mono (R' := fun e w' => (∃ s' c', e = .returned (.tuple #[.slice s' (rowsN (pts n l).length (lvsL K (pts n l)) K.length).length c', .int .i64 0]) ∧ SlSS intE w' s' (rowsN (pts n l).length (lvsL K (pts n l)) K.length)) ∧ Below V.heap.size V w') (fun e w' ⟨h1, h2⟩ => ⟨by
    rcases h1 with ⟨h1, -⟩ | ⟨-, h1, -⟩ | ⟨-, -, h1⟩
    · rw [hok.1] at h1; cases h1
    · exact absurd hok.2 h1
    · obtain ⟨s', c', h1, h3⟩ := h1
      exact ⟨s', c', by rw [rowsN_len]; exact h1, h3⟩, h2⟩)
  have hend : BndR n l K (.returned (.tuple #[.int .i64 (mostL (rowsN (pts n l).length (lvsL K (pts n l)) K.length)), .int .i64 0])) := .inr (.inr ⟨hok.1, hok.2, rfl⟩)
  have hK4 := (netOk hok.1).vars
  have hPl := (netOk hok.1).len
  have hTl := rowsN_len (pts n l).length (lvsL K (pts n l)) K.length
  have hrows : ∀ r ∈ rowsN (pts n l).length (lvsL K (pts n l)) K.length, r.length ≤ 1000 := fun r hr => by
    obtain ⟨v, hv, rfl⟩ := List.getElem_of_mem hr
    rw [rowsN_len] at hv
    have h1 := (rowsN_part (lvsL_len K (pts n l)) hv (by rw [rowsN_len]; exact hv)).1
    omega
  obtain ⟨T, hT⟩ : ∃ x, rowsN (pts n l).length (lvsL K (pts n l)) K.length = x := ⟨_, rfl⟩
  simp only [hT] at hl1 hend hTl hrows
  obtain ⟨R, hR⟩ : ∃ R, BndR n l K = R := ⟨_, rfl⟩
  simp only [hR] at hend ⊢
  obtain ⟨Z, hZ⟩ : ∃ x, mostL T = x := ⟨_, rfl⟩
  rw [hZ] at hend
  clear hR hlv hok hT hPl
  have hT4 : T.length ≤ 4 := by omega
  clear hK4
  replace hl1 := Lib.hid hl1; replace hend := Lib.hid hend; replace hrows := Lib.hid hrows; replace hZ := Lib.hid hZ; replace hTl := Lib.hid hTl
  go_enter Tryz.func13, Tryz.ntmps13
  go_upto_region 1 with (fail)
  refine wp_world fun W HW => ?_
  have hB : Below w.heap.size w W := by rw [HW.out]; (repeat (first | exact Below.refl _ _ | refine Below.alloc ?_ (by simp; try omega) _ | refine Below.setCell ?_ (by simp) _ | refine Below.drew ?_))
  have d0 : W.cell? ⟨w.heap.size, 0, none⟩ = some (.int .i64 n) := by rw [HW.out]; simp [go_sem]
  have d1 : W.cell? ⟨w.heap.size, 1, none⟩ = some (.slice s l.length cap) := by rw [HW.out]; simp [go_sem]
  have d2 : W.cell? ⟨w.heap.size, 2, none⟩ = some (.slice s2 K.length cq) := by rw [HW.out]; simp [go_sem]
  have dl : w.heap.size < W.heap.size := World.block_lt_of_cell? W _ d0
  try replace hr := up_of hB hr
  go_upto_region 2 with (first | (go_at_call 47; refine (hl1.out _ hr).mono ?_; rintro e W2 ⟨⟨s1, c1, rfl, h1⟩, hb⟩; (try replace hr := up_of hb hr); (try replace hB := up_of hb hB); (try replace d0 := up_of hb d0); (try replace d1 := up_of hb d1); (try replace d2 := up_of hb d2); (try replace dl := up_of hb dl)))
  clear hr d0 d1 d2 dl
  have h1o := Lib.hid h1
  have hB2 := Lib.hid hB
  have hB0 := Below.refl W2.heap.size W2
  clear h1 hB
  go_wp2
  go_loopw [6, 21] (fun m i wr => ∃ (k : Nat) (F : Int), k ≤ T.length ∧ i = .int .i64 k ∧ m = .int .i64 F ∧ Hid (F = (T.take k).foldl mxL 0) ∧ Below W2.heap.size W2 wr) (fun _ i => fun _ => T.length - (intOf i).toNat)
  case atStart => exact ⟨0, 0, by omega, rfl, rfl, Lib.hid (by simp), hB0⟩
  case round =>
    clear hB0
    obtain ⟨k, F, hk, rfl, rfl, hF, hR⟩ := hrel
    by_cases hlt : k < T.length
    · obtain ⟨b1, o1, ta1, tc1, rfl, hb1, p0, hs1, -, -⟩ := (up_of hR h1o).out.at hlt
      have hrl := hrows.out _ (List.getElem_mem hlt)
      have hTk : T.take (k + 1) = T.take k ++ [T[k]] := List.take_succ_eq_append_getElem hlt
      obtain ⟨c, hc⟩ : ∃ x, T[k] = x := ⟨_, rfl⟩
      rw [hc] at p0 hs1 hrl hTk
      have g1 : (0 : Int) ≤ (k : Int) := by omega
      have g2 : (k : Int) < (T.length : Int) := by omega
      have hF0 : F = mxL F (c.take 0) := by simp [mxL]
      have hfin : mxL F c = (T.take (k + 1)).foldl mxL 0 := by rw [hTk, List.foldl_append, hF.out]; rfl
      replace hc := Lib.hid hc; replace hF0 := Lib.hid hF0; replace hfin := Lib.hid hfin
      clear hTk hF
      obtain ⟨X1, hX1⟩ : ∃ X, X = wr := ⟨wr, rfl⟩
      have hs0 := Lib.hid (show SlS intE X1 ta1 c by rw [hX1]; exact hs1)
      have hRX := Lib.hid (show Below W2.heap.size W2 X1 by rw [hX1]; exact hR)
      have h00 : Below X1.heap.size X1 wr := by rw [hX1]; exact Below.refl _ _
      replace hX1 := Lib.hid hX1
      clear hs1 hR
      go_wp2
      go_loopw [6, 27] (fun mm i wr => ∃ (m : Nat) (G : Int), m ≤ c.length ∧ i = .int .i64 m ∧ mm = .int .i64 G ∧ Hid (G = mxL F (c.take m)) ∧ Below X1.heap.size X1 wr) (fun _ i => fun _ => c.length - (intOf i).toNat)
      case atStart => exact ⟨0, F, by omega, rfl, rfl, hF0, h00⟩
      case round =>
        clear h00 p0
        obtain ⟨m, G, hm, rfl, rfl, hG, hR2⟩ := hrel
        by_cases hlt2 : m < c.length
        · obtain ⟨d1, e1, rfl, hd1, u0⟩ := (up_of hR2 hs0.out).int_at hlt2
          have g3 : (0 : Int) ≤ (m : Int) := by omega
          have g4 : (m : Int) < (c.length : Int) := by omega
          have hct : c.take (m + 1) = c.take m ++ [c[m]] := List.take_succ_eq_append_getElem hlt2
          obtain ⟨x, hx⟩ : ∃ x, c[m] = x := ⟨_, rfl⟩
          rw [hx] at u0 hct
          have hGn : max G x = mxL F (c.take (m + 1)) := by rw [hct, mxL_snoc, ← hG.out]
          replace hx := Lib.hid hx
          clear hct hG
          by_cases hmx : G < x
          · have e : max G x = x := by omega
            rw [e] at hGn
            replace hGn := Lib.hid hGn
            clear e
            go_wp2
            go_roundw
            case rel => exact ⟨m + 1, x, by omega, rfl, rfl, hGn, hR2⟩
            case measure => exact meas hlt2
          · have e : max G x = G := by omega
            rw [e] at hGn
            replace hGn := Lib.hid hGn
            clear e
            go_wp2
            go_roundw
            case rel => exact ⟨m + 1, G, by omega, rfl, rfl, hGn, hR2⟩
            case measure => exact meas hlt2
        · obtain rfl : m = c.length := by omega
          have hG2 : G = (T.take (k + 1)).foldl mxL 0 := by rw [hG.out, List.take_length]; exact hfin.out
          replace hG2 := Lib.hid hG2
          have hR3 := hRX.out.trans (hR2.mono hRX.out.size)
          clear hG
          go_wp2
          go_roundw
          case rel => exact ⟨k + 1, G, by omega, rfl, rfl, hG2, hR3⟩
          case measure => exact meas hlt
    · obtain rfl : k = T.length := by omega
      have hFZ : F = Z := by rw [hF.out, List.take_length]; exact hZ.out
      subst hFZ
      have hB := hB2.out.trans (hR.mono hB2.out.size)
      clear hF
      go_wp2
      go_ret2
      exact ⟨hend.out, hB⟩
end Go.Proofs.YtakbpjgnjfigcaaGreat
