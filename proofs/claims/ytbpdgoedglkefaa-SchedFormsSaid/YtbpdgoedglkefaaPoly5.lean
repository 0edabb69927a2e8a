/- All points, as the reference lists them. -/
import Derived.Test.YtbpdgoedglkefaaPoly4
namespace Go.Proofs.Ytbpdgoedglkefaa
open Go.RowKit

theorem info_pt : (Try.prog.info? 29).map (fun i => (i.zero, i.size, i.bytes)) = some (some (.agg #[.int .i64 0, .int .i64 0, .int .i64 0]), 3, 24) := by kernel_rfl
theorem ptCells_snoc (l : List Pt) (p : Pt) : ptCells (l ++ [p]) = ptCells l ++ [.int .i64 p.x, .int .i64 p.y, .int .i64 p.z] := by simp [ptCells, Pt.cells]

/-- A call that hands back a new slice of these points. -/
def RetPts (L : List Pt) (w : World) (e : Ending) (w' : World) : Prop :=
  ∃ s cap, e = .returned (.slice s L.length cap) ∧ w'.ownsRow w.heap.size 29 3 (.slice s L.length cap) L.length (ptCells L) ∧ Below w.heap.size w w'

theorem far_flat {n x y z : Int} (hn : 1 ≤ n ∧ n ≤ 3) (hx : -far n 0 ≤ x ∧ x ≤ far n 0) (hy : -far n 1 ≤ y ∧ y ≤ far n 1) (hz : -far n 2 ≤ z ∧ z ≤ far n 2) : flatB ⟨x, y, z⟩ n 20 = true := by
  simp only [far] at hx hy hz
  simp only [flatB, flatC, bw, Bool.and_eq_true, Bool.or_eq_true, decide_eq_true_eq]
  (repeat' split at hx) <;> (repeat' split at hy) <;> (repeat' split at hz) <;> omega
theorem hasB_holds (n : Int) (l : List Iq) (p : Pt) (h : flatB p n 20 = true) : hasB n l p = holdsB l p 1 := by simp [hasB, h]

set_option maxRecDepth 100000 in
set_option maxHeartbeats 1000000 in
theorem All_c (n : Int) (s : Option Addr) (cap : Nat) (l : List Iq) (w : World) (hn : 1 ≤ n ∧ n ≤ 3) (hs : IqS w s l) (hl : l.length ≤ 9223372036854775807) (hwf : ∀ q ∈ l, -9223372036854775808 ≤ q.b ∧ q.b ≤ 9223372036854775807) :
    Calls Try.prog 55 #[.agg #[.int .i64 n, .slice s l.length cap]] w (RetPts (pts n l) w) := by
  replace hs := Lib.hid hs
  replace hwf := Lib.hid hwf
  have hlen := pts_len n l
  have f0 := far_le n 0
  have f1 := far_le n 1
  have f2 := far_le n 2
  have g0 := far_nn n 0
  have g1 := far_nn n 1
  have g2 := far_nn n 2
  go_enter Try.func55, Try.ntmps55
  go_upto_region 1 with (fail)
  refine wp_world fun W HW => ?_
  have hB : Below w.heap.size w W := by rw [HW.out]; (repeat (first | exact Below.refl _ _ | refine Below.alloc ?_ (by simp; try omega) _ | refine Below.setCell ?_ (by simp) _ | refine Below.drew ?_))
  have d0 : W.cell? ⟨w.heap.size, 0, none⟩ = some (.int .i64 n) := by rw [HW.out]; simp [go_sem]
  have d1 : W.cell? ⟨w.heap.size, 1, none⟩ = some (.slice s l.length cap) := by rw [HW.out]; simp [go_sem]
  have dl : w.heap.size < W.heap.size := World.block_lt_of_cell? W _ d0
  go_wp2_with (first | (go_at_call 99; refine (far_c _ _ _ _ _ _).mono ?_; rintro e V ⟨rfl, hb⟩; replace hB := Up.to hB hb hB.size; replace d0 := Up.cell hb d0; replace d1 := Up.cell hb d1))
  have dV : w.heap.size < V.heap.size := World.block_lt_of_cell? V _ d0
  go_loopw [3, 4] (fun out x wr => ∃ (xi : Int) (pre : List Pt), x = .int .i64 xi ∧ -far n 0 ≤ xi ∧ xi ≤ far n 0 + 1 ∧ Hid (pts n l = pre ++ ptsX n l (up xi (far n 0))) ∧ wr.ownsRow V.heap.size 29 3 out pre.length (ptCells pre) ∧ Below V.heap.size V wr)
    (fun _ x _ => (far n 0 + 1 - intOf x).toNat)
  case atStart => exact ⟨_, [], rfl, by omega, by omega, rfl, World.ownsRow_nil _ _ _ _, Below.refl _ _⟩
  case round =>
    obtain ⟨xi, pre, rfl, hx0, hx1, hpre, hown, hR⟩ := hrel
    have e0 := Up.cell hR d0
    have e1 := Up.cell hR d1
    by_cases hx : xi ≤ far n 0
    · go_wp2_with (first | (go_at_call 99; refine (far_c _ _ _ _ _ _).mono ?_; rintro e W1 ⟨rfl, hb⟩; replace hR := Up.to hR hb hR.size; replace e0 := Up.cell hb e0; replace e1 := Up.cell hb e1; replace hown := Up.owns hb hown))
      go_loopw [3, 5] (fun out y wr => ∃ (yi : Int) (pre : List Pt), y = .int .i64 yi ∧ -far n 1 ≤ yi ∧ yi ≤ far n 1 + 1 ∧ Hid (pts n l = pre ++ (ptsY n l xi (up yi (far n 1)) ++ ptsX n l (up (xi + 1) (far n 0)))) ∧ wr.ownsRow V.heap.size 29 3 out pre.length (ptCells pre) ∧ Below V.heap.size V wr)
        (fun _ y _ => (far n 1 + 1 - intOf y).toNat)
      case atStart => exact ⟨_, pre, rfl, by omega, by omega, by rw [hpre.out, up_cons hx]; rfl, hown, hR⟩
      case round =>
        clear e0 e1 hown hR hpre pre
        obtain ⟨yi, pre, rfl, hy0, hy1, hpre, hown, hR⟩ := hrel
        have e0 := Up.cell hR d0
        have e1 := Up.cell hR d1
        by_cases hy : yi ≤ far n 1
        · go_wp2_with (first | (go_at_call 99; refine (far_c _ _ _ _ _ _).mono ?_; rintro e W1 ⟨rfl, hb⟩; replace hR := Up.to hR hb hR.size; replace e0 := Up.cell hb e0; replace e1 := Up.cell hb e1; replace hown := Up.owns hb hown))
          go_loopw [3, 6] (fun out z wr => ∃ (zi : Int) (pre : List Pt), z = .int .i64 zi ∧ -far n 2 ≤ zi ∧ zi ≤ far n 2 + 1 ∧ Hid (pts n l = pre ++ (ptsZ l xi yi (up zi (far n 2)) ++ (ptsY n l xi (up (yi + 1) (far n 1)) ++ ptsX n l (up (xi + 1) (far n 0))))) ∧ wr.ownsRow V.heap.size 29 3 out pre.length (ptCells pre) ∧ Below V.heap.size V wr)
            (fun _ z _ => (far n 2 + 1 - intOf z).toNat)
          case atStart => exact ⟨_, pre, rfl, by omega, by omega, (show pts n l = _ by rw [hpre.out, up_cons hy]; simp only [ptsY, List.flatMap_cons, List.append_assoc]), hown, hR⟩
          case round =>
            clear e0 e1 hown hR hpre pre
            obtain ⟨zi, pre, rfl, hz0, hz1, hpre, hown, hR⟩ := hrel
            have e0 := Up.cell hR d0
            have e1 := Up.cell hR d1
            by_cases hz : zi ≤ far n 2
            · have hlp : pre.length ≤ 68921 := by
                have := congrArg List.length hpre.out
                simp only [List.length_append] at this
                omega
              have hfl : flatB ⟨xi, yi, zi⟩ n 20 = true := far_flat hn ⟨hx0, hx⟩ ⟨hy0, hy⟩ ⟨hz0, hz⟩
              have hh := hasB_holds n l ⟨xi, yi, zi⟩ hfl
              have hpz : pts n l = pre ++ ((if holdsB l ⟨xi, yi, zi⟩ 1 then [(⟨xi, yi, zi⟩ : Pt)] else []) ++ (ptsZ l xi yi (up (zi + 1) (far n 2)) ++ (ptsY n l xi (up (yi + 1) (far n 1)) ++ ptsX n l (up (xi + 1) (far n 0))))) := by
                rw [hpre.out, up_cons hz]; simp only [ptsZ, List.flatMap_cons, List.append_assoc]
              replace hpz := Lib.hid hpz
              replace hh := Lib.hid hh
              clear hpre hfl
              cases hc : hasB n l ⟨xi, yi, zi⟩
              all_goals
                have hc2 := Lib.hid (hh.out.symm.trans hc)
                go_upto_region 12 with (first | (go_at_call 99; refine (far_c _ _ _ _ _ _).mono ?_; rintro e W1 ⟨rfl, hb⟩; replace hR := Up.to hR hb hR.size; replace e0 := Up.cell hb e0; replace e1 := Up.cell hb e1; replace hown := Up.owns hb hown))
                refine wp_world fun X HX => ?_
                have hX : Below W1.heap.size W1 X := by rw [HX.out]; (repeat (first | exact Below.refl _ _ | refine Below.alloc ?_ (by simp; try omega) _ | refine Below.setCell ?_ (by simp) _ | refine Below.drew ?_))
                have q0 : X.cell? ⟨W1.heap.size, 0, none⟩ = some (.int .i64 xi) := by rw [HX.out]; simp [go_sem]
                have q1 : X.cell? ⟨W1.heap.size, 1, none⟩ = some (.int .i64 yi) := by rw [HX.out]; simp [go_sem]
                have q2 : X.cell? ⟨W1.heap.size, 2, none⟩ = some (.int .i64 zi) := by rw [HX.out]; simp [go_sem]
                have ql : W1.heap.size < X.heap.size := World.block_lt_of_cell? X _ q0
                replace e0 := Up.cell hX e0
                replace e1 := Up.cell hX e1
                replace hown := Up.owns hX hown
                replace hR := Up.to hR hX hR.size
                have hisq := Up.iq (Up.to hB hR hB.size) hs.out
                replace hisq := Lib.hid hisq
                have hVs := hR.size
                go_wp2_with (first | (at_builtin; obtain ⟨i0, hi, hz0, hz1, hz2⟩ := info_parts info_pt; refine wpList_append_own _ rfl _ _ 86 rfl V.heap.size 29 i0 (.agg #[.int .i64 0, .int .i64 0, .int .i64 0]) 3 24 Try.underlying86 hi hz0 hz1 hz2 rfl (by decide) _ _ _ rfl (hown.alloc _) ⟨Y.heap.size, 0, none⟩ 1 1 [.int .i64 xi, .int .i64 yi, .int .i64 zi] rfl rfl (news_new _ _ _) (by simp [Value.oneCell']) (by unfold maxLen; omega) (by omega) (by have := hR.size; simp; omega) ?_; intro v1 w1 hown1 hgrow hnil) | (go_at_call 100; refine (rhas_c n s cap l ⟨xi, yi, zi⟩ _ hisq.out hl hwf.out).mono ?_; rintro e Y ⟨rfl, hb⟩; replace hR := Up.to hR hb hR.size; replace e0 := Up.cell hb e0; replace e1 := Up.cell hb e1; replace q0 := Up.cell hb q0; replace q1 := Up.cell hb q1; replace q2 := Up.cell hb q2; replace hown := Up.owns hb hown))
                go_roundw
                case rel => first
                  | exact ⟨zi + 1, pre ++ [⟨xi, yi, zi⟩], rfl, by omega, by omega, (show pts n l = _ by rw [hpz.out, if_pos hc2.out]; simp), by rw [ptCells_snoc]; simpa using hown1, Up.grown hR hR.size hown hgrow⟩
                  | exact ⟨zi + 1, pre, rfl, by omega, by omega, (show pts n l = _ by rw [hpz.out, if_neg (by rw [hc2.out]; simp)]; rfl), hown, hR⟩
                case measure => simp [intOf]; omega
            · go_wp2_with (first | (go_at_call 99; refine (far_c _ _ _ _ _ _).mono ?_; rintro e W1 ⟨rfl, hb⟩; replace hR := Up.to hR hb hR.size; replace e0 := Up.cell hb e0; replace e1 := Up.cell hb e1; replace hown := Up.owns hb hown))
              go_roundw
              case rel => exact ⟨yi + 1, pre, rfl, by omega, by omega, by rw [hpre.out, up_nil (by omega)]; rfl, hown, hR⟩
              case measure => simp [intOf]; omega
        · go_wp2_with (first | (go_at_call 99; refine (far_c _ _ _ _ _ _).mono ?_; rintro e W1 ⟨rfl, hb⟩; replace hR := Up.to hR hb hR.size; replace e0 := Up.cell hb e0; replace e1 := Up.cell hb e1; replace hown := Up.owns hb hown))
          go_roundw
          case rel => exact ⟨xi + 1, pre, rfl, by omega, by omega, by rw [hpre.out, up_nil (by omega)]; rfl, hown, hR⟩
          case measure => simp [intOf]; omega
    · go_wp2_with (first | (go_at_call 99; refine (far_c _ _ _ _ _ _).mono ?_; rintro e W1 ⟨rfl, hb⟩; replace hR := Up.to hR hb hR.size; replace e0 := Up.cell hb e0; replace e1 := Up.cell hb e1; replace hown := Up.owns hb hown))
      obtain rfl : xi = far n 0 + 1 := by omega
      have hp : pts n l = pre := by rw [hpre.out, up_nil (by omega)]; simp [ptsX]
      replace hp := Lib.hid hp
      obtain ⟨s', c', rfl, _⟩ := owns_shape hown
      go_wp2
      go_ret
      rw [hp.out]
      exact ⟨s', c', rfl, owns_mono hown (Nat.le_of_lt (Nat.lt_of_le_of_lt (Nat.le_refl _) dV)), Up.to hB hR hB.size⟩
end Go.Proofs.Ytbpdgoedglkefaa
