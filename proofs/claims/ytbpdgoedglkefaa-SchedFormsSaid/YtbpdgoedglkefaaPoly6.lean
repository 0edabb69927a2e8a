/- The program's iterator over all points. -/
import Derived.Test.YtbpdgoedglkefaaPoly5
import Derived.Test.YtbpdgoedglkefaaRange
namespace Go.Proofs.Ytbpdgoedglkefaa
open Go.RowKit

attribute [local go_sem] Oper.semAt_some

def encPt (p : Pt) : Value := .agg #[.int .i64 p.x, .int .i64 p.y, .int .i64 p.z]

set_option maxRecDepth 100000 in
set_option maxHeartbeats 1000000 in
theorem points1_iter (n : Int) (s : Option Addr) (cap : Nat) (l : List Iq) (b1 b2 : Nat) (w : World) (hs : IqS w s l) (hl : l.length ≤ 9223372036854775807)
    (m0 : w.cell? ⟨b1, 0, none⟩ = some (.int .i64 (far n 0))) (m1 : w.cell? ⟨b1, 1, none⟩ = some (.int .i64 (far n 1))) (m2 : w.cell? ⟨b1, 2, none⟩ = some (.int .i64 (far n 2)))
    (d1 : w.cell? ⟨b2, 1, none⟩ = some (.slice s l.length cap)) :
    Iter Try.prog 139 #[.pointer (some ⟨b1, 0, none⟩), .pointer (some ⟨b2, 0, none⟩)] (fun x => #[encPt x]) (fun k => k = b1 ∨ k = b2 ∨ Blk s l k) (pts n l) w := by
  have hlt : ∀ k, (k = b1 ∨ k = b2 ∨ Blk s l k) → k < w.heap.size := fun k hk => by
    rcases hk with rfl | rfl | hk
    · exact World.block_lt_of_cell? w _ m0
    · exact World.block_lt_of_cell? w _ d1
    · exact hs.blk hk
  refine ⟨hlt, ?_⟩
  intro ly J Jx W hW hJ hJx hY h0
  have hK0 : KeepUp (fun k => k = b1 ∨ k = b2 ∨ Blk s l k) w W := KeepUp.of_below hW hlt
  have hKU : ∀ (A B : World), KeepUp (fun k => k = b1 ∨ k = b2 ∨ Blk s l k) w A → Below A.heap.size A B → KeepUp (fun k => k = b1 ∨ k = b2 ∨ Blk s l k) w B := fun _ _ h k => h.trans (KeepUp.of_below k (fun i hi => Nat.lt_of_lt_of_le (hlt i hi) h.size))
  have hIq : ∀ (A : World), KeepUp (fun k => k = b1 ∨ k = b2 ∨ Blk s l k) w A → IqS A s l := fun _ h => hs.keep h.size (fun k hk => h.same k (.inr (.inr hk)))
  replace hKU := Lib.hid hKU
  replace hIq := Lib.hid hIq
  have hJb : ∀ s A B, J s A → Below A.heap.size A B → J s B := fun s A B h hb => hJ s A B none h (grownBy_of_below hb) (fun r e => by cases e)
  replace hJb := Lib.hid hJb
  replace hY := Lib.hid hY
  have f0 := far_le n 0
  have f1 := far_le n 1
  have f2 := far_le n 2
  have g0 := far_nn n 0
  have g1 := far_nn n 1
  have g2 := far_nn n 2
  have e0 := hK0.cell (.inl rfl) m0
  have e1 := hK0.cell (.inl rfl) m1
  have e2 := hK0.cell (.inl rfl) m2
  have e3 := hK0.cell (.inr (.inl rfl)) d1
  refine callsIn_of_wp Try.func139 rfl trivial ?_ rfl
  simp only [Try.ntmps139, List.size_toArray, List.length_cons, List.length_nil, Nat.reduceAdd, Nat.reduceSub, Array.replicate_succ, Array.replicate_zero, List.push_toArray, List.append_toArray, List.nil_append, List.cons_append]
  gi_wp2
  gi_loopw [4] (fun x wr => ∃ (xi : Int) (pre : List Pt), x = .int .i64 xi ∧ -far n 0 ≤ xi ∧ xi ≤ far n 0 + 1 ∧ Hid (pts n l = pre ++ ptsX n l (up xi (far n 0))) ∧ J pre wr ∧ KeepUp (fun k => k = b1 ∨ k = b2 ∨ Blk s l k) w wr)
    (fun x _ => (far n 0 + 1 - intOf x).toNat)
  case atStart => exact ⟨_, [], rfl, by omega, by omega, rfl, h0, hK0⟩
  case round =>
    clear e0 e1 e2 e3 h0
    obtain ⟨xi, pre, rfl, hx0, hx1, hpre, hj, hR⟩ := hrel
    have e0 := hR.cell (.inl rfl) m0
    have e1 := hR.cell (.inl rfl) m1
    have e2 := hR.cell (.inl rfl) m2
    have e3 := hR.cell (.inr (.inl rfl)) d1
    by_cases hx : xi ≤ far n 0
    · gi_wp2
      gi_loopw [5] (fun y wr => ∃ (yi : Int) (pre : List Pt), y = .int .i64 yi ∧ -far n 1 ≤ yi ∧ yi ≤ far n 1 + 1 ∧ Hid (pts n l = pre ++ (ptsY n l xi (up yi (far n 1)) ++ ptsX n l (up (xi + 1) (far n 0)))) ∧ J pre wr ∧ KeepUp (fun k => k = b1 ∨ k = b2 ∨ Blk s l k) w wr)
        (fun y _ => (far n 1 + 1 - intOf y).toNat)
      case atStart => exact ⟨_, pre, rfl, by omega, by omega, (show pts n l = _ by rw [hpre.out, up_cons hx]; rfl), hj, hR⟩
      case round =>
        clear e0 e1 e2 e3 hj hR hpre pre
        obtain ⟨yi, pre, rfl, hy0, hy1, hpre, hj, hR⟩ := hrel
        have e0 := hR.cell (.inl rfl) m0
        have e1 := hR.cell (.inl rfl) m1
        have e2 := hR.cell (.inl rfl) m2
        have e3 := hR.cell (.inr (.inl rfl)) d1
        by_cases hy : yi ≤ far n 1
        · gi_wp2
          gi_loopw [6] (fun z wr => ∃ (zi : Int) (pre : List Pt), z = .int .i64 zi ∧ -far n 2 ≤ zi ∧ zi ≤ far n 2 + 1 ∧ Hid (pts n l = pre ++ (ptsZ l xi yi (up zi (far n 2)) ++ (ptsY n l xi (up (yi + 1) (far n 1)) ++ ptsX n l (up (xi + 1) (far n 0))))) ∧ J pre wr ∧ KeepUp (fun k => k = b1 ∨ k = b2 ∨ Blk s l k) w wr)
            (fun z _ => (far n 2 + 1 - intOf z).toNat)
          case atStart => exact ⟨_, pre, rfl, by omega, by omega, (show pts n l = _ by rw [hpre.out, up_cons hy]; simp only [ptsY, List.flatMap_cons, List.append_assoc]), hj, hR⟩
          case round =>
            clear e0 e1 e2 e3 hj hR hpre pre
            obtain ⟨zi, pre, rfl, hz0, hz1, hpre, hj, hR⟩ := hrel
            have e0 := hR.cell (.inl rfl) m0
            have e1 := hR.cell (.inl rfl) m1
            have e2 := hR.cell (.inl rfl) m2
            have e3 := hR.cell (.inr (.inl rfl)) d1
            by_cases hz : zi ≤ far n 2
            · have hpz : pts n l = pre ++ ((if holdsB l ⟨xi, yi, zi⟩ 1 then [(⟨xi, yi, zi⟩ : Pt)] else []) ++ (ptsZ l xi yi (up (zi + 1) (far n 2)) ++ (ptsY n l xi (up (yi + 1) (far n 1)) ++ ptsX n l (up (xi + 1) (far n 0))))) := by
                rw [hpre.out, up_cons hz]; simp only [ptsZ, List.flatMap_cons, List.append_assoc]
              replace hpz := Lib.hid hpz
              clear hpre
              cases hc : holdsB l ⟨xi, yi, zi⟩ 1
              all_goals
                have hc2 := Lib.hid hc
                have l1 := World.block_lt_of_cell? wr _ e0
                have l2 := World.block_lt_of_cell? wr _ e3
                gi_wp2_with fail
                refine callsIn_world fun X HX => ?_
                have hX : Below wr.heap.size wr X := by rw [HX.out]; (repeat (first | exact Below.refl _ _ | refine Below.alloc ?_ (by simp; try omega) _ | refine Below.setCell ?_ (by simp) _ | refine Below.drew ?_))
                have q0 : X.cell? ⟨wr.heap.size, 0, none⟩ = some (.int .i64 xi) := by rw [HX.out]; simp [go_sem]
                have q1 : X.cell? ⟨wr.heap.size, 1, none⟩ = some (.int .i64 yi) := by rw [HX.out]; simp [go_sem]
                have q2 : X.cell? ⟨wr.heap.size, 2, none⟩ = some (.int .i64 zi) := by rw [HX.out]; simp [go_sem]
                refine (ci (holds_c s cap l ⟨xi, yi, zi⟩ 1 X (hIq.out _ (hKU.out _ _ hR hX)) hl)).mono ?_
                rintro e Y ⟨rfl, hb⟩
                rw [hc]
                replace q0 := Up.cell hb q0
                replace q1 := Up.cell hb q1
                replace q2 := Up.cell hb q2
                have hjY := hJb.out _ _ _ hj (Up.trans hX hb)
                have hRY := hKU.out _ _ (hKU.out _ _ hR hX) hb
                clear hj
              · gi_wp2
                go_roundw
                case rel => exact ⟨zi + 1, pre, rfl, by omega, by omega, (show pts n l = _ by rw [hpz.out, if_neg (by rw [hc2.out]; simp)]; rfl), hjY, hRY⟩
                case measure => simp [intOf]; omega
              · have hpz2 : pts n l = (pre ++ [⟨xi, yi, zi⟩]) ++ (ptsZ l xi yi (up (zi + 1) (far n 2)) ++ (ptsY n l xi (up (yi + 1) (far n 1)) ++ ptsX n l (up (xi + 1) (far n 0)))) := by rw [hpz.out, if_pos hc2.out]; simp
                have hlt : pre.length < (pts n l).length := by rw [hpz2]; simp only [List.length_append, List.length_cons, List.length_nil]; omega
                obtain ⟨fn, tmps, assign, body, hy, hRd⟩ := hY.out pre ⟨xi, yi, zi⟩ Y hjY hlt
                dsimp only [encPt] at hy
                replace hpz2 := Lib.hid hpz2
                clear hjY hlt
                gi_wp2
                refine hRd.mono ?_
                rintro e Z (⟨rfl, hjZ, hkZ⟩ | ⟨rfl, hjZ⟩)
                · gi_wp2
                  go_roundw
                  case rel => exact ⟨zi + 1, pre ++ [⟨xi, yi, zi⟩], rfl, by omega, by omega, hpz2, hjZ, hRY.trans hkZ⟩
                  case measure => simp [intOf]; omega
                · gi_wp2
                  refine bodyPost_ret (results_none rfl _ _ _) rfl ?_
                  exact ⟨⟨_, rfl⟩, .inr ⟨_, ⟨_, hpz2.out.symm⟩, hjZ⟩⟩
            · gi_wp2
              go_roundw
              case rel => exact ⟨yi + 1, pre, rfl, by omega, by omega, (show pts n l = _ by rw [hpre.out, up_nil (by omega)]; rfl), hj, hR⟩
              case measure => simp [intOf]; omega
        · gi_wp2
          go_roundw
          case rel => exact ⟨xi + 1, pre, rfl, by omega, by omega, (show pts n l = _ by rw [hpre.out, up_nil (by omega)]; rfl), hj, hR⟩
          case measure => simp [intOf]; omega
    · obtain rfl : xi = far n 0 + 1 := by omega
      have hp : pts n l = pre := by rw [hpre.out, up_nil (by omega)]; simp [ptsX]
      replace hp := Lib.hid hp
      gi_wp2
      go_end0
      exact ⟨⟨_, rfl⟩, .inl (by rw [hp.out]; exact hj)⟩
end Go.Proofs.Ytbpdgoedglkefaa
