/- Domains that are the same; the references Turned and Both. -/
import Derived.Test.YtadmnlkgefbhcaaTr4
import Derived.Test.YtadmnlkgefbhcaaEq3
import Derived.Laws.StructEq
namespace Go.Proofs.Ytadmnlkgefbhcaa
open Go.RowKit

set_option maxRecDepth 100000 in
theorem iq_eql (a b : Iq) (w : World) : (Op.equalIn 10000 127 (.agg #[.int .i64 a.a.x, .int .i64 a.a.y, .int .i64 a.a.z, .int .i64 a.b]) (.agg #[.int .i64 b.a.x, .int .i64 b.a.y, .int .i64 b.a.z, .int .i64 b.b])).run Try.prog w = .ok ((a.a.x == b.a.x && (a.a.y == b.a.y && a.a.z == b.a.z)) && a.b == b.b) w := by
  rw [show (10000 : Nat) = 9999 + 1 from rfl, run_equalIn_agg w 9999 127 _ _ (by kernel_rfl) (by kernel_rfl)]
  simp only [Program.fieldsOf, Try.underlying127]
  have hp : ∀ (xs : Array Value) (w : World), (part 29 xs 0).run Try.prog w = .ok (.agg (xs.extract 0 3)) w := fun xs w => by kernel_rfl
  have hi : ∀ (x y z b : Value) (w : World), (part 3 #[x, y, z, b] 3).run Try.prog w = .ok b w := fun x y z b w => by simp [part, go_sem]
  have h1 := pt_eql w 9997 a.a.x a.a.y a.a.z b.a.x b.a.y b.a.z
  have h2 : ∀ w, (Op.equalIn 9999 3 (.int .i64 a.b) (.int .i64 b.b)).run Try.prog w = .ok (a.b == b.b) w := fun w => run_equalIn_int w 9998 _ _ .i64 _ _ Try.underlying3
  simp [Op.eqFields, hp, hi, Sem.run_bind, h1, h2]
  by_cases e0 : a.a.x = b.a.x <;> by_cases e1 : a.a.y = b.a.y <;> by_cases e2 : a.a.z = b.a.z <;> by_cases e3 : a.b = b.b <;> simp [e0, e1, e2, e3]
theorem iq_self (a : Iq) (w : World) : (Op.equalIn 10000 127 (.agg #[.int .i64 a.a.x, .int .i64 a.a.y, .int .i64 a.a.z, .int .i64 a.b]) (.agg #[.int .i64 a.a.x, .int .i64 a.a.y, .int .i64 a.a.z, .int .i64 a.b])).run Try.prog w = .ok true w := by
  rw [iq_eql]; simp

set_option maxRecDepth 100000 in
set_option maxHeartbeats 1000000 in
theorem Same_eq (n : Int) (s1 s2 : Option Addr) (c1 c2 : Nat) (l : List Iq) (w : World) (h1 : IqS w s1 l) (h2 : IqS w s2 l) (hl : l.length ≤ 9223372036854775807) :
    Calls Try.prog 54 #[.agg #[.int .i64 n, .slice s1 l.length c1], .agg #[.int .i64 n, .slice s2 l.length c2]] w fun e w' => e = .returned (.bool true) ∧ Below w.heap.size w w' := by
  have hb : ((l.length : Int) != l.length) = false := by simp
  have hbn : (n != n) = false := by simp
  replace h1 := Lib.hid h1; replace h2 := Lib.hid h2
  go_enter Try.func54, Try.ntmps54
  go_upto_region 1 with (fail)
  refine wp_world fun W HW => ?_
  have hB : Below w.heap.size w W := by rw [HW.out]; (repeat (first | exact Below.refl _ _ | refine Below.alloc ?_ (by simp; try omega) _ | refine Below.setCell ?_ (by simp) _ | refine Below.drew ?_))
  have d0 : W.cell? ⟨w.heap.size, 0, none⟩ = some (.int .i64 n) := by rw [HW.out]; simp [go_sem]
  have d1 : W.cell? ⟨w.heap.size, 1, none⟩ = some (.slice s1 l.length c1) := by rw [HW.out]; simp [go_sem]
  have dl : w.heap.size < W.heap.size := World.block_lt_of_cell? W _ d0
  have e0 : W.cell? ⟨w.heap.size + 1, 0, none⟩ = some (.int .i64 n) := by rw [HW.out]; simp [go_sem]
  have e1 : W.cell? ⟨w.heap.size + 1, 1, none⟩ = some (.slice s2 l.length c2) := by rw [HW.out]; simp [go_sem]
  have el : w.heap.size + 1 < W.heap.size := World.block_lt_of_cell? W _ e0
  go_wp2
  go_loopw [23] (fun i wr => ∃ k : Nat, k ≤ l.length ∧ i = .int .i64 k ∧ Below W.heap.size W wr) (fun i _ => l.length - (intOf i).toNat)
  case atStart => exact ⟨0, by omega, rfl, Below.refl _ _⟩
  case round =>
    obtain ⟨k, hk, rfl, hR⟩ := hrel
    try replace hB := up_of hR hB
    try replace d0 := up_of hR d0
    try replace d1 := up_of hR d1
    try replace dl := up_of hR dl
    try replace e0 := up_of hR e0
    try replace e1 := up_of hR e1
    try replace el := up_of hR el
    by_cases hlt : k < l.length
    · obtain ⟨b1, o1, rfl, hb1, p0, p1, p2, p3⟩ := (Up.iq hB h1.out).at hlt
      obtain ⟨b2, o2, rfl, hb2, q0, q1, q2, q3⟩ := (Up.iq hB h2.out).at hlt
      have g1 : (0 : Int) ≤ (k : Int) := by omega
      have g2 : (k : Int) < (l.length : Int) := by omega
      have he := fun w => iq_self l[k] w
      go_upto_region 6 with (fail)
      refine region_q (by kernel_rfl) (by kernel_rfl) ?_
      dsimp only [List.toList_toArray]
      repeat (first
       | go_big_quiet_skip
       | (go_big_quiet_want
          first
          | (refine qq_det ?_
             apply Exists.intro; refine ⟨fun W' hW' => ?_, ?_⟩
             (· have hk := cellB hW'; go_simp; try (first | rfl | rw [if_pos (by omega)]))
             simp only [Act.put, List.setIfInBounds_toArray, List.set_cons_zero, List.set_cons_succ]; go_big_quiet_on)))
      refine wpQuiet_nil ?_
      intro W1 hb
      try replace hR := up_of hb hR
      go_wp2
      go_roundw
      case rel => exact ⟨k + 1, by omega, rfl, hR⟩
      case measure => exact meas hlt
    · obtain rfl : k = l.length := by omega
      go_wp2
      go_ret
      exact ⟨rfl, hB⟩
end Go.Proofs.Ytadmnlkgefbhcaa
