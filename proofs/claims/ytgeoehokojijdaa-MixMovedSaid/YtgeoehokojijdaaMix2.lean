/- Which lists are kernels: the reference; valid kernels. -/
import Derived.Test.YtgeoehokojijdaaMix1
import Derived.Laws.StructEq
namespace Go.Proofs.Ytgeoehokojijdaa
open Go.RowKit

set_option maxRecDepth 100000 in
theorem clm_eql (a b : Clm) (w : World) : (Op.equalIn 10000 65 (.agg #[.int .i64 a.cell, .int .i64 a.time]) (.agg #[.int .i64 b.cell, .int .i64 b.time])).run Try.prog w = .ok (decide (a = b)) w := by
  rw [show (10000 : Nat) = 9999 + 1 from rfl, run_equalIn_agg w 9999 65 _ _ (by kernel_rfl) (by kernel_rfl)]
  simp only [Program.fieldsOf, Try.underlying65]
  have h2 : ∀ (x y : Int) w, (Op.equalIn 9999 3 (.int .i64 x) (.int .i64 y)).run Try.prog w = .ok (x == y) w := fun x y w => run_equalIn_int w 9998 _ _ .i64 _ _ Try.underlying3
  have p0 : ∀ (x y : Value) (w : World), (part 3 #[x, y] 0).run Try.prog w = .ok x w := fun x y w => by simp [part, go_sem]
  have p1 : ∀ (x y : Value) (w : World), (part 3 #[x, y] 1).run Try.prog w = .ok y w := fun x y w => by simp [part, go_sem]
  obtain ⟨x, y⟩ := a
  obtain ⟨c, d⟩ := b
  by_cases e0 : x = c <;> by_cases e1 : y = d <;> simp [Op.eqFields, p0, p1, Sem.run_bind, h2, e0, e1]

set_option maxRecDepth 100000 in
set_option maxHeartbeats 1000000 in
theorem rIsKernel_c (s : Option Addr) (cap : Nat) (l : List Clm) (w : World) (hs : SlS clmE w s l) (hl : l.length ≤ 9223372036854775807) (hcap : l.length ≤ cap) :
    Calls Try.prog 52 #[.slice s l.length cap] w fun e w' => e = .returned (.bool (kernB l)) ∧ Below w.heap.size w w' := by
  replace hs := Lib.hid hs
  go_enter Try.func52, Try.ntmps52
  go_wp2
  go_loopw [9] (fun i V => ∃ k : Nat, k ≤ l.length ∧ i = .int .i64 k ∧ Below w.heap.size w V ∧ Hid (∀ j, j < k → badC l j = false)) (fun i _ => l.length - (intOf i).toNat)
  case atStart => exact ⟨0, by omega, rfl, Below.refl _ _, fun j h => absurd h (by omega)⟩
  case round =>
    obtain ⟨k, hk, rfl, hB, hall⟩ := hrel
    by_cases hlt : k < l.length
    · obtain ⟨b, off, rfl, hb, q0, q1⟩ := (up_of hB hs).out.clm_at hlt
      have hb0 := badC_at hlt
      have hF : badC l k = true → false = kernB l := fun h => by simp [kernB, kerS_false hlt h]
      obtain ⟨c, hc⟩ : ∃ c, l[k] = c := ⟨_, rfl⟩
      rw [hc] at q0 q1 hb0
      replace hb0 := Lib.hid hb0; replace hF := Lib.hid hF; replace hc := Lib.hid hc
      have g1 : (0 : Int) ≤ (k : Int) := by omega
      have g2 : (k : Int) < (l.length : Int) := by omega
      have g3 : (k : Int) ≤ (cap : Int) := by omega
      go_upto_region 4 with (fail)
      refine wp_world fun Y HY => ?_
      have hY : Below wr.heap.size wr Y := by rw [HY.out]; (repeat (first | exact Below.refl _ _ | refine Below.alloc ?_ (by simp; try omega) _ | refine Below.setCell ?_ (by simp) _ | refine Below.drew ?_))
      have c0 : Y.cell? ⟨wr.heap.size, 0, none⟩ = some (.int .i64 c.cell) := by rw [HY.out]; simp [go_sem]
      have c1 : Y.cell? ⟨wr.heap.size, 1, none⟩ = some (.int .i64 c.time) := by rw [HY.out]; simp [go_sem]
      have cl : wr.heap.size < Y.heap.size := World.block_lt_of_cell? Y _ c0
      try replace hB := up_of hY hB
      by_cases hr : (0 ≤ c.cell ∧ c.cell ≤ 15) ∧ (0 ≤ c.time ∧ c.time ≤ 50)
      · have hok : clmOk c = true := by simp [clmOk, bw]; omega
        obtain ⟨⟨r0, r1⟩, r2, r3⟩ := hr
        replace hok := Lib.hid hok
        go_wp2
        go_loopw [36] (fun i V => ∃ j : Nat, j ≤ k ∧ i = .int .i64 j ∧ Below Y.heap.size Y V ∧ Hid (∀ i, i < j → l.getD i default ≠ c)) (fun i _ => k - (intOf i).toNat)
        case atStart => exact ⟨0, by omega, rfl, Below.refl _ _, fun j h => absurd h (by omega)⟩
        case round =>
          obtain ⟨j, hj, rfl, hR, hne⟩ := hrel
          try replace hB := up_of hR hB
          try replace hY := up_of hR hY
          try replace c0 := up_of hR c0
          try replace c1 := up_of hR c1
          try replace cl := up_of hR cl
          by_cases hlj : j < k
          · obtain ⟨b2, off2, e2, hb2, u0, u1⟩ := (up_of hB hs).out.clm_at (i := j) (by omega)
            cases e2
            have e3 : l.getD j default = l[j] := by simp [List.getElem?_eq_getElem (show j < l.length by omega)]
            obtain ⟨d, hd⟩ : ∃ d, l[j] = d := ⟨_, rfl⟩
            rw [hd] at u0 u1 e3
            have g1 : (0 : Int) ≤ (j : Int) := by omega
            have g2 : (j : Int) < (k : Int) := by omega
            have he := fun w => clm_eql d c w
            replace e3 := Lib.hid e3; replace hd := Lib.hid hd
            by_cases hdc : d = c
            · have hz := Lib.hid (hF.out (by rw [hb0.out]; simp only [Bool.or_eq_true, decide_eq_true_eq]; right; rw [← hdc, ← hd.out]; exact List.mem_take_iff_getElem.2 ⟨j, by omega, rfl⟩))
              have hdc' : decide (d = c) = true := by simp [hdc]
              replace hdc := Lib.hid hdc
              simp only [hdc'] at he
              go_wp2
              go_ret
              exact ⟨ret_bool hz.out, by first | exact hB | exact hB.alloc hB.size _⟩
            · have hdc' : decide (d = c) = false := by simp [hdc]
              simp only [hdc'] at he
              go_wp2
              go_roundw
              case rel => exact ⟨j + 1, by omega, rfl, by first | exact hR | exact hR.alloc hR.size _, upto_succ hne.out (by rw [e3.out]; exact hdc)⟩
              case measure => exact meas hlj
          · obtain rfl : j = k := by omega
            have hg : badC l j = false := by
              rw [hb0.out, hok.out]
              simp only [Bool.not_true, Bool.false_or, decide_eq_false_iff_not]
              intro hm
              obtain ⟨i, hi, e⟩ := List.mem_take_iff_getElem.1 hm
              refine hne.out i (by omega) ?_
              rw [← e]; simp [List.getElem?_eq_getElem (show i < l.length by omega)]
            replace hg := Lib.hid hg
            go_wp2
            go_roundw
            case rel => exact ⟨j + 1, by omega, rfl, hB, upto_succ hall.out hg.out⟩
            case measure => exact meas hlt
      · have hz := Lib.hid (hF.out (by
          rw [hb0.out]
          have : clmOk c = false := by
            cases h : clmOk c
            · rfl
            · exact absurd (clm_ok h) hr
          simp [this]))
        replace hr := Lib.hid hr
        by_cases a1 : c.cell < 0
        · go_wp2
          go_ret
          exact ⟨ret_bool hz.out, hB⟩
        by_cases a2 : 15 < c.cell
        · go_wp2
          go_ret
          exact ⟨ret_bool hz.out, hB⟩
        by_cases a3 : c.time < 0
        · go_wp2
          go_ret
          exact ⟨ret_bool hz.out, hB⟩
        by_cases a4 : 50 < c.time
        · go_wp2
          go_ret
          exact ⟨ret_bool hz.out, hB⟩
        · exact absurd (by omega) hr.out
    · obtain rfl : k = l.length := by omega
      have hz : bw 1 l.length 20 = kernB l := by simp [kernB, kerS_true hall.out]
      by_cases h1 : 1 ≤ l.length
      · by_cases h2 : l.length ≤ 20
        · have hz2 : true = kernB l := by rw [← hz]; simp [bw]; omega
          replace hz2 := Lib.hid hz2; clear hz
          have h1' : (1 : Int) ≤ (l.length : Int) := by omega
          have h2' : (l.length : Int) ≤ 20 := by omega
          go_wp2
          go_ret
          exact ⟨ret_bool hz2.out, hB⟩
        · have hz2 : false = kernB l := by rw [← hz]; simp [bw]; omega
          replace hz2 := Lib.hid hz2; clear hz
          have h1' : (1 : Int) ≤ (l.length : Int) := by omega
          have h2' : ¬ (l.length : Int) ≤ 20 := by omega
          go_wp2
          go_ret
          exact ⟨ret_bool hz2.out, hB⟩
      · have hz2 : false = kernB l := by rw [← hz]; simp [bw]; omega
        replace hz2 := Lib.hid hz2; clear hz
        have h1' : ¬ (1 : Int) ≤ (l.length : Int) := by omega
        go_wp2
        go_ret
        exact ⟨ret_bool hz2.out, hB⟩
end Go.Proofs.Ytgeoehokojijdaa
