/- Which lists are kernels: the program and the reference. -/
import Derived.Test.YtgeoehokojijdaaMixKey
import Derived.Test.YtgeoehokojijdaaMixHit
namespace Go.Proofs.Ytgeoehokojijdaa
open Go.RowKit Go.Maps

theorem meas {k n : Nat} (h : k < n) : n - (intOf (.int .i64 ((k : Int) + 1))).toNat < n - (intOf (.int .i64 (k : Int))).toNat := by simp [intOf]; omega
theorem upto_succ {p : Nat → Prop} {k : Nat} (h : ∀ j, j < k → p j) (hk : p k) : ∀ j, j < k + 1 → p j := fun j hj => by
  rcases Nat.lt_succ_iff_lt_or_eq.1 hj with h' | rfl
  · exact h j h'
  · exact hk
instance {W W' : World} {H : Type} {P : Program} {k : TypeId} {R : Value → Option (DataW H × List MemPlace)} {b n : Nat} {D : DataW H} : UpF W W' (W.ownsMap P k R b n D) (W'.ownsMap P k R b n D) :=
  ⟨fun h c => c.kept (grownBy_of_below h) (by simp)⟩
theorem zero_bool (w : World) : (zeroValue 4).run Try.prog w = .ok (.bool false) w := by kernel_rfl
theorem clmK_inj {a b : Clm} (ha : clmOk a = true) (hb : clmOk b = true) (h : clmK a = clmK b) : a = b := by
  have h1 := key_of ha
  have h2 := key_of hb
  rw [h] at h1
  have := key_clm.inj h1 h2
  simp only [clmV, Value.agg.injEq, Array.mk.injEq, List.cons.injEq, Value.int.injEq, true_and, and_true] at this
  cases a; cases b; simp at this ⊢; exact this
def seenC (l : List Clm) : Nat → DataW Unit
  | 0 => .map []
  | k + 1 => (seenC l k).put (clmK (l.getD k default)) (.lit (.bool true))
theorem seenC_isMap (l : List Clm) : ∀ k, IsMap (seenC l k)
  | 0 => isMap_empty
  | k + 1 => (seenC_isMap l k).put _ _
theorem seenC_at {l : List Clm} {c : Clm} (hc : clmOk c = true) : ∀ {k : Nat}, k ≤ l.length → (∀ j, j < k → clmOk (l.getD j default) = true) →
    (seenC l k).atKey (clmK c) (.lit (.bool false)) = .lit (.bool (decide (c ∈ l.take k)))
  | 0, _, _ => by simp [seenC]; rfl
  | k + 1, hk, hall => by
    have ih := seenC_at hc (k := k) (by omega) (fun j hj => hall j (by omega))
    have hk' : k < l.length := by omega
    have e : l.getD k default = l[k] := by simp [List.getElem?_eq_getElem hk']
    have ho := hall k (by omega)
    have e2 : c ∈ l.take (k + 1) ↔ (c ∈ l.take k ∨ c = l[k]) := by rw [List.take_succ_eq_append_getElem hk', List.mem_append, List.mem_singleton]
    rw [seenC]
    rw [e] at ho ⊢
    by_cases h : l[k] = c
    · subst h
      rw [atKey_put_same (seenC_isMap l k) (k := clmK l[k]) trivial, decide_eq_true (e2.2 (.inr rfl))]
    · rw [atKey_put_other (fun e => h (clmK_inj hc ho e).symm), ih]
      have h' : ¬ c = l[k] := fun e => h e.symm
      simp only [e2, h', or_false]
theorem ok_of_good {l : List Clm} {j : Nat} (hj : j < l.length) (h : badC l j = false) : clmOk (l.getD j default) = true := by
  rw [badC_at hj] at h
  simp only [Bool.or_eq_false_iff, Bool.not_eq_false'] at h
  simpa [List.getElem?_eq_getElem hj] using h.1

theorem between_c (a b c : Int) (w : World) :
    Calls Try.prog 54 #[.int .i64 a, .int .i64 b, .int .i64 c] w fun e w' => e = .returned (.bool (bw a b c)) ∧ w = w' := by
  by_cases h1 : a ≤ b
  all_goals
    go_enter Try.func54, Try.ntmps54
    go_wp2
    go_ret
    exact ⟨ret_bool (by simp [bw]; omega), rfl⟩

set_option maxRecDepth 100000 in
set_option maxHeartbeats 1000000 in
theorem isKernel_c (s : Option Addr) (cap : Nat) (l : List Clm) (w : World) (hs : SlS clmE w s l) (hl : l.length ≤ 9223372036854775807) :
    Calls Try.prog 61 #[.slice s l.length cap] w fun e w' => e = .returned (.bool (kernB l)) ∧ Below w.heap.size w w' := by
  have hmm := @run_makeMap Try.prog
  replace hs := Lib.hid hs
  go_enter Try.func61, Try.ntmps61
  go_wp2
  go_loopw [9] (fun i V => ∃ k : Nat, k ≤ l.length ∧ i = .int .i64 k ∧ V.ownsMap Try.prog 65 (plainElem Try.prog 4) w.heap.size k (seenC l k) ∧ Below w.heap.size w V ∧ Hid (∀ j, j < k → badC l j = false)) (fun i _ => l.length - (intOf i).toNat)
  case atStart => exact ⟨0, by omega, rfl, World.ownsMap_made _ _ _ _, (Below.refl _ w).alloc (Nat.le_refl _) _, fun j h => absurd h (by omega)⟩
  case round =>
    obtain ⟨k, hk, rfl, hown, hB, hall⟩ := hrel
    by_cases hlt : k < l.length
    · obtain ⟨b, off, rfl, hb, q0, q1⟩ := (up_of hB hs).out.clm_at hlt
      have hb0 := badC_at hlt
      have hF : badC l k = true → false = kernB l := fun h => by simp [kernB, kerS_false hlt h]
      have hD : seenC l (k + 1) = (seenC l k).put (clmK l[k]) (.lit (.bool true)) := by simp [seenC, List.getElem?_eq_getElem hlt]
      have hS := fun (hc : clmOk l[k] = true) => seenC_at (l := l) (c := l[k]) hc hk (fun j hj => ok_of_good (by omega) (hall.out j hj))
      obtain ⟨c, hc⟩ : ∃ c, l[k] = c := ⟨_, rfl⟩
      rw [hc] at q0 q1 hb0 hD hS
      replace hb0 := Lib.hid hb0; replace hD := Lib.hid hD; replace hS := Lib.hid hS; replace hF := Lib.hid hF; replace hc := Lib.hid hc
      have g1 : (0 : Int) ≤ (k : Int) := by omega
      have g2 : (k : Int) < (l.length : Int) := by omega
      go_upto_region 5 with (fail)
      refine wp_world fun Y HY => ?_
      have hY : Below wr.heap.size wr Y := by rw [HY.out]; (repeat (first | exact Below.refl _ _ | refine Below.alloc ?_ (by simp; try omega) _ | refine Below.setCell ?_ (by simp) _ | refine Below.drew ?_))
      have c0 : Y.cell? ⟨wr.heap.size, 0, none⟩ = some (.int .i64 c.cell) := by rw [HY.out]; simp [go_sem]
      have c1 : Y.cell? ⟨wr.heap.size, 1, none⟩ = some (.int .i64 c.time) := by rw [HY.out]; simp [go_sem]
      have cl : wr.heap.size < Y.heap.size := World.block_lt_of_cell? Y _ c0
      try replace hown := up_of hY hown
      try replace hB := up_of hY hB
      have hbo := hown.lt
      cases h1 : bw 0 c.cell 15
      · have hz := Lib.hid (hF.out (by rw [hb0.out]; simp [clmOk, h1]))
        go_wp2_with (first | (go_at_call 54; refine (between_c _ _ _ _).mono ?_; rintro e w' ⟨rfl, rfl⟩))
        go_ret
        exact ⟨ret_bool hz.out, hB⟩
      cases h2 : bw 0 c.time 50
      · have hz := Lib.hid (hF.out (by rw [hb0.out]; simp [clmOk, h1, h2]))
        go_wp2_with (first | (go_at_call 54; refine (between_c _ _ _ _).mono ?_; rintro e w' ⟨rfl, rfl⟩))
        go_ret
        exact ⟨ret_bool hz.out, hB⟩
      have hok : clmOk c = true := by simp [clmOk, h1, h2]
      have hkey := key_of hok
      obtain ⟨v, hrun, hat⟩ := lookup_bool hown key_clm Try.underlying93 Try.underlying4 (zero_bool _) hkey
      rw [hS.out hok] at hat
      have hv : decide (c ∈ l.take k) = v := by injection hat with e; injection e
      clear hat
      unfold clmV at hkey hrun
      cases v
      · have hg := Lib.hid (hb0.out.trans (by rw [hv, hok]))
        replace hok := Lib.hid hok; replace hv := Lib.hid hv
        go_wp2_with (first | (go_at_call 54; refine (between_c _ _ _ _).mono ?_; rintro e w' ⟨rfl, rfl⟩) | (at_mapUpdate; refine wpList_mapUpdate_own _ rfl _ _ _ 93 rfl 65 4 key_clm Try.underlying93 _ w.heap.size k (seenC l k) rfl hown (by unfold maxLen; omega) _ _ _ rfl rfl hkey (.lit (.bool true)) [] (plainElem_bool Try.underlying4 true) ?_; intro w1 hown1 hgrow1))
        go_roundw
        case rel => exact ⟨k + 1, by omega, rfl, by rw [hD.out]; exact hown1, hB.grown hgrow1 (by omega) (fun j e => by cases e; omega), upto_succ hall.out hg.out⟩
        case measure => exact meas hlt
      · have hz := Lib.hid (hF.out (by rw [hb0.out, hv]; simp))
        replace hok := Lib.hid hok; replace hv := Lib.hid hv
        go_wp2_with (first | (go_at_call 54; refine (between_c _ _ _ _).mono ?_; rintro e w' ⟨rfl, rfl⟩))
        go_ret
        exact ⟨ret_bool hz.out, hB⟩
    · obtain rfl : k = l.length := by omega
      have hz : bw 1 l.length 20 = kernB l := by simp [kernB, kerS_true hall.out]
      replace hz := Lib.hid hz
      go_wp2_with (first | (go_at_call 54; refine (between_c _ _ _ _).mono ?_; rintro e w' ⟨rfl, rfl⟩))
      go_ret
      exact ⟨ret_bool hz.out, hB⟩
end Go.Proofs.Ytgeoehokojijdaa
