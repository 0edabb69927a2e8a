/- The least period: the program and the reference. -/
import Derived.Test.YtgeoehokojijdaaMix12
namespace Go.Proofs.Ytgeoehokojijdaa
open Go.RowKit

def lstE (k : List (List Clm)) : Int := if vldB k then (if (leastP k).isSome then 0 else 5) else 90
def lstV (k : List (List Clm)) : Int := if vldB k then (match leastP k with | some p => (p : Int) | none => 0) else 0
def lstL (k : List (List Clm)) : List Int := if vldB k then (match leastP k with | some p => startsL k p | none => []) else []
theorem leastP_some {k : List (List Clm)} {p : Nat} (hp : 1 ≤ p ∧ p ≤ 20) (h : (firstG k p).isSome = true) (hno : ∀ q, 1 ≤ q → q < p → (firstG k q).isSome = false) : leastP k = some p := by
  unfold leastP
  rw [List.find?_range'_eq_some]
  refine ⟨h, by rw [List.mem_range'_1]; omega, fun q h1 h2 => by simp [hno q h1 h2]⟩
theorem leastP_none {k : List (List Clm)} (hno : ∀ q, 1 ≤ q → q ≤ 20 → (firstG k q).isSome = false) : leastP k = none := by
  unfold leastP
  rw [List.find?_eq_none]
  intro q hq
  rw [List.mem_range'_1] at hq
  simp [hno q hq.1 (by omega)]
/-- A number, a new list of numbers and an error, out of a call. -/
def IntsTri (v : Int) (L : List Int) (er : Int) (w : World) (e : Ending) (w' : World) : Prop :=
  (∃ s cap, e = .returned (.tuple #[.int .i64 v, .slice s L.length cap, .int .i64 er]) ∧ w'.ownsRow w.heap.size 3 1 (.slice s L.length cap) L.length (intE.all L)) ∧ Below w.heap.size w w'
theorem IntsTri.nil {w w' : World} {v er : Int} (hB : Below w.heap.size w w') : IntsTri v [] er w (.returned (.tuple #[.int .i64 v, .slice none 0 0, .int .i64 er])) w' := ⟨⟨none, 0, rfl, World.ownsRow_nil _ _ _ _⟩, hB⟩

set_option maxRecDepth 100000 in
set_option maxHeartbeats 1000000 in
theorem Least_c (s : Option Addr) (cap : Nat) (k : List (List Clm)) (w : World) (h : Ker w s cap k) :
    Calls Try.prog 20 #[.slice s k.length cap] w (IntsTri (lstV k) (lstL k) (lstE k) w) := by
  have H := Lib.hid (Bound_c s cap k w h)
  have hkl := h.len
  cases h1 : vldB k
  · rw [show lstV k = 0 by simp [lstV, h1], show lstL k = [] by simp [lstL, h1], show lstE k = 90 by simp [lstE, h1]]
    rw [show bndV k = 0 by simp [bndV, h1], show bndE k = 90 by simp [bndE, h1]] at H
    clear h
    go_enter Try.func20, Try.ntmps20
    go_wp2_with (go_at_call 18; refine H.out.mono ?_; rintro e W1 ⟨rfl, hb⟩)
    go_ret3
    exact IntsTri.nil hb
  rw [show bndV k = (bndN k : Nat) by simp [bndV, h1], show bndE k = 0 by simp [bndE, h1]] at H
  have hG := fun W (h : Ker W s cap k) (p : Nat) (hp : 1 ≤ p ∧ p ≤ 20) => starts_c s cap k p W h h1 hp
  have hbn : ∀ p, 1 ≤ p → p < bndN k → (firstG k p).isSome = false := fun p hp hlt => by
    cases hf : firstG k p with
    | none => rfl
    | some i => have := firstG_bnd (by omega) hf; omega
  have hb1 : 1 ≤ bndN k := by
    have h3 := vldB_k h1
    obtain ⟨l, m, rfl⟩ : ∃ l m, k = l :: m := by
      cases k with
      | nil => simp at h3
      | cons l m => exact ⟨l, m, rfl⟩
    have hl := (vldB_l h1 (l := l) (by simp)).2.1
    obtain ⟨c, l2, rfl⟩ : ∃ c l2, l = c :: l2 := by
      cases l with
      | nil => simp at hl
      | cons c l2 => exact ⟨c, l2, rfl⟩
    have hc := vldB_c h1 (l := c :: l2) (by simp) (c := c) (by simp)
    have h4 : 1 ≤ cntC ((c :: l2) :: m).flatten c.cell := by simp [cntC]
    have h5 : cntC ((c :: l2) :: m).flatten ((c.cell.toNat : Nat) : Int) ≤ bndN ((c :: l2) :: m) := maxTo_le (f := fun i => cntC ((c :: l2) :: m).flatten (i : Int)) (i := c.cell.toNat) (by omega)
    rw [show ((c.cell.toNat : Nat) : Int) = c.cell by omega] at h5
    omega
  have hb2 : bndN k ≤ 60 := maxTo_of fun c _ => Nat.le_trans (cntC_le _ _) (vld_flat h1)
  have hsm : ∀ p, 1 ≤ p ∧ p ≤ 20 → (firstG k p).isSome = true → (∀ q, 1 ≤ q → q < p → (firstG k q).isSome = false) → lstV k = p ∧ lstL k = startsL k p ∧ lstE k = 0 := fun p hp h2 h3 => by
    have := leastP_some hp h2 h3
    simp [lstV, lstL, lstE, h1, this]
  have hnn : (∀ q, 1 ≤ q → q ≤ 20 → (firstG k q).isSome = false) → lstV k = 0 ∧ lstL k = [] ∧ lstE k = 5 := fun h3 => by
    have := leastP_none h3
    simp [lstV, lstL, lstE, h1, this]
  obtain ⟨LV, hLV⟩ : ∃ x, lstV k = x := ⟨_, rfl⟩
  obtain ⟨LL, hLL⟩ : ∃ x, lstL k = x := ⟨_, rfl⟩
  obtain ⟨LE, hLE⟩ : ∃ x, lstE k = x := ⟨_, rfl⟩
  rw [hLV, hLL, hLE] at hsm hnn ⊢
  obtain ⟨B, hBe⟩ : ∃ x, bndN k = x := ⟨_, rfl⟩
  rw [hBe] at hb1 hb2 hbn H
  clear hLV hLL hLE hBe h1
  replace h := Lib.hid h; replace hG := Lib.hid hG; replace hsm := Lib.hid hsm; replace hnn := Lib.hid hnn; replace hbn := Lib.hid hbn
  go_enter Try.func20, Try.ntmps20
  go_wp2_with (go_at_call 18; refine H.out.mono ?_; rintro e W1 ⟨rfl, hb⟩)
  clear H
  go_loopw [7] (fun i V => ∃ q : Nat, 1 ≤ q ∧ q ≤ 61 ∧ i = .int .i64 q ∧ Below w.heap.size w V ∧ Hid (∀ r, 1 ≤ r → r < q → (firstG k r).isSome = false)) (fun i _ => 21 - (intOf i).toNat)
  case atStart => exact ⟨B, hb1, by omega, rfl, hb, hbn.out⟩
  case round =>
    clear hb hbn
    obtain ⟨q, hq1, hq2, rfl, hB, hno⟩ := hrel
    by_cases hlt : q ≤ 20
    · have hg := hG.out _ (up_of hB h).out q ⟨hq1, hlt⟩
      have hlt' : (q : Int) ≤ 20 := by omega
      cases hf : (firstG k q).isSome
      · rw [hf] at hg
        have hno2 := Lib.hid (fun r (h1 : 1 ≤ r) (h2 : r < q + 1) => show (firstG k r).isSome = false by
          rcases Nat.lt_succ_iff_lt_or_eq.1 h2 with h | rfl
          · exact hno.out r h1 h
          · exact hf)
        replace hg := Lib.hid hg
        clear hf
        go_wp2_with (go_at_call 48; refine hg.out.mono ?_; rintro e W2 ⟨⟨s2, c2, rfl, hown⟩, hb2⟩)
        go_roundw
        case rel => exact ⟨q + 1, by omega, by omega, by go_num, hB.trans (hb2.mono hB.size), hno2⟩
        case measure => simp [intOf]; omega
      · rw [hf] at hg
        obtain ⟨rfl, rfl, rfl⟩ := hsm.out q ⟨hq1, hlt⟩ hf hno.out
        replace hg := Lib.hid hg
        clear hf
        go_wp2_with (go_at_call 48; refine hg.out.mono ?_; rintro e W2 ⟨⟨s2, c2, rfl, hown⟩, hb2⟩)
        go_ret3
        exact ⟨⟨s2, c2, rfl, owns_mono hown hB.size⟩, hB.trans (hb2.mono hB.size)⟩
    · have hlt' : ¬ (q : Int) ≤ 20 := by omega
      obtain ⟨rfl, rfl, rfl⟩ := hnn.out fun r h1 h2 => hno.out r h1 (by omega)
      go_wp2
      go_ret3
      exact IntsTri.nil hB

set_option maxRecDepth 100000 in
set_option maxHeartbeats 1000000 in
theorem rLeast_c (s : Option Addr) (cap : Nat) (k : List (List Clm)) (w : World) (h : Ker w s cap k) :
    Calls Try.prog 21 #[.slice s k.length cap] w (IntsTri (lstV k) (lstL k) (lstE k) w) := by
  have H := Lib.hid (rValid_c s cap k w h)
  have hkl := h.len
  cases h1 : vldB k
  · rw [show lstV k = 0 by simp [lstV, h1], show lstL k = [] by simp [lstL, h1], show lstE k = 90 by simp [lstE, h1]]
    rw [h1] at H
    clear h
    go_enter Try.func21, Try.ntmps21
    go_wp2_with (go_at_call 27; refine H.out.mono ?_; rintro e W1 ⟨rfl, hb⟩)
    go_ret3
    exact IntsTri.nil hb
  rw [h1] at H
  have hG : ∀ W, Ker W s cap k → ∀ p : Nat, 1 ≤ p ∧ p ≤ 20 → Calls Try.prog 24 #[.slice s k.length cap, .int .i64 p] W (IntsErr (startsL k p) (if (firstG k p).isSome then 0 else 5) W) := fun W h p hp => by
    have := rStarts_c s cap k p W h
    have h2 : bw 1 (p : Int) 20 = true := by rw [bw_iff]; omega
    rwa [show startsE k p = if (firstG k p).isSome then 0 else 5 by simp [startsE, h1, h2], show startsR k p = startsL k p by simp [startsR, h1, h2]] at this
  have hsm : ∀ p, 1 ≤ p ∧ p ≤ 20 → (firstG k p).isSome = true → (∀ q, 1 ≤ q → q < p → (firstG k q).isSome = false) → lstV k = p ∧ lstL k = startsL k p ∧ lstE k = 0 := fun p hp h2 h3 => by
    have := leastP_some hp h2 h3
    simp [lstV, lstL, lstE, h1, this]
  have hnn : (∀ q, 1 ≤ q → q ≤ 20 → (firstG k q).isSome = false) → lstV k = 0 ∧ lstL k = [] ∧ lstE k = 5 := fun h3 => by
    have := leastP_none h3
    simp [lstV, lstL, lstE, h1, this]
  obtain ⟨LV, hLV⟩ : ∃ x, lstV k = x := ⟨_, rfl⟩
  obtain ⟨LL, hLL⟩ : ∃ x, lstL k = x := ⟨_, rfl⟩
  obtain ⟨LE, hLE⟩ : ∃ x, lstE k = x := ⟨_, rfl⟩
  rw [hLV, hLL, hLE] at hsm hnn ⊢
  clear hLV hLL hLE h1
  replace h := Lib.hid h; replace hG := Lib.hid hG; replace hsm := Lib.hid hsm; replace hnn := Lib.hid hnn
  go_enter Try.func21, Try.ntmps21
  go_wp2_with (go_at_call 27; refine H.out.mono ?_; rintro e W1 ⟨rfl, hb⟩)
  clear H
  go_loopw [5] (fun i V => ∃ q : Nat, 1 ≤ q ∧ q ≤ 21 ∧ i = .int .i64 q ∧ Below w.heap.size w V ∧ Hid (∀ r, 1 ≤ r → r < q → (firstG k r).isSome = false)) (fun i _ => 21 - (intOf i).toNat)
  case atStart => exact ⟨1, by omega, by omega, rfl, hb, fun r h1 h2 => absurd h2 (by omega)⟩
  case round =>
    clear hb
    obtain ⟨q, hq1, hq2, rfl, hB, hno⟩ := hrel
    by_cases hlt : q ≤ 20
    · have hg := hG.out _ (up_of hB h).out q ⟨hq1, hlt⟩
      have hlt' : (q : Int) ≤ 20 := by omega
      cases hf : (firstG k q).isSome
      · rw [hf] at hg
        have hno2 := Lib.hid (fun r (h1 : 1 ≤ r) (h2 : r < q + 1) => show (firstG k r).isSome = false by
          rcases Nat.lt_succ_iff_lt_or_eq.1 h2 with h | rfl
          · exact hno.out r h1 h
          · exact hf)
        replace hg := Lib.hid hg
        clear hf
        go_wp2_with (go_at_call 24; refine hg.out.mono ?_; rintro e W2 ⟨⟨s2, c2, rfl, hown⟩, hb2⟩)
        go_roundw
        case rel => exact ⟨q + 1, by omega, by omega, by go_num, hB.trans (hb2.mono hB.size), hno2⟩
        case measure => simp [intOf]; omega
      · rw [hf] at hg
        obtain ⟨rfl, rfl, rfl⟩ := hsm.out q ⟨hq1, hlt⟩ hf hno.out
        replace hg := Lib.hid hg
        clear hf
        go_wp2_with (go_at_call 24; refine hg.out.mono ?_; rintro e W2 ⟨⟨s2, c2, rfl, hown⟩, hb2⟩)
        go_ret3
        exact ⟨⟨s2, c2, rfl, owns_mono hown hB.size⟩, hB.trans (hb2.mono hB.size)⟩
    · have hlt' : ¬ (q : Int) ≤ 20 := by omega
      obtain ⟨rfl, rfl, rfl⟩ := hnn.out fun r h1 h2 => hno.out r h1 (by omega)
      go_wp2
      go_ret3
      exact IntsTri.nil hB

def awK : List (List Clm) := [[⟨0, 0⟩, ⟨0, 2⟩]]
theorem aw_v : lstV awK = 3 := by decide +kernel
theorem aw_l : lstL awK = [0] := by decide +kernel
theorem aw_e : lstE awK = 0 := by decide +kernel
theorem aw_ker (w : World) : Ker ((w.alloc (.cells #[.int .i64 0, .int .i64 0, .int .i64 0, .int .i64 2] 65)).alloc (.cells #[.slice (some ⟨w.heap.size, 0, none⟩) 2 2] 40)) (some ⟨w.heap.size + 1, 0, none⟩) 1 awK := by
  refine ⟨⟨[⟨some ⟨w.heap.size, 0, none⟩, 2, 2⟩], .inr ⟨w.heap.size + 1, 0, rfl, by simp, ?_⟩, rfl, ?_⟩, by decide, by decide, by decide, fun h => by cases h⟩
  · intro j u hj
    have : j = 0 := by
      have := (List.getElem?_eq_some_iff.1 hj).1
      simp [Elt.all, svE] at this; omega
    subst this
    simp [Elt.all, svE] at hj
    subst hj
    simp [go_sem]
  · intro i h h'
    have : i = 0 := by simp [awK] at h; omega
    subst this
    refine ⟨rfl, .inr ⟨w.heap.size, 0, rfl, by simp; omega, ?_⟩, (fun h => by cases h), Nat.le_refl _⟩
    intro j u hj
    have hj4 : j < 4 := (List.getElem?_eq_some_iff.1 hj).1
    have : j = 0 ∨ j = 1 ∨ j = 2 ∨ j = 3 := by omega
    rcases this with rfl | rfl | rfl | rfl <;> simp [Elt.all, clmE, Clm.cells, awK] at hj <;> subst hj <;> simp [go_sem]
end Go.Proofs.Ytgeoehokojijdaa
