/- Which lists are cuts: what it says; the comparison of two pairs. -/
import Derived.Test.YtbabdoafpljdbaaMdFir
import Derived.Test.YtbabdoafpljdbaaMd28
import Derived.Test.YtbabdoafpljdbaaMdOpenG
import Derived.BigRegion
namespace Go.Proofs.Ytbabdoafpljdbaa
open Go.RowKit

set_option maxRecDepth 100000 in
theorem isNaN_c (a : Int) (w : World) : Calls Try.prog 82 #[.int .i64 a] w fun e w' => e = .returned (.bool false) ∧ w = w' := by
  have h : (a != a) = false := by simp
  go_enter Try.func82, Try.ntmps82
  go_wp2
  go_ret
  exact ⟨rfl, rfl⟩
def cmp1 (a b : Int) : Int := if a < b then -1 else if b < a then 1 else 0
set_option maxRecDepth 100000 in
theorem cmp_c (a b : Int) (w : World) : Calls Try.prog 76 #[.int .i64 a, .int .i64 b] w fun e w' => e = .returned (.int .i64 (cmp1 a b)) ∧ w = w' := by
  have hc : (a < b ∧ cmp1 a b = -1) ∨ (¬ a < b ∧ b < a ∧ cmp1 a b = 1) ∨ (¬ a < b ∧ ¬ b < a ∧ cmp1 a b = 0) := by
    unfold cmp1
    by_cases h1 : a < b
    · exact .inl ⟨h1, if_pos h1⟩
    · by_cases h2 : b < a
      · exact .inr (.inl ⟨h1, h2, by rw [if_neg h1, if_pos h2]⟩)
      · exact .inr (.inr ⟨h1, h2, by rw [if_neg h1, if_neg h2]⟩)
  rcases hc with ⟨h1, e⟩ | ⟨h1, h2, e⟩ | ⟨h1, h2, e⟩
  all_goals
    rw [e]
    clear e
    go_enter Try.func76, Try.ntmps76
    go_wp2_with (first | (go_at_call 82; refine (isNaN_c _ _).mono ?_; rintro e w' ⟨rfl, rfl⟩))
    go_ret
    exact ⟨rfl, rfl⟩
def cmp2 (a0 a1 b0 b1 : Int) : Int := if cmp1 a0 b0 ≠ 0 then cmp1 a0 b0 else cmp1 a1 b1
set_option maxRecDepth 100000 in
set_option maxHeartbeats 1000000 in
theorem compare_c (a0 a1 b0 b1 : Int) (s1 s2 : Option Addr) (c1 c2 : Nat) (w : World) (h1 : SlS intE w s1 [a0, a1]) (h2 : SlS intE w s2 [b0, b1]) :
    Calls Try.prog 66 #[.slice s1 2 c1, .slice s2 2 c2] w fun e w' => e = .returned (.int .i64 (cmp2 a0 a1 b0 b1)) ∧ w = w' := by
  obtain ⟨p1, o1, e1, hp1, x0⟩ := h1.int_at (i := 0) (by simp)
  obtain ⟨p1', o1', e1', hp1', x1⟩ := h1.int_at (i := 1) (by simp)
  obtain ⟨p2, o2, e2, hp2, y0⟩ := h2.int_at (i := 0) (by simp)
  obtain ⟨p2', o2', e2', hp2', y1⟩ := h2.int_at (i := 1) (by simp)
  subst e1 e2
  cases e1'
  cases e2'
  simp only [List.getElem_cons_zero, List.getElem_cons_succ, Nat.add_zero] at x0 x1 y0 y1
  have d0 := fun V => cmp_c a0 b0 V
  have d1 := fun V => cmp_c a1 b1 V
  have hc : (((cmp1 a0 b0 : Int) != 0) = true ∧ cmp2 a0 a1 b0 b1 = cmp1 a0 b0) ∨ (((cmp1 a0 b0 : Int) != 0) = false ∧ ((cmp1 a1 b1 : Int) != 0) = true ∧ cmp2 a0 a1 b0 b1 = cmp1 a1 b1) ∨ (((cmp1 a0 b0 : Int) != 0) = false ∧ ((cmp1 a1 b1 : Int) != 0) = false ∧ cmp2 a0 a1 b0 b1 = 0) := by
    unfold cmp2
    by_cases h1 : cmp1 a0 b0 = 0
    · rw [h1]
      by_cases h2 : cmp1 a1 b1 = 0
      · exact .inr (.inr ⟨rfl, by rw [h2]; rfl, by simp [h2]⟩)
      · exact .inr (.inl ⟨rfl, by simpa using h2, by simp⟩)
    · exact .inl ⟨by simpa using h1, by simp [h1]⟩
  obtain ⟨C0, hC0⟩ : ∃ x, cmp1 a0 b0 = x := ⟨_, rfl⟩
  obtain ⟨C1, hC1⟩ : ∃ x, cmp1 a1 b1 = x := ⟨_, rfl⟩
  obtain ⟨C2, hC2⟩ : ∃ x, cmp2 a0 a1 b0 b1 = x := ⟨_, rfl⟩
  simp only [hC0] at d0 hc
  simp only [hC1] at d1 hc
  rw [hC2] at hc ⊢
  replace d0 := Lib.hid d0; replace d1 := Lib.hid d1
  clear hC0 hC1 hC2 h1 h2
  rcases hc with ⟨k1, e⟩ | ⟨k1, k2, e⟩ | ⟨k1, k2, e⟩
  all_goals
    rw [e]
    clear e
    go_enter Try.func66, Try.ntmps66
    go_wp2
    go_loop [11] (fun kk => ∃ k : Nat, (k = 0 ∨ (k = 1 ∧ Hid ((C0 != 0) = false)) ∨ (k = 2 ∧ Hid ((C0 != 0) = false ∧ (C1 != 0) = false))) ∧ kk = .int .i64 k) (fun kk => 2 - (intOf kk).toNat)
    case atStart => exact ⟨0, .inl rfl, rfl⟩
    case round =>
      obtain ⟨k, hk, rfl⟩ := hrel
      rcases hk with rfl | ⟨rfl, q1⟩ | ⟨rfl, q1⟩
      · go_wp2_with (first | (go_at_call 76; refine (d0.out _).mono ?_; rintro e w' ⟨rfl, rfl⟩))
        first
        | (go_ret; exact ⟨rfl, rfl⟩)
        | (go_round
           case rel => exact ⟨1, .inr (.inl ⟨rfl, k1⟩), rfl⟩
           case measure => simp [intOf])
      · first
        | exact absurd (k1.symm.trans q1.out) (by decide)
        | (go_wp2_with (first | (go_at_call 76; refine (d1.out _).mono ?_; rintro e w' ⟨rfl, rfl⟩))
           first
           | (go_ret; exact ⟨rfl, rfl⟩)
           | (go_round
              case rel => exact ⟨2, .inr (.inr ⟨rfl, k1, k2⟩), rfl⟩
              case measure => simp [intOf]))
      · first
        | exact absurd (k1.symm.trans q1.out.1) (by decide)
        | exact absurd (k2.symm.trans q1.out.2) (by decide)
        | (go_wp2
           go_ret
           exact ⟨rfl, rfl⟩)
/-- One cell comes before another one, row by row. -/
def lexB (p c : Cel) : Bool := decide (p.y < c.y) || (decide (p.y = c.y) && decide (p.x < c.x))
theorem lex_cmp (p c : Cel) : decide (0 ≤ cmp2 p.y p.x c.y c.x) = !lexB p c := by
  unfold cmp2 cmp1 lexB
  by_cases h1 : p.y < c.y
  · simp [h1]
  · by_cases h2 : c.y < p.y
    · have : ¬ p.y = c.y := by omega
      simp [h1, h2, this]
    · have h3 : p.y = c.y := by omega
      by_cases h4 : p.x < c.x
      · simp [h3, h4]
      · by_cases h5 : c.x < p.x
        · simp [h3, h4, h5]
        · simp [h3, h4, h5]
def celN (K : List Cel) (i : Nat) : Cel := K.getD i ⟨0, 0⟩
theorem celN_at {K : List Cel} {i : Nat} (h : i < K.length) : celN K i = K[i] := by unfold celN; rw [List.getD_eq_getElem?_getD, List.getElem?_eq_getElem h]; rfl
/-- The cells of a list live, and ascend. -/
def okcAt (wd ht : Int) (R : List (List Bool)) (K : List Cel) (i : Nat) : Bool := onB wd ht (celN K i) && (cellR R (celN K i).y.toNat (celN K i).x && (decide (i = 0) || lexB (celN K (i - 1)) (celN K i)))
def okcB (wd ht : Int) (R : List (List Bool)) (K : List Cel) : Bool := (List.range K.length).all (okcAt wd ht R K)
def cutB (wd ht : Nat) (F : List Cel) (r : Int) (K : List Cel) : Bool := okcB wd ht (fld wd ht F) K && (firL r (fld wd ht (F ++ K))).isNone
def icutB (wd ht : Int) (F : List Cel) (r : Int) (K : List Cel) : Bool := if opE wd ht F r = 0 then cutB wd.toNat ht.toNat F r K else false
theorem okc_iff {wd ht : Int} {R : List (List Bool)} {K : List Cel} : okcB wd ht R K = true ↔ ∀ i, i < K.length → okcAt wd ht R K i = true := by simp [okcB]
theorem cut_no {wd ht : Nat} {F : List Cel} {r : Int} {K : List Cel} {i : Nat} (hi : i < K.length) (h : okcAt wd ht (fld wd ht F) K i = false) : cutB wd ht F r K = false := by
  have : okcB wd ht (fld wd ht F) K = false := by
    rw [Bool.eq_false_iff]; intro hh
    rw [okc_iff.1 hh i hi] at h; cases h
  unfold cutB; rw [this]; rfl
theorem cut_yes {wd ht : Nat} {F : List Cel} {r : Int} {K : List Cel} (h : ∀ i, i < K.length → okcAt wd ht (fld wd ht F) K i = true) : cutB wd ht F r K = (firL r (fld wd ht (F ++ K))).isNone := by
  unfold cutB; rw [okc_iff.2 h]; rfl
end Go.Proofs.Ytbabdoafpljdbaa
