/- The rows upside down: the program. -/
import Derived.Test.YtbabdoafpljdbaaMd3
namespace Go.Proofs.Ytbabdoafpljdbaa
open Go.RowKit

def svD : Sv := ⟨none, 0, 0⟩
theorem svE_set (l : List Sv) (x : Sv) : ∀ i, (svE.all l).set i (.slice x.addr x.len x.cap) = svE.all (l.set i x) := by
  induction l with
  | nil => intro i; rfl
  | cons a l ih =>
    intro i
    cases i with
    | zero => rfl
    | succ i =>
      have h3 := ih i
      show List.set (a.val :: svE.all l) (i + 1) (.slice x.addr x.len x.cap) = a.val :: svE.all (l.set i x)
      rw [List.set_cons_succ, h3]
/-- The list with its first i and its last i elements in one another's places. -/
def revTo (l : List Sv) (i : Nat) : List Sv := (List.range l.length).map fun m => if m < i ∨ l.length - i ≤ m then l.getD (l.length - 1 - m) svD else l.getD m svD
theorem revTo_len (l : List Sv) (i : Nat) : (revTo l i).length = l.length := by simp [revTo]
theorem revTo_at {l : List Sv} {i m : Nat} (hm : m < l.length) : (revTo l i)[m]'(by rw [revTo_len]; exact hm) = if m < i ∨ l.length - i ≤ m then l.getD (l.length - 1 - m) svD else l.getD m svD := by simp [revTo]
theorem revTo_zero (l : List Sv) : revTo l 0 = l := by
  apply List.ext_getElem
  · rw [revTo_len]
  · intro m h1 h2
    rw [revTo_at h2, if_neg (by omega), List.getD_eq_getElem?_getD, List.getElem?_eq_getElem h2]; rfl
theorem revTo_mid {l : List Sv} {i m : Nat} (h1 : i ≤ m) (h2 : m < l.length - i) : (revTo l i)[m]'(by rw [revTo_len]; omega) = l[m]'(by omega) := by
  rw [revTo_at (by omega), if_neg (by omega), List.getD_eq_getElem?_getD, List.getElem?_eq_getElem (by omega)]; rfl
theorem revTo_step {l : List Sv} {i : Nat} (h : i < l.length - 1 - i) : ((revTo l i).set i (l[l.length - 1 - i]'(by omega))).set (l.length - 1 - i) (l[i]'(by omega)) = revTo l (i + 1) := by
  apply List.ext_getElem
  · simp [revTo_len]
  · intro m h1 h2
    rw [revTo_len] at h2
    rw [revTo_at h2, List.getElem_set]
    by_cases e1 : l.length - 1 - i = m
    · rw [if_pos e1, if_pos (by omega), List.getD_eq_getElem?_getD, List.getElem?_eq_getElem (by omega)]
      simp only [Option.getD_some]
      congr 1; omega
    · rw [if_neg e1, List.getElem_set]
      by_cases e2 : i = m
      · subst e2
        rw [if_pos rfl, if_pos (by omega), List.getD_eq_getElem?_getD, List.getElem?_eq_getElem (by omega)]; rfl
      · rw [if_neg e2, revTo_at h2]
        by_cases e3 : m < i ∨ l.length - i ≤ m
        · rw [if_pos e3, if_pos (by omega)]
        · rw [if_neg e3, if_neg (by omega)]
theorem revTo_all {l : List Sv} {i : Nat} (h : l.length - 1 - i ≤ i) (hi : 2 * i ≤ l.length) : revTo l i = l.reverse := by
  apply List.ext_getElem
  · simp [revTo_len]
  · intro m h1 h2
    rw [revTo_len] at h1
    rw [revTo_at h1, List.getElem_reverse]
    by_cases e3 : m < i ∨ l.length - i ≤ m
    · rw [if_pos e3, List.getD_eq_getElem?_getD, List.getElem?_eq_getElem (by omega)]; rfl
    · rw [if_neg e3, List.getD_eq_getElem?_getD, List.getElem?_eq_getElem (by omega)]
      simp only [Option.getD_some]
      congr 1; omega
set_option maxRecDepth 100000 in
set_option maxHeartbeats 1000000 in
theorem reverse_c (b cap base : Nat) (l : List Sv) (w : World) (h : w.ownsRow base 75 1 (.slice (some ⟨b, 0, none⟩) l.length cap) l.length (svE.all l)) (hl : l.length ≤ 1000) (_hb : base ≤ w.heap.size) (hp : 1 ≤ l.length) :
    Calls Try.prog 89 #[.slice (some ⟨b, 0, none⟩) l.length cap] w fun e w' => e = .returned (.tuple #[]) ∧ w'.ownsRow base 75 1 (.slice (some ⟨b, 0, none⟩) l.length cap) l.length (svE.all l.reverse) ∧ Below base w w' := by
  have hr0 := revTo_zero l
  have hrs := fun (i : Nat) (h : i < l.length - 1 - i) => revTo_step (l := l) h
  have hra := fun (i : Nat) (h1 : l.length - 1 - i ≤ i) h2 => revTo_all (l := l) h1 h2
  have hrm := fun (i m : Nat) h1 h2 => revTo_mid (l := l) (i := i) (m := m) h1 h2
  have hrl := fun (i : Nat) => revTo_len l i
  have hbb := h.lt b rfl
  rw [← hr0] at h
  simp only [hrl] at h
  replace h := Lib.hid h; replace hr0 := Lib.hid hr0; replace hrs := Lib.hid hrs; replace hra := Lib.hid hra; replace hrm := Lib.hid hrm; replace hrl := Lib.hid hrl
  have w1 : IntKind.i64.wrap ((l.length : Int) - 1) = ((l.length - 1 - 0 : Nat) : Int) := by rw [i64_small (by omega)]; omega
  go_enter Try.func89, Try.ntmps89
  go_wp2
  go_loopw [2, 3] (fun x y V => ∃ i j : Nat, i + j + 1 = l.length ∧ 2 * i ≤ l.length ∧ x = .int .i64 i ∧ y = .int .i64 j ∧ V.ownsRow base 75 1 (.slice (some ⟨b, 0, none⟩) l.length cap) l.length (svE.all (revTo l i)) ∧ Below base w V) (fun x _ _ => l.length - (intOf x).toNat)
  case atStart => exact ⟨0, l.length - 1, by omega, by omega, rfl, by congr 1, h.out, Below.refl _ _⟩
  case round =>
    clear h
    obtain ⟨i, j, hij, hi, rfl, rfl, hown, hB⟩ := hrel
    by_cases hlt : i < j
    · have hri : i < (revTo l i).length := by rw [hrl.out]; omega
      have hrj : j < (revTo l i).length := by rw [hrl.out]; omega
      have mi : (revTo l i)[i] = l[i] := hrm.out i i (Nat.le_refl _) (by omega)
      have mj : (revTo l i)[j] = l[j] := hrm.out i j (by omega) (by omega)
      have x0 := owns_cell hown (svE_at _ hri)
      have y0 := owns_cell hown (svE_at _ hrj)
      rw [mi] at x0
      rw [mj] at y0
      have xf := World.ownsRow.frozenAt hown i
      have yf := World.ownsRow.frozenAt hown j
      have hD : World.ownsRow wr.drew base 75 1 (.slice (some ⟨b, 0, none⟩) l.length cap) l.length (svE.all (revTo l i)) := own_upto hown fun _ _ => rfl
      have h4 := hD.stored i l[j].val
      have h5 := h4.1.stored j l[i].val
      have hst : ((svE.all (revTo l i)).set i l[j].val).set j l[i].val = svE.all (revTo l (i + 1)) := by
        have e := hrs.out i (by omega)
        have ej : l.length - 1 - i = j := by omega
        simp only [ej] at e
        rw [Sv.val, svE_set, Sv.val, svE_set, e]
      rw [hst] at h5
      have h6 := Lib.hid h5.1
      have hBD : Below base w ((wr.drew.setCell ⟨b, i, none⟩ l[j].val).setCell ⟨b, j, none⟩ l[i].val) := (hB.drew.setCell hbb.1 _).setCell hbb.1 _
      replace hBD := Lib.hid hBD
      obtain ⟨a, ha⟩ : ∃ a, l[i] = a := ⟨_, rfl⟩
      obtain ⟨c, hc⟩ : ∃ a, l[j] = a := ⟨_, rfl⟩
      rw [ha] at x0 h6 hBD
      rw [hc] at y0 h6 hBD
      simp only [Sv.val] at x0 y0 h6 hBD
      replace ha := Lib.hid ha; replace hc := Lib.hid hc
      have i1 : (0 : Int) ≤ (i : Int) := by omega
      have i2 : (i : Int) < (l.length : Int) := by omega
      have i3 : (0 : Int) ≤ (j : Int) := by omega
      have i4 : (j : Int) < (l.length : Int) := by omega
      have i5 : (i : Int) < (j : Int) := by omega
      have i6 : ¬ i = j := by omega
      have i7 : ¬ j = i := by omega
      have w2 : IntKind.i64.wrap ((j : Int) - 1) = ((j - 1 : Nat) : Int) := by rw [i64_small (by omega)]; omega
      clear h4 h5 hD hst mi mj hown
      go_upto_region 3 with (fail)
      go_region
      all_goals
        go_wp2
        go_roundw
        case rel => exact ⟨i + 1, j - 1, by omega, by omega, by go_num, by first | rfl | go_num, h6.out, hBD.out⟩
        case measure => exact meas (by omega)
    · have i5 : ¬ (i : Int) < (j : Int) := by omega
      rw [hra.out i (by omega) hi] at hown
      replace hown := Lib.hid hown
      go_wp2
      go_end0
      exact ⟨rfl, hown.out, hB⟩
/-- A view of rows, upside down. -/
theorem SlSS.rev_view {α : Type} {E : Elt α} {W : World} {s' : Option Addr} {ss : List Sv} {R : List (List α)} (h2 : ss.length = R.length) (h3 : ∀ i (h : i < R.length) (h' : i < ss.length), ss[i].len = R[i].length ∧ SlS E W ss[i].addr R[i] ∧ (ss[i].addr = none → ss[i].cap = 0) ∧ R[i].length ≤ ss[i].cap) (hs : SlS svE W s' ss.reverse) : SlSS E W s' R.reverse := by
  refine ⟨ss.reverse, hs, by simp [h2], fun i h h' => ?_⟩
  have k1 : R.length - 1 - i < R.length := by simp at h; omega
  have k2 : ss.length - 1 - i < ss.length := by simp at h'; omega
  rw [List.getElem_reverse, List.getElem_reverse]
  have := h3 (R.length - 1 - i) k1 (by omega)
  simp only [h2] at this ⊢
  exact this
set_option maxRecDepth 100000 in
set_option maxHeartbeats 1000000 in
theorem turned_c (s : Option Addr) (cap : Nat) (R : List (List Bool)) (w : World) (h : SlSS boolE w s R) (hl : R.length ≤ 1000) (hp : 1 ≤ R.length) :
    Calls Try.prog 80 #[.slice s R.length cap] w fun e w' => (∃ s' c', e = .returned (.slice s' R.length c') ∧ SlSS boolE w' s' R.reverse) ∧ Below w.heap.size w w' := by
  obtain ⟨ss, h1, h2, h3⟩ := h
  have hs : s ≠ none := fun e => by subst e; have := h1.none_nil; subst this; simp at h2; omega
  have hcl := row_clone s cap ss w h1 (fun e => absurd e hs) (by omega)
  have hv := fun W (hb : Below w.heap.size w W) s' (h : SlS svE W s' ss.reverse) => SlSS.rev_view (E := boolE) (W := W) h2 (fun i a b => ⟨(h3 i a b).1, (h3 i a b).2.1.up hb, (h3 i a b).2.2⟩) h
  rw [h2] at hcl
  replace hcl := Lib.hid hcl; replace hv := Lib.hid hv; replace h2 := Lib.hid h2
  clear h1 h3
  go_enter Try.func80, Try.ntmps80
  go_upto_region 2 with (go_at_call 88; refine hcl.out.mono ?_; rintro e W1 ⟨s1, c1, rfl, hown, hb⟩)
  have hp2 : 0 < ss.length := by have := h2.out; omega
  have hl2 : ss.length ≤ 1000 := by have := h2.out; omega
  obtain ⟨g, rfl, hg1, hg2⟩ := own_ex hown hp2
  have hrv := Lib.hid (reverse_c g c1 w.heap.size ss W1 hown hl2 hb.size hp2)
  clear hown
  go_wp2_with (go_at_call 89; refine hrv.out.mono ?_; rintro e W2 ⟨rfl, hown, hb2⟩)
  have hb3 := hb.trans hb2
  go_ret
  refine ⟨⟨some ⟨g, 0, none⟩, c1, by rw [← h2.out]; rfl, hv.out W2 hb3 _ (SlS.of_own (base := w.heap.size) (e := 75) (cap := c1) ?_)⟩, hb3⟩
  rw [List.length_reverse]; exact hown
end Go.Proofs.Ytbabdoafpljdbaa
