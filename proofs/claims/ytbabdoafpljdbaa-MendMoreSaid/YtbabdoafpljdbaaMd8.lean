/- The leftmost column: the program. -/
import Derived.Test.YtbabdoafpljdbaaMd7
namespace Go.Proofs.Ytbabdoafpljdbaa
open Go.RowKit

def bothB (a b : List Bool) (x : Nat) : Bool := a.getD x false && b.getD x false
/-- The least place where both are open, of the last n; -1: there is none. -/
def lowD (a b : List Bool) : Nat → Int
  | 0 => -1
  | n + 1 => if bothB a b (a.length - (n + 1)) then ((a.length - (n + 1) : Nat) : Int) else lowD a b n
theorem lowD_eq (a b : List Bool) : ∀ n, n ≤ a.length → lowD a b n = match (List.range' (a.length - n) n).find? (bothB a b) with | some k => (k : Int) | none => -1
  | 0, _ => rfl
  | n + 1, h => by
    have ih := lowD_eq a b n (by omega)
    have e : a.length - (n + 1) + 1 = a.length - n := by omega
    rw [List.range'_succ, e, List.find?_cons, lowD]
    cases hb : bothB a b (a.length - (n + 1))
    · simpa using ih
    · simp
theorem lowD_low (a b : List Bool) : lowD a b a.length = match lowB a b with | some k => (k : Int) | none => -1 := by
  rw [lowD_eq a b _ (Nat.le_refl _), Nat.sub_self, ← List.range_eq_range']
  rfl
theorem lowD_lt (a b : List Bool) : ∀ n, n ≤ a.length → -1 ≤ lowD a b n ∧ lowD a b n < a.length
  | 0, _ => by simp [lowD]; omega
  | n + 1, h => by
    have ih := lowD_lt a b n (by omega)
    rw [lowD]
    split <;> omega
theorem lowL_none : ∀ {A B : List (List Bool)} {j : Nat} (hj : j < A.length), A.length = B.length → (∀ i (h : i < A.length) (h' : i < B.length), i = j → lowB A[i] B[i] = none) → lowL A B = none
  | [], _, _, h, _, _ => absurd h (by simp)
  | a :: A, [], _, _, h, _ => by simp at h
  | a :: A, b :: B, 0, _, _, h => by
    have := h 0 (by simp) (by simp) rfl
    simp only [List.getElem_cons_zero] at this
    simp [lowL, this]
  | a :: A, b :: B, j + 1, hj, hl, h => by
    have ih := lowL_none (A := A) (B := B) (j := j) (by simpa using hj) (by simpa using hl) (fun i h1 h2 e => by
      have := h (i + 1) (by simpa using h1) (by simpa using h2) (by omega)
      simpa using this)
    simp only [lowL, List.headD_cons, List.tail_cons, ih]
    split <;> rfl
theorem lowL_some : ∀ {A B : List (List Bool)} {l : List Int}, A.length = B.length → l.length = A.length → (∀ i (h : i < A.length) (h' : i < B.length) (h'' : i < l.length), ∃ k : Nat, lowB A[i] B[i] = some k ∧ l[i] = k) → lowL A B = some l
  | [], _, [], _, _, _ => rfl
  | [], _, _ :: _, _, h, _ => by simp at h
  | a :: A, [], _, h, _, _ => by simp at h
  | a :: A, b :: B, [], _, h, _ => by simp at h
  | a :: A, b :: B, x :: l, h1, h2, h => by
    have ih := lowL_some (A := A) (B := B) (l := l) (by simpa using h1) (by simpa using h2) (fun i h1 h2 h3 => by
      have := h (i + 1) (by simpa using h1) (by simpa using h2) (by simpa using h3)
      simpa using this)
    obtain ⟨k, hk, e⟩ := h 0 (by simp) (by simp) (by simp)
    simp only [List.getElem_cons_zero] at hk e
    simp only [lowL, List.headD_cons, List.tail_cons, hk, ih, e]
theorem Tbl.seen {α : Type} {E : Elt α} {T t base n cap : Nat} {V : World} {s : Option Addr} {ss : List Sv} {R : List (List α)} (h : Tbl E T t V base (.slice s n cap) ss R) : SlSS E V s R := by
  have hn := owns_len h.out
  subst hn
  exact h.view
/-- What leftmost hands back. -/
def LeftRet (o : Option (List Int)) (w : World) (e : Ending) (w' : World) : Prop :=
  (∃ s cap, e = .returned (.tuple #[.slice s (o.getD []).length cap, .bool o.isSome]) ∧ w'.ownsRow w.heap.size 3 1 (.slice s (o.getD []).length cap) (o.getD []).length (intE.all (o.getD []))) ∧ Below w.heap.size w w'
set_option maxRecDepth 100000 in
set_option maxHeartbeats 2000000 in
theorem leftmost_c (s : Option Addr) (cap : Nat) (R : List (List Bool)) (r wd : Nat) (w : World) (h : SlSS boolE w s R) (hl : 1 ≤ R.length ∧ R.length ≤ 8) (hw : ∀ row ∈ R, row.length = wd) (hwd : wd ≤ 12) (hr : r ≤ 3) :
    Calls Try.prog 72 #[.slice s R.length cap, .int .i64 r] w (LeftRet (leftL r R) w) := by
  have c1 := Lib.hid (ends_c s cap R r wd w h hl hw hwd hr)
  have hRl : R.reverse.length = R.length := List.length_reverse
  have hRw : ∀ row ∈ R.reverse, row.length = wd := fun row hr => hw row (List.mem_reverse.1 hr)
  have hDl := endL_len (r : Int) R
  have hDw := endL_rows (r : Int) hw
  have hUl : (endL (r : Int) R.reverse).reverse.length = R.length := by rw [List.length_reverse, endL_len, List.length_reverse]
  have hUw : ∀ row ∈ (endL (r : Int) R.reverse).reverse, row.length = wd := fun row h => endL_rows (r : Int) hRw row (List.mem_reverse.1 h)
  have hEl := endL_len (r : Int) R.reverse
  rw [hRl] at hEl
  have hLn := fun (j : Nat) hj hh => (show leftL r R = none from lowL_none (A := endL (r : Int) R) (B := (endL (r : Int) R.reverse).reverse) (j := j) hj (by rw [hDl, hUl]) hh)
  have hLs := fun (l : List Int) h1 hh => (show leftL r R = some l from lowL_some (A := endL (r : Int) R) (B := (endL (r : Int) R.reverse).reverse) (l := l) (by rw [hDl, hUl]) h1 hh)
  have c2 := fun V (h : SlSS boolE V s R) => turned_c s cap R V h (by omega) hl.1
  have c3 := fun V s c (h : SlSS boolE V s R.reverse) => ends_c s c R.reverse r wd V h (by omega) hRw hwd hr
  have c4 := fun V s c (h : SlSS boolE V s (endL (r : Int) R.reverse)) => turned_c s c (endL (r : Int) R.reverse) V h (by omega) (by omega)
  simp only [hRl] at c3
  obtain ⟨LL, hLL⟩ : ∃ x, leftL (r : Int) R = x := ⟨_, rfl⟩
  simp only [hLL] at hLn hLs ⊢
  obtain ⟨D, hD⟩ : ∃ x, endL (r : Int) R = x := ⟨_, rfl⟩
  obtain ⟨E, hE⟩ : ∃ x, endL (r : Int) R.reverse = x := ⟨_, rfl⟩
  simp only [hD, hE] at c1 c3 c4 hDl hDw hUl hUw hEl hLn hLs
  obtain ⟨U, hU⟩ : ∃ x, E.reverse = x := ⟨_, rfl⟩
  simp only [hU] at c4 hUl hUw hLn hLs
  have h0 := Lib.hid h
  have hDl8 : D.length ≤ 8 := by omega
  replace c1 := Lib.hid c1; replace c2 := Lib.hid c2; replace c3 := Lib.hid c3; replace c4 := Lib.hid c4; replace hDl := Lib.hid hDl; replace hDw := Lib.hid hDw; replace hUl := Lib.hid hUl; replace hUw := Lib.hid hUw; replace hEl := Lib.hid hEl; replace hLn := Lib.hid hLn; replace hLs := Lib.hid hLs; replace hLL := Lib.hid hLL; replace hD := Lib.hid hD; replace hE := Lib.hid hE; replace hU := Lib.hid hU
  clear h hw hRl hRw hl
  go_enter Try.func72, Try.ntmps72
  go_upto_region 2 with (first
    | (go_at_call 75; refine c1.out.mono ?_; clear c1; rintro e A1 ⟨s1, k1, ss1, rfl, ht1, hb1⟩; have hv1 := Lib.hid ht1.seen; have d2 := Lib.hid (c2.out A1 (up_of hb1 h0.out)); clear ht1)
    | (go_at_call 80; refine d2.out.mono ?_; clear d2; rintro e A2 ⟨⟨s2, k2, rfl, hv2⟩, hb2⟩; replace hv1 := Lib.hid (up_of hb2 hv1.out); have d3 := Lib.hid (c3.out A2 s2 k2 hv2); clear hv2)
    | (go_at_call 75; refine d3.out.mono ?_; clear d3; rintro e A3 ⟨s3, k3, ss3, rfl, ht3, hb3⟩; replace hv1 := Lib.hid (up_of hb3 hv1.out); have d4 := Lib.hid (c4.out A3 s3 k3 ht3.seen); clear ht3)
    | (go_at_call 80; refine d4.out.mono ?_; clear d4; rintro e A4 ⟨⟨s4, k4, rfl, hv4⟩, hb4⟩; replace hv1 := Lib.hid (up_of hb4 hv1.out)))
  have hB4 : Below w.heap.size w A4 := ((hb1.trans (hb2.mono hb1.size)).trans (hb3.mono (Nat.le_trans hb1.size hb2.size))).trans (hb4.mono (Nat.le_trans hb1.size (Nat.le_trans hb2.size hb3.size)))
  have hA4s := hB4.size
  have hv4' : SlSS boolE A4 s4 U := hv4
  have hDE : D.length = E.length := by rw [hDl.out, hEl.out]
  have hDU : D.length = U.length := by rw [hDl.out, hUl.out]
  replace hv4' := Lib.hid hv4'; replace hDE := Lib.hid hDE; replace hDU := Lib.hid hDU
  clear hb1 hb2 hb3 hb4 hv4 c2 c3 c4
  go_wp2
  go_loopw [8, 23] (fun v ii V => ∃ (y : Nat) (lst : List Int), y ≤ D.length ∧ ii = .int .i64 y ∧ V.ownsRow A4.heap.size 3 1 v y (intE.all lst) ∧ Hid (lst.length = y) ∧ Below A4.heap.size A4 V ∧ Hid (∀ j (h : j < D.length) (h' : j < U.length) (h'' : j < lst.length), ∃ k : Nat, lowB D[j] U[j] = some k ∧ lst[j] = k)) (fun _ ii _ => D.length - (intOf ii).toNat)
  case atStart => exact ⟨0, [], by omega, rfl, World.ownsRow_nil _ _ _ _, rfl, Below.refl _ _, fun j _ _ h => absurd h (by simp)⟩
  case round =>
    obtain ⟨y, lst, hy, rfl, hown, hlst, hbl, hall⟩ := hrel
    by_cases hly : y < D.length
    · have hyU : y < U.length := by have := hDU.out; omega
      have hyE : y < E.length := by have := hDE.out; omega
      obtain ⟨bd, od, sd, cd, e1, hbd, q0, hsd, -, -⟩ := (up_of hbl hv1.out).at hly
      obtain ⟨bu, ou, su, cu, e2, hbu, u0, hsu, -, -⟩ := (up_of hbl hv4'.out).at hyU
      have hrd := hDw.out _ (List.getElem_mem hly)
      have hru := hUw.out _ (List.getElem_mem hyU)
      have hlow := lowD_low D[y] U[y]
      have hlt := fun (n : Nat) (hn : n ≤ D[y].length) => lowD_lt D[y] U[y] n hn
      have hstep : ∀ n, lowD D[y] U[y] (n + 1) = if bothB D[y] U[y] (D[y].length - (n + 1)) then ((D[y].length - (n + 1) : Nat) : Int) else lowD D[y] U[y] n := fun n => rfl
      have hnone : lowB D[y] U[y] = none → LL = none := fun h => hLn.out y hly (fun i h1 h2 e => by subst e; exact h)
      have hnext : ∀ k : Nat, lowB D[y] U[y] = some k → (∀ j (h : j < D.length) (h' : j < U.length) (h'' : j < (lst ++ [(k : Int)]).length), ∃ k' : Nat, lowB D[j] U[j] = some k' ∧ (lst ++ [(k : Int)])[j] = k') := fun k hk j h h' h'' => by
        rw [List.length_append, hlst.out] at h''
        simp only [List.length_cons, List.length_nil] at h''
        by_cases hj : j < lst.length
        · rw [List.getElem_append_left hj]; exact hall.out j h h' hj
        · have : j = y := by have := hlst.out; omega
          subst this
          refine ⟨k, hk, ?_⟩
          rw [List.getElem_append_right (by omega)]; simp
      obtain ⟨a, ha⟩ : ∃ x, D[y] = x := ⟨_, rfl⟩
      obtain ⟨b, hb⟩ : ∃ x, U[y] = x := ⟨_, rfl⟩
      simp only [ha] at q0 hsd hrd hlow hlt hstep hnone hnext
      simp only [hb] at u0 hsu hru hlow hlt hstep hnone hnext
      have hal : a.length ≤ 12 := by omega
      have hab : a.length = b.length := by rw [hrd, hru]
      have i1 : (0 : Int) ≤ (y : Int) := by omega
      have i2 : (y : Int) < (D.length : Int) := by omega
      have i3 : (y : Int) < (E.length : Int) := by omega
      have w1 : IntKind.i64.wrap ((a.length : Int) - 1) = (a.length : Int) - 1 := i64_small (by omega)
      replace ha := Lib.hid ha; replace hb := Lib.hid hb; replace hrd := Lib.hid hrd; replace hru := Lib.hid hru; replace hlow := Lib.hid hlow; replace hlt := Lib.hid hlt; replace hstep := Lib.hid hstep; replace hnone := Lib.hid hnone; replace hnext := Lib.hid hnext; replace hab := Lib.hid hab; replace hsd := Lib.hid hsd; replace hsu := Lib.hid hsu; replace hown := Lib.hid hown
      subst e1 e2
      go_wp2
      go_loop [11, 12] (fun k x => ∃ n : Nat, n ≤ a.length ∧ x = .int .i64 ((a.length : Int) - 1 - n) ∧ k = .int .i64 (lowD a b n)) (fun _ x => (intOf x + 1).toNat)
      case atStart => exact ⟨0, by omega, by congr 1; omega, rfl⟩
      case round =>
        obtain ⟨n, hn, rfl, rfl⟩ := hrel
        by_cases hln : n < a.length
        · obtain ⟨m, hm, hm2⟩ : ∃ m : Nat, (m : Int) = (a.length : Int) - 1 - n ∧ m = a.length - (n + 1) := ⟨a.length - (n + 1), by omega, rfl⟩
          have hma : m < a.length := by omega
          have hmb : m < b.length := by have := hab.out; omega
          obtain ⟨ba, oa, ea, hba, p0⟩ := hsd.out.bool_at hma
          obtain ⟨bb, ob, eb, hbb, r0⟩ := hsu.out.bool_at hmb
          have hs := hstep.out n
          have hbo : bothB a b m = (a[m] && b[m]) := by simp [bothB, List.getElem?_eq_getElem hma, List.getElem?_eq_getElem hmb]
          rw [← hm2, hbo] at hs
          rw [← hm]
          obtain ⟨x1, hx1⟩ : ∃ x, a[m] = x := ⟨_, rfl⟩
          obtain ⟨x2, hx2⟩ : ∃ x, b[m] = x := ⟨_, rfl⟩
          obtain ⟨K, hK⟩ : ∃ x, lowD a b n = x := ⟨_, rfl⟩
          rw [hx1] at p0 hs
          rw [hx2] at r0 hs
          rw [hK] at hs ⊢
          have j1 : (0 : Int) ≤ (m : Int) := by omega
          have j2 : (m : Int) < (a.length : Int) := by omega
          have j3 : (m : Int) < (b.length : Int) := by omega
          have w2 : IntKind.i64.wrap ((m : Int) - 1) = (m : Int) - 1 := i64_small (by omega)
          replace hm2 := Lib.hid hm2; replace hbo := Lib.hid hbo; replace hx1 := Lib.hid hx1; replace hx2 := Lib.hid hx2; replace hK := Lib.hid hK; replace hm := Lib.hid hm
          subst ea eb
          cases x1
          · simp only [Bool.false_and, Bool.false_eq_true, if_false] at hs
            replace hs := Lib.hid hs
            go_wp2
            go_round
            case rel => exact ⟨n + 1, by omega, by have := hm.out; congr 1; omega, by rw [hs.out]⟩
            case measure => simp [intOf] <;> omega
          · cases x2
            · simp only [Bool.and_false, Bool.false_eq_true, if_false] at hs
              replace hs := Lib.hid hs
              go_wp2
              go_round
              case rel => exact ⟨n + 1, by omega, by have := hm.out; congr 1; omega, by rw [hs.out]⟩
              case measure => simp [intOf] <;> omega
            · simp only [Bool.and_true, if_true] at hs
              replace hs := Lib.hid hs
              go_wp2
              go_round
              case rel => exact ⟨n + 1, by omega, by have := hm.out; congr 1; omega, by rw [hs.out]⟩
              case measure => simp [intOf] <;> omega
        · obtain rfl : n = a.length := by omega
          have j1 : ¬ (0 : Int) ≤ (a.length : Int) - 1 - (a.length : Int) := by omega
          have hlo := hlow.out
          have hl2 := hlt.out a.length (Nat.le_refl _)
          cases hf : lowB a b with
          | none =>
            rw [hf] at hlo
            simp only at hlo
            obtain rfl := hnone.out hf
            rw [hlo]
            replace hlo := Lib.hid hlo
            have hBf := hB4.trans (hbl.mono hA4s)
            clear hl2
            go_wp2
            go_ret2
            exact ⟨⟨none, 0, rfl, World.ownsRow_nil _ _ _ _⟩, hBf⟩
          | some k =>
            rw [hf] at hlo
            simp only at hlo
            have hnx := Lib.hid (hnext.out k hf)
            rw [hlo] at hl2 ⊢
            have j4 : ¬ (k : Int) < 0 := by omega
            have hown2 := hown.out
            have hbls := hbl.size
            have hla : (lst ++ [(k : Int)]).length = y + 1 := by rw [List.length_append, hlst.out]; rfl
            have hev : intE.all (lst ++ [(k : Int)]) = intE.all lst ++ [.int .i64 k] := by simp [Elt.all, intE]
            replace hlo := Lib.hid hlo; replace hla := Lib.hid hla; replace hev := Lib.hid hev
            go_wp2_with (first | (at_builtin; obtain ⟨i0, hi, hz0, hz1, hz2⟩ := info_parts info_int; refine wpList_append_own _ rfl _ _ 36 rfl A4.heap.size 3 i0 (.int .i64 0) 1 8 Try.underlying36 hi hz0 hz1 hz2 rfl (by decide) _ _ _ rfl (hown2.alloc _) ⟨wr.heap.size, 0, none⟩ 1 1 [.int .i64 k] rfl rfl (news_new _ _ _) (by simp [Value.oneCell']) (by unfold maxLen; omega) (by omega) (by simp; omega) ?_; intro v1 w1 hown1 hgrow hnil))
            go_roundw
            case rel => exact ⟨y + 1, lst ++ [(k : Int)], by omega, by go_num, by rw [hev.out]; exact hown1, hla, Up.grown hbl hbls hown2 hgrow, hnx⟩
            case measure => exact meas hly
    · obtain rfl : y = D.length := by omega
      have hfin := hLs.out lst (by have := hlst.out; omega) (fun i h1 h2 h3 => hall.out i h1 h2 h3)
      obtain ⟨s', c', rfl, _⟩ := owns_shape hown
      have hBf := hB4.trans (hbl.mono hA4s)
      have hown2 : World.ownsRow wr w.heap.size 3 1 (.slice s' lst.length c') lst.length (intE.all lst) := by
        have := hlst.out; rw [this]; exact owns_mono hown hA4s
      have hl3 : lst.length = D.length := hlst.out
      replace hown2 := Lib.hid hown2; replace hl3 := Lib.hid hl3
      subst hfin
      clear hown
      go_wp2
      go_ret2
      exact ⟨⟨s', c', by show _ = Ending.returned (.tuple #[.slice s' lst.length c', .bool true]); rw [hl3.out]; rfl, hown2.out⟩, hBf⟩
end Go.Proofs.Ytbabdoafpljdbaa
