/- Valid kernels, periods and starts: the program and the reference. -/
import Derived.Test.YtgeoehokojijdaaMix2
namespace Go.Proofs.Ytgeoehokojijdaa
open Go.RowKit

theorem any_not {α : Type} (pr : α → Bool) (l : List α) : (!l.any fun x => !pr x) = l.all pr := by
  induction l with
  | nil => rfl
  | cons x l ih => simp only [List.any_cons, List.all_cons, Bool.not_or, Bool.not_not, ih]
/-- Kernels in memory. -/
structure Ker (w : World) (s : Option Addr) (cap : Nat) (k : List (List Clm)) : Prop where
  ss : SlSS clmE w s k
  len : k.length ≤ 9223372036854775807
  lens : ∀ l ∈ k, l.length ≤ 9223372036854775807
  capl : k.length ≤ cap
  none : s = none → cap = 0
instance {W W' : World} {s : Option Addr} {cap : Nat} {k : List (List Clm)} : UpF W W' (Ker W s cap k) (Ker W' s cap k) := ⟨fun h c => ⟨c.ss.up h, c.len, c.lens, c.capl, c.none⟩⟩
/-- Numbers in memory. -/
structure Ints (w : World) (s : Option Addr) (l : List Int) : Prop where
  sl : SlS intE w s l
  len : l.length ≤ 9223372036854775807
instance {W W' : World} {s : Option Addr} {l : List Int} : UpF W W' (Ints W s l) (Ints W' s l) := ⟨fun h c => ⟨c.sl.up h, c.len⟩⟩

set_option maxRecDepth 100000 in
set_option maxHeartbeats 400000 in
theorem ker_indexf (f : Nat) (cs : Array Value) (hf : ∀ args w, (callFunc f args).run Try.prog w = .ok (.enter f args) w) (s : Option Addr) (cap : Nat) (k : List (List Clm)) (pr : List Clm → Bool) (w : World)
    (hs : SlSS clmE w s k) (hl : k.length ≤ 9223372036854775807)
    (hc : ∀ q ∈ k, ∀ W sa sc, Below w.heap.size w W → SlS clmE W sa q → q.length ≤ sc → Calls Try.prog f (#[.slice sa q.length sc] ++ cs) W fun e w' => e = .returned (.bool (pr q)) ∧ Below W.heap.size W w') :
    Calls Try.prog 71 #[.slice s k.length cap, .func (.func f) #[] cs] w fun e w' => e = .returned (.int .i64 (fidx pr k)) ∧ Below w.heap.size w w' := by
  go_enter Try.func71, Try.ntmps71
  go_wp2
  go_loopw [8] (fun i wr => ∃ i0 : Nat, i0 ≤ k.length ∧ i = .int .i64 i0 ∧ Below w.heap.size w wr ∧ Hid (∀ j (hj : j < k.length), j < i0 → pr k[j] = false)) (fun i _ => k.length - (intOf i).toNat)
  case atStart => exact ⟨0, by omega, rfl, Below.refl _ _, fun j _ h => absurd h (by omega)⟩
  case round =>
    obtain ⟨i0, hk, rfl, hB, hno⟩ := hrel
    by_cases hlt : i0 < k.length
    · obtain ⟨b, off, sa, sc, rfl, hb, h0, hsl, hn, hcp⟩ := (up_of hB hs).at hlt
      have hcall := hc k[i0] (List.getElem_mem hlt) wr sa sc hB hsl hcp
      have Hc := Lib.hid hcall
      clear hc hcall hs hsl hn hcp
      cases hp : pr k[i0] with
      | true =>
        go_wp2_with (refine Hc.out.mono ?_; rintro e W1 ⟨rfl, hb1⟩; rw [hp])
        go_ret
        exact ⟨ret_int (fidx_at hlt (fun j hj => hno j _ hj) hp).symm, Up.to hB hb1 hB.size⟩
      | false =>
        go_wp2_with (refine Hc.out.mono ?_; rintro e W1 ⟨rfl, hb1⟩; rw [hp])
        go_roundw
        case rel => exact ⟨i0 + 1, by omega, by go_num, Up.to hB hb1 hB.size, fun j hj h => by rcases Nat.lt_succ_iff_lt_or_eq.1 h with h | rfl; exact hno j hj h; exact hp⟩
        case measure => simp [intOf]; omega
    · obtain rfl : i0 = k.length := by omega
      clear hc hs
      go_wp2
      go_ret
      exact ⟨ret_int (fidx_none fun j hj => hno j hj hj).symm, hB⟩
set_option maxRecDepth 100000 in
set_option maxHeartbeats 400000 in
theorem ker_containsf (f : Nat) (cs : Array Value) (hf : ∀ args w, (callFunc f args).run Try.prog w = .ok (.enter f args) w) (s : Option Addr) (cap : Nat) (k : List (List Clm)) (pr : List Clm → Bool) (w : World)
    (hs : SlSS clmE w s k) (hl : k.length ≤ 9223372036854775807)
    (hc : ∀ q ∈ k, ∀ W sa sc, Below w.heap.size w W → SlS clmE W sa q → q.length ≤ sc → Calls Try.prog f (#[.slice sa q.length sc] ++ cs) W fun e w' => e = .returned (.bool (pr q)) ∧ Below W.heap.size W w') :
    Calls Try.prog 59 #[.slice s k.length cap, .func (.func f) #[] cs] w fun e w' => e = .returned (.bool (k.any pr)) ∧ Below w.heap.size w w' := by
  have H := Lib.hid (ker_indexf f cs hf s cap k pr w hs hl hc)
  clear hc hs hf
  go_enter Try.func59, Try.ntmps59
  go_wp2_with (go_at_call 71; refine H.out.mono ?_; rintro e W1 ⟨rfl, hb⟩)
  go_ret
  exact ⟨ret_bool (fidx_any pr k), hb⟩
set_option maxRecDepth 100000 in
set_option maxHeartbeats 400000 in
theorem int_indexf (f : Nat) (cs : Array Value) (hf : ∀ args w, (callFunc f args).run Try.prog w = .ok (.enter f args) w) (s : Option Addr) (cap : Nat) (l : List Int) (pr : Int → Bool) (w : World)
    (hs : SlS intE w s l) (hl : l.length ≤ 9223372036854775807)
    (hc : ∀ q ∈ l, ∀ W, Below w.heap.size w W → Calls Try.prog f (#[.int .i64 q] ++ cs) W fun e w' => e = .returned (.bool (pr q)) ∧ Below W.heap.size W w') :
    Calls Try.prog 76 #[.slice s l.length cap, .func (.func f) #[] cs] w fun e w' => e = .returned (.int .i64 (fidx pr l)) ∧ Below w.heap.size w w' := by
  go_enter Try.func76, Try.ntmps76
  go_wp2
  go_loopw [8] (fun i wr => ∃ k : Nat, k ≤ l.length ∧ i = .int .i64 k ∧ Below w.heap.size w wr ∧ Hid (∀ j (hj : j < l.length), j < k → pr l[j] = false)) (fun i _ => l.length - (intOf i).toNat)
  case atStart => exact ⟨0, by omega, rfl, Below.refl _ _, fun j _ h => absurd h (by omega)⟩
  case round =>
    obtain ⟨k, hk, rfl, hB, hno⟩ := hrel
    by_cases hlt : k < l.length
    · obtain ⟨b, off, rfl, hb, hcl⟩ := (up_of hB hs).at hlt
      have h0 := hcl 0 _ rfl
      simp only [intE, Nat.mul_one, Nat.add_zero] at h0
      have hcall := hc l[k] (List.getElem_mem hlt) wr hB
      have Hc := Lib.hid hcall
      clear hc hcall hs hcl
      cases hp : pr l[k] with
      | true =>
        go_wp2_with (refine Hc.out.mono ?_; rintro e W1 ⟨rfl, hb1⟩; rw [hp])
        go_ret
        exact ⟨ret_int (fidx_at hlt (fun j hj => hno j _ hj) hp).symm, Up.to hB hb1 hB.size⟩
      | false =>
        go_wp2_with (refine Hc.out.mono ?_; rintro e W1 ⟨rfl, hb1⟩; rw [hp])
        go_roundw
        case rel => exact ⟨k + 1, by omega, by go_num, Up.to hB hb1 hB.size, fun j hj h => by rcases Nat.lt_succ_iff_lt_or_eq.1 h with h | rfl; exact hno j hj h; exact hp⟩
        case measure => simp [intOf]; omega
    · obtain rfl : k = l.length := by omega
      clear hc hs
      go_wp2
      go_ret
      exact ⟨ret_int (fidx_none fun j hj => hno j hj hj).symm, hB⟩

set_option maxRecDepth 100000 in
set_option maxHeartbeats 400000 in
theorem int_containsf (f : Nat) (cs : Array Value) (hf : ∀ args w, (callFunc f args).run Try.prog w = .ok (.enter f args) w) (s : Option Addr) (cap : Nat) (l : List Int) (pr : Int → Bool) (w : World)
    (hs : SlS intE w s l) (hl : l.length ≤ 9223372036854775807)
    (hc : ∀ q ∈ l, ∀ W, Below w.heap.size w W → Calls Try.prog f (#[.int .i64 q] ++ cs) W fun e w' => e = .returned (.bool (pr q)) ∧ Below W.heap.size W w') :
    Calls Try.prog 69 #[.slice s l.length cap, .func (.func f) #[] cs] w fun e w' => e = .returned (.bool (l.any pr)) ∧ Below w.heap.size w w' := by
  have H := Lib.hid (int_indexf f cs hf s cap l pr w hs hl hc)
  clear hc hs hf
  go_enter Try.func69, Try.ntmps69
  go_wp2_with (go_at_call 76; refine H.out.mono ?_; rintro e W1 ⟨rfl, hb⟩)
  go_ret
  exact ⟨ret_bool (fidx_any pr l), hb⟩


theorem valid1_c (s : Option Addr) (cap : Nat) (l : List Clm) (w : World) (hs : SlS clmE w s l) (hl : l.length ≤ 9223372036854775807) :
    Calls Try.prog 60 #[.slice s l.length cap] w fun e w' => e = .returned (.bool (!kernB l)) ∧ Below w.heap.size w w' := by
  have H := Lib.hid (isKernel_c s cap l w hs hl)
  clear hs
  go_enter Try.func60, Try.ntmps60
  go_wp2_with (go_at_call 61; refine H.out.mono ?_; rintro e W1 ⟨rfl, hb⟩)
  go_ret
  exact ⟨rfl, hb⟩
set_option maxRecDepth 100000 in
theorem valid_c (s : Option Addr) (cap : Nat) (k : List (List Clm)) (w : World) (h : Ker w s cap k) :
    Calls Try.prog 36 #[.slice s k.length cap] w fun e w' => e = .returned (.bool (vldB k)) ∧ Below w.heap.size w w' := by
  have hl := h.len
  have H := Lib.hid (ker_containsf 60 #[] (fun _ _ => by simp [go_sem]) s cap k (fun l => !kernB l) w h.ss hl (fun q hq W sa sc _ hsl _ => valid1_c sa sc q W hsl (h.lens q hq)))
  have hz : vldB k = (bw 1 k.length 3 && !(k.any fun l => !kernB l)) := by rw [any_not]; rfl
  replace hz := Lib.hid hz
  clear h
  cases h1 : bw 1 k.length 3
  · rw [h1] at hz
    go_enter Try.func36, Try.ntmps36
    go_wp2_with (first | (go_at_call 54; refine (between_c _ _ _ _).mono ?_; rintro e w' ⟨rfl, rfl⟩))
    go_ret
    exact ⟨ret_bool (by rw [hz.out]; rfl), Below.refl _ _⟩
  · rw [h1] at hz
    go_enter Try.func36, Try.ntmps36
    go_wp2_with (first | (go_at_call 54; refine (between_c _ _ _ _).mono ?_; rintro e w' ⟨rfl, rfl⟩) | (go_at_call 59; refine H.out.mono ?_; rintro e W1 ⟨rfl, hb⟩))
    go_ret
    exact ⟨ret_bool (by rw [hz.out]; rfl), hb⟩

set_option maxRecDepth 100000 in
set_option maxHeartbeats 400000 in
theorem rValid_c (s : Option Addr) (cap : Nat) (k : List (List Clm)) (w : World) (h : Ker w s cap k) :
    Calls Try.prog 27 #[.slice s k.length cap] w fun e w' => e = .returned (.bool (vldB k)) ∧ Below w.heap.size w w' := by
  have hl := h.len
  replace h := Lib.hid h
  go_enter Try.func27, Try.ntmps27
  go_wp2
  go_loopw [7] (fun i wr => ∃ i0 : Nat, i0 ≤ k.length ∧ i = .int .i64 i0 ∧ Below w.heap.size w wr ∧ Hid (∀ j (hj : j < k.length), j < i0 → kernB k[j] = true)) (fun i _ => k.length - (intOf i).toNat)
  case atStart => exact ⟨0, by omega, rfl, Below.refl _ _, fun j _ h => absurd h (by omega)⟩
  case round =>
    obtain ⟨i0, hk, rfl, hB, hno⟩ := hrel
    by_cases hlt : i0 < k.length
    · obtain ⟨b, off, sa, sc, rfl, hb, h0, hsl, hn, hcp⟩ := (up_of hB h).out.ss.at hlt
      have Hc := Lib.hid (rIsKernel_c sa sc k[i0] wr hsl (h.out.lens _ (List.getElem_mem hlt)) hcp)
      clear hsl hn hcp
      cases hp : kernB k[i0] with
      | false =>
        have hz : false = vldB k := by
          have : k.all kernB = false := by rw [List.all_eq_false]; exact ⟨_, List.getElem_mem hlt, by simp [hp]⟩
          simp [vldB, this]
        replace hz := Lib.hid hz
        go_wp2_with (refine Hc.out.mono ?_; rintro e W1 ⟨rfl, hb1⟩; rw [hp])
        go_ret
        exact ⟨ret_bool hz.out, Up.to hB hb1 hB.size⟩
      | true =>
        go_wp2_with (refine Hc.out.mono ?_; rintro e W1 ⟨rfl, hb1⟩; rw [hp])
        go_roundw
        case rel => exact ⟨i0 + 1, by omega, by go_num, Up.to hB hb1 hB.size, fun j hj h => by rcases Nat.lt_succ_iff_lt_or_eq.1 h with h | rfl; exact hno j hj h; exact hp⟩
        case measure => simp [intOf]; omega
    · obtain rfl : i0 = k.length := by omega
      have hz : vldB k = bw 1 k.length 3 := by
        have : k.all kernB = true := by
          rw [List.all_eq_true]; intro x hx; obtain ⟨j, hj, rfl⟩ := List.getElem_of_mem hx; exact hno j hj hj
        simp [vldB, this]
      replace hz := Lib.hid hz
      by_cases h1 : (1 : Int) ≤ (k.length : Int)
      all_goals
        go_wp2
        go_ret
        exact ⟨ret_bool (by rw [hz.out]; simp [bw]; omega), hB⟩

theorem isPeriod_c (p : Int) (w : World) : Calls Try.prog 50 #[.int .i64 p] w fun e w' => e = .returned (.bool (bw 1 p 20)) ∧ w = w' := by
  by_cases h1 : 1 ≤ p
  all_goals
    go_enter Try.func50, Try.ntmps50
    go_wp2
    go_ret
    exact ⟨ret_bool (by simp [bw]; omega), rfl⟩
theorem isOne_c (s : Option Addr) (cap : Nat) (n : Nat) (i : Int) (w : World) : Calls Try.prog 57 #[.slice s n cap, .int .i64 i] w fun e w' => e = .returned (.bool (bw 0 i (n - 1))) ∧ w = w' := by
  by_cases h1 : 0 ≤ i
  all_goals
    go_enter Try.func57, Try.ntmps57
    go_wp2
    go_ret
    exact ⟨ret_bool (by rw [Bool.eq_iff_iff]; simp [bw]; omega), rfl⟩
def chkE (k : List (List Clm)) (p : Int) : Int := if vldB k then (if bw 1 p 20 then 0 else 2) else 90
set_option maxRecDepth 100000 in
theorem checked_c (s : Option Addr) (cap : Nat) (k : List (List Clm)) (p : Int) (w : World) (h : Ker w s cap k) :
    Calls Try.prog 49 #[.slice s k.length cap, .int .i64 p] w fun e w' => e = .returned (.int .i64 (chkE k p)) ∧ Below w.heap.size w w' := by
  have H := Lib.hid (valid_c s cap k w h)
  clear h
  cases h1 : vldB k
  · have hz : chkE k p = 90 := by simp [chkE, h1]
    rw [hz]
    rw [h1] at H
    go_enter Try.func49, Try.ntmps49
    go_wp2_with (go_at_call 36; refine H.out.mono ?_; rintro e W1 ⟨rfl, hb⟩)
    go_ret
    exact ⟨rfl, hb⟩
  · cases h2 : bw 1 p 20
    · have hz : chkE k p = 2 := by simp [chkE, h1, h2]
      rw [hz]
      rw [h1] at H
      go_enter Try.func49, Try.ntmps49
      go_wp2_with (first | (go_at_call 54; refine (between_c _ _ _ _).mono ?_; rintro e w' ⟨rfl, rfl⟩) | (go_at_call 36; refine H.out.mono ?_; rintro e W1 ⟨rfl, hb⟩))
      go_ret
      exact ⟨rfl, hb⟩
    · have hz : chkE k p = 0 := by simp [chkE, h1, h2]
      rw [hz]
      rw [h1] at H
      go_enter Try.func49, Try.ntmps49
      go_wp2_with (first | (go_at_call 54; refine (between_c _ _ _ _).mono ?_; rintro e w' ⟨rfl, rfl⟩) | (go_at_call 36; refine H.out.mono ?_; rintro e W1 ⟨rfl, hb⟩))
      go_ret
      exact ⟨rfl, hb⟩

def timB (k : List (List Clm)) (p : Int) (s : List Int) : Bool := decide (s.length = k.length) && s.all fun n => bw 0 n (p - 1)
def askE (k : List (List Clm)) (p : Int) (s : List Int) : Int := if vldB k then (if bw 1 p 20 && timB k p s then 0 else 2) else 90
theorem timed1_c (b : Nat) (n p : Int) (w : World) (hp : 1 ≤ p ∧ p ≤ 20) (h : w.cell? ⟨b, 0, none⟩ = some (.int .i64 p)) : Calls Try.prog 70 #[.int .i64 n, .pointer (some ⟨b, 0, none⟩)] w fun e w' => e = .returned (.bool (!bw 0 n (p - 1))) ∧ Below w.heap.size w w' := by
  have hw : IntKind.i64.wrap (p - 1) = p - 1 := by rw [IntKind.wrap_i64]; omega
  go_enter Try.func70, Try.ntmps70
  go_wp2_with (first | (go_at_call 54; refine (between_c _ _ _ _).mono ?_; rintro e w' ⟨rfl, rfl⟩))
  go_ret
  exact ⟨rfl, Below.refl _ _⟩
set_option maxRecDepth 100000 in
theorem timed_c (s : Option Addr) (cap : Nat) (k : List (List Clm)) (p : Int) (t : Option Addr) (ct : Nat) (st : List Int) (w : World) (g : Ints w t st) (hp : 1 ≤ p ∧ p ≤ 20) :
    Calls Try.prog 53 #[.slice s k.length cap, .int .i64 p, .slice t st.length ct] w fun e w' => e = .returned (.bool (timB k p st)) ∧ Below w.heap.size w w' := by
  have hl := g.len
  have g' : Ints (w.alloc (.cells #[.int .i64 p] 3)) t st := up_of ((Below.refl w.heap.size w).alloc (Nat.le_refl _) _) g
  have hc : (w.alloc (.cells #[.int .i64 p] 3)).cell? ⟨w.heap.size, 0, none⟩ = some (.int .i64 p) := by simp [go_sem]
  have H := fun W (hW : Below (w.alloc (.cells #[.int .i64 p] 3)).heap.size (w.alloc (.cells #[.int .i64 p] 3)) W) => int_containsf 70 #[.pointer (some ⟨w.heap.size, 0, none⟩)] (fun _ _ => by simp [go_sem]) t ct st (fun n => !bw 0 n (p - 1)) W
    (show Ints W t st from up_of hW g').sl hl (fun q _ V hV => timed1_c w.heap.size q p V hp (Up.cell hV (Up.cell hW hc)))
  clear hc g'
  have hz : (st.length == k.length) = true → timB k p st = (!(st.any fun n => !bw 0 n (p - 1))) := fun h => by rw [any_not]; simp at h; simp [timB, h]
  have hz2 : (st.length == k.length) = false → timB k p st = false := fun h => by simp at h; simp [timB, h]
  replace H := Lib.hid H
  clear g
  cases h1 : (st.length == k.length)
  · have hz := Lib.hid (hz2 h1)
    have h1' : ((st.length : Int) == (k.length : Int)) = false := by simp at h1 ⊢; omega
    clear hz2 h1
    go_enter Try.func53, Try.ntmps53
    go_wp2
    go_ret
    exact ⟨ret_bool (by rw [hz.out]), (Below.refl _ w).alloc (Nat.le_refl _) _⟩
  · have hz := Lib.hid (hz h1)
    have h1' : ((st.length : Int) == (k.length : Int)) = true := by simp at h1 ⊢; omega
    clear hz2 h1
    go_enter Try.func53, Try.ntmps53
    go_wp2_with (go_at_call 69; refine (H.out _ (Below.refl _ _)).mono ?_; rintro e W1 ⟨rfl, hb⟩)
    go_ret
    exact ⟨ret_bool (by rw [hz.out]), ((Below.refl _ w).alloc (Nat.le_refl _) _).trans (hb.mono (by simp))⟩

set_option maxRecDepth 100000 in
set_option maxHeartbeats 400000 in
theorem asked_c (s : Option Addr) (cap : Nat) (k : List (List Clm)) (p : Int) (t : Option Addr) (ct : Nat) (st : List Int) (w : World) (h : Ker w s cap k) (g : Ints w t st) :
    Calls Try.prog 56 #[.slice s k.length cap, .int .i64 p, .slice t st.length ct] w fun e w' => e = .returned (.int .i64 (askE k p st)) ∧ Below w.heap.size w w' := by
  have hl := g.len
  have hkl := h.len
  have H := Lib.hid (rValid_c s cap k w h)
  clear h
  replace g := Lib.hid g
  cases h1 : vldB k
  · have hz : askE k p st = 90 := by simp [askE, h1]
    rw [hz]
    rw [h1] at H
    go_enter Try.func56, Try.ntmps56
    go_wp2_with (go_at_call 27; refine H.out.mono ?_; rintro e W1 ⟨rfl, hb⟩)
    go_ret
    exact ⟨rfl, hb⟩
  rw [h1] at H
  cases h2 : bw 1 p 20
  · have hz : askE k p st = 2 := by simp [askE, h1, h2]
    rw [hz]
    go_enter Try.func56, Try.ntmps56
    go_wp2_with (first | (go_at_call 50; refine (isPeriod_c _ _).mono ?_; rintro e w' ⟨rfl, rfl⟩) | (go_at_call 27; refine H.out.mono ?_; rintro e W1 ⟨rfl, hb⟩))
    go_ret
    exact ⟨rfl, hb⟩
  cases h3 : (st.length != k.length)
  case true =>
    have hz : askE k p st = 2 := by simp at h3; simp [askE, h1, h2, timB, h3]
    have h3' : ((st.length : Int) != (k.length : Int)) = true := by simp at h3 ⊢; omega
    clear h3
    rw [hz]
    go_enter Try.func56, Try.ntmps56
    go_wp2_with (first | (go_at_call 50; refine (isPeriod_c _ _).mono ?_; rintro e w' ⟨rfl, rfl⟩) | (go_at_call 27; refine H.out.mono ?_; rintro e W1 ⟨rfl, hb⟩))
    go_ret
    exact ⟨rfl, hb⟩
  have hbad : ∀ j (hj : j < st.length), bw 0 st[j] (p - 1) = false → askE k p st = 2 := fun j hj hb => by
    have : (st.all fun n => bw 0 n (p - 1)) = false := by rw [List.all_eq_false]; exact ⟨_, List.getElem_mem hj, by simp [hb]⟩
    simp [askE, h1, h2, timB, this]
  have hgood : (∀ j (hj : j < st.length), bw 0 st[j] (p - 1) = true) → askE k p st = 0 := fun hb => by
    have : (st.all fun n => bw 0 n (p - 1)) = true := by rw [List.all_eq_true]; intro x hx; obtain ⟨j, hj, rfl⟩ := List.getElem_of_mem hx; exact hb j hj
    simp at h3
    simp [askE, h1, h2, timB, this, h3]
  have h3' : ((st.length : Int) != (k.length : Int)) = false := by simp at h3 ⊢; omega
  obtain ⟨er, her⟩ : ∃ er, askE k p st = er := ⟨_, rfl⟩
  rw [her] at hbad hgood ⊢
  clear her h3
  replace hbad := Lib.hid hbad; replace hgood := Lib.hid hgood
  go_enter Try.func56, Try.ntmps56
  go_wp2_with (first | (go_at_call 50; refine (isPeriod_c _ _).mono ?_; rintro e w' ⟨rfl, rfl⟩) | (go_at_call 27; refine H.out.mono ?_; rintro e W1 ⟨rfl, hb⟩))
  clear H
  go_loopw [24] (fun i wr => ∃ i0 : Nat, i0 ≤ st.length ∧ i = .int .i64 i0 ∧ Below w.heap.size w wr ∧ Hid (∀ j (hj : j < st.length), j < i0 → bw 0 st[j] (p - 1) = true)) (fun i _ => st.length - (intOf i).toNat)
  case atStart => exact ⟨0, by omega, rfl, hb, fun j _ h => absurd h (by omega)⟩
  case round =>
    clear hb
    obtain ⟨i0, hk, rfl, hB, hno⟩ := hrel
    by_cases hlt : i0 < st.length
    · obtain ⟨b, off, rfl, hb, q0⟩ := (up_of hB g).out.sl.int_at hlt
      have hbad0 := Lib.hid (hbad.out i0 hlt)
      have hok : bw 0 st[i0] (p - 1) = true → ∀ j (hj : j < st.length), j < i0 + 1 → bw 0 st[j] (p - 1) = true := fun hp j hj h => by rcases Nat.lt_succ_iff_lt_or_eq.1 h with h | rfl; exact hno j hj h; exact hp
      obtain ⟨v, hv⟩ : ∃ v, st[i0] = v := ⟨_, rfl⟩
      rw [hv] at q0 hbad0 hok
      replace hok := Lib.hid hok; replace hv := Lib.hid hv
      have g1 : (0 : Int) ≤ (i0 : Int) := by omega
      have g2 : (i0 : Int) < (st.length : Int) := by omega
      by_cases c1 : v < 0
      · have hz := hbad0.out (by simp [bw]; omega)
        subst hz
        go_wp2
        go_ret
        exact ⟨rfl, hB⟩
      by_cases c2 : p ≤ v
      · have hz := hbad0.out (by simp [bw]; omega)
        subst hz
        go_wp2
        go_ret
        exact ⟨rfl, hB⟩
      · have hz := Lib.hid (hok.out (by simp [bw]; omega))
        go_wp2
        go_roundw
        case rel => exact ⟨i0 + 1, by omega, by go_num, hB, hz.out⟩
        case measure => simp [intOf]; omega
    · obtain rfl : i0 = st.length := by omega
      have hz := hgood.out fun j hj => hno j hj hj
      subst hz
      go_wp2
      go_ret
      exact ⟨rfl, hB⟩
end Go.Proofs.Ytgeoehokojijdaa
