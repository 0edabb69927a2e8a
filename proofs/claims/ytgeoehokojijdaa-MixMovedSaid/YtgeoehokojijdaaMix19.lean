/- Whether a kernel is alone: the program and the reference. -/
import Derived.Test.YtgeoehokojijdaaMix13
namespace Go.Proofs.Ytgeoehokojijdaa
open Go.RowKit

theorem ker_sub {w : World} {b off cap : Nat} {k : List (List Clm)} (h : Ker w (some ⟨b, off, none⟩) cap k) {i : Nat} (hi : i < k.length) : Ker w (some ⟨b, off + i, none⟩) (cap - i) [k[i]] := by
  obtain ⟨b', off', sa, sc, e, hb, hc, hsl, hn, hcp⟩ := h.ss.at hi
  cases e
  have hc2 := h.capl
  refine ⟨⟨[⟨sa, k[i].length, sc⟩], .inr ⟨b, off + i, rfl, hb, ?_⟩, rfl, ?_⟩, by simp, ?_, by simp; omega, fun h => by cases h⟩
  · intro j u hj
    have : j = 0 := by
      have := (List.getElem?_eq_some_iff.1 hj).1
      simp [Elt.all, svE] at this; omega
    subst this
    simp [Elt.all, svE] at hj
    subst hj
    exact hc
  · intro j h1 h2
    have : j = 0 := by simpa using h1
    subst this
    exact ⟨rfl, hsl, hn, hcp⟩
  · intro l hl
    simp at hl; subst hl
    exact h.lens _ (List.getElem_mem hi)
theorem ker_one {w : World} {b t cap : Nat} {sa : Option Addr} {l : List Clm} (hc : w.cell? ⟨b, 0, none⟩ = some (.slice sa l.length cap)) (hs : SlS clmE w sa l) (hl : l.length ≤ 9223372036854775807) (hn : sa = none → cap = 0) (hcp : l.length ≤ cap) (_ht : t = t) : Ker w (some ⟨b, 0, none⟩) 1 [l] := by
  refine ⟨⟨[⟨sa, l.length, cap⟩], .inr ⟨b, 0, rfl, World.block_lt_of_cell? w _ hc, ?_⟩, rfl, ?_⟩, by simp, ?_, by simp, fun h => by cases h⟩
  · intro j u hj
    have : j = 0 := by
      have := (List.getElem?_eq_some_iff.1 hj).1
      simp [Elt.all, svE] at this; omega
    subst this
    simp [Elt.all, svE] at hj
    subst hj
    exact hc
  · intro j h1 h2
    have : j = 0 := by simpa using h1
    subst this
    exact ⟨rfl, hs, hn, hcp⟩
  · intro l' hl'
    simp at hl'; subst hl'; exact hl
theorem Ints.zero {w : World} {b : Nat} (hc : w.cell? ⟨b, 0, none⟩ = some (.int .i64 0)) : Ints w (some ⟨b, 0, none⟩) [0] := by
  refine ⟨.inr ⟨b, 0, rfl, World.block_lt_of_cell? w _ hc, ?_⟩, by simp⟩
  intro j u hj
  have : j = 0 := by
    have := (List.getElem?_eq_some_iff.1 hj).1
    simp [Elt.all, intE] at this; omega
  subst this
  simp [Elt.all, intE] at hj
  subst hj
  exact hc
def alE (k : List (List Clm)) (i p : Int) : Int := if chkE k p = 0 then (if bw 0 i (k.length - 1) then 0 else 2) else chkE k p
def alV (k : List (List Clm)) (i p : Int) : Bool := decide (alE k i p = 0) && goodB [k.getD i.toNat []] p [0]
theorem vldB_one {k : List (List Clm)} (h : vldB k = true) {l : List Clm} (hl : l ∈ k) : vldB [l] = true := by
  simp only [vldB, Bool.and_eq_true, List.all_eq_true] at h ⊢
  exact ⟨rfl, fun x hx => by simp at hx; subst hx; exact h.2 _ hl⟩
set_option maxRecDepth 100000 in
set_option maxHeartbeats 1000000 in
theorem Alone_c (s : Option Addr) (cap : Nat) (k : List (List Clm)) (i p : Int) (w : World) (h : Ker w s cap k) (hi : -9223372036854775808 ≤ i ∧ i ≤ 9223372036854775807) :
    Calls Try.prog 30 #[.slice s k.length cap, .int .i64 i, .int .i64 p] w fun e w' => e = .returned (.tuple #[.bool (alV k i p), .int .i64 (alE k i p)]) ∧ Below w.heap.size w w' := by
  have H := Lib.hid (checked_c s cap k p w h)
  have hkl := h.len
  by_cases h1 : chkE k p = 0
  case neg =>
    have e1 : alE k i p = chkE k p := by simp [alE, h1]
    rw [show alV k i p = false by simp [alV, e1, h1], e1]
    obtain ⟨E, hE⟩ : ∃ E, chkE k p = E := ⟨_, rfl⟩
    rw [hE] at H h1 ⊢
    have h1' : (E != 0) = true := by simpa using h1
    clear h hE h1 e1
    go_enter Try.func30, Try.ntmps30
    go_wp2_with (go_at_call 49; refine H.out.mono ?_; rintro e W1 ⟨rfl, hb⟩)
    go_ret2
    exact ⟨rfl, hb⟩
  have hv : vldB k = true ∧ bw 1 p 20 = true := by
    unfold chkE at h1
    (repeat' split at h1) <;> simp_all
  have hk3 := vldB_k hv.1
  rw [h1] at H
  have hw1 := i64_small (n := (k.length : Int) - 1) (by omega)
  cases h2 : bw 0 i (k.length - 1)
  · have e1 : alE k i p = 2 := by simp [alE, h1, h2]
    rw [show alV k i p = false by simp [alV, e1], e1]
    clear h e1 h1 hv
    go_enter Try.func30, Try.ntmps30
    go_wp2_with (first | (go_at_call 54; refine (between_c _ _ _ _).mono ?_; rintro e w' ⟨rfl, rfl⟩) | (go_at_call 49; refine H.out.mono ?_; rintro e W1 ⟨rfl, hb⟩))
    go_ret2
    exact ⟨rfl, hb⟩
  have e1 : alE k i p = 0 := by simp [alE, h1, h2]
  have hib := bw_iff.1 h2
  obtain ⟨i, rfl⟩ : ∃ n : Nat, i = n := ⟨i.toNat, by omega⟩
  have hil : i < k.length := by omega
  rw [show alV k i p = goodB [k[i]] p [0] by simp [alV, e1, List.getElem?_eq_getElem hil], e1]
  have hp := bw_iff.1 hv.2
  have hG := fun b off W t (h : Ker W (some ⟨b, off, none⟩) cap k) (hc : W.cell? ⟨t, 0, none⟩ = some (.int .i64 0)) => good_c (some ⟨b, off + i, none⟩) (cap - i) [k[i]] p (some ⟨t, 0, none⟩) 1 [0] W (ker_sub h hil) (Ints.zero hc) (fun l hl c hc => vldB_c (vldB_one hv.1 (List.getElem_mem hil)) hl hc) hp rfl (fun n hn => by simp at hn; omega)
  obtain ⟨b, off, sa, sc, rfl, -, -, -, -, -⟩ := h.ss.at hil
  have hcap := h.capl
  replace hG := Lib.hid hG
  replace h := Lib.hid h
  have i1 : (0 : Int) ≤ (i : Int) := by omega
  have i2 : (i : Int) + 1 ≤ (cap : Int) := by omega
  have i3 : (i : Int) ≤ (i : Int) + 1 := by omega
  have i4 : ¬ cap = i := by omega
  have hw2 := i64_small (n := (i : Int) + 1) (by omega)
  clear hv h1 e1 hib
  go_enter Try.func30, Try.ntmps30
  go_wp2_with (first | (go_at_call 54; refine (between_c _ _ _ _).mono ?_; rintro e w' ⟨rfl, rfl⟩) | (go_at_call 49; refine H.out.mono ?_; rintro e W1 ⟨rfl, hb⟩) | (go_at_call 55; refine (hG.out b off _ W1.heap.size (up_of ((Below.refl W1.heap.size W1).alloc (Nat.le_refl _) _) (up_of hb h).out) (by simp [go_sem])).mono ?_; rintro e W2 ⟨rfl, hb2⟩))
  go_ret2
  exact ⟨rfl, (hb.alloc hb.size _).trans (hb2.mono (by have := hb.size; simp; omega))⟩
set_option maxRecDepth 100000 in
set_option maxHeartbeats 1000000 in
theorem rAlone_c (s : Option Addr) (cap : Nat) (k : List (List Clm)) (i p : Int) (w : World) (h : Ker w s cap k) (hi : -9223372036854775808 ≤ i ∧ i ≤ 9223372036854775807) :
    Calls Try.prog 31 #[.slice s k.length cap, .int .i64 i, .int .i64 p] w fun e w' => e = .returned (.tuple #[.bool (alV k i p), .int .i64 (alE k i p)]) ∧ Below w.heap.size w w' := by
  have H := Lib.hid (rValid_c s cap k w h)
  have hkl := h.len
  cases h1 : vldB k
  · have e0 : chkE k p = 90 := by simp [chkE, h1]
    have e1 : alE k i p = 90 := by simp [alE, e0]
    rw [show alV k i p = false by simp [alV, e1], e1]
    rw [h1] at H
    clear h e0 e1
    go_enter Try.func31, Try.ntmps31
    go_wp2_with (go_at_call 27; refine H.out.mono ?_; rintro e W1 ⟨rfl, hb⟩)
    go_ret2
    exact ⟨rfl, hb⟩
  rw [h1] at H
  cases h2 : bw 1 p 20
  · have e0 : chkE k p = 2 := by simp [chkE, h1, h2]
    have e1 : alE k i p = 2 := by simp [alE, e0]
    rw [show alV k i p = false by simp [alV, e1], e1]
    clear h e0 e1
    go_enter Try.func31, Try.ntmps31
    go_wp2_with (first | (go_at_call 50; refine (isPeriod_c _ _).mono ?_; rintro e w' ⟨rfl, rfl⟩) | (go_at_call 27; refine H.out.mono ?_; rintro e W1 ⟨rfl, hb⟩))
    go_ret2
    exact ⟨rfl, hb⟩
  have e0 : chkE k p = 0 := by simp [chkE, h1, h2]
  cases h3 : bw 0 i (k.length - 1)
  · have e1 : alE k i p = 2 := by simp [alE, e0, h3]
    rw [show alV k i p = false by simp [alV, e1], e1]
    clear h e0 e1
    go_enter Try.func31, Try.ntmps31
    go_wp2_with (first | (go_at_call 50; refine (isPeriod_c _ _).mono ?_; rintro e w' ⟨rfl, rfl⟩) | (go_at_call 57; refine (isOne_c _ _ _ _ _).mono ?_; rintro e w' ⟨rfl, rfl⟩) | (go_at_call 27; refine H.out.mono ?_; rintro e W1 ⟨rfl, hb⟩))
    go_ret2
    exact ⟨rfl, hb⟩
  have e1 : alE k i p = 0 := by simp [alE, e0, h3]
  have hib := bw_iff.1 h3
  obtain ⟨i, rfl⟩ : ∃ n : Nat, i = n := ⟨i.toNat, by omega⟩
  have hil : i < k.length := by omega
  rw [show alV k i p = goodB [k[i]] p [0] by simp [alV, e1, List.getElem?_eq_getElem hil], e1]
  have hp := bw_iff.1 h2
  have hask : askE [k[i]] p [0] = 0 := by
    have hv1 := vldB_one h1 (List.getElem_mem hil)
    have ht : timB [k[i]] p [0] = true := by simp [timB, bw]; omega
    simp [askE, hv1, h2, ht]
  have hG := fun W b t (h : Ker W (some ⟨b, 0, none⟩) 1 [k[i]]) (hc : W.cell? ⟨t, 0, none⟩ = some (.int .i64 0)) => rGood_c (some ⟨b, 0, none⟩) 1 [k[i]] p (some ⟨t, 0, none⟩) 1 [0] W h (Ints.zero hc)
  rw [hask, show rgB [k[i]] p [0] = goodB [k[i]] p [0] by simp [rgB, hask]] at hG
  replace hG := Lib.hid hG
  replace h := Lib.hid h
  have i1 : (0 : Int) ≤ (i : Int) := by omega
  have i2 : (i : Int) < (k.length : Int) := by omega
  clear h1 e0 e1 hib hask hp
  go_enter Try.func31, Try.ntmps31
  go_upto_region 5 with (first | (go_at_call 50; refine (isPeriod_c _ _).mono ?_; rintro e w' ⟨rfl, rfl⟩) | (go_at_call 57; refine (isOne_c _ _ _ _ _).mono ?_; rintro e w' ⟨rfl, rfl⟩) | (go_at_call 27; refine H.out.mono ?_; rintro e W1 ⟨rfl, hb⟩))
  obtain ⟨b, off, sa, sc, rfl, hbl, hc0, hsl, hn, hcp⟩ := (up_of hb h).out.ss.at hil
  have hl1 := h.out.lens _ (List.getElem_mem hil)
  have hK : ∀ o2, Ker ((W1.alloc (.cells #[.slice sa k[i].length sc] 40)).alloc o2) (some ⟨W1.heap.size, 0, none⟩) 1 [k[i]] := fun o2 => by
    have hB2 : Below W1.heap.size W1 ((W1.alloc (.cells #[.slice sa k[i].length sc] 40)).alloc o2) := ((Below.refl _ _).alloc (Nat.le_refl _) _).alloc (by simp) _
    exact ker_one (t := 0) (by simp [go_sem]) (up_of hB2 hsl) hl1 hn hcp rfl
  replace hK := Lib.hid hK
  clear hsl hn
  go_wp2_with (go_at_call 35; refine (hG.out _ W1.heap.size (W1.heap.size + 1) (hK.out _) (by simp [go_sem])).mono ?_; rintro e W2 ⟨rfl, hb2⟩)
  go_ret2
  exact ⟨rfl, ((hb.alloc hb.size _).alloc (by have := hb.size; simp; omega) _).trans (hb2.mono (by have := hb.size; simp; omega))⟩
end Go.Proofs.Ytgeoehokojijdaa
