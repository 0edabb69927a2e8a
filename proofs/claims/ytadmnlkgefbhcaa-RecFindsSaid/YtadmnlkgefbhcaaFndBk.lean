/- slices.Backward over numbers. -/
import Derived.Test.YtadmnlkgefbhcaaFndLaw
import Derived.Test.YtadmnlkgefbhcaaIterP
namespace Go.Proofs.Ytadmnlkgefbhcaa
open Go.RowKit Go.Maps

attribute [local go_sem] Oper.semAt_some

def encK (x : Nat × Int) : Array Value := #[.int .i64 x.1, .int .i64 x.2]
def bkI (ss : List Int) : List (Nat × Int) := ((List.range ss.length).map fun i => (i, ss.getD i 0)).reverse
theorem bkI_len (ss : List Int) : (bkI ss).length = ss.length := by simp [bkI]
theorem bkI_at {ss : List Int} {m : Nat} (hm : m < ss.length) : (bkI ss)[ss.length - 1 - m]'(by rw [bkI_len]; omega) = (m, ss[m]) := by
  unfold bkI
  rw [List.getElem_reverse]
  simp only [List.length_map, List.length_range, List.getElem_map, List.getElem_range]
  have e : ss.length - 1 - (ss.length - 1 - m) = m := by omega
  rw [e, List.getD_eq_getElem?_getD, List.getElem?_eq_getElem hm]; rfl
theorem bkI_take {ss : List Int} {m : Nat} (hm : m < ss.length) : (bkI ss).take (ss.length - m) = (bkI ss).take (ss.length - (m + 1)) ++ [(m, ss[m])] := by
  have h := List.take_succ_eq_append_getElem (l := bkI ss) (i := ss.length - (m + 1)) (by rw [bkI_len]; omega)
  have e : ss.length - (m + 1) + 1 = ss.length - m := by omega
  rw [e] at h
  rw [h]
  have e2 : ss.length - (m + 1) = ss.length - 1 - m := by omega
  have h3 := bkI_at hm
  simp only [e2, h3]
set_option maxRecDepth 100000 in
set_option maxHeartbeats 1000000 in
theorem backI_iter (b : Nat) (s : Option Addr) (cap : Nat) (ss : List Int) (w : World) (hc : w.cell? ⟨b, 0, none⟩ = some (.slice s ss.length cap)) (hs : SlS intE w s ss) (hl : ss.length ≤ 5000) (S : Nat → Prop) (hS : ∀ k, S k → k < w.heap.size) (hb : S b) (hsb : ss ≠ [] → ∀ k o, s = some ⟨k, o, none⟩ → S k) :
    SeqP Try.prog 133 #[.pointer (some ⟨b, 0, none⟩)] encK S (bkI ss) w := by
  intro l J W hW hY h0
  have hK0 : KeepUp S w W := KeepUp.of_below hW hS
  have hsl : ∀ A, KeepUp S w A → SlS intE A s ss := fun A h => by
    by_cases h0 : ss = []
    · exact .inl h0
    rcases hs with c | ⟨b, off, e, hb, c⟩
    · exact .inl c
    · refine .inr ⟨b, off, e, Nat.lt_of_lt_of_le hb h.size, fun j u hj => ?_⟩
      rw [World.cell?_of_block (a := ⟨b, off + j, none⟩) (h.same b (hsb h0 b off e))]
      exact c j u hj
  have htk := fun (m : Nat) hm => bkI_take (ss := ss) (m := m) hm
  have hta : (bkI ss).take (ss.length - 0) = bkI ss := by rw [Nat.sub_zero, ← bkI_len ss, List.take_length]
  have ht0 : (bkI ss).take (ss.length - ss.length) = [] := by rw [Nat.sub_self]; rfl
  rw [← ht0] at h0
  have hpre := fun n => List.take_prefix n (bkI ss)
  obtain ⟨BK, hBK⟩ : ∃ x, bkI ss = x := ⟨_, rfl⟩
  rw [hBK] at hta ht0 h0 hY ⊢
  simp only [hBK] at htk hpre
  have e0 := hK0.cell hb hc
  have w1 : IntKind.i64.wrap ((ss.length : Int) - 1) = (ss.length : Int) - 1 := i64_small (by omega)
  replace hsl := Lib.hid hsl; replace hY := Lib.hid hY; replace htk := Lib.hid htk; replace hta := Lib.hid hta; replace ht0 := Lib.hid ht0; replace hpre := Lib.hid hpre; replace hBK := Lib.hid hBK; replace h0 := Lib.hid h0
  refine callsIn_of_wp Try.func133 rfl trivial ?_ rfl
  simp only [Try.ntmps133, List.size_toArray, List.length_cons, List.length_nil, Nat.reduceAdd, Nat.reduceSub, Array.replicate_succ, Array.replicate_zero, List.push_toArray, List.append_toArray, List.nil_append, List.cons_append]
  gi_wp2
  gi_loopw [3] (fun i wr => ∃ n : Nat, n ≤ ss.length ∧ i = .int .i64 ((n : Int) - 1) ∧ J (BK.take (ss.length - n)) wr ∧ KeepUp S w wr) (fun i _ => (intOf i + 1).toNat)
  case atStart => exact ⟨ss.length, Nat.le_refl _, rfl, h0.out, hK0⟩
  case round =>
    clear e0 h0
    obtain ⟨n, hn, rfl, hj, hR⟩ := hrel
    have e0 := hR.cell hb hc
    by_cases hn0 : n = 0
    · subst hn0
      rw [hta.out] at hj
      gi_wp2
      go_end0
      exact ⟨⟨_, rfl⟩, hj⟩
    · obtain ⟨m, rfl⟩ : ∃ m, n = m + 1 := ⟨n - 1, by omega⟩
      have hm : m < ss.length := by omega
      obtain ⟨bh, oh, e, hbh, q0⟩ := (hsl.out _ hR).int_at hm
      have ht := htk.out m hm
      have hp := hpre.out (ss.length - m)
      obtain ⟨x, hx⟩ : ∃ x, ss[m] = x := ⟨_, rfl⟩
      rw [hx] at q0 ht
      rw [ht] at hp
      obtain ⟨fn, tmps, assign, body, hy, hRd⟩ := hY.out _ (m, x) wr hj hp
      dsimp only [encK] at hy
      have c1 : ((m + 1 : Nat) : Int) - 1 = (m : Int) := by omega
      have i1 : (0 : Int) ≤ (m : Int) := by omega
      have i2 : (m : Int) < (ss.length : Int) := by omega
      have w2 : IntKind.i64.wrap ((m : Int) - 1) = (m : Int) - 1 := i64_small (by omega)
      replace hx := Lib.hid hx; replace ht := Lib.hid ht; replace hp := Lib.hid hp
      subst e
      clear hj
      rw [c1]
      gi_wp2
      refine hRd.mono ?_
      rintro e Z ⟨rfl, hjZ, hkZ⟩
      rw [← ht.out] at hjZ
      replace hjZ := Lib.hid hjZ
      gi_wp2
      go_roundw
      case rel => exact ⟨m, by omega, rfl, hjZ.out, hR.trans hkZ⟩
      case measure => simp [intOf] <;> omega
set_option maxRecDepth 100000 in
theorem backI_c (s : Option Addr) (n cap : Nat) (w : World) :
    Calls Try.prog 114 #[.slice s n cap] w fun e w' => e = .returned (.func (.func 133) #[] #[.pointer (some ⟨w.heap.size, 0, none⟩)]) ∧ w' = w.alloc (.cells #[.slice s n cap] 53) := by
  go_enter Try.func114, Try.ntmps114
  go_wp2
  go_ret
  exact ⟨rfl, rfl⟩
theorem bkI_next {ss : List Int} {pre : List (Nat × Int)} {x : Nat × Int} (h : pre ++ [x] <+: bkI ss) : ∃ m, ∃ (hm : m < ss.length), pre.length = ss.length - (m + 1) ∧ x = (m, ss[m]) := by
  have hl := h.length_le
  rw [List.length_append, bkI_len] at hl
  simp only [List.length_cons, List.length_nil] at hl
  have hm : ss.length - (pre.length + 1) < ss.length := by omega
  refine ⟨ss.length - (pre.length + 1), hm, by omega, ?_⟩
  have h1 := bkI_at hm
  obtain ⟨t, ht⟩ := h
  have h2 : (bkI ss)[pre.length]? = some x := by rw [← ht]; simp
  have e : ss.length - 1 - (ss.length - (pre.length + 1)) = pre.length := by omega
  simp only [e] at h1
  rw [List.getElem?_eq_getElem (by rw [bkI_len]; omega), h1] at h2
  exact (Option.some.inj h2).symm
end Go.Proofs.Ytadmnlkgefbhcaa
