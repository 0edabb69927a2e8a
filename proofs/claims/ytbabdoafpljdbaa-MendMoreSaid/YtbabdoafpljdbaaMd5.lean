/- slices.Backward over rows. -/
import Derived.Test.YtbabdoafpljdbaaMd4
import Derived.Test.YtbabdoafpljdbaaIterP
namespace Go.Proofs.Ytbabdoafpljdbaa
open Go.RowKit

attribute [local go_sem] Oper.semAt_some

def encB (x : Nat × Sv) : Array Value := #[.int .i64 x.1, .slice x.2.addr x.2.len x.2.cap]
def bkL (ss : List Sv) : List (Nat × Sv) := ((List.range ss.length).map fun i => (i, ss.getD i svD)).reverse
theorem bkL_len (ss : List Sv) : (bkL ss).length = ss.length := by simp [bkL]
theorem bkL_at {ss : List Sv} {m : Nat} (hm : m < ss.length) : (bkL ss)[ss.length - 1 - m]'(by rw [bkL_len]; omega) = (m, ss[m]) := by
  unfold bkL
  rw [List.getElem_reverse]
  simp only [List.length_map, List.length_range, List.getElem_map, List.getElem_range]
  have e : ss.length - 1 - (ss.length - 1 - m) = m := by omega
  rw [e, List.getD_eq_getElem?_getD, List.getElem?_eq_getElem hm]; rfl
theorem bkL_take {ss : List Sv} {m : Nat} (hm : m < ss.length) : (bkL ss).take (ss.length - m) = (bkL ss).take (ss.length - (m + 1)) ++ [(m, ss[m])] := by
  have h := List.take_succ_eq_append_getElem (l := bkL ss) (i := ss.length - (m + 1)) (by rw [bkL_len]; omega)
  have e : ss.length - (m + 1) + 1 = ss.length - m := by omega
  rw [e] at h
  rw [h]
  have e2 : ss.length - (m + 1) = ss.length - 1 - m := by omega
  have h3 := bkL_at hm
  simp only [e2, h3]
set_option maxRecDepth 100000 in
set_option maxHeartbeats 1000000 in
theorem back_iter (b : Nat) (s : Option Addr) (cap : Nat) (ss : List Sv) (w : World) (hc : w.cell? ⟨b, 0, none⟩ = some (.slice s ss.length cap)) (hs : SlS svE w s ss) (hl : ss.length ≤ 1000) (S : Nat → Prop) (hS : ∀ k, S k → k < w.heap.size) (hb : S b) (hsb : ∀ k o, s = some ⟨k, o, none⟩ → S k) :
    SeqP Try.prog 90 #[.pointer (some ⟨b, 0, none⟩)] encB S (bkL ss) w := by
  intro l J W hW hY h0
  have hK0 : KeepUp S w W := KeepUp.of_below hW hS
  have hsl : ∀ A, KeepUp S w A → SlS svE A s ss := fun A h => hs.block h.size fun k o e _ => h.same k (hsb k o e)
  have htk := fun (m : Nat) hm => bkL_take (ss := ss) (m := m) hm
  have hta : (bkL ss).take (ss.length - 0) = bkL ss := by rw [Nat.sub_zero, ← bkL_len ss, List.take_length]
  have ht0 : (bkL ss).take (ss.length - ss.length) = [] := by rw [Nat.sub_self]; rfl
  rw [← ht0] at h0
  have hpre := fun n => List.take_prefix n (bkL ss)
  obtain ⟨BK, hBK⟩ : ∃ x, bkL ss = x := ⟨_, rfl⟩
  rw [hBK] at hta ht0 h0 hY ⊢
  simp only [hBK] at htk hpre
  have e0 := hK0.cell hb hc
  have w1 : IntKind.i64.wrap ((ss.length : Int) - 1) = (ss.length : Int) - 1 := i64_small (by omega)
  replace hsl := Lib.hid hsl; replace hY := Lib.hid hY; replace htk := Lib.hid htk; replace hta := Lib.hid hta; replace ht0 := Lib.hid ht0; replace hpre := Lib.hid hpre; replace hBK := Lib.hid hBK; replace h0 := Lib.hid h0
  refine callsIn_of_wp Try.func90 rfl trivial ?_ rfl
  simp only [Try.ntmps90, List.size_toArray, List.length_cons, List.length_nil, Nat.reduceAdd, Nat.reduceSub, Array.replicate_succ, Array.replicate_zero, List.push_toArray, List.append_toArray, List.nil_append, List.cons_append]
  gi_wp2
  gi_loopw [3] (fun i wr => ∃ n : Nat, n ≤ ss.length ∧ i = .int .i64 ((n : Int) - 1) ∧ J (BK.take (ss.length - n)) wr ∧ KeepUp S w wr) (fun i _ => (intOf i + 1).toNat)
  case atStart => exact ⟨ss.length, Nat.le_refl _, rfl, h0.out, hK0⟩
  case round =>
    clear e0 h0
    obtain ⟨n, hn, rfl, hj, hR⟩ := hrel
    have e0 := hR.cell hb hc
    by_cases hn0 : n = 0
    · subst hn0
      rw [hta.out] at hj
      gi_wp2
      go_end0
      exact ⟨⟨_, rfl⟩, hj⟩
    · obtain ⟨m, rfl⟩ : ∃ m, n = m + 1 := ⟨n - 1, by omega⟩
      have hm : m < ss.length := by omega
      obtain ⟨bh, oh, e, hbh, hch⟩ := (hsl.out _ hR).at hm
      have q0 := hch 0 _ rfl
      simp only [svE, Nat.mul_one, Nat.add_zero] at q0
      have ht := htk.out m hm
      have hp := hpre.out (ss.length - m)
      obtain ⟨x, hx⟩ : ∃ x, ss[m] = x := ⟨_, rfl⟩
      rw [hx] at q0 ht
      rw [ht] at hp
      obtain ⟨fn, tmps, assign, body, hy, hRd⟩ := hY.out _ (m, x) wr hj hp
      dsimp only [encB] at hy
      have c1 : ((m + 1 : Nat) : Int) - 1 = (m : Int) := by omega
      have i1 : (0 : Int) ≤ (m : Int) := by omega
      have i2 : (m : Int) < (ss.length : Int) := by omega
      have w2 : IntKind.i64.wrap ((m : Int) - 1) = (m : Int) - 1 := i64_small (by omega)
      replace hx := Lib.hid hx; replace ht := Lib.hid ht; replace hp := Lib.hid hp
      subst e
      clear hj hch
      rw [c1]
      gi_wp2
      refine hRd.mono ?_
      rintro e Z ⟨rfl, hjZ, hkZ⟩
      rw [← ht.out] at hjZ
      replace hjZ := Lib.hid hjZ
      gi_wp2
      go_roundw
      case rel => exact ⟨m, by omega, rfl, hjZ.out, hR.trans hkZ⟩
      case measure => simp [intOf] <;> omega
set_option maxRecDepth 100000 in
theorem backward_c (s : Option Addr) (n cap : Nat) (w : World) :
    Calls Try.prog 81 #[.slice s n cap] w fun e w' => e = .returned (.func (.func 90) #[] #[.pointer (some ⟨w.heap.size, 0, none⟩)]) ∧ w' = w.alloc (.cells #[.slice s n cap] 63) := by
  go_enter Try.func81, Try.ntmps81
  go_wp2
  go_ret
  exact ⟨rfl, rfl⟩
end Go.Proofs.Ytbabdoafpljdbaa
