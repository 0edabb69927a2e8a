/- The iterator over all starts. -/
import Derived.Test.YtgeoehokojijdaaMix8
import Derived.Test.YtgeoehokojijdaaIterM
import Derived.Sort.LoopGhostIn
import Derived.Laws.MakeOwn
namespace Go.Proofs.Ytgeoehokojijdaa
open Go.RowKit

attribute [local go_sem] Oper.semAt_some

def intsA (l : List Int) : Array Value := (l.map (Value.int .i64)).toArray
theorem intsA_size (l : List Int) : (intsA l).size = l.length := by simp [intsA]
theorem intsA_at {l : List Int} {i : Nat} (h : i < l.length) : (intsA l)[i]? = some (.int .i64 l[i]) := by simp [intsA, h]
theorem intsA_set (l : List Int) (i : Nat) (v : Int) : (intsA l).setIfInBounds i (.int .i64 v) = intsA (l.set i v) := by simp [intsA]
theorem run_make_ints (n : Nat) (hn : n ≤ 1000000) (w : World) : (Instr.makeSlice 28 (.int .i64 n) (.int .i64 n)).run Try.prog w = .ok (.slice (some ⟨w.heap.size, 0, none⟩) n n) (w.alloc (.cells (intsA (List.replicate n 0)) 3)) := by
  have hi : ∃ i, Try.prog.info? 3 = some i ∧ i.zero = some (.int .i64 0) ∧ i.size = 1 ∧ i.bytes = 8 := info_parts (by kernel_rfl)
  obtain ⟨i, hi, hz, hs, hb⟩ := hi
  have h := run_makeSlice (P := Try.prog) (w := w) 28 3 i _ Try.underlying28 hi hz .i64 .i64 n n (by omega) (by omega) (by rw [hs]; omega) (by rw [hb]; omega) (by omega)
  rw [h, hs]
  have e : madeCells (Value.cells (.int .i64 0)) ((n : Int).toNat * 1) = intsA (List.replicate n 0) := by
    apply Array.ext
    · simp [size_madeCells, intsA]
    · intro j h1 h2
      simp [madeCells, intsA, Value.cells, Nat.mod_one]
  rw [e]
  simp

theorem digs_take (p : Nat) (hp : 0 < p) : ∀ (n c i : Nat), c ≤ n → digs p n i = digs p (n - c) (i / p ^ c) ++ digs p c (i % p ^ c)
  | n, 0, i, _ => by simp [digs]
  | 0, c + 1, i, h => by omega
  | n + 1, c + 1, i, h => by
    have ih := digs_take p hp n c (i / p) (by omega)
    simp only [digs]
    rw [ih, Nat.div_div_eq_div_mul, ← Nat.pow_succ', show n + 1 - (c + 1) = n - c by omega]
    have e1 : i / p % p ^ c = i % p ^ (c + 1) / p := by rw [Nat.pow_succ', Nat.mod_mul_right_div_self]
    have e2 : i % p ^ (c + 1) % p = i % p := by rw [Nat.pow_succ', Nat.mod_mul_right_mod]
    rw [e1, e2, List.append_assoc]
/-- The digits with the last c of them 0, when those were the greatest. -/
def carr (p n i c : Nat) : List Int := digs p (n - c) (i / p ^ c) ++ List.replicate c 0
theorem carr_len (p n i c : Nat) (h : c ≤ n) : (carr p n i c).length = n := by simp [carr, digs_len]; omega
theorem carr_zero (p n i : Nat) : carr p n i 0 = digs p n i := by simp [carr]
theorem carr_at (p n i c : Nat) (h : c < n) : (carr p n i c)[n - 1 - c]? = some (((i / p ^ c % p : Nat)) : Int) := by
  unfold carr
  obtain ⟨m, hm⟩ : ∃ m, n - c = m + 1 := ⟨n - c - 1, by omega⟩
  rw [hm, digs, List.append_assoc, List.getElem?_append_right (by rw [digs_len]; omega), digs_len, show n - 1 - c - m = 0 by omega]
  rfl
theorem carr_step (p n i c : Nat) (h : c < n) : (carr p n i c).set (n - 1 - c) 0 = carr p n i (c + 1) := by
  unfold carr
  obtain ⟨m, hm⟩ : ∃ m, n - c = m + 1 := ⟨n - c - 1, by omega⟩
  rw [hm, digs, List.append_assoc, List.set_append_right _ _ (by rw [digs_len]; omega), digs_len, show n - 1 - c - m = 0 by omega, show n - (c + 1) = m by omega, Nat.pow_succ, Nat.div_div_eq_div_mul]
  rfl
theorem carr_next (p n i c : Nat) (hp : 0 < p) (h : c < n) (hd : p ^ c ∣ i + 1) (hlt : i / p ^ c % p + 1 < p) : (carr p n i c).set (n - 1 - c) ((i / p ^ c % p : Nat) + 1) = digs p n (i + 1) := by
  have e := digs_take p hp n c (i + 1) (by omega)
  have hq : (i + 1) / p ^ c = i / p ^ c + 1 := by
    obtain ⟨q, hq⟩ := hd
    have hpc : 0 < p ^ c := Nat.pow_pos hp
    have h1 : 0 < q := by
      rcases Nat.eq_zero_or_pos q with h0 | h0
      · subst h0; omega
      · exact h0
    rw [hq, Nat.mul_div_cancel_left _ hpc]
    have : i = p ^ c * (q - 1) + (p ^ c - 1) := by
      have : p ^ c * q = p ^ c * (q - 1) + p ^ c := by
        conv => lhs; rw [show q = q - 1 + 1 by omega, Nat.mul_add, Nat.mul_one]
      omega
    rw [this, Nat.mul_add_div hpc, Nat.div_eq_of_lt (by omega)]; omega
  have hr : (i + 1) % p ^ c = 0 := Nat.mod_eq_zero_of_dvd hd
  rw [e, hq, hr, digs_zero]
  unfold carr
  obtain ⟨m, hm⟩ : ∃ m, n - c = m + 1 := ⟨n - c - 1, by omega⟩
  rw [hm, digs, digs, List.append_assoc, List.append_assoc, List.set_append_right _ _ (by rw [digs_len]; omega), digs_len, show n - 1 - c - m = 0 by omega]
  have e1 : (i / p ^ c + 1) / p = i / p ^ c / p := by
    rw [Nat.add_div hp, if_neg (by rw [Nat.mod_eq_of_lt (show 1 < p by omega)]; omega), Nat.div_eq_of_lt (show 1 < p by omega)]; simp
  have e2 : (i / p ^ c + 1) % p = i / p ^ c % p + 1 := by
    rw [Nat.add_mod, Nat.mod_eq_of_lt (show 1 < p by omega), Nat.mod_eq_of_lt hlt]
  rw [e1, e2]
  rfl
theorem carr_dvd (p i c : Nat) (hp : 0 < p) (hd : p ^ c ∣ i + 1) (h : i / p ^ c % p + 1 = p) : p ^ (c + 1) ∣ i + 1 := by
  obtain ⟨q, hq⟩ := hd
  have hpc : 0 < p ^ c := Nat.pow_pos hp
  have h1 : 0 < q := by
    rcases Nat.eq_zero_or_pos q with h0 | h0
    · subst h0; omega
    · exact h0
  have h2 : i / p ^ c = q - 1 := by
    have : i = p ^ c * (q - 1) + (p ^ c - 1) := by
      have : p ^ c * q = p ^ c * (q - 1) + p ^ c := by
        conv => lhs; rw [show q = q - 1 + 1 by omega, Nat.mul_add, Nat.mul_one]
      omega
    rw [this, Nat.mul_add_div hpc, Nat.div_eq_of_lt (by omega)]; omega
  rw [h2] at h
  have h3 : p ∣ q := by
    refine ⟨(q - 1) / p + 1, ?_⟩
    have := Nat.div_add_mod (q - 1) p
    rw [Nat.mul_add, Nat.mul_one]; omega
  obtain ⟨r, hr⟩ := h3
  exact ⟨r, by rw [hq, hr, Nat.pow_succ, Nat.mul_assoc]⟩
end Go.Proofs.Ytgeoehokojijdaa
