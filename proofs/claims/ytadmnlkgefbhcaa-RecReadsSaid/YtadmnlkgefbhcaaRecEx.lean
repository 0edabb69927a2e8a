/- There is always an order by counting; levels are at most the elements. -/
import Derived.Test.YtadmnlkgefbhcaaKhn
namespace Go.Proofs.Ytadmnlkgefbhcaa

theorem Khn.row {us : Uses} {N i : Nat} : ∀ (b t : Nat) (out : List Nat) (wait : List Int), Khn us N i t out wait → i < out.length → (usrs us N (out.getD i N)).length - t ≤ b → t ≤ (usrs us N (out.getD i N)).length →
    ∃ out' wait', Khn us N i (usrs us N (out'.getD i N)).length out' wait' ∧ i < out'.length := by
  intro b
  induction b with
  | zero =>
    intro t out wait h hi hb ht
    have e : t = (usrs us N (out.getD i N)).length := by omega
    subst e
    exact ⟨out, wait, h, hi⟩
  | succ b ih =>
    intro t out wait h hi hb ht
    by_cases hlt : t < (usrs us N (out.getD i N)).length
    · obtain ⟨-, -, -, h1, h2⟩ := h.step hi hlt rfl
      by_cases hz : wait.getD (usrs us N (out.getD i N))[t] 0 - 1 = 0
      · have h3 := h2 hz
        have hg : (out ++ [(usrs us N (out.getD i N))[t]]).getD i N = out.getD i N := getD_snoc_lt hi
        exact ih _ _ _ h3 (by simp; omega) (by rw [hg]; omega) (by rw [hg]; omega)
      · exact ih _ _ _ (h1 hz) hi (by omega) (by omega)
    · have e : t = (usrs us N (out.getD i N)).length := by omega
      subst e
      exact ⟨out, wait, h, hi⟩
theorem Khn.ex {us : Uses} {N : Nat} : ∀ (a i : Nat) (out : List Nat) (wait : List Int), Khn us N i 0 out wait → N - i ≤ a → ∃ out wait, Ordd us N out wait := by
  intro a
  induction a with
  | zero =>
    intro i out wait h ha
    have h1 := nodup_len N out h.nd h.lt
    have h2 := h.ile
    have e : i = out.length := by omega
    subst e
    exact ⟨out, wait, h.done⟩
  | succ a ih =>
    intro i out wait h ha
    by_cases hi : i < out.length
    · obtain ⟨out', wait', h1, h2⟩ := Khn.row _ 0 out wait h hi (Nat.le_refl _) (Nat.zero_le _)
      have h3 := h1.next h2 rfl
      have h4 := nodup_len N out' h3.nd h3.lt
      exact ih (i + 1) out' wait' h3 (by omega)
    · have h2 := h.ile
      have e : i = out.length := by omega
      subst e
      exact ⟨out, wait, h.done⟩
theorem ordd_ex (us : Uses) (N : Nat) : ∃ out wait, Ordd us N out wait :=
  Khn.ex N 0 _ _ (Khn.start (us := us) (N := N) (out := free us N) (wait := wtK us N N 0) rfl (wtK_len _ _ _ _) (fun k hk => wtK_all hk)) (by omega)
theorem lvl_bd {us : Uses} {N : Nat} (hus : ∀ k, k < N → ∀ u ∈ us k, u < N) {k : Nat} (hk : k < N) (hg : Gd us k) : lvl us k ≤ N := by
  obtain ⟨out, wait, h⟩ := ordd_ex us N
  obtain ⟨j, hj, e⟩ := List.getElem_of_mem (h.has hus hk hg)
  have h1 := h.lvl_le j hj
  have h2 := h.le
  rw [e] at h1
  omega
end Go.Proofs.Ytadmnlkgefbhcaa
