/- The elements as keys of a map; the map of those that were seen. -/
import Derived.Test.YtakbpjgnjfigcaaGreatB7
import Derived.Test.YtakbpjgnjfigcaaGreatElEq
namespace Go.Proofs.YtakbpjgnjfigcaaGreat
open Go.RowKit Go.Maps

theorem law_el : WideMaps.KeyLaw Tryz.prog 90 := deep_law_laid (by kernel_rfl) (m := 3) (by omega) (of_decide_eq_true (by kernel_rfl)) (by kernel_rfl) (by kernel_rfl)
theorem key_elk : Keyed Tryz.prog 90 := Keyed.of_law law_el
def evK (y : Ar) : Value := .agg #[.int .i64 y.v, .int .i64 y.p.x, .int .i64 y.p.y, .int .i64 y.p.z]
def elK (y : Ar) : Lit := .string (keyBytes [.int .i64 y.v, .int .i64 y.p.x, .int .i64 y.p.y, .int .i64 y.p.z])
theorem keyLits_arr3 {P : Program} {k t : TypeId} (hk : P.underlying k = some (.array 3 t)) (hc : P.cellsOf k = 3) (ht : P.underlying t = some (.int .i64)) (hct : P.cellsOf t = 1)
    {a b c : Int} (ha : (Lit.int .i64 a).wf = true) (hb : (Lit.int .i64 b).wf = true) (hc3 : (Lit.int .i64 c).wf = true) (d : Nat) : P.keyLits (d + 2) k [.int .i64 a, .int .i64 b, .int .i64 c] = some [.int .i64 a, .int .i64 b, .int .i64 c] := by
  have h0 := keyLits_int ht ha d
  have h1 := keyLits_int ht hb d
  have h2 := keyLits_int ht hc3 d
  unfold Program.keyLits
  rw [hk]
  have hr : List.range 3 = [0, 1, 2] := rfl
  simp [hc, hct, hr, h0, h1, h2]
set_option maxRecDepth 100000 in
theorem key_of_el {y : Ar} (h : y.I64) : keyOf Tryz.prog 90 (evK y) = some (elK y) := by
  have hce : Tryz.prog.cellsOf 90 = 4 := by kernel_rfl
  have hf : (evK y).formed Tryz.prog 90 = true := by simp [Value.formed, evK, Tryz.underlying90, hce]
  have hkt : Tryz.prog.keyType 90 = true := by kernel_rfl
  obtain ⟨m, hm⟩ : ∃ m, Tryz.prog.types.size = m + 2 := ⟨Tryz.prog.types.size - 2, by have : 2 ≤ Tryz.prog.types.size := of_decide_eq_true (by kernel_rfl); omega⟩
  have h0 := keyLits_int Tryz.underlying3 (wf_64 h.1) (m + 1)
  have h1 := keyLits_arr3 Tryz.underlying30 cells_pt Tryz.underlying3 cells_int (wf_64 h.2.1) (wf_64 h.2.2.1) (wf_64 h.2.2.2) m
  have hl : Tryz.prog.keyLits (Tryz.prog.types.size + 1) 90 (evK y).cells.toList = some [.int .i64 y.v, .int .i64 y.p.x, .int .i64 y.p.y, .int .i64 y.p.z] := by
    rw [hm]
    unfold Program.keyLits evK
    rw [Tryz.underlying90]
    simp [Value.cells, hce, cells_int, cells_pt, h0, h1]
  unfold keyOf
  rw [Tryz.underlying90]
  simp only [hkt, hf, Bool.and_self, if_true]
  rw [hl]
  rfl
theorem elK_inj {a b : Ar} (ha : a.I64) (hb : b.I64) (h : elK a = elK b) : a = b := by
  have h1 := key_of_el ha
  have h2 := key_of_el hb
  rw [h] at h1
  have := key_elk.inj h1 h2
  simp only [evK, Value.agg.injEq, Array.mk.injEq, List.cons.injEq, Value.int.injEq, true_and, and_true] at this
  obtain ⟨v, ⟨x, y, z⟩⟩ := a
  obtain ⟨v', ⟨x', y', z'⟩⟩ := b
  simp at this ⊢; exact this
def elD (L : List Ar) : Nat → DataW Unit
  | 0 => .map []
  | k + 1 => (elD L k).put (elK (L.getD k default)) (.lit (.bool true))
theorem elD_isMap (L : List Ar) : ∀ k, IsMap (elD L k)
  | 0 => isMap_empty
  | k + 1 => (elD_isMap L k).put _ _
theorem elD_put {L : List Ar} {k : Nat} (hk : k < L.length) : elD L (k + 1) = (elD L k).put (elK L[k]) (.lit (.bool true)) := by
  simp [elD, List.getElem?_eq_getElem hk]
theorem elD_at {L : List Ar} {y : Ar} (hy : y.I64) : ∀ {k : Nat}, k ≤ L.length → (∀ q ∈ L, q.I64) → (elD L k).atKey (elK y) (.lit (.bool false)) = .lit (.bool ((L.take k).contains y))
  | 0, _, _ => by simp [elD]; rfl
  | k + 1, hk, hL => by
    have ih := elD_at hy (k := k) (by omega) hL
    have hk' : k < L.length := by omega
    have hq := hL _ (List.getElem_mem hk')
    rw [elD_put hk', List.take_succ_eq_append_getElem hk']
    by_cases h : L[k] = y
    · rw [h, atKey_put_same (elD_isMap L k) (k := elK y) trivial]
      simp
    · have hne : elK y ≠ elK L[k] := fun e => h (elK_inj hy hq e).symm
      rw [atKey_put_other hne, ih]
      have h2 : (L.take k ++ [L[k]]).contains y = (L.take k).contains y := by
        rw [List.contains_eq_any_beq, List.contains_eq_any_beq, List.any_append]
        simp [show ¬ y = L[k] from fun e => h e.symm]
      rw [h2]
end Go.Proofs.YtakbpjgnjfigcaaGreat
