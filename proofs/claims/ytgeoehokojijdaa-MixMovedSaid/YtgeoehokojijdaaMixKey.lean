/- The claims as keys of a map. -/
import Derived.Test.YtgeoehokojijdaaMixSpec
import Derived.Test.YtgeoehokojijdaaMap
import Derived.DeepKeys4
import Derived.Laws.OwnMore
namespace Go.Proofs.Ytgeoehokojijdaa
open Go.RowKit Go.Maps

theorem law_clm : WideMaps.KeyLaw Try.prog 65 := deep_law_laid (by kernel_rfl) (m := 2) (by omega) (of_decide_eq_true (by kernel_rfl)) (by kernel_rfl) (by kernel_rfl)
theorem key_clm : Keyed Try.prog 65 := Keyed.of_law law_clm
def clmV (c : Clm) : Value := .agg #[.int .i64 c.cell, .int .i64 c.time]
def clmK (c : Clm) : Lit := .string (keyBytes [.int .i64 c.cell, .int .i64 c.time])
theorem wf_64 {v : Int} (h : -9223372036854775808 ≤ v ∧ v ≤ 9223372036854775807) : (Lit.int .i64 v).wf = true := by
  have : IntKind.i64.min = -9223372036854775808 := rfl
  have : IntKind.i64.max = 9223372036854775807 := rfl
  simp [Lit.wf]; omega
theorem clm_ok {c : Clm} (h : clmOk c = true) : (0 ≤ c.cell ∧ c.cell ≤ 15) ∧ 0 ≤ c.time ∧ c.time ≤ 50 := by
  simpa only [clmOk, Bool.and_eq_true, bw_iff] using h
theorem keyLits_int {P : Program} {t : TypeId} {q : IntKind} (ht : P.underlying t = some (.int q)) {n : Int} (hw : (Lit.int q n).wf = true) (d : Nat) : P.keyLits (d + 1) t [.int q n] = some [.int q n] := by
  simp [Program.keyLits, ht, hw]
theorem keyOf_two {P : Program} {k t : TypeId} {f0 f1 : Field} (hk : P.underlying k = some (.struct #[f0, f1])) (hc : P.cellsOf k = 2) (ht : P.underlying t = some (.int .i64)) (hct : P.cellsOf t = 1)
    (t0 : f0.type = t) (t1 : f1.type = t) (o0 : f0.offset = 0) (o1 : f1.offset = 1) (n0 : (f0.name != "_") = true) (n1 : (f1.name != "_") = true) (hkt : P.keyType k = true) (hsz : 1 ≤ P.types.size)
    {a b : Int} (ha : (Lit.int .i64 a).wf = true) (hb : (Lit.int .i64 b).wf = true) : keyOf P k (.agg #[.int .i64 a, .int .i64 b]) = some (.string (keyBytes [.int .i64 a, .int .i64 b])) := by
  have hf : (Value.agg #[.int .i64 a, .int .i64 b]).formed P k = true := by simp [Value.formed, hk, hc]
  have hl : P.keyLits (P.types.size + 1) k [.int .i64 a, .int .i64 b] = some [.int .i64 a, .int .i64 b] := by
    obtain ⟨n, hn⟩ : ∃ n, P.types.size = n + 1 := ⟨P.types.size - 1, by omega⟩
    rw [hn]
    have h0 := keyLits_int ht ha n
    have h1 := keyLits_int ht hb n
    unfold Program.keyLits
    rw [hk]
    simp only [hc, List.length_cons, List.length_nil, List.mapM_cons, List.mapM_nil, t0, t1, o0, o1, hct, List.drop_zero, List.take_succ_cons, List.take_zero, List.drop_succ_cons, h0, h1]
    simp only [bne_iff_ne, ne_eq] at n0 n1
    simp [n0, n1]
  unfold keyOf
  rw [hk]
  simp only [hkt, hf, Bool.and_self, if_true, Value.cells]
  rw [hl]
  rfl
theorem key_of {c : Clm} (h : clmOk c = true) : keyOf Try.prog 65 (clmV c) = some (clmK c) := by
  have h1 := clm_ok h
  exact keyOf_two Try.underlying65 (by kernel_rfl) Try.underlying3 (by kernel_rfl) (by kernel_rfl) (by kernel_rfl) (by kernel_rfl) (by kernel_rfl) (by kernel_rfl) (by kernel_rfl) (by kernel_rfl) (of_decide_eq_true (by kernel_rfl)) (wf_64 (by omega)) (wf_64 (by omega))
end Go.Proofs.Ytgeoehokojijdaa
