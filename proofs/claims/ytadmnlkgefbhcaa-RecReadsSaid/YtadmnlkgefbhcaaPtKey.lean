/- The points as keys of a map. -/
import Derived.Test.YtadmnlkgefbhcaaB1
import Derived.Test.YtadmnlkgefbhcaaB6
import Derived.DeepKeys4
import Derived.Laws.OwnMore
namespace Go.Proofs.Ytadmnlkgefbhcaa
open Go.RowKit Go.Maps

theorem law_pt : WideMaps.KeyLaw Try.prog 29 := deep_law_laid (by kernel_rfl) (m := 2) (by omega) (of_decide_eq_true (by kernel_rfl)) (by kernel_rfl) (by kernel_rfl)
theorem key_ptk : Keyed Try.prog 29 := Keyed.of_law law_pt
def pvK (p : Pt) : Value := .agg #[.int .i64 p.x, .int .i64 p.y, .int .i64 p.z]
def ptK (p : Pt) : Lit := .string (keyBytes [.int .i64 p.x, .int .i64 p.y, .int .i64 p.z])
theorem wf_64 {v : Int} (h : -9223372036854775808 ≤ v ∧ v ≤ 9223372036854775807) : (Lit.int .i64 v).wf = true := by
  have : IntKind.i64.min = -9223372036854775808 := rfl
  have : IntKind.i64.max = 9223372036854775807 := rfl
  simp [Lit.wf]; omega
theorem keyLits_int {P : Program} {t : TypeId} {q : IntKind} (ht : P.underlying t = some (.int q)) {n : Int} (hw : (Lit.int q n).wf = true) (d : Nat) : P.keyLits (d + 1) t [.int q n] = some [.int q n] := by
  simp [Program.keyLits, ht, hw]
theorem keyOf_arr3 {P : Program} {k t : TypeId} (hk : P.underlying k = some (.array 3 t)) (hc : P.cellsOf k = 3) (ht : P.underlying t = some (.int .i64)) (hct : P.cellsOf t = 1)
    (hkt : P.keyType k = true) (hsz : 1 ≤ P.types.size)
    {a b c : Int} (ha : (Lit.int .i64 a).wf = true) (hb : (Lit.int .i64 b).wf = true) (hc3 : (Lit.int .i64 c).wf = true) : keyOf P k (.agg #[.int .i64 a, .int .i64 b, .int .i64 c]) = some (.string (keyBytes [.int .i64 a, .int .i64 b, .int .i64 c])) := by
  have hf : (Value.agg #[.int .i64 a, .int .i64 b, .int .i64 c]).formed P k = true := by simp [Value.formed, hk, hc]
  have hl : P.keyLits (P.types.size + 1) k [.int .i64 a, .int .i64 b, .int .i64 c] = some [.int .i64 a, .int .i64 b, .int .i64 c] := by
    obtain ⟨n, hn⟩ : ∃ n, P.types.size = n + 1 := ⟨P.types.size - 1, by omega⟩
    rw [hn]
    have h0 := keyLits_int ht ha n
    have h1 := keyLits_int ht hb n
    have h2 := keyLits_int ht hc3 n
    unfold Program.keyLits
    rw [hk]
    have hr : List.range 3 = [0, 1, 2] := rfl
    simp [hc, hct, hr, h0, h1, h2]
  unfold keyOf
  rw [hk]
  simp only [hkt, hf, Bool.and_self, if_true, Value.cells]
  rw [hl]
  rfl
theorem key_of_pt {p : Pt} (h : p.I64) : keyOf Try.prog 29 (pvK p) = some (ptK p) :=
  keyOf_arr3 Try.underlying29 (by kernel_rfl) Try.underlying3 (by kernel_rfl) (by kernel_rfl) (of_decide_eq_true (by kernel_rfl)) (wf_64 h.1) (wf_64 h.2.1) (wf_64 h.2.2)
end Go.Proofs.Ytadmnlkgefbhcaa
