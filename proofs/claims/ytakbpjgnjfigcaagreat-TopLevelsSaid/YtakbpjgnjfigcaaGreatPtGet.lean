/- A point's coordinates by their numbers. -/
import Derived.Test.YtakbpjgnjfigcaaGreatB2
import Derived.Test.YtakbpjgnjfigcaaGreatB1
namespace Go.Proofs.YtakbpjgnjfigcaaGreat
open Go.RowKit

def Pt.get (p : Pt) (i : Nat) : Int := if i = 0 then p.x else if i = 1 then p.y else p.z
theorem ixk (p : Pt) (w : World) {k : Nat} (hk : k < 3) : (Instr.index 30 (.agg #[.int .i64 p.x, .int .i64 p.y, .int .i64 p.z]) (.int .i64 k)).run Tryz.prog w = .ok (.int .i64 (p.get k)) w := by
  have h : k = 0 ∨ k = 1 ∨ k = 2 := by omega
  rcases h with rfl | rfl | rfl
  · exact ix0 _ _ _ _
  · exact ix1 _ _ _ _
  · exact ix2 _ _ _ _
theorem flat_no {p : Pt} {n m : Int} {k : Nat} (hk : k < 3) (h : flatC k (p.get k) n m = false) : flatB p n m = false := by
  have : k = 0 ∨ k = 1 ∨ k = 2 := by omega
  rcases this with rfl | rfl | rfl
  all_goals
    simp [Pt.get] at h
    simp [flatB, h]
theorem flat_yes {p : Pt} {n m : Int} (h : ∀ k : Nat, k < 3 → flatC k (p.get k) n m = true) : flatB p n m = true := by
  have h0 := h 0 (by omega); have h1 := h 1 (by omega); have h2 := h 2 (by omega)
  simp [Pt.get] at h0 h1 h2
  simp [flatB, h0, h1, h2]

end Go.Proofs.YtakbpjgnjfigcaaGreat
