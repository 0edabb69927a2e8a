/- The search for levels: the reference. -/
import Derived.Test.YtakbpjgnjfigcaaGreatB11
import Derived.Test.YtakbpjgnjfigcaaGreatB7
namespace Go.Proofs.YtakbpjgnjfigcaaGreat
open Go.RowKit Go.Maps

def elA (y : Ar) : Value := .agg #[.int .i64 y.v, .int .i64 y.p.x, .int .i64 y.p.y, .int .i64 y.p.z]
/-- What visit hands back. -/
def VisRet (us : Uses) (N bl k : Nat) (L : List Int) (w : World) (e : Ending) (w' : World) : Prop :=
  ∃ M : List Int, w'.ownsRow bl 3 1 (.slice (some ⟨bl, 0, none⟩) N N) N (intE.all M) ∧ Chg (fun j => j = bl) w w' ∧
    ((e = .returned (.bool true) ∧ Srch us N M ∧ Went L M ∧ Gd us k ∧ M.getD k 0 = ((lvl us k : Nat) : Int)) ∨ (e = .returned (.bool false) ∧ ∃ j, j < N ∧ ¬ Gd us j))
theorem getD_at {L : List Int} {k : Nat} (h : k < L.length) : L.getD k 0 = L[k] := by rw [List.getD_eq_getElem?_getD, List.getElem?_eq_getElem h]; rfl
section
variable {g : Nat} {n : Int} {s : Option Addr} {cap : Nat} {l : List Iq} {s2 : Option Addr} {cq : Nat} {K : List Vv} {sp : Option Addr} {cp mb : Nat} {P : List Pt}
end
end Go.Proofs.YtakbpjgnjfigcaaGreat
