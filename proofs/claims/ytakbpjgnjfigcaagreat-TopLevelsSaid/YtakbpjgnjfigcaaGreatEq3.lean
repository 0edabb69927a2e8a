/- Equality of points. -/
import Derived.Test.YtakbpjgnjfigcaaGreatB1
import Derived.Laws.StructEq
namespace Go.Proofs.YtakbpjgnjfigcaaGreat
open Go.RowKit

theorem run_equalIn_int3 {P : Program} (w : World) (d : Nat) (t e : TypeId) (k : IntKind) (a0 a1 a2 b0 b1 b2 : Int)
    (ht : P.underlying t = some (.array 3 e)) (he : P.underlying e = some (.int k)) (hs : ∀ w, (sizeOf e).run P w = .ok 1 w) (hg : ∀ w, (isAgg e).run P w = .ok false w) :
    (Op.equalIn (d + 1 + 1) t (.agg #[.int k a0, .int k a1, .int k a2]) (.agg #[.int k b0, .int k b1, .int k b2])).run P w = .ok (a0 == b0 && (a1 == b1 && a2 == b2)) w := by
  rw [Op.equalIn]
  simp only [Sem.run_bind, run_underlying ht, Result.andThen_ok, hs]
  simp only [Std.Legacy.Range.forIn_eq_forIn_range', Std.Legacy.Range.size]
  simp [Sem.run_bind, Result.andThen_ok, hs, hg, List.range', Op.equalIn, run_underlying he, part]
  by_cases h0 : a0 = b0 <;> by_cases h1 : a1 = b1 <;> by_cases h2 : a2 = b2 <;> simp [h0, h1, h2]
set_option maxRecDepth 100000 in
theorem pt_eql (w : World) (d : Nat) (a0 a1 a2 b0 b1 b2 : Int) : (Op.equalIn (d + 1 + 1) 30 (.agg #[.int .i64 a0, .int .i64 a1, .int .i64 a2]) (.agg #[.int .i64 b0, .int .i64 b1, .int .i64 b2])).run Tryz.prog w = .ok (a0 == b0 && (a1 == b1 && a2 == b2)) w :=
  run_equalIn_int3 w d _ 3 .i64 _ _ _ _ _ _ rfl rfl (fun _ => rfl) (fun _ => rfl)
end Go.Proofs.YtakbpjgnjfigcaaGreat
