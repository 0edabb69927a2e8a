/- Equality of cells. -/
import Derived.Test.YtbabdoafpljdbaaMdSpec
import Derived.Laws.StructEq
namespace Go.Proofs.Ytbabdoafpljdbaa
open Go.RowKit

theorem run_equalIn_int2 {P : Program} (w : World) (d : Nat) (t e : TypeId) (k : IntKind) (a0 a1 b0 b1 : Int)
    (ht : P.underlying t = some (.array 2 e)) (he : P.underlying e = some (.int k)) (hs : ∀ w, (sizeOf e).run P w = .ok 1 w) (hg : ∀ w, (isAgg e).run P w = .ok false w) :
    (Op.equalIn (d + 1 + 1) t (.agg #[.int k a0, .int k a1]) (.agg #[.int k b0, .int k b1])).run P w = .ok (a0 == b0 && a1 == b1) w := by
  rw [Op.equalIn]
  simp only [Sem.run_bind, run_underlying ht, Result.andThen_ok, hs]
  simp only [Std.Legacy.Range.forIn_eq_forIn_range', Std.Legacy.Range.size]
  simp [Sem.run_bind, Result.andThen_ok, hs, hg, List.range', Op.equalIn, run_underlying he, part]
  by_cases h0 : a0 = b0 <;> by_cases h1 : a1 = b1 <;> simp [h0, h1]
set_option maxRecDepth 100000 in
@[go_sem high] theorem cel_eql (w : World) (a0 a1 b0 b1 : Int) : (Op.equalIn 10000 26 (.agg #[.int .i64 a0, .int .i64 a1]) (.agg #[.int .i64 b0, .int .i64 b1])).run Try.prog w = .ok (a0 == b0 && a1 == b1) w :=
  run_equalIn_int2 w 9998 _ 3 .i64 _ _ _ _ rfl rfl (fun _ => rfl) (fun _ => rfl)
end Go.Proofs.Ytbabdoafpljdbaa
