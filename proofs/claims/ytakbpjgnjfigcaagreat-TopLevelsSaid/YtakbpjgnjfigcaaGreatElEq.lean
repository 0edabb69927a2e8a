/- Equality of elements. -/
import Derived.Test.YtakbpjgnjfigcaaGreatEq3
import Derived.Test.YtakbpjgnjfigcaaGreatB6
namespace Go.Proofs.YtakbpjgnjfigcaaGreat
open Go.RowKit

instance : DecidableEq Ar := fun a b => if h : a.v = b.v ∧ a.p = b.p then .isTrue (by cases a; cases b; simp_all) else .isFalse fun e => h (by rw [e]; exact ⟨rfl, rfl⟩)
set_option maxRecDepth 100000 in
theorem elm_eql (a b : Ar) (w : World) : (Op.equalIn 10000 90 (.agg #[.int .i64 a.v, .int .i64 a.p.x, .int .i64 a.p.y, .int .i64 a.p.z]) (.agg #[.int .i64 b.v, .int .i64 b.p.x, .int .i64 b.p.y, .int .i64 b.p.z])).run Tryz.prog w = .ok (decide (a = b)) w := by
  rw [show (10000 : Nat) = 9999 + 1 from rfl, run_equalIn_agg w 9999 90 _ _ (by kernel_rfl) (by kernel_rfl)]
  simp only [Program.fieldsOf, Tryz.underlying90]
  have h2 : ∀ (x y : Int) w, (Op.equalIn 9999 3 (.int .i64 x) (.int .i64 y)).run Tryz.prog w = .ok (x == y) w := fun x y w => run_equalIn_int w 9998 _ _ .i64 _ _ Tryz.underlying3
  have p0 : ∀ (x y z u : Value) (w : World), (part 3 #[x, y, z, u] 0).run Tryz.prog w = .ok x w := fun x y z u w => by simp [part, go_sem]
  have p1 : ∀ (x y z u : Value) (w : World), (part 30 #[x, y, z, u] 1).run Tryz.prog w = .ok (.agg #[y, z, u]) w := fun x y z u w => by simp [part, go_sem]
  have h3 : ∀ (a0 a1 a2 b0 b1 b2 : Int) w, (Op.equalIn 9999 30 (.agg #[.int .i64 a0, .int .i64 a1, .int .i64 a2]) (.agg #[.int .i64 b0, .int .i64 b1, .int .i64 b2])).run Tryz.prog w = .ok (a0 == b0 && (a1 == b1 && a2 == b2)) w := fun a0 a1 a2 b0 b1 b2 w => pt_eql w 9997 _ _ _ _ _ _
  obtain ⟨v, ⟨x, y, z⟩⟩ := a
  obtain ⟨v', ⟨x', y', z'⟩⟩ := b
  by_cases e0 : v = v' <;> by_cases e1 : x = x' <;> by_cases e2 : y = y' <;> by_cases e3 : z = z' <;> simp [Op.eqFields, p0, p1, Sem.run_bind, h2, h3, e0, e1, e2, e3]
end Go.Proofs.YtakbpjgnjfigcaaGreat
