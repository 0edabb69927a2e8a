/- Results that lie in cells: points, elements, variables. -/
import Derived.Test.YtadmnlkgefbhcaaB1
namespace Go.Proofs.Ytadmnlkgefbhcaa
open Go.RowKit

theorem resC1 {fn : Func} {p : Tmp} {tp : TypeId} {tmps : Array Value} {P : Program} {w : World} {a : Addr} {va : Value} (h : fn.results = #[.cell p tp])
    (hp : tmps.getD p undef = .pointer (some a)) (la : (loadVar tp a).run P w = .ok va w) : (results fn tmps).run P w = .ok va w := by
  simp only [results, h]
  simp only [Array.getD_eq_getD_getElem?] at hp
  simp [Sem.run_bind, Result.andThen, hp, asAddr, la]
theorem resCT {fn : Func} {p u : Tmp} {tp : TypeId} {tmps : Array Value} {P : Program} {w : World} {a : Addr} {va vu : Value} (h : fn.results = #[.cell p tp, .tmp u])
    (hp : tmps.getD p undef = .pointer (some a)) (hu : tmps.getD u undef = vu) (la : (loadVar tp a).run P w = .ok va w) : (results fn tmps).run P w = .ok (.tuple #[va, vu]) w := by
  simp only [results, h]
  simp only [Array.getD_eq_getD_getElem?] at hp hu
  simp [Sem.run_bind, Result.andThen, hp, hu, asAddr, la]
theorem resTCT {fn : Func} {u p v : Tmp} {tp : TypeId} {tmps : Array Value} {P : Program} {w : World} {a : Addr} {va vu vv : Value} (h : fn.results = #[.tmp u, .cell p tp, .tmp v])
    (hu : tmps.getD u undef = vu) (hp : tmps.getD p undef = .pointer (some a)) (hv : tmps.getD v undef = vv) (la : (loadVar tp a).run P w = .ok va w) : (results fn tmps).run P w = .ok (.tuple #[vu, va, vv]) w := by
  simp only [results, h]
  simp only [Array.getD_eq_getD_getElem?] at hp hu hv
  simp [Sem.run_bind, Result.andThen, hp, hu, hv, asAddr, la]
theorem loadPt {X : World} {b1 : Nat} {cs : Array Value} (rl : Row X b1 29 cs) (h3 : cs.size = 3) : (loadVar 29 ⟨b1, 0, none⟩).run Try.prog X = .ok (.agg cs) X :=
  run_loadVar_row X b1 _ _ cs (0, 0) _ rl Try.underlying29 rfl (by rw [h3]; kernel_rfl)
theorem loadEl {X : World} {b1 : Nat} {cs : Array Value} (rl : Row X b1 38 cs) (h4 : cs.size = 4) : (loadVar 38 ⟨b1, 0, none⟩).run Try.prog X = .ok (.agg cs) X :=
  run_loadVar_row X b1 _ _ cs (0, 0) _ rl Try.underlying38 rfl (by rw [h4]; kernel_rfl)
end Go.Proofs.Ytadmnlkgefbhcaa
