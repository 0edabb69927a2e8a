/- Slices of slices; slices of claims. Over any program. -/
import Derived.Test.YtbpdgoedglkefaaApp
namespace Go.Proofs.Ytbpdgoedglkefaa
open Go.RowKit

section
variable {α : Type} {E : Elt α}
/-- A slice of slices whose elements are the lists k. -/
def SlSS (E : Elt α) (w : World) (s : Option Addr) (k : List (List α)) : Prop :=
  ∃ ss : List Sv, SlS svE w s ss ∧ ss.length = k.length ∧ ∀ i (h : i < k.length) (h' : i < ss.length), ss[i].len = k[i].length ∧ SlS E w ss[i].addr k[i] ∧ (ss[i].addr = none → ss[i].cap = 0) ∧ k[i].length ≤ ss[i].cap
theorem SlSS.up {W W' : World} (h : Below W.heap.size W W') {s : Option Addr} {k : List (List α)} (c : SlSS E W s k) : SlSS E W' s k := by
  obtain ⟨ss, h1, h2, h3⟩ := c
  exact ⟨ss, h1.up h, h2, fun i hi hi' => ⟨(h3 i hi hi').1, (h3 i hi hi').2.1.up h, (h3 i hi hi').2.2⟩⟩
instance {W W' : World} {s : Option Addr} {k : List (List α)} : UpF W W' (SlSS E W s k) (SlSS E W' s k) := ⟨fun h c => SlSS.up h c⟩
theorem SlSS.at {w : World} {s : Option Addr} {k : List (List α)} (c : SlSS E w s k) {i : Nat} (hi : i < k.length) :
    ∃ b off sa sc, s = some ⟨b, off, none⟩ ∧ b < w.heap.size ∧ w.cell? ⟨b, off + i, none⟩ = some (.slice sa k[i].length sc) ∧ SlS E w sa k[i] ∧ (sa = none → sc = 0) ∧ k[i].length ≤ sc := by
  obtain ⟨ss, h1, h2, h3⟩ := c
  obtain ⟨b, off, e, hb, hc⟩ := h1.at (i := i) (by omega)
  obtain ⟨z1, z2, z3⟩ := h3 i hi (by omega)
  refine ⟨b, off, ss[i].addr, ss[i].cap, e, hb, ?_, z2, z3⟩
  have := hc 0 _ rfl
  simp only [svE, Nat.mul_one, Nat.add_zero] at this
  rw [this, z1]
theorem SlSS.nil {w : World} {s : Option Addr} : SlSS E w s [] := ⟨[], SlS.nil, rfl, fun i h => absurd h (by simp)⟩
theorem SlSS.none_nil {w : World} {k : List (List α)} (c : SlSS E w none k) : k = [] := by
  obtain ⟨ss, h1, h2, _⟩ := c
  have := h1.none_nil
  subst this
  exact List.length_eq_zero_iff.1 h2.symm
end
theorem SlS.int_at {w : World} {s : Option Addr} {l : List Int} (c : SlS intE w s l) {i : Nat} (h : i < l.length) : ∃ b off, s = some ⟨b, off, none⟩ ∧ b < w.heap.size ∧ w.cell? ⟨b, off + i, none⟩ = some (.int .i64 l[i]) := by
  obtain ⟨b, off, e, hb, hc⟩ := c.at h
  have := hc 0 _ rfl
  simp only [intE, Nat.mul_one, Nat.add_zero] at this
  exact ⟨b, off, e, hb, this⟩
end Go.Proofs.Ytbpdgoedglkefaa
