/- Spans: over all elements, and over points and offsets. -/
import Derived.Test.YtbpdgoedglkefaaSch9
import Derived.Test.YtbpdgoedglkefaaSchLaw
import Derived.Test.YtbpdgoedglkefaaB1
namespace Go.Proofs.Ytbpdgoedglkefaa
open Go.RowKit

theorem mul_bd {a b : Int} {A B : Nat} (ha : a.natAbs ≤ A) (hb : b.natAbs ≤ B) : (a * b).natAbs ≤ A * B := by
  rw [Int.natAbs_mul]; exact Nat.mul_le_mul ha hb
theorem flat_abs {p : Pt} {n m : Int} (h : flatB p n m = true) : p.x.natAbs ≤ m.toNat ∧ p.y.natAbs ≤ m.toNat ∧ p.z.natAbs ≤ m.toNat := by
  simp only [flatB, flatC, Bool.and_eq_true, bw_iff] at h
  omega
theorem dot_bd {f p : Pt} {A B : Nat} (hf : f.x.natAbs ≤ A ∧ f.y.natAbs ≤ A ∧ f.z.natAbs ≤ A) (hp : p.x.natAbs ≤ B ∧ p.y.natAbs ≤ B ∧ p.z.natAbs ≤ B) : (dotZ f p).natAbs ≤ 3 * (A * B) := by
  have h1 := mul_bd hf.1 hp.1
  have h2 := mul_bd hf.2.1 hp.2.1
  have h3 := mul_bd hf.2.2 hp.2.2
  unfold dotZ
  generalize f.x * p.x = a at *
  generalize f.y * p.y = b at *
  generalize f.z * p.z = c at *
  omega
theorem pts_abs {n : Int} {l : List Iq} {p : Pt} (hp : p ∈ pts n l) : p.x.natAbs ≤ 20 ∧ p.y.natAbs ≤ 20 ∧ p.z.natAbs ≤ 20 := by
  have h := mem_pts.1 hp
  rw [hasB, Bool.and_eq_true] at h
  exact flat_abs h.1
theorem tm_small {f p : Pt} (hf : f.x.natAbs ≤ 9 ∧ f.y.natAbs ≤ 9 ∧ f.z.natAbs ≤ 9) (hp : p.x.natAbs ≤ 20 ∧ p.y.natAbs ≤ 20 ∧ p.z.natAbs ≤ 20) : wrap64 (dotZ f p) = dotZ f p ∧ -540 ≤ dotZ f p ∧ dotZ f p ≤ 540 := by
  have h := dot_bd hf hp
  refine ⟨?_, by omega, by omega⟩
  unfold wrap64; omega
theorem mem_els {P : List Pt} {nv : Nat} {x : El} : x ∈ els P nv ↔ x.v < nv ∧ x.p ∈ P := by
  unfold els
  simp only [List.mem_flatMap, List.mem_range, List.mem_map]
  constructor
  · rintro ⟨v, hv, p, hp, rfl⟩; exact ⟨hv, hp⟩
  · rintro ⟨hv, hp⟩; exact ⟨x.v, hv, x.p, hp, rfl⟩
theorem off_bd {off : List Int} (h : offB off = true) {x : Int} (hx : x ∈ off) : 0 ≤ x ∧ x ≤ 1000 := by
  unfold offB at h
  rw [List.all_eq_true] at h
  exact bw_iff.1 (h x hx)
theorem timeW_small {n : Int} {l : List Iq} {K : List Vv} {q : Sd} (hc : chkE n l K [q] = 0) {v : Nat} (hv : v < K.length) {p : Pt} (hp : p ∈ pts n l) :
    ∃ h : v < q.off.length, timeW q v p = dotZ q.f p + q.off[v] ∧ tmP q.f p = dotZ q.f p ∧ -540 ≤ dotZ q.f p ∧ dotZ q.f p ≤ 540 ∧ 0 ≤ q.off[v] ∧ q.off[v] ≤ 1000 := by
  obtain ⟨-, -, -, -, -, -, hf, hol, hob⟩ := chk_ok hc
  have h1 := tm_small (flat_abs hf) (pts_abs hp)
  have hvo : v < q.off.length := by omega
  have h2 := off_bd hob (List.getElem_mem hvo)
  refine ⟨hvo, ?_, h1.1, h1.2.1, h1.2.2, h2.1, h2.2⟩
  unfold timeW
  rw [h1.1, List.getD_eq_getElem?_getD, List.getElem?_eq_getElem hvo, Option.getD_some]
  exact i64_small (by omega)
def elT (q : Sd) (E : List El) : List Int := E.map fun x => timeW q x.v x.p
theorem span_law {n : Int} {l : List Iq} {K : List Vv} {q : Sd} (hc : chkE n l K [q] = 0) (hp : pts n l ≠ []) :
    loL (elT q (els (pts n l) K.length)) = spLo q (pts n l) ∧ hiL (elT q (els (pts n l) K.length)) = spHi q (pts n l) := by
  obtain ⟨-, -, hk, -, -, -, -, hol, -⟩ := chk_ok hc
  have hoff : q.off ≠ [] := by rintro h; rw [h] at hol; simp at hol; omega
  have hPm : (pts n l).map (tmP q.f) ≠ [] := by simpa using hp
  obtain ⟨p1, hp1⟩ := List.exists_mem_of_ne_nil _ hp
  have hE : elT q (els (pts n l) K.length) ≠ [] := by
    have : (⟨0, p1⟩ : El) ∈ els (pts n l) K.length := mem_els.2 ⟨by show 0 < K.length; omega, hp1⟩
    intro h; unfold elT at h; rw [List.map_eq_nil_iff] at h; rw [h] at this; cases this
  have hT : ∀ t, t ∈ elT q (els (pts n l) K.length) ↔ ∃ v p, v < K.length ∧ p ∈ pts n l ∧ t = timeW q v p := fun t => by
    unfold elT
    rw [List.mem_map]
    constructor
    · rintro ⟨x, hx, rfl⟩; exact ⟨x.v, x.p, (mem_els.1 hx).1, (mem_els.1 hx).2, rfl⟩
    · rintro ⟨v, p, hv, hp, rfl⟩; exact ⟨⟨v, p⟩, mem_els.2 ⟨hv, hp⟩, rfl⟩
  constructor
  · obtain ⟨m1, m2⟩ := loL_spec hPm
    obtain ⟨o1, o2⟩ := loL_spec hoff
    obtain ⟨e1, e2⟩ := loL_spec hE
    obtain ⟨pa, hpa, ha⟩ := List.mem_map.1 m1
    obtain ⟨va, hva, hb⟩ := List.getElem_of_mem o1
    obtain ⟨h1, h2, h3, h4, h5, h6, h7⟩ := timeW_small hc (v := va) (by omega) hpa
    have h8 : spLo q (pts n l) = timeW q va pa := by
      unfold spLo; rw [← ha, ← hb, h3, h2]; exact i64_small (by omega)
    have h9 := e2 _ ((hT _).2 ⟨va, pa, by omega, hpa, rfl⟩)
    obtain ⟨vb, pb, hvb, hpb, hc2⟩ := (hT _).1 e1
    obtain ⟨g1, g2, g3, g4, g5, g6, g7⟩ := timeW_small hc hvb hpb
    have g8 := m2 _ (List.mem_map.2 ⟨pb, hpb, rfl⟩)
    have g9 := o2 _ (List.getElem_mem g1)
    omega
  · obtain ⟨m1, m2⟩ := hiL_spec hPm
    obtain ⟨o1, o2⟩ := hiL_spec hoff
    obtain ⟨e1, e2⟩ := hiL_spec hE
    obtain ⟨pa, hpa, ha⟩ := List.mem_map.1 m1
    obtain ⟨va, hva, hb⟩ := List.getElem_of_mem o1
    obtain ⟨h1, h2, h3, h4, h5, h6, h7⟩ := timeW_small hc (v := va) (by omega) hpa
    have h8 : spHi q (pts n l) = timeW q va pa := by
      unfold spHi; rw [← ha, ← hb, h3, h2]; exact i64_small (by omega)
    have h9 := e2 _ ((hT _).2 ⟨va, pa, by omega, hpa, rfl⟩)
    obtain ⟨vb, pb, hvb, hpb, hc2⟩ := (hT _).1 e1
    obtain ⟨g1, g2, g3, g4, g5, g6, g7⟩ := timeW_small hc hvb hpb
    have g8 := m2 _ (List.mem_map.2 ⟨pb, hpb, rfl⟩)
    have g9 := o2 _ (List.getElem_mem g1)
    omega
end Go.Proofs.Ytbpdgoedglkefaa
