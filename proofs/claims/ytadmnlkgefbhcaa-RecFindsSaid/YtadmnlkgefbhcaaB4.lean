/- Several texts in one: each says what it proves. -/
import Derived.Test.YtadmnlkgefbhcaaB3
import Derived.Test.YtadmnlkgefbhcaaPtGet
import Derived.Test.YtadmnlkgefbhcaaB1
/- Schedules: forms, and which fit: the program and the reference. -/
namespace Go.Proofs.Ytadmnlkgefbhcaa
open Go.RowKit

/-- Which offsets fit. -/
def offB (off : List Int) : Bool := off.all fun x => bw 0 x 1000
/-- Which schedules fit a recurrence with so many variables. -/
def fitB (n : Int) (nv : Nat) (f : Pt) (off : List Int) : Bool := flatB f n 9 && (decide (off.length = nv) && offB off)

end Go.Proofs.Ytadmnlkgefbhcaa

/- Recurrences and schedules that came in; what is asked of them: the program and the reference. -/
namespace Go.Proofs.Ytadmnlkgefbhcaa
open Go.RowKit

/-- A schedule: its form, its offsets, and where they lie. -/
structure Sd where
  f : Pt
  off : List Int
  s : Option Addr
  cap : Nat
def Sd.cells (a : Sd) : List Value := [.int .i64 a.f.x, .int .i64 a.f.y, .int .i64 a.f.z, .slice a.s a.off.length a.cap]
def sdE : Elt Sd := ⟨4, Sd.cells, by decide, fun _ => rfl, fun _ u h => by simp [Sd.cells] at h; rcases h with rfl | rfl | rfl | rfl <;> rfl⟩
theorem SlS.sd_at {w : World} {s : Option Addr} {l : List Sd} (c : SlS sdE w s l) {i : Nat} (h : i < l.length) :
    ∃ b off, s = some ⟨b, off, none⟩ ∧ b < w.heap.size ∧ w.cell? ⟨b, off + i * 4, none⟩ = some (.int .i64 l[i].f.x) ∧ w.cell? ⟨b, off + i * 4 + 1, none⟩ = some (.int .i64 l[i].f.y) ∧ w.cell? ⟨b, off + i * 4 + 2, none⟩ = some (.int .i64 l[i].f.z) ∧ w.cell? ⟨b, off + i * 4 + 3, none⟩ = some (.slice l[i].s l[i].off.length l[i].cap) := by
  obtain ⟨b, off, e, hb, hc⟩ := c.at h
  have h0 := hc 0 _ rfl
  have h1 := hc 1 _ rfl
  have h2 := hc 2 _ rfl
  have h3 := hc 3 _ rfl
  simp only [sdE, Nat.add_zero] at h0 h1 h2 h3
  exact ⟨b, off, e, hb, h0, h1, h2, h3⟩
/-- A schedule that came in. -/
structure SdM (w : World) (q : Sd) : Prop where
  off : SlS intE w q.s q.off
  len : q.off.length ≤ 9223372036854775807
theorem SdM.up {W W' : World} (h : Below W.heap.size W W') {q : Sd} (c : SdM W q) : SdM W' q := ⟨SlS.up h c.off, c.len⟩
instance {W W' : World} {q : Sd} : UpF W W' (SdM W q) (SdM W' q) := ⟨fun h c => SdM.up h c⟩
/-- Whether a schedule fits. -/
def Sd.fit (n : Int) (nv : Nat) (q : Sd) : Bool := fitB n nv q.f q.off

/-- The first error of a recurrence and schedules. -/
def chkE (n : Int) (l : List Iq) (K : List Vv) (L : List Sd) : Int := if recB n l K then (if L.all (Sd.fit n K.length) then 0 else 30) else 20
end Go.Proofs.Ytadmnlkgefbhcaa

/- Schedules: what is asked, the reference; valid ones, both. -/
namespace Go.Proofs.Ytadmnlkgefbhcaa
open Go.RowKit

theorem off_no {l : List Int} {j : Nat} (h : j < l.length) (hf : bw 0 l[j] 1000 = false) : offB l = false := by
  unfold offB
  cases hh : l.all fun x => bw 0 x 1000
  · rfl
  · rw [List.all_eq_true] at hh; rw [hh _ (List.getElem_mem h)] at hf; cases hf
theorem off_yes {l : List Int} (h : ∀ j (hj : j < l.length), bw 0 l[j] 1000 = true) : offB l = true := by
  unfold offB
  rw [List.all_eq_true]; intro x hx; obtain ⟨i, hi, rfl⟩ := List.getElem_of_mem hx; exact h i hi
end Go.Proofs.Ytadmnlkgefbhcaa

/- The time of an element: the program and the reference. -/
namespace Go.Proofs.Ytadmnlkgefbhcaa
open Go.RowKit

theorem sd_new (W : World) (q : Sd) (t : TypeId) : SlS sdE (W.alloc (.cells #[.int .i64 q.f.x, .int .i64 q.f.y, .int .i64 q.f.z, .slice q.s q.off.length q.cap] t)) (some ⟨W.heap.size, 0, none⟩) [q] := by
  refine .inr ⟨W.heap.size, 0, rfl, by simp, fun j u hj => ?_⟩
  have e : sdE.all [q] = [.int .i64 q.f.x, .int .i64 q.f.y, .int .i64 q.f.z, .slice q.s q.off.length q.cap] := by simp [Elt.all, sdE, Sd.cells]
  rw [e] at hj
  match j, hj with
  | 0, hj => simp at hj; subst hj; simp [go_sem]
  | 1, hj => simp at hj; subst hj; simp [go_sem]
  | 2, hj => simp at hj; subst hj; simp [go_sem]
  | 3, hj => simp at hj; subst hj; simp [go_sem]
  | k + 4, hj => simp at hj
def timeW (q : Sd) (v : Nat) (p : Pt) : Int := IntKind.i64.wrap (wrap64 (dotZ q.f p) + q.off.getD v 0)
def timeR (n : Int) (l : List Iq) (K : List Vv) (q : Sd) (v : Int) (p : Pt) : Value :=
  if chkE n l K [q] ≠ 0 then .tuple #[.int .i64 0, .int .i64 (chkE n l K [q])]
  else if hasB n l p && bw 0 v (K.length - 1) then .tuple #[.int .i64 (timeW q v.toNat p), .int .i64 0] else .tuple #[.int .i64 0, .int .i64 2]
theorem chk_ok {n : Int} {l : List Iq} {K : List Vv} {q : Sd} (h : chkE n l K [q] = 0) : recB n l K = true ∧ validB n l = true ∧ 1 ≤ K.length ∧ K.length ≤ 4 ∧ (1 ≤ n ∧ n ≤ 3) ∧ (pts n l).length ≤ 1000 ∧ flatB q.f n 9 = true ∧ q.off.length = K.length ∧ offB q.off = true := by
  unfold chkE at h
  by_cases hr : recB n l K = true
  · rw [if_pos hr] at h
    by_cases hf : ([q].all (Sd.fit n K.length)) = true
    · simp [Sd.fit, fitB] at hf
      have h1 := hr
      rw [recB_eq, Bool.and_eq_true, Bool.and_eq_true, Bool.and_eq_true] at h1
      have h2 := bw_iff.1 h1.2.2.1
      exact ⟨hr, h1.1, by omega, by omega, valid_n h1.1, of_decide_eq_true h1.2.1, hf.1, hf.2.1, hf.2.2⟩
    · rw [if_neg hf] at h; cases h
  · rw [if_neg hr] at h; cases h
end Go.Proofs.Ytadmnlkgefbhcaa
