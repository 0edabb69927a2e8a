/- How the arguments that came in are opened: numbers, slices of numbers; generically (sched, rec). -/
import Derived.Test.YtbpdgoedglkefaaRows
import Derived.Test.YtbpdgoedglkefaaRecSpec
import Derived.WalkKit
import Derived.ProofKit
import Derived.OpenShut
import Derived.Below
import Derived.Deep.Slices
import Derived.Lib.SmallJoins
import Derived.Laws.IdiomArrays
namespace Go.Proofs.Ytbpdgoedglkefaa
open Go.ChangeShapes Go.WideShapes Go.ChangeAt Go.RowKit Go.Joins Go.Deep

theorem Try.own : ownKnob Try.prog.godebug = none := by kernel_rfl
theorem Try.laidOut : laidOutB Try.prog = true := by kernel_rfl
theorem cells_int : Try.prog.cellsOf 3 = 1 := by kernel_rfl
def I64 (n : Int) : Prop := -9223372036854775808 ≤ n ∧ n ≤ 9223372036854775807
theorem i64_wf {n : Int} (h : (Lit.int .i64 n).wf = true) : I64 n := by
  simp [Lit.wf] at h
  exact h
set_option linter.constructorNameAsVariable false
section
variable {H : Type} {enc : TypeId × Value → H} {w : World} {held : Bool}
theorem trod_sl {α : Type} [Inhabited α] {E : Elt α} {Q : α → Prop} {t e : TypeId} {fuel : Nat} {cs : List Value} {x : DataW H × List MemPlace} (ht : Try.prog.underlying t = some (.slice e)) (hc : Try.prog.cellsOf e = E.size)
    (hel : ∀ (n : Nat) (ds : List Value) (y : DataW H × List MemPlace), ds.length = E.size → DataW.trod enc Try.prog w 0 (fun _ => true) held n e ds = some y → ∃ a : α, ds = E.cells a ∧ Q a)
    (h : DataW.trod enc Try.prog w 0 (fun _ => true) held fuel t cs = some x) :
    ∃ s cap l, cs = [.slice s l.length cap] ∧ SlS E w s l ∧ l.length ≤ 9223372036854775807 ∧ (s = none → cap = 0) ∧ l.length ≤ cap ∧ cap ≤ 9223372036854775807 ∧ ∀ a ∈ l, Q a := by
  rcases open_slice ht h with ⟨rfl, -⟩ | ⟨a, len, cap, m, n, D, Pl, rfl, hb, hl, hm, hmm, -, hx⟩
  · exact ⟨none, 0, [], rfl, .inl rfl, by simp, fun _ => rfl, by simp, by simp, by simp⟩
  · simp only [if_true] at hmm
    subst hmm
    rw [hc] at hx
    obtain ⟨L, hL⟩ := choose_lt (α := α) (p := fun i q => w.cells? 0 (a.add (i * E.size)) E.size = some (E.cells q) ∧ Q q) (fun i (hi : i < m) => by
      obtain ⟨cs', h1, h2⟩ := hx i hi
      obtain ⟨q, rfl, hq⟩ := hel _ _ _ (World.cells?_some h1).2.1 h2
      exact ⟨q, h1, hq⟩)
    by_cases h0 : len = 0
    · subst h0
      exact ⟨some a, m, [], rfl, .inl rfl, by simp, (fun h => by cases h), by simp, (by simp [maxLen] at hm ⊢; omega), by simp⟩
    have hsp : a.spot = none := by
      have h3 := (World.cells?_some (hL 0 (by omega)).1).2.2 0 E.pos
      have h4 : ∃ u, (E.cells (L 0))[0]? = some u := ⟨_, List.getElem?_eq_getElem (by rw [E.len]; exact E.pos)⟩
      obtain ⟨u, hu⟩ := h4
      have h2 := World.cell?_spot (h3.trans hu)
      unfold Addr.add at h2; split at h2 <;> simp_all
    obtain ⟨ab, ao, asp⟩ := a
    simp only at hsp
    subst hsp
    refine ⟨some ⟨ab, ao, none⟩, m, (List.range len).map L, by simp, .inr ⟨ab, ao, rfl, ?_, ?_⟩, ?_, (fun h => by cases h), by simpa using hl, (by simp [maxLen] at hm ⊢; omega), ?_⟩
    · have h3 := (World.cells?_some (hL 0 (by omega)).1).2.2 0 E.pos
      have h4 : ∃ u, (E.cells (L 0))[0]? = some u := ⟨_, List.getElem?_eq_getElem (by rw [E.len]; exact E.pos)⟩
      obtain ⟨u, hu⟩ := h4
      rw [add_eq, add_eq] at h3
      exact World.block_lt_of_cell? w _ (h3.trans hu)
    · intro j u hj
      have hjl := (List.getElem?_eq_some_iff.1 hj).1
      rw [E.all_len] at hjl
      simp only [List.length_map, List.length_range] at hjl
      have hd : j / E.size < len := (Nat.div_lt_iff_lt_mul E.pos).2 hjl
      have hmo : j % E.size < E.size := Nat.mod_lt _ E.pos
      have e1 : j / E.size * E.size + j % E.size = j := Nat.div_add_mod' j E.size
      have h2 := E.all_at ((List.range len).map L) (j / E.size) (j % E.size) (by simpa using hd) hmo
      rw [e1, hj] at h2
      simp only [List.getElem_map, List.getElem_range] at h2
      have h4 := (World.cells?_some (hL (j / E.size) (by omega)).1).2.2 (j % E.size) hmo
      rw [add_eq, add_eq, Nat.add_assoc, e1] at h4
      rw [h4]; exact h2.symm
    · simp [maxLen] at hm ⊢; omega
    · intro q hq
      simp at hq
      obtain ⟨i, hi, rfl⟩ := hq
      exact (hL i (by omega)).2
theorem val_slice {r : Reach} {b0 : Nat} {t e : TypeId} {v : Value} {a : Option Addr} {l c : Nat} (ht : Try.prog.underlying t = some (.slice e)) (hv : Value.okWide Try.prog w r b0 t v) (h : v.cells.toList = [.slice a l c]) : v = .slice a l c := by
  cases v with
  | agg cs =>
    simp only [Value.okWide, ht, Cell.okWide, Cell.ok] at hv
  | _ => first | (simp [Value.cells] at h; done) | (simp [Value.cells] at h ⊢; exact h)
theorem trod_int1 {Q : Int → Prop} (hQ : ∀ n, I64 n → Q n) (n : Nat) (ds : List Value) (y : DataW H × List MemPlace) (hl : ds.length = intE.size) (h : DataW.trod enc Try.prog w 0 (fun _ => true) held n 3 ds = some y) : ∃ a : Int, ds = intE.cells a ∧ Q a := by
  match ds, hl with
  | [c], _ =>
    obtain ⟨a, h0, -, w0⟩ := DataW.trod_int (k := .i64) (by kernel_rfl) h
    cases h0
    exact ⟨a, rfl, hQ a (i64_wf w0)⟩
set_option maxRecDepth 100000 in
theorem open_intsv {r : Reach} {b0 : Nat} {v : Value} {d : DataW H} {p : List MemPlace} (hv : Value.okWide Try.prog w r b0 30 v) (h : DataW.Trod enc Try.prog w 0 (fun _ => true) held 30 v d p) :
    ∃ s cap l, v = .slice s l.length cap ∧ Ints w s l ∧ (s = none → cap = 0) ∧ l.length ≤ cap ∧ cap ≤ 9223372036854775807 ∧ ∀ a ∈ l, I64 a := by
  obtain ⟨fuel, hf⟩ := h
  obtain ⟨s, cap, l, hcs, h1, h2, h3, h4, h6, h5⟩ := trod_sl (E := intE) (Q := I64) (e := 3) (by kernel_rfl) (by kernel_rfl) (trod_int1 fun _ h => h) hf
  exact ⟨s, cap, l, val_slice (e := 3) (by kernel_rfl) hv hcs, ⟨h1, h2⟩, h3, h4, h6, h5⟩
theorem val_int {r : Reach} {b0 : Nat} {t : TypeId} {q : IntKind} {v : Value} (ht : Try.prog.underlying t = some (.int q)) {u : Value} (hv : Value.okWide Try.prog w r b0 t v) (h : v.cells.toList = [u]) (hu : ∃ n, u = .int q n) : v = u := by
  obtain ⟨n, rfl⟩ := hu
  cases v with
  | agg cs =>
    simp only [Value.okWide, ht, Cell.okWide, Cell.ok] at hv
  | _ => first | (simp [Value.cells] at h; done) | (simp [Value.cells] at h ⊢; exact h)
set_option maxRecDepth 100000 in
theorem open_intv {r : Reach} {b0 : Nat} {v : Value} {d : DataW H} {p : List MemPlace} (hv : Value.okWide Try.prog w r b0 3 v) (h : DataW.Trod enc Try.prog w 0 (fun _ => true) held 3 v d p) : ∃ n : Int, v = .int .i64 n ∧ I64 n := by
  obtain ⟨fuel, hf⟩ := h
  obtain ⟨a, h0, -, w0⟩ := DataW.trod_int (k := .i64) (by kernel_rfl) hf
  exact ⟨a, val_int (q := .i64) (by kernel_rfl) hv h0 ⟨_, rfl⟩, i64_wf w0⟩
end
end Go.Proofs.Ytbpdgoedglkefaa
