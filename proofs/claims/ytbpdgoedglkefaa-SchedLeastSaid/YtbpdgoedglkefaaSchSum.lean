/- Sums of schedules, slower ones: what they are; what is returned. -/
import Derived.Test.YtbpdgoedglkefaaSch15
import Derived.Test.YtbpdgoedglkefaaSchLaw2
import Derived.Test.YtbpdgoedglkefaaB7
import Derived.Laws.OwnMore
namespace Go.Proofs.Ytbpdgoedglkefaa
open Go.RowKit

def addP (p q : Pt) : Pt := ⟨p.x + q.x, p.y + q.y, p.z + q.z⟩
def mulP (k : Int) (p : Pt) : Pt := ⟨k * p.x, k * p.y, k * p.z⟩
def addO (nv : Nat) (a b : List Int) : List Int := (List.range nv).map fun v => a.getD v 0 + b.getD v 0
def mulO (nv : Nat) (k : Int) (a : List Int) : List Int := (List.range nv).map fun v => k * a.getD v 0
/-- The first k places have become f's. -/
def setAll (f : Nat → Int) (a : List Int) : Nat → List Int
  | 0 => a
  | k + 1 => (setAll f a k).set k (f k)
theorem setAll_len (f : Nat → Int) (a : List Int) : ∀ k, (setAll f a k).length = a.length
  | 0 => rfl
  | k + 1 => by rw [setAll, List.length_set, setAll_len]
theorem setAll_at (f : Nat → Int) (a : List Int) : ∀ k j, (setAll f a k)[j]? = if j < k then (a[j]?).map (fun _ => f j) else a[j]?
  | 0, j => by simp [setAll]
  | k + 1, j => by
    rw [setAll, List.getElem?_set, setAll_len, setAll_at f a k j]
    by_cases h : k = j
    · subst h
      by_cases h2 : k < a.length
      · simp [h2]
      · simp [h2]
    · have : (j < k + 1) = (j < k) := by simp; omega
      simp [h, this]
theorem setAll_here {f : Nat → Int} {a : List Int} {k : Nat} (h : k < a.length) (h' : k < (setAll f a k).length) : (setAll f a k)[k] = a[k] := by
  have h1 := setAll_at f a k k
  rw [if_neg (by omega), List.getElem?_eq_getElem h', List.getElem?_eq_getElem h] at h1
  exact Option.some.inj h1
theorem setAll_all (f : Nat → Int) (a : List Int) : setAll f a a.length = (List.range a.length).map f := by
  apply List.ext_getElem?
  intro j
  rw [setAll_at, List.getElem?_map]
  by_cases h : j < a.length
  · simp [h]
  · rw [if_neg h, List.getElem?_eq_none (by omega), List.getElem?_eq_none (by simp; omega)]; rfl
theorem int_set (l : List Int) : ∀ (k : Nat) (x : Int), (intE.all l).set k (.int .i64 x) = intE.all (l.set k x) := by
  induction l with
  | nil => intro k x; rfl
  | cons a l ih =>
    intro k x
    cases k with
    | zero => rfl
    | succ k =>
      have := ih k x
      show List.set (Value.int .i64 a :: intE.all l) (k + 1) _ = Value.int .i64 a :: intE.all (l.set k x)
      rw [List.set_cons_succ, this]
theorem Chg.setC {p : Nat → Prop} {A W : World} {a : Addr} {v : Value} (ha : p a.block) (h : Chg p A W) : Chg p A (W.setCell a v) := h.setCell ha v
theorem own_chgB {p : Nat → Prop} {W W' : World} (h : Chg p W W') {base e size n : Nat} {v : Value} {xs : List Value} (c : W.ownsRow base e size v n xs) (hp : ∀ k, v.ownBlock = some k → ¬ p k) : W'.ownsRow base e size v n xs :=
  own_upto c fun b e => h.block b (c.lt b e).2 (hp b e)
/-- The first error of a recurrence and schedules that must be legal. -/
def allE (n : Int) (l : List Iq) (K : List Vv) (L : List Sd) : Int := if chkE n l K L ≠ 0 then chkE n l K L else if L.all (legB K) then 0 else 31
theorem chkL_ok {n : Int} {l : List Iq} {K : List Vv} {L : List Sd} (h : chkE n l K L = 0) : recB n l K = true ∧ 1 ≤ K.length ∧ K.length ≤ 4 ∧ ∀ q ∈ L, flatB q.f n 9 = true ∧ q.off.length = K.length ∧ offB q.off = true := by
  unfold chkE at h
  by_cases hr : recB n l K = true
  · rw [if_pos hr] at h
    by_cases hf : (L.all (Sd.fit n K.length)) = true
    · have h1 := hr
      rw [recB_eq, Bool.and_eq_true, Bool.and_eq_true, Bool.and_eq_true] at h1
      have h2 := bw_iff.1 h1.2.2.1
      refine ⟨hr, by omega, by omega, fun q hq => ?_⟩
      have h3 := List.all_eq_true.1 hf q hq
      simp [Sd.fit, fitB] at h3
      exact ⟨h3.1, h3.2.1, h3.2.2⟩
    · rw [if_neg hf] at h; cases h
  · rw [if_neg hr] at h; cases h
/-- A schedule, and an error. -/
def SdRet (f : Pt) (off : List Int) (er : Int) (w : World) (e : Ending) (w' : World) : Prop :=
  (∃ s' c', e = .returned (.tuple #[.agg #[.int .i64 f.x, .int .i64 f.y, .int .i64 f.z, .slice s' off.length c'], .int .i64 er]) ∧ SlS intE w' s' off) ∧ Below w.heap.size w w'
theorem results_cell_tmp' {fn : Func} {p u : Tmp} {tp : TypeId} {tmps : Array Value} {P : Program} {w : World} {a : Addr} {va vu : Value} (h : fn.results = #[.cell p tp, .tmp u])
    (hp : tmps.getD p undef = .pointer (some a)) (hu : tmps.getD u undef = vu) (la : (loadVar tp a).run P w = .ok va w) : (results fn tmps).run P w = .ok (.tuple #[va, vu]) w := by
  simp only [results, h]
  simp only [Array.getD_eq_getD_getElem?] at hp hu
  simp [Sem.run_bind, Result.andThen, hp, hu, asAddr, la]
theorem load_sd {X : World} {b1 : Nat} {cs : Array Value} (rl : Row X b1 32 cs) (h4 : cs.size = 4) : (loadVar 32 ⟨b1, 0, none⟩).run Try.prog X = .ok (.agg cs) X :=
  run_loadVar_row X b1 _ _ cs (0, 0) _ rl Try.underlying32 rfl (by rw [h4]; kernel_rfl)
theorem sd_end {fn : Func} {p u : Tmp} (hr : fn.results = #[.cell p 32, .tmp u]) {f : Pt} {off : List Int} {er : Int} (s : Option Addr) (c : Nat) {tmps : Array Value} {w X : World} {b1 : Nat}
    (h2 : tmps.getD p undef = .pointer (some ⟨b1, 0, none⟩)) (h3 : tmps.getD u undef = .int .i64 er)
    (rl : Row X b1 32 #[.int .i64 f.x, .int .i64 f.y, .int .i64 f.z, .slice s off.length c]) (ho : SlS intE X s off) (hB : Below w.heap.size w X) :
    bodyPost Try.prog fn (SdRet f off er w) .ret { tmps := tmps, defers := [] } X :=
  bodyPost_ret (results_cell_tmp' hr h2 h3 (load_sd rl rfl)) rfl ⟨⟨s, c, rfl, ho⟩, hB⟩
theorem Row.four {W : World} {b t : Nat} {x y z u : Value} (h : Row W b t #[x, y, z, u]) : W.cell? ⟨b, 0, none⟩ = some x ∧ W.cell? ⟨b, 1, none⟩ = some y ∧ W.cell? ⟨b, 2, none⟩ = some z ∧ W.cell? ⟨b, 3, none⟩ = some u := ⟨h.cell rfl, h.cell rfl, h.cell rfl, h.cell rfl⟩
theorem sd_new2 (W : World) (q r : Sd) (t : TypeId) : SlS sdE (W.alloc (.cells #[.int .i64 q.f.x, .int .i64 q.f.y, .int .i64 q.f.z, .slice q.s q.off.length q.cap, .int .i64 r.f.x, .int .i64 r.f.y, .int .i64 r.f.z, .slice r.s r.off.length r.cap] t)) (some ⟨W.heap.size, 0, none⟩) [q, r] := by
  refine .inr ⟨_, 0, rfl, by simp, fun j u hj => ?_⟩
  have hr := Row.new W t #[.int .i64 q.f.x, .int .i64 q.f.y, .int .i64 q.f.z, .slice q.s q.off.length q.cap, .int .i64 r.f.x, .int .i64 r.f.y, .int .i64 r.f.z, .slice r.s r.off.length r.cap]
  rw [Nat.zero_add]
  exact hr.cell (by simpa [Elt.all, sdE, Sd.cells] using hj)
end Go.Proofs.Ytbpdgoedglkefaa
