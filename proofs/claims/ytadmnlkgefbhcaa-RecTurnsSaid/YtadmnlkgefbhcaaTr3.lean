/- The domain that is turned: plain laws; the map of the numbers seen. -/
import Derived.Test.YtadmnlkgefbhcaaTr2
import Derived.Laws.OwnMore
namespace Go.Proofs.Ytadmnlkgefbhcaa
open Go.RowKit Go.Maps

def turnE (n : Int) (l : List Iq) (p : Pt) : Int := if validB n l then (if isOrd n p then 0 else 2) else 10
def turnN (n : Int) (l : List Iq) (p : Pt) : Int := if turnE n l p = 0 then n else 0
def turnR (n : Int) (l : List Iq) (p : Pt) : List Iq := if turnE n l p = 0 then turnL n p l else []

def seenD (p : Pt) : Nat → DataW Unit
  | 0 => .map []
  | k + 1 => (seenD p k).put (.int .i64 (p.get k)) (.lit (.bool true))
theorem seenD_isMap (p : Pt) : ∀ k, IsMap (seenD p k)
  | 0 => isMap_empty
  | k + 1 => (seenD_isMap p k).put _ _
theorem seenD_at (p : Pt) (v : Int) : ∀ k, (seenD p k).atKey (.int .i64 v) (.lit (.bool false)) = .lit (.bool (seenB p k v))
  | 0 => rfl
  | k + 1 => by
    rw [seenB_succ]
    by_cases h : p.get k = v
    · subst h
      rw [seenD, atKey_put_same (seenD_isMap p k) (k := .int .i64 (p.get k)) trivial]; simp
    · rw [seenD, atKey_put_other (fun e => h (by injection e with _ e; exact e.symm)), seenD_at p v k]; simp [h]
theorem key_int : Keyed Try.prog 3 := int_keyed Try.underlying3
theorem zero_bool (w : World) : (zeroValue 4).run Try.prog w = .ok (.bool false) w := by kernel_rfl

theorem clone2 (s : Option Addr) (cap : Nat) (l : List Iq) (w : World) (hs : SlS iqE w s l) (hc : s = none → cap = 0) (hl : l.length ≤ 1099511627776) :
    Calls Try.prog 98 #[.slice s l.length cap] w fun e w' => (∃ s cap, e = .returned (.slice s l.length cap) ∧ w'.ownsRow w.heap.size 127 4 (.slice s l.length cap) l.length (iqCells l)) ∧ Below w.heap.size w w' :=
  (iq_clone s cap l w hs hc hl).mono fun _ _ ⟨s, cap, he, ho, hb⟩ => ⟨⟨s, cap, he, ho⟩, hb⟩
theorem wf_small {v : Int} (h : 0 ≤ v ∧ v < 3) : (Lit.int .i64 v).wf = true := by
  have : IntKind.i64.min = -9223372036854775808 := rfl
  have : IntKind.i64.max = 9223372036854775807 := rfl
  simp [Lit.wf]; omega
theorem key_small {v : Int} (h : 0 ≤ v ∧ v < 3) : keyOf Try.prog 3 (.int .i64 v) = some (.int .i64 v) := keyOf_int_mk Try.underlying3 (wf_small h)
/-- The first k inequalities turned, the others as they were. -/
def mixL (n : Int) (p : Pt) (l : List Iq) : Nat → List Iq
  | 0 => l
  | k + 1 => (mixL n p l k).set k (turnQ n p (l.getD k default))
theorem mix_len (n : Int) (p : Pt) (l : List Iq) : ∀ k, (mixL n p l k).length = l.length
  | 0 => rfl
  | k + 1 => by rw [mixL, List.length_set, mix_len]
theorem mix_at (n : Int) (p : Pt) (l : List Iq) : ∀ k j, (mixL n p l k)[j]? = if j < k then (l[j]?).map (turnQ n p) else l[j]?
  | 0, j => by simp [mixL]
  | k + 1, j => by
    rw [mixL, List.getElem?_set, mix_len, mix_at n p l k j]
    by_cases h : k = j
    · subst h
      by_cases h2 : k < l.length
      · simp [h2]
      · simp [h2]
    · have : (j < k + 1) = (j < k) := by simp; omega
      simp [h, this]
theorem mix_all (n : Int) (p : Pt) (l : List Iq) : mixL n p l l.length = turnL n p l := by
  apply List.ext_getElem?
  intro j
  rw [mix_at, turnL, List.getElem?_map]
  by_cases h : j < l.length
  · simp [h]
  · rw [if_neg h]; simp [List.getElem?_eq_none (Nat.le_of_not_lt h)]
theorem iqCells_set (l : List Iq) : ∀ (k : Nat) (hk : k < l.length) (a : Pt), (((iqCells l).set (k * 4) (.int .i64 a.x)).set (k * 4 + 1) (.int .i64 a.y)).set (k * 4 + 2) (.int .i64 a.z) = iqCells (l.set k ⟨a, l[k].b⟩) := by
  induction l with
  | nil => intro k hk; simp at hk
  | cons q l ih =>
    intro k hk a
    cases k with
    | zero => rfl
    | succ k =>
      have := ih k (by simpa using hk) a
      rw [show (k + 1) * 4 = k * 4 + 1 + 1 + 1 + 1 by omega]
      show ((((q.cells ++ iqCells l).set _ _).set _ _).set _ _) = q.cells ++ iqCells _
      simp only [Iq.cells, List.cons_append, List.nil_append, List.set_cons_succ]
      rw [this]
      rfl
theorem mix_cells (n : Int) (p : Pt) (l : List Iq) (k : Nat) (hk : k < l.length) {a : Pt} (ha : turnP n p l[k].a = a) :
    (((iqCells (mixL n p l k)).set (k * 4) (.int .i64 a.x)).set (k * 4 + 1) (.int .i64 a.y)).set (k * 4 + 2) (.int .i64 a.z) = iqCells (mixL n p l (k + 1)) := by
  have hk2 : k < (mixL n p l k).length := by rw [mix_len]; exact hk
  rw [iqCells_set _ k hk2 a, mixL]
  have e1 := mix_at n p l k k
  rw [if_neg (by omega), List.getElem?_eq_getElem hk2, List.getElem?_eq_getElem hk] at e1
  have e2 := Option.some.inj e1
  rw [e2, List.getD, List.getElem?_eq_getElem hk]
  simp [turnQ, ha]
theorem own_some {w : World} {base e size n cap : Nat} {s : Option Addr} {xs : List Value} (h : w.ownsRow base e size (.slice s n cap) n xs) (hn : 0 < n) : ∃ g, s = some ⟨g, 0, none⟩ ∧ base ≤ g ∧ g < w.heap.size := by
  obtain ⟨s', cap', he, hs⟩ := owns_shape h
  simp only [Value.slice.injEq] at he
  obtain ⟨rfl, _, rfl⟩ := he
  rcases hs with ⟨h0, _⟩ | hs
  · omega
  · exact hs
theorem own_lt {w : World} {base e size n cap j : Nat} {s : Option Addr} {v : Nat} {xs : List Value} (h : w.ownsRow base e size (.slice s n cap) v xs) (e : s = some ⟨j, 0, none⟩) : base ≤ j ∧ j < w.heap.size := h.lt j (by subst e; rfl)
theorem iq_at (q : Iq) {k : Nat} (hk : k < 3) : (#[.int .i64 q.a.x, .int .i64 q.a.y, .int .i64 q.a.z, .int .i64 q.b] : Array Value)[k]? = some (.int .i64 (q.a.get k)) := by
  have h : k = 0 ∨ k = 1 ∨ k = 2 := by omega
  rcases h with rfl | rfl | rfl <;> rfl
theorem iqs_at {l : List Iq} {k j : Nat} (hk : k < l.length) (hj : j < 4) : ∃ u, (iqCells l)[k * 4 + j]? = some u := by
  have h1 := iqE.all_at l k j hk hj
  have h2 : j < (iqE.cells l[k]).length := by rw [iqE.len]; exact hj
  exact ⟨_, h1.trans (List.getElem?_eq_getElem h2)⟩
end Go.Proofs.Ytadmnlkgefbhcaa
