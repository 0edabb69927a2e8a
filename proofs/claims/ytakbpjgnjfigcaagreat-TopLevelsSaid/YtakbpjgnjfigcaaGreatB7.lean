/- Several texts in one: each says what it proves. -/
import Derived.Test.YtakbpjgnjfigcaaGreatB1
import Derived.Test.YtakbpjgnjfigcaaGreatB6
import Derived.DeepKeys4
import Derived.Laws.OwnMore
import Derived.Test.YtakbpjgnjfigcaaGreatB3
import Derived.Maps.OwnSet
import Derived.Maps.AppendAt
import Derived.Deep.AppendLies
import Derived.Laws.MakeOwn
import Derived.Test.YtakbpjgnjfigcaaGreatTblB
/- The points as keys of a map. -/
namespace Go.Proofs.YtakbpjgnjfigcaaGreat
open Go.RowKit Go.Maps

theorem law_pt : WideMaps.KeyLaw Tryz.prog 30 := deep_law_laid (by kernel_rfl) (m := 2) (by omega) (of_decide_eq_true (by kernel_rfl)) (by kernel_rfl) (by kernel_rfl)
theorem key_ptk : Keyed Tryz.prog 30 := Keyed.of_law law_pt
def pvK (p : Pt) : Value := .agg #[.int .i64 p.x, .int .i64 p.y, .int .i64 p.z]
def ptK (p : Pt) : Lit := .string (keyBytes [.int .i64 p.x, .int .i64 p.y, .int .i64 p.z])
theorem wf_64 {v : Int} (h : -9223372036854775808 ≤ v ∧ v ≤ 9223372036854775807) : (Lit.int .i64 v).wf = true := by
  have : IntKind.i64.min = -9223372036854775808 := rfl
  have : IntKind.i64.max = 9223372036854775807 := rfl
  simp [Lit.wf]; omega
theorem keyLits_int {P : Program} {t : TypeId} {q : IntKind} (ht : P.underlying t = some (.int q)) {n : Int} (hw : (Lit.int q n).wf = true) (d : Nat) : P.keyLits (d + 1) t [.int q n] = some [.int q n] := by
  simp [Program.keyLits, ht, hw]
theorem keyOf_arr3 {P : Program} {k t : TypeId} (hk : P.underlying k = some (.array 3 t)) (hc : P.cellsOf k = 3) (ht : P.underlying t = some (.int .i64)) (hct : P.cellsOf t = 1)
    (hkt : P.keyType k = true) (hsz : 1 ≤ P.types.size)
    {a b c : Int} (ha : (Lit.int .i64 a).wf = true) (hb : (Lit.int .i64 b).wf = true) (hc3 : (Lit.int .i64 c).wf = true) : keyOf P k (.agg #[.int .i64 a, .int .i64 b, .int .i64 c]) = some (.string (keyBytes [.int .i64 a, .int .i64 b, .int .i64 c])) := by
  have hf : (Value.agg #[.int .i64 a, .int .i64 b, .int .i64 c]).formed P k = true := by simp [Value.formed, hk, hc]
  have hl : P.keyLits (P.types.size + 1) k [.int .i64 a, .int .i64 b, .int .i64 c] = some [.int .i64 a, .int .i64 b, .int .i64 c] := by
    obtain ⟨n, hn⟩ : ∃ n, P.types.size = n + 1 := ⟨P.types.size - 1, by omega⟩
    rw [hn]
    have h0 := keyLits_int ht ha n
    have h1 := keyLits_int ht hb n
    have h2 := keyLits_int ht hc3 n
    unfold Program.keyLits
    rw [hk]
    have hr : List.range 3 = [0, 1, 2] := rfl
    simp [hc, hct, hr, h0, h1, h2]
  unfold keyOf
  rw [hk]
  simp only [hkt, hf, Bool.and_self, if_true, Value.cells]
  rw [hl]
  rfl
theorem key_of_pt {p : Pt} (h : p.I64) : keyOf Tryz.prog 30 (pvK p) = some (ptK p) :=
  keyOf_arr3 Tryz.underlying30 (by kernel_rfl) Tryz.underlying3 (by kernel_rfl) (by kernel_rfl) (of_decide_eq_true (by kernel_rfl)) (wf_64 h.1) (wf_64 h.2.1) (wf_64 h.2.2)
end Go.Proofs.YtakbpjgnjfigcaaGreat

/- Greatest weights of ways in a graph: rounds of raising, circles, and a search for them. Over any program. -/
namespace Go.Proofs.YtakbpjgnjfigcaaGreat

/-- For each place: where its ways go, and their weights. -/
abbrev Gr := List (List (Nat × Int))
/-- One way, looked at: its place is raised, if it must be. -/
def rx (v : Nat) (st : List Int × Bool) (e : Nat × Int) : List Int × Bool :=
  if st.1.getD v 0 < st.1.getD e.1 0 + e.2 then (st.1.set v (st.1.getD e.1 0 + e.2), true) else st
def rxRow (st : List Int × Bool) (v : Nat) (es : List (Nat × Int)) : List Int × Bool := es.foldl (rx v) st
def rxRows (G : Gr) (k : Nat) (st : List Int × Bool) : List Int × Bool := (List.range k).foldl (fun st v => rxRow st v (G.getD v [])) st
def rxRound (G : Gr) (off : List Int) : List Int × Bool := rxRows G G.length (off, false)
/-- Rounds till nothing changes; none: so many were too few. -/
def bf (G : Gr) : Nat → List Int → Option (List Int)
  | 0, _ => none
  | k + 1, off => if (rxRound G off).2 then bf G k (rxRound G off).1 else some (rxRound G off).1

theorem getD_set {l : List Int} {i j : Nat} {x : Int} (h : i < l.length) : (l.set i x).getD j 0 = if i = j then x else l.getD j 0 := by
  simp only [List.getD_eq_getElem?_getD, List.getElem?_set]
  by_cases hij : i = j
  · subst hij; simp [h]
  · simp [hij]
theorem rx_len (v : Nat) (st : List Int × Bool) (e : Nat × Int) : (rx v st e).1.length = st.1.length := by
  unfold rx; split <;> simp
theorem rx_mono {v : Nat} {st : List Int × Bool} (hv : v < st.1.length) (e : Nat × Int) (j : Nat) : st.1.getD j 0 ≤ (rx v st e).1.getD j 0 := by
  unfold rx
  split
  · rename_i h
    rw [getD_set hv]
    split
    · subst_vars; omega
    · exact Int.le_refl _
  · exact Int.le_refl _
theorem rx_edge {v : Nat} {st : List Int × Bool} (hv : v < st.1.length) (e : Nat × Int) : st.1.getD e.1 0 + e.2 ≤ (rx v st e).1.getD v 0 := by
  unfold rx
  split
  · rw [getD_set hv, if_pos rfl]; exact Int.le_refl _
  · omega
theorem rx_false {v : Nat} {st : List Int × Bool} {e : Nat × Int} (h : (rx v st e).2 = false) : st.2 = false ∧ rx v st e = st ∧ st.1.getD e.1 0 + e.2 ≤ st.1.getD v 0 := by
  unfold rx at h ⊢
  split at h
  · cases h
  · rename_i h2
    rw [if_neg h2]
    exact ⟨h, rfl, by omega⟩
theorem rx_true {v : Nat} {st : List Int × Bool} (hv : v < st.1.length) {e : Nat × Int} (h : (rx v st e).2 = true) : st.2 = true ∨ st.1.getD v 0 < (rx v st e).1.getD v 0 := by
  unfold rx at h ⊢
  split at h
  · rename_i h2
    rw [if_pos h2]
    right
    rw [getD_set hv, if_pos rfl]; exact h2
  · exact .inl h
theorem row_len (v : Nat) : ∀ (es : List (Nat × Int)) (st : List Int × Bool), (rxRow st v es).1.length = st.1.length
  | [], _ => rfl
  | e :: es, st => (row_len v es (rx v st e)).trans (rx_len v st e)
theorem row_mono (v : Nat) : ∀ (es : List (Nat × Int)) (st : List Int × Bool), v < st.1.length → ∀ j, st.1.getD j 0 ≤ (rxRow st v es).1.getD j 0
  | [], _, _, _ => Int.le_refl _
  | e :: es, st, hv, j => Int.le_trans (rx_mono hv e j) (row_mono v es (rx v st e) (by rw [rx_len]; exact hv) j)
theorem row_edge (v : Nat) : ∀ (es : List (Nat × Int)) (st : List Int × Bool), v < st.1.length → ∀ e ∈ es, st.1.getD e.1 0 + e.2 ≤ (rxRow st v es).1.getD v 0
  | [], _, _, e, he => by cases he
  | a :: es, st, hv, e, he => by
    have hv2 : v < (rx v st a).1.length := by rw [rx_len]; exact hv
    rcases List.mem_cons.1 he with rfl | he
    · exact Int.le_trans (rx_edge hv e) (row_mono v es (rx v st e) hv2 v)
    · have h1 := row_edge v es (rx v st a) hv2 e he
      have h2 := rx_mono hv a e.1
      have h3 : rxRow st v (a :: es) = rxRow (rx v st a) v es := rfl
      rw [h3]; omega
theorem row_false (v : Nat) : ∀ (es : List (Nat × Int)) (st : List Int × Bool), (rxRow st v es).2 = false → st.2 = false ∧ rxRow st v es = st ∧ ∀ e ∈ es, st.1.getD e.1 0 + e.2 ≤ st.1.getD v 0
  | [], st, h => ⟨h, rfl, fun e he => by cases he⟩
  | a :: es, st, h => by
    obtain ⟨h1, h2, h3⟩ := row_false v es (rx v st a) h
    obtain ⟨g1, g2, g3⟩ := rx_false h1
    have e3 : rxRow st v (a :: es) = rxRow (rx v st a) v es := rfl
    rw [e3, h2]
    refine ⟨g1, g2, fun e he => ?_⟩
    rcases List.mem_cons.1 he with rfl | he
    · exact g3
    · have := h3 e he; rw [g2] at this; exact this
theorem row_true (v : Nat) : ∀ (es : List (Nat × Int)) (st : List Int × Bool), v < st.1.length → (rxRow st v es).2 = true → st.2 = true ∨ st.1.getD v 0 < (rxRow st v es).1.getD v 0
  | [], st, _, h => .inl h
  | a :: es, st, hv, h => by
    have hv2 : v < (rx v st a).1.length := by rw [rx_len]; exact hv
    have e3 : rxRow st v (a :: es) = rxRow (rx v st a) v es := rfl
    rw [e3]
    have hm := rx_mono hv a v
    have hm2 := row_mono v es (rx v st a) hv2 v
    rcases row_true v es (rx v st a) hv2 h with h1 | h1
    · rcases rx_true hv h1 with h2 | h2
      · exact .inl h2
      · right; omega
    · right; omega
theorem rows_succ (G : Gr) (k : Nat) (st : List Int × Bool) : rxRows G (k + 1) st = rxRow (rxRows G k st) k (G.getD k []) := by
  unfold rxRows; rw [List.range_succ, List.foldl_append]; rfl
theorem rows_len (G : Gr) (st : List Int × Bool) : ∀ k, (rxRows G k st).1.length = st.1.length
  | 0 => rfl
  | k + 1 => by rw [rows_succ, row_len, rows_len G st k]
theorem rows_mono (G : Gr) (st : List Int × Bool) (j : Nat) : ∀ (d k : Nat), k + d ≤ st.1.length → (rxRows G k st).1.getD j 0 ≤ (rxRows G (k + d) st).1.getD j 0
  | 0, k, _ => Int.le_refl _
  | d + 1, k, h => by
    rw [← Nat.add_assoc, rows_succ]
    exact Int.le_trans (rows_mono G st j d k (by omega)) (row_mono _ _ _ (by rw [rows_len]; omega) j)
theorem round_len (G : Gr) (off : List Int) : (rxRound G off).1.length = off.length := rows_len G _ _
theorem round_mono {G : Gr} {off : List Int} (h : off.length = G.length) (j : Nat) : off.getD j 0 ≤ (rxRound G off).1.getD j 0 := by
  have := rows_mono G (off, false) j G.length 0 (by rw [Nat.zero_add]; exact Nat.le_of_eq h.symm)
  rw [Nat.zero_add] at this
  exact this
theorem round_edge {G : Gr} {off : List Int} (h : off.length = G.length) {v : Nat} (hv : v < G.length) {e : Nat × Int} (he : e ∈ G.getD v []) : off.getD e.1 0 + e.2 ≤ (rxRound G off).1.getD v 0 := by
  have h1 := rows_mono G (off, false) e.1 v 0 (by show 0 + v ≤ off.length; omega)
  rw [Nat.zero_add] at h1
  have h2 := row_edge v (G.getD v []) (rxRows G v (off, false)) (by rw [rows_len]; show v < off.length; omega) e he
  rw [← rows_succ] at h2
  have h3 := rows_mono G (off, false) v (G.length - (v + 1)) (v + 1) (by show _ ≤ off.length; omega)
  rw [show v + 1 + (G.length - (v + 1)) = G.length by omega] at h3
  have h4 : (rxRows G 0 (off, false)).1.getD e.1 0 = off.getD e.1 0 := rfl
  unfold rxRound
  omega
theorem rows_false (G : Gr) (off : List Int) : ∀ k, (rxRows G k (off, false)).2 = false → rxRows G k (off, false) = (off, false) ∧ ∀ v, v < k → ∀ e ∈ G.getD v [], off.getD e.1 0 + e.2 ≤ off.getD v 0
  | 0, _ => ⟨rfl, fun v h => absurd h (by omega)⟩
  | k + 1, h => by
    rw [rows_succ] at h ⊢
    obtain ⟨h1, h2, h3⟩ := row_false k _ _ h
    obtain ⟨g1, g2⟩ := rows_false G off k h1
    rw [g1] at h2 h3 ⊢
    refine ⟨h2, fun v hv e he => ?_⟩
    by_cases hk : v < k
    · exact g2 v hk e he
    · obtain rfl : v = k := by omega
      exact h3 e he
theorem round_false {G : Gr} {off : List Int} (h : (rxRound G off).2 = false) : (rxRound G off).1 = off ∧ ∀ v, v < G.length → ∀ e ∈ G.getD v [], off.getD e.1 0 + e.2 ≤ off.getD v 0 := by
  obtain ⟨h1, h2⟩ := rows_false G off G.length h
  exact ⟨by unfold rxRound; rw [h1], h2⟩
theorem rows_true (G : Gr) (off : List Int) (hl : off.length = G.length) : ∀ k, k ≤ G.length → (rxRows G k (off, false)).2 = true → ∃ v, v < k ∧ off.getD v 0 < (rxRows G k (off, false)).1.getD v 0
  | 0, _, h => by cases h
  | k + 1, hk, h => by
    have hkl : k < (rxRows G k (off, false)).1.length := by rw [rows_len]; show k < off.length; omega
    rw [rows_succ] at h ⊢
    rcases row_true k _ _ hkl h with h1 | h1
    · obtain ⟨v, hv, h2⟩ := rows_true G off hl k (by omega) h1
      have := row_mono k (G.getD k []) _ hkl v
      exact ⟨v, by omega, by omega⟩
    · have := rows_mono G (off, false) k k 0 (by show 0 + k ≤ off.length; omega)
      rw [Nat.zero_add] at this
      have h4 : (rxRows G 0 (off, false)).1.getD k 0 = off.getD k 0 := rfl
      exact ⟨k, by omega, by omega⟩
theorem round_true {G : Gr} {off : List Int} (hl : off.length = G.length) (h : (rxRound G off).2 = true) : ∃ v, v < G.length ∧ off.getD v 0 < (rxRound G off).1.getD v 0 := rows_true G off hl _ (Nat.le_refl _) h
/-- What is kept by raising along a way is kept by a round. -/
theorem round_inv {G : Gr} {I : List Int → Prop} (hI : ∀ off v e, off.length = G.length → I off → v < G.length → e ∈ G.getD v [] → off.getD v 0 < off.getD e.1 0 + e.2 → I (off.set v (off.getD e.1 0 + e.2)))
    {off : List Int} (hl : off.length = G.length) (h : I off) : I (rxRound G off).1 := by
  have hrow : ∀ (v : Nat), v < G.length → ∀ (es : List (Nat × Int)) (st : List Int × Bool), st.1.length = G.length → (∀ e ∈ es, e ∈ G.getD v []) → I st.1 → I (rxRow st v es).1 := by
    intro v hv es
    induction es with
    | nil => intro st _ _ h; exact h
    | cons a es ih =>
      intro st hl2 hes h
      refine ih (rx v st a) (by rw [rx_len]; exact hl2) (fun e he => hes e (by simp [he])) ?_
      unfold rx
      split
      · rename_i h2
        exact hI st.1 v a hl2 h hv (hes a (by simp)) h2
      · exact h
  have hrows : ∀ k, k ≤ G.length → I (rxRows G k (off, false)).1 := by
    intro k
    induction k with
    | zero => intro _; exact h
    | succ k ih =>
      intro hk
      rw [rows_succ]
      exact hrow k (by omega) _ _ (by rw [rows_len]; exact hl) (fun e he => he) (ih (by omega))
  exact hrows _ (Nat.le_refl _)

/-! ### Ways -/
/-- A way from v to z along uses (place, number of the way there), with its weight. -/
inductive Pth (G : Gr) : Nat → List (Nat × Nat) → Nat → Int → Prop
  | nil (v : Nat) : Pth G v [] v 0
  | cons {v i u z : Nat} {w W : Int} {l : List (Nat × Nat)} : (G.getD v [])[i]? = some (u, w) → Pth G u l z W → Pth G v ((v, i) :: l) z (w + W)
theorem Pth.head {G : Gr} {v z : Nat} {x : Nat × Nat} {l : List (Nat × Nat)} {W : Int} (h : Pth G v (x :: l) z W) : x.1 = v := by cases h; rfl
theorem Pth.append {G : Gr} {v u z : Nat} {l m : List (Nat × Nat)} {W X : Int} (h : Pth G v l u W) (k : Pth G u m z X) : Pth G v (l ++ m) z (W + X) := by
  induction h with
  | nil v => rw [Int.zero_add]; exact k
  | cons e h ih => rw [Int.add_assoc]; exact Pth.cons e (ih k)
theorem Pth.split {G : Gr} {m : List (Nat × Nat)} {z : Nat} : ∀ {l : List (Nat × Nat)} {v : Nat} {W : Int}, Pth G v (l ++ m) z W → ∃ u W1 W2, Pth G v l u W1 ∧ Pth G u m z W2 ∧ W = W1 + W2
  | [], v, W, h => ⟨v, 0, W, .nil v, h, by omega⟩
  | x :: l, v, W, h => by
    cases h with
    | cons e h =>
      obtain ⟨u, W1, W2, h1, h2, h3⟩ := Pth.split h
      exact ⟨u, _, W2, .cons e h1, h2, by omega⟩
theorem edge_lt {G : Gr} {v i : Nat} {e : Nat × Int} (h : (G.getD v [])[i]? = some e) : v < G.length := by
  by_cases hv : v < G.length
  · exact hv
  · rw [show G.getD v [] = [] by rw [List.getD_eq_getElem?_getD, List.getElem?_eq_none (by omega)]; rfl] at h; simp at h
theorem Pth.lt {G : Gr} {v z : Nat} {l : List (Nat × Nat)} {W : Int} (h : Pth G v l z W) : ∀ x ∈ l.map Prod.fst, x < G.length := by
  induction h with
  | nil v => intro x hx; cases hx
  | cons e h ih =>
    intro x hx
    rw [List.map_cons, List.mem_cons] at hx
    rcases hx with rfl | hx
    · exact edge_lt e
    · exact ih x hx
/-- All ways lead to places. -/
def Gr.Wf (G : Gr) : Prop := ∀ v, ∀ e ∈ G.getD v [], e.1 < G.length
theorem Pth.last {G : Gr} (hG : G.Wf) {v z : Nat} {l : List (Nat × Nat)} {W : Int} (h : Pth G v l z W) (hv : v < G.length) : z < G.length := by
  induction h with
  | nil v => exact hv
  | cons e h ih => exact ih (hG _ _ (List.mem_of_getElem? e))
/-- A way on which no place comes twice. -/
def Smp (G : Gr) (v : Nat) (l : List (Nat × Nat)) (z : Nat) (W : Int) : Prop := Pth G v l z W ∧ (l.map Prod.fst).Nodup ∧ z ∉ l.map Prod.fst
/-- No circle is worth more than nothing. -/
def NoCirc (G : Gr) : Prop := ∀ v l W, Pth G v l v W → l ≠ [] → (l.map Prod.fst).Nodup → W ≤ 0
theorem nodup_len : ∀ (n : Nat) (l : List Nat), l.Nodup → (∀ x ∈ l, x < n) → l.length ≤ n
  | 0, l, _, h => by
    cases l with
    | nil => exact Nat.le_refl _
    | cons x l => exact absurd (h x (by simp)) (by omega)
  | n + 1, l, hn, h => by
    have h1 := nodup_len n (l.erase n) (hn.erase n) (fun x hx => by
      have h2 := (List.Nodup.mem_erase_iff hn).1 hx
      have := h x h2.2
      omega)
    rw [List.length_erase] at h1
    split at h1 <;> omega
theorem Smp.len {G : Gr} (hG : G.Wf) {v z : Nat} {l : List (Nat × Nat)} {W : Int} (h : Smp G v l z W) (hv : v < G.length) : l.length + 1 ≤ G.length := by
  have := nodup_len G.length (z :: l.map Prod.fst) (List.nodup_cons.2 ⟨h.2.2, h.2.1⟩) (fun x hx => by
    rcases List.mem_cons.1 hx with rfl | hx
    · exact h.1.last hG hv
    · exact h.1.lt x hx)
  simpa using this
/-- Each number is at most the weight of a way without repeats. -/
def Under (G : Gr) (off : List Int) : Prop := ∀ v, v < G.length → ∃ l z W, Smp G v l z W ∧ off.getD v 0 ≤ W
theorem under_step {G : Gr} (hG : G.Wf) (hno : NoCirc G) (off : List Int) (v : Nat) (e : Nat × Int) (hl : off.length = G.length) (h : Under G off) (hv : v < G.length) (he : e ∈ G.getD v []) (_hlt : off.getD v 0 < off.getD e.1 0 + e.2) : Under G (off.set v (off.getD e.1 0 + e.2)) := by
  intro x hx
  rw [getD_set (by omega)]
  by_cases hvx : v = x
  · subst hvx
    rw [if_pos rfl]
    obtain ⟨i, hi⟩ := List.mem_iff_getElem?.1 he
    obtain ⟨l, z, W, ⟨h1, h2, h3⟩, h4⟩ := h e.1 (hG _ _ he)
    have hi2 : (G.getD v [])[i]? = some (e.1, e.2) := hi
    by_cases hm : v ∈ l.map Prod.fst
    · obtain ⟨⟨a, j⟩, ha, rfl⟩ := List.mem_map.1 hm
      obtain ⟨l1, l2, rfl⟩ := List.append_of_mem ha
      obtain ⟨u, W1, W2, p1, p2, rfl⟩ := h1.split
      have hu := p2.head
      simp only at hu hi2 ⊢
      subst hu
      rw [List.map_append, List.nodup_append] at h2
      obtain ⟨n1, n2, n3⟩ := h2
      have hc := hno a ((a, i) :: l1) _ (Pth.cons hi2 p1) (by simp) (by
        rw [List.map_cons, List.nodup_cons]
        exact ⟨fun hin => n3 a hin a (by simp) rfl, n1⟩)
      refine ⟨(a, j) :: l2, z, W2, ⟨p2, n2, fun hz => h3 (by rw [List.map_append]; exact List.mem_append_right _ hz)⟩, ?_⟩
      omega
    · by_cases hz : v = z
      · subst hz
        have hc := hno v ((v, i) :: l) _ (Pth.cons hi2 h1) (by simp) (by rw [List.map_cons, List.nodup_cons]; exact ⟨hm, h2⟩)
        exact ⟨[], v, 0, ⟨.nil v, by simp, by simp⟩, by omega⟩
      · refine ⟨(v, i) :: l, z, e.2 + W, ⟨.cons hi2 h1, by rw [List.map_cons, List.nodup_cons]; exact ⟨hm, h2⟩, ?_⟩, by omega⟩
        rw [List.map_cons, List.mem_cons]
        rintro (h5 | h5)
        · exact hz h5.symm
        · exact h3 h5
  · rw [if_neg hvx]; exact h x hx
/-- Each number is at least the weight of every way of so many steps. -/
def Over (G : Gr) (k : Nat) (off : List Int) : Prop := ∀ v l z W, v < G.length → Pth G v l z W → l.length ≤ k → W ≤ off.getD v 0
theorem over_round {G : Gr} (hG : G.Wf) {k : Nat} {off : List Int} (hl : off.length = G.length) (h : Over G k off) : Over G (k + 1) (rxRound G off).1 := by
  intro v l z W hv hp hk
  cases hp with
  | nil v =>
    exact Int.le_trans (h v [] v 0 hv (.nil v) (by simp)) (round_mono hl v)
  | cons e hp =>
    have he := List.mem_of_getElem? e
    have h1 := h _ _ _ _ (hG _ _ he) hp (by simpa using hk)
    have h2 := round_edge hl hv he
    omega
theorem bf_ends {G : Gr} (hG : G.Wf) (hno : NoCirc G) : ∀ (k j : Nat) (off : List Int), off.length = G.length → Under G off → Over G j off → G.length ≤ j + k → bf G (k + 1) off ≠ none := by
  intro k
  induction k with
  | zero =>
    intro j off hl hu ho hj
    unfold bf
    cases hc : (rxRound G off).2
    · simp
    · exfalso
      obtain ⟨v, hv, h1⟩ := round_true hl hc
      have hu2 := round_inv (G := G) (I := Under G) (under_step hG hno) hl hu
      obtain ⟨l, z, W, hs, h2⟩ := hu2 v hv
      have h3 := hs.len hG hv
      have h4 := ho v l z W hv hs.1 (by omega)
      omega
  | succ k ih =>
    intro j off hl hu ho hj
    unfold bf
    cases hc : (rxRound G off).2
    · simp
    · exact ih (j + 1) _ (by rw [round_len]; exact hl) (round_inv (G := G) (I := Under G) (under_step hG hno) hl hu) (over_round hG hl ho) (by omega)
def zeros (n : Nat) : List Int := List.replicate n 0
theorem zeros_len (n : Nat) : (zeros n).length = n := List.length_replicate
theorem zeros_at (n v : Nat) : (zeros n).getD v 0 = 0 := by
  unfold zeros
  rw [List.getD_eq_getElem?_getD, List.getElem?_replicate]
  split <;> rfl
theorem zeros_under (G : Gr) : Under G (zeros G.length) := fun v _ => ⟨[], v, 0, ⟨.nil v, by simp, by simp⟩, by rw [zeros_at]; exact Int.le_refl _⟩
theorem zeros_over (G : Gr) : Over G 0 (zeros G.length) := fun v l z W _ hp hk => by
  cases hp with
  | nil v => rw [zeros_at]; exact Int.le_refl _
  | cons e hp => simp at hk
/-- Without a circle the rounds come to an end. -/
theorem bf_some {G : Gr} (hG : G.Wf) (hno : NoCirc G) : bf G (G.length + 1) (zeros G.length) ≠ none :=
  bf_ends hG hno G.length 0 _ (zeros_len _) (zeros_under G) (zeros_over G) (by omega)
theorem bf_none {G : Gr} (hG : G.Wf) (h : bf G (G.length + 1) (zeros G.length) = none) : ∃ v l W, Pth G v l v W ∧ l ≠ [] ∧ (l.map Prod.fst).Nodup ∧ 0 < W := by
  apply Classical.byContradiction
  intro hn
  refine bf_some hG (fun v l W h1 h2 h3 => ?_) h
  apply Classical.byContradiction
  intro h4
  exact hn ⟨v, l, W, h1, h2, h3, by omega⟩
/-- All ways are provided for. -/
def Feas (G : Gr) (s : List Int) : Prop := ∀ v, v < G.length → ∀ e ∈ G.getD v [], s.getD e.1 0 + e.2 ≤ s.getD v 0
theorem Feas.pth {G : Gr} {s : List Int} (h : Feas G s) {v z : Nat} {l : List (Nat × Nat)} {W : Int} (hp : Pth G v l z W) : W ≤ s.getD v 0 - s.getD z 0 := by
  induction hp with
  | nil v => omega
  | cons e hp ih =>
    have := h _ (edge_lt e) _ (List.mem_of_getElem? e)
    simp only at this
    omega
theorem Feas.noCirc {G : Gr} {s : List Int} (h : Feas G s) : NoCirc G := fun v l W hp _ _ => by have := h.pth hp; omega
theorem bf_inv {G : Gr} {I : List Int → Prop} (hI : ∀ off v e, off.length = G.length → I off → v < G.length → e ∈ G.getD v [] → off.getD v 0 < off.getD e.1 0 + e.2 → I (off.set v (off.getD e.1 0 + e.2))) :
    ∀ (k : Nat) (off o : List Int), off.length = G.length → I off → bf G k off = some o → I o ∧ o.length = G.length ∧ Feas G o ∧ ∀ j, off.getD j 0 ≤ o.getD j 0
  | 0, off, o, _, _, h => by cases h
  | k + 1, off, o, hl, hi, h => by
    unfold bf at h
    have h1 := round_inv hI hl hi
    have hl1 : (rxRound G off).1.length = G.length := by rw [round_len]; exact hl
    cases hc : (rxRound G off).2
    · rw [hc] at h
      simp only [Bool.false_eq_true, if_false, Option.some.injEq] at h
      obtain ⟨h2, h3⟩ := round_false hc
      rw [h2] at h h1
      subst h
      exact ⟨h1, hl, h3, fun j => Int.le_refl _⟩
    · rw [hc] at h
      simp only [if_true] at h
      obtain ⟨g1, g2, g3, g4⟩ := bf_inv hI k _ o hl1 h1 h
      exact ⟨g1, g2, g3, fun j => Int.le_trans (round_mono hl j) (g4 j)⟩
theorem bf_ok {G : Gr} {k : Nat} {o : List Int} (h : bf G k (zeros G.length) = some o) : o.length = G.length ∧ Feas G o ∧ ∀ j, 0 ≤ o.getD j 0 := by
  obtain ⟨-, h1, h2, h3⟩ := bf_inv (I := fun _ => True) (fun _ _ _ _ _ _ _ _ => trivial) k _ _ (zeros_len _) trivial h
  exact ⟨h1, h2, fun j => by have := h3 j; rw [zeros_at] at this; exact this⟩
theorem bf_least {G : Gr} (hG : G.Wf) {k : Nat} {o s : List Int} (h : bf G k (zeros G.length) = some o) (hs : Feas G s) (h0 : ∀ j, j < G.length → 0 ≤ s.getD j 0) : ∀ j, j < G.length → o.getD j 0 ≤ s.getD j 0 := by
  obtain ⟨h1, -⟩ := bf_inv (I := fun off => ∀ j, j < G.length → off.getD j 0 ≤ s.getD j 0) (fun off v e hl hI hv he _ j hj => by
    rw [getD_set (by omega)]
    by_cases hvj : v = j
    · subst hvj
      rw [if_pos rfl]
      have h2 := hs v hv e he
      have := hI e.1 (hG _ _ he)
      omega
    · rw [if_neg hvj]; exact hI j hj) k _ _ (zeros_len _) (fun j hj => by rw [zeros_at]; exact h0 j hj) h
  exact h1
theorem bf_under {G : Gr} (hG : G.Wf) {k : Nat} {o : List Int} (h : bf G k (zeros G.length) = some o) : Under G o := by
  obtain ⟨-, h2, -⟩ := bf_ok h
  exact (bf_inv (I := Under G) (under_step hG h2.noCirc) k _ _ (zeros_len _) (zeros_under G) h).1

/-! ### The search -/
/-- A circle that begins with the uses l, which go on from v. -/
def srch (G : Gr) (chk : List (Nat × Nat) → Bool) : Nat → List (Nat × Nat) → Nat → Option (List (Nat × Nat))
  | 0, _, _ => none
  | k + 1, l, v => if l.head?.map Prod.fst = some v then (if chk l then some l else none)
    else if v ∈ l.map Prod.fst then none else (List.range (G.getD v []).length).findSome? fun i => srch G chk k (l ++ [(v, i)]) ((G.getD v []).getD i (0, 0)).1
theorem srch_ok {G : Gr} {chk : List (Nat × Nat) → Bool} : ∀ (k : Nat) (l : List (Nat × Nat)) (v : Nat) (o : List (Nat × Nat)), srch G chk k l v = some o → chk o = true ∧ o ≠ []
  | 0, _, _, _, h => by cases h
  | k + 1, l, v, o, h => by
    unfold srch at h
    split at h
    · rename_i h1
      split at h
      · rename_i h2
        cases h
        exact ⟨h2, by rintro rfl; simp at h1⟩
      · cases h
    · split at h
      · cases h
      · obtain ⟨i, -, hi⟩ := List.exists_of_findSome?_eq_some h
        exact srch_ok k _ _ o hi
theorem srch_finds {G : Gr} {chk : List (Nat × Nat) → Bool} {v0 : Nat} : ∀ (rest : List (Nat × Nat)) (k : Nat) (l : List (Nat × Nat)) (v : Nat) (W : Int), Pth G v rest v0 W → (l ≠ [] → l.head?.map Prod.fst = some v0) → (l = [] → v = v0 ∧ rest ≠ []) →
    ((l ++ rest).map Prod.fst).Nodup → chk (l ++ rest) = true → rest.length < k → srch G chk k l v ≠ none
  | [], k, l, v, W, hp, h1, h2, _, hc, hk => by
    cases hp
    obtain ⟨k, rfl⟩ : ∃ j, k = j + 1 := ⟨k - 1, by simp at hk; omega⟩
    have hl : l ≠ [] := fun e => (h2 e).2 rfl
    rw [List.append_nil] at hc
    unfold srch
    rw [if_pos (h1 hl), if_pos hc]
    simp
  | x :: rest, k, l, v, W, hp, h1, h2, hn, hc, hk => by
    obtain ⟨k, rfl⟩ : ∃ j, k = j + 1 := ⟨k - 1, by simp at hk; omega⟩
    cases hp with
    | @cons _ i u _ w W' _ e hp =>
    have hv : v ∉ l.map Prod.fst := by
      rw [List.map_append, List.nodup_append] at hn
      intro hin
      exact hn.2.2 v hin v (by simp) rfl
    have hh : ¬ l.head?.map Prod.fst = some v := by
      intro he
      cases l with
      | nil => simp at he
      | cons y l =>
        simp at he
        exact hv (by simp [he])
    unfold srch
    rw [if_neg hh, if_neg hv]
    intro hnone
    rw [List.findSome?_eq_none_iff] at hnone
    have hi : i < (G.getD v []).length := (List.getElem?_eq_some_iff.1 e).1
    have h3 := hnone i (List.mem_range.2 hi)
    have h4 : (G.getD v []).getD i (0, 0) = (u, w) := by rw [List.getD_eq_getElem?_getD, e]; rfl
    rw [h4] at h3
    refine srch_finds rest k (l ++ [(v, i)]) u W' hp (fun _ => ?_) (fun e => ?_) (by rw [List.append_assoc]; exact hn) (by rw [List.append_assoc]; exact hc) (by simp at hk; omega) h3
    · cases l with
      | nil => rw [(h2 rfl).1]; simp
      | cons y l => have := h1 (by simp); simpa using this
    · simp at e
end Go.Proofs.YtakbpjgnjfigcaaGreat

/- Levels of a graph's elements, an order of them by counting, and a search for levels: plain functions on lists and numbers. -/
namespace Go.Proofs.YtakbpjgnjfigcaaGreat

/-- For each element: those that it uses. -/
abbrev Uses := Nat → List Nat
/-- The element has a level. -/
inductive Gd (us : Uses) : Nat → Prop
  | mk (k : Nat) : (∀ u, u ∈ us k → Gd us u) → Gd us k
theorem Gd.all {us : Uses} {k : Nat} (h : Gd us k) : ∀ u ∈ us k, Gd us u := by cases h; assumption
theorem Gd.acc {us : Uses} {k : Nat} (h : Gd us k) : Acc (fun u k => u ∈ us k) k := by
  induction h with
  | mk k _ ih => exact ⟨k, fun u hu => ih u hu⟩
/-- What is computed of what is computed for those that are used. -/
noncomputable def rkA {β : Type} (us : Uses) (z : β) (F : Nat → (Nat → β) → β) {k : Nat} (h : Acc (fun u k => u ∈ us k) k) : β :=
  h.rec (motive := fun _ _ => β) (fun k _ ih => F k (fun u => by classical exact if hu : u ∈ us k then ih u hu else z))
noncomputable def rk {β : Type} (us : Uses) (z : β) (F : Nat → (Nat → β) → β) (k : Nat) : β := by
  classical exact if h : Gd us k then rkA us z F h.acc else z
theorem rk_eq {β : Type} {us : Uses} {z : β} {F : Nat → (Nat → β) → β} (hF : ∀ k g g', (∀ u ∈ us k, g u = g' u) → F k g = F k g') {k : Nat} (h : Gd us k) : rk us z F k = F k (rk us z F) := by
  have e : ∀ {j : Nat} (hj : Gd us j) (ha : Acc (fun u k => u ∈ us k) j), rk us z F j = rkA us z F ha := fun hj ha => by unfold rk; rw [dif_pos hj]
  have h2 := h.all
  rw [e h h.acc]
  cases hA : h.acc with
  | intro _ hk =>
    show F k _ = F k _
    refine hF k _ _ fun u hu => ?_
    rw [dif_pos hu]
    exact (e (h2 u hu) (hk u hu)).symm
/-- A way from s to k of one step at least: s uses .. k. -/
inductive Rch (us : Uses) : Nat → Nat → Prop
  | one {s k : Nat} : k ∈ us s → Rch us s k
  | more {s t k : Nat} : Rch us s t → k ∈ us t → Rch us s k
theorem Rch.gd {us : Uses} {s k : Nat} (h : Rch us s k) (hs : Gd us s) : Gd us k := by
  induction h with
  | one h => exact hs.all _ h
  | more _ h ih => exact ih.all _ h
theorem Rch.cons {us : Uses} {s t k : Nat} (h1 : t ∈ us s) (h : Rch us t k) : Rch us s k := by
  induction h with
  | one h => exact .more (.one h1) h
  | more _ h ih => exact .more ih h
theorem Rch.bad {us : Uses} {k : Nat} (h : Rch us k k) : ¬ Gd us k := by
  intro hg
  have : ∀ s, Gd us s → ¬ Rch us s s := fun s hs => by
    induction hs with
    | mk s _ ih =>
      intro hr
      -- the first step of the way leads to one that is on a circle, too
      have : ∃ u, u ∈ us s ∧ Rch us u u := by
        have key : ∀ {a b : Nat}, Rch us a b → ∃ u, u ∈ us a ∧ (u = b ∨ Rch us u b) := fun h => by
          induction h with
          | one h => exact ⟨_, h, .inl rfl⟩
          | more _ h ih =>
            obtain ⟨u, hu, h3⟩ := ih
            rcases h3 with rfl | h3
            · exact ⟨u, hu, .inr (.one h)⟩
            · exact ⟨u, hu, .inr (.more h3 h)⟩
        obtain ⟨u, hu, h3⟩ := key hr
        refine ⟨u, hu, ?_⟩
        rcases h3 with rfl | h3
        · exact hr
        · exact .more h3 hu
      obtain ⟨u, hu, h3⟩ := this
      exact ih u hu h3
  exact this k hg h

/-! ### An order by counting -/
/-- How many of those that k uses are not in l. -/
def lftN (us : Uses) (l : List Nat) (k : Nat) : Nat := (us k).countP fun u => !l.contains u
theorem left_nil (us : Uses) (k : Nat) : lftN us [] k = (us k).length := by
  unfold lftN; rw [List.countP_eq_length.2]; intro a _; simp
theorem left_snoc {us : Uses} {l : List Nat} {x k : Nat} (h : x ∉ l) : lftN us l k = lftN us (l ++ [x]) k + (us k).count x := by
  unfold lftN List.count
  generalize us k = L
  induction L with
  | nil => rfl
  | cons a L ih =>
    simp only [List.countP_cons]
    rw [ih]
    by_cases hax : a = x
    · subst hax; simp [h]; omega
    · have : ((l ++ [x]).contains a) = l.contains a := by
        simp [List.contains_eq_mem, hax]
      rw [this]
      simp [hax]; omega
theorem left_zero {us : Uses} {l : List Nat} {k : Nat} : lftN us l k = 0 ↔ ∀ u ∈ us k, u ∈ l := by
  unfold lftN
  rw [List.countP_eq_zero]
  simp
/-- The users of u among the first k. -/
def usrs (us : Uses) (k u : Nat) : List Nat := (List.range k).flatMap fun j => List.replicate ((us j).count u) j
theorem usrs_zero (us : Uses) (u : Nat) : usrs us 0 u = [] := rfl
theorem usrs_succ (us : Uses) (k u : Nat) : usrs us (k + 1) u = usrs us k u ++ List.replicate ((us k).count u) k := by
  unfold usrs; rw [List.range_succ, List.flatMap_append]; simp
theorem usrs_count (us : Uses) (u j : Nat) : ∀ k, (usrs us k u).count j = if j < k then (us j).count u else 0 := by
  intro k
  induction k with
  | zero => simp [usrs_zero]
  | succ k ih =>
    rw [usrs_succ, List.count_append, ih, List.count_replicate]
    by_cases h : j < k
    · have h1 : ¬ k = j := by omega
      have h2 : j < k + 1 := by omega
      simp [h, h1, h2]
    · by_cases h2 : k = j
      · subst h2; simp
      · have h3 : ¬ j < k + 1 := by omega
        simp [h, h2, h3]
theorem usrs_lt {us : Uses} {k u j : Nat} (h : j ∈ usrs us k u) : j < k := by
  unfold usrs at h
  obtain ⟨i, hi, h2⟩ := List.mem_flatMap.1 h
  have := List.eq_of_mem_replicate h2
  have := List.mem_range.1 hi
  omega
/-- Where the order stands: i of out are looked at, t of the users of the next one. -/
structure Khn (us : Uses) (N i t : Nat) (out : List Nat) (wait : List Int) : Prop where
  nd : out.Nodup
  lt : ∀ x ∈ out, x < N
  len : wait.length = N
  ile : i ≤ out.length
  wt : ∀ k, k < N → wait.getD k 0 + (((usrs us N (out.getD i N)).take t).count k : Nat) = (lftN us (out.take i) k : Nat)
  tz : out.length = i → t = 0
  mem : ∀ k, k < N → (k ∈ out ↔ wait.getD k 0 = 0)
  ord : ∀ j (h : j < out.length), ∀ u ∈ us out[j], u ∈ out.take j
theorem getD_snoc_lt {l : List Nat} {x i d : Nat} (h : i < l.length) : (l ++ [x]).getD i d = l.getD i d := by
  simp [List.getD_eq_getElem?_getD, List.getElem?_append_left h]
theorem count_take_succ {l : List Nat} {t k : Nat} (h : t < l.length) : (l.take (t + 1)).count k = (l.take t).count k + if l[t] = k then 1 else 0 := by
  rw [List.take_succ_eq_append_getElem h, List.count_append]
  simp [List.count_cons]
/-- One user more has one less to wait for; others are as they were. -/
theorem Khn.step {us : Uses} {N i t : Nat} {out : List Nat} {wait : List Int} (h : Khn us N i t out wait) (hi : i < out.length) (ht : t < (usrs us N (out.getD i N)).length)
    {k : Nat} (hk : (usrs us N (out.getD i N))[t] = k) :
    k < N ∧ 1 ≤ wait.getD k 0 ∧ k ∉ out ∧
    (wait.getD k 0 - 1 ≠ 0 → Khn us N i (t + 1) out (wait.set k (wait.getD k 0 - 1))) ∧
    (wait.getD k 0 - 1 = 0 → Khn us N i (t + 1) (out ++ [k]) (wait.set k (wait.getD k 0 - 1))) := by
  have hkN : k < N := usrs_lt (us := us) (u := out.getD i N) (by rw [← hk]; exact List.getElem_mem ht)
  have hxi : out.getD i N = out[i] := by rw [List.getD_eq_getElem?_getD, List.getElem?_eq_getElem hi]; rfl
  have hxn : out[i] ∉ out.take i := by
    intro hm
    obtain ⟨j, hj, e⟩ := List.getElem_of_mem hm
    rw [List.getElem_take] at e
    rw [List.length_take] at hj
    exact (List.pairwise_iff_getElem.1 (List.nodup_iff_pairwise_ne.1 h.nd) j i (by omega) hi (by omega)) e
  have htk : out.take (i + 1) = out.take i ++ [out[i]] := List.take_succ_eq_append_getElem hi
  have hcnt : ∀ j, j < N → ((usrs us N (out.getD i N)).take (t + 1)).count j ≤ (us j).count out[i] := fun j hj => by
    rw [hxi]
    refine Nat.le_trans (List.Sublist.count_le _ (List.take_sublist _ _)) ?_
    rw [usrs_count, if_pos hj]; exact Nat.le_refl _
  have hle : ∀ j, j < N → ((usrs us N (out.getD i N)).take (t + 1)).count j ≤ lftN us (out.take i) j := fun j hj => by
    have := hcnt j hj
    rw [left_snoc hxn]; omega
  have h1 : 1 ≤ wait.getD k 0 := by
    have a := h.wt k hkN
    have b := hle k hkN
    rw [count_take_succ ht, if_pos hk] at b
    omega
  have hkl : k < wait.length := by rw [h.len]; exact hkN
  have hno : k ∉ out := fun hm => by have := (h.mem k hkN).1 hm; omega
  have hwt : ∀ j, j < N → (wait.set k (wait.getD k 0 - 1)).getD j 0 + (((usrs us N (out.getD i N)).take (t + 1)).count j : Nat) = (lftN us (out.take i) j : Nat) := fun j hj => by
    have a := h.wt j hj
    rw [getD_set hkl, count_take_succ ht]
    by_cases e : k = j
    · subst e; rw [if_pos rfl, if_pos hk]; omega
    · rw [if_neg e, if_neg (by rw [hk]; exact e)]; omega
  refine ⟨hkN, h1, hno, fun h0 => ?_, fun h0 => ?_⟩
  · refine ⟨h.nd, h.lt, by rw [List.length_set]; exact h.len, h.ile, hwt, fun e => by omega, fun j hj => ?_, h.ord⟩
    rw [getD_set hkl]
    by_cases e : k = j
    · subst e; rw [if_pos rfl]
      exact ⟨fun hm => absurd hm hno, fun h2 => absurd h2 h0⟩
    · rw [if_neg e]; exact h.mem j hj
  · have hile := h.ile
    refine ⟨List.nodup_append.2 ⟨h.nd, by simp, fun a ha b hb => by simp at hb; subst hb; intro e; subst e; exact hno ha⟩, fun x hx => ?_, by rw [List.length_set]; exact h.len, by simp; omega, ?_, fun e => by simp at e; omega, fun j hj => ?_, ?_⟩
    · rcases List.mem_append.1 hx with hx | hx
      · exact h.lt x hx
      · simp at hx; omega
    · rw [getD_snoc_lt hi, List.take_append_of_le_length (by omega)]
      exact hwt
    · rw [getD_set hkl]
      by_cases e : k = j
      · subst e; rw [if_pos rfl, h0]; simp
      · rw [if_neg e, ← h.mem j hj]; simp; intro e2; exact absurd e2.symm e
    · intro j hj u hu
      by_cases hjl : j < out.length
      · rw [List.getElem_append_left hjl] at hu
        rw [List.take_append_of_le_length (by omega)]
        exact h.ord j hjl u hu
      · have hje : j = out.length := by simp at hj; omega
        subst hje
        simp only [List.getElem_concat_length] at hu
        rw [List.take_append_of_le_length (Nat.le_refl _), List.take_length]
        -- all that k uses has been looked at, or is the one that is being looked at
        have a := hwt k hkN
        rw [getD_set hkl, if_pos rfl, h0] at a
        have b := hcnt k hkN
        have c := left_snoc (us := us) (k := k) hxn
        have d : lftN us (out.take i ++ [out[i]]) k = 0 := by omega
        have e := left_zero.1 d u hu
        rw [← htk] at e
        exact List.mem_of_mem_take e
/-- All users of the next one are looked at. -/
theorem Khn.next {us : Uses} {N i t : Nat} {out : List Nat} {wait : List Int} (h : Khn us N i t out wait) (hi : i < out.length) (ht : t = (usrs us N (out.getD i N)).length) : Khn us N (i + 1) 0 out wait := by
  have hxi : out.getD i N = out[i] := by rw [List.getD_eq_getElem?_getD, List.getElem?_eq_getElem hi]; rfl
  have hxn : out[i] ∉ out.take i := by
    intro hm
    obtain ⟨j, hj, e⟩ := List.getElem_of_mem hm
    rw [List.getElem_take] at e
    rw [List.length_take] at hj
    exact (List.pairwise_iff_getElem.1 (List.nodup_iff_pairwise_ne.1 h.nd) j i (by omega) hi (by omega)) e
  refine ⟨h.nd, h.lt, h.len, hi, fun k hk => ?_, fun _ => rfl, h.mem, h.ord⟩
  have a := h.wt k hk
  rw [ht, List.take_length, hxi, usrs_count, if_pos hk, left_snoc hxn] at a
  rw [List.take_succ_eq_append_getElem hi]
  simp only [List.take_zero, List.count_nil]
  omega
/-- The order, and how much each waits for. -/
structure Ordd (us : Uses) (N : Nat) (out : List Nat) (wait : List Int) : Prop where
  nd : out.Nodup
  lt : ∀ x ∈ out, x < N
  len : wait.length = N
  wt : ∀ k, k < N → wait.getD k 0 = (lftN us out k : Nat)
  mem : ∀ k, k < N → (k ∈ out ↔ wait.getD k 0 = 0)
  ord : ∀ j (h : j < out.length), ∀ u ∈ us out[j], u ∈ out.take j
theorem Khn.done {us : Uses} {N t : Nat} {out : List Nat} {wait : List Int} (h : Khn us N out.length t out wait) : Ordd us N out wait :=
  ⟨h.nd, h.lt, h.len, fun k hk => by have a := h.wt k hk; rw [h.tz rfl, List.take_length] at a; simpa using a, h.mem, h.ord⟩
/-- The order's beginning: those that use nothing. -/
theorem Khn.start {us : Uses} {N : Nat} {out : List Nat} {wait : List Int} (ho : out = (List.range N).filter fun k => decide ((us k).length = 0)) (hl : wait.length = N) (hw : ∀ k, k < N → wait.getD k 0 = ((us k).length : Nat)) : Khn us N 0 0 out wait := by
  subst ho
  refine ⟨List.nodup_range.sublist List.filter_sublist, fun x hx => ?_, hl, Nat.zero_le _, fun k hk => ?_, fun _ => rfl, fun k hk => ?_, fun j h u hu => ?_⟩
  · exact List.mem_range.1 (List.mem_filter.1 hx).1
  · rw [show List.take 0 (List.filter (fun k => decide ((us k).length = 0)) (List.range N)) = [] from List.take_zero, left_nil, hw k hk]; simp
  · rw [hw k hk]; simp [hk]; 
  · have := List.getElem_mem h
    have := (List.mem_filter.1 this).2
    have h0 := of_decide_eq_true this
    rw [List.length_eq_zero_iff.1 h0] at hu
    exact absurd hu (by simp)
theorem Ordd.gd {us : Uses} {N : Nat} {out : List Nat} {wait : List Int} (h : Ordd us N out wait) : ∀ k ∈ out, Gd us k := by
  have : ∀ n j (hj : j < out.length), j < n → Gd us out[j] := by
    intro n
    induction n with
    | zero => intro j _ h; omega
    | succ n ih =>
      intro j hj _
      refine ⟨_, fun u hu => ?_⟩
      obtain ⟨i, hi, e⟩ := List.getElem_of_mem (h.ord j hj u hu)
      rw [List.getElem_take] at e
      rw [List.length_take] at hi
      rw [← e]
      exact ih i (by omega) (by omega)
  intro k hk
  obtain ⟨j, hj, rfl⟩ := List.getElem_of_mem hk
  exact this (j + 1) j hj (by omega)
theorem Ordd.has {us : Uses} {N : Nat} {out : List Nat} {wait : List Int} (h : Ordd us N out wait) (hus : ∀ k, k < N → ∀ u ∈ us k, u < N) {k : Nat} (hk : k < N) (hg : Gd us k) : k ∈ out := by
  have : ∀ k, Gd us k → k < N → k ∈ out := fun k hg => by
    induction hg with
    | mk k _ ih =>
      intro hk
      rw [h.mem k hk, h.wt k hk]
      have : lftN us out k = 0 := left_zero.2 fun u hu => ih u hu (hus k hk u hu)
      omega
  exact this k hg hk
theorem Ordd.le {us : Uses} {N : Nat} {out : List Nat} {wait : List Int} (h : Ordd us N out wait) : out.length ≤ N := nodup_len N out h.nd h.lt
/-- As long as the elements are: each has a level. -/
theorem Ordd.full {us : Uses} {N : Nat} {out : List Nat} {wait : List Int} (h : Ordd us N out wait) (hl : out.length = N) : ∀ k, k < N → k ∈ out := by
  intro k hk
  by_cases hm : k ∈ out
  · exact hm
  · have := nodup_len N (k :: out) (List.nodup_cons.2 ⟨hm, h.nd⟩) (fun x hx => by
      rcases List.mem_cons.1 hx with rfl | hx
      · exact hk
      · exact h.lt x hx)
    simp at this; omega
theorem range_len {N : Nat} {out : List Nat} (hall : ∀ k, k < N → k ∈ out) : N ≤ out.length := by
  have := (List.nodup_range (n := N)).length_le_of_subset (l₂ := out) (fun k hk => hall k (List.mem_range.1 hk))
  simpa using this
/-- Whether all have levels. -/
theorem Ordd.iff {us : Uses} {N : Nat} {out : List Nat} {wait : List Int} (h : Ordd us N out wait) (hus : ∀ k, k < N → ∀ u ∈ us k, u < N) : out.length < N ↔ ¬ ∀ k, k < N → Gd us k := by
  constructor
  · intro hl hg
    have := range_len fun k hk => h.has hus hk (hg k hk)
    omega
  · intro hn
    have := h.le
    by_cases hl : out.length = N
    · exact absurd (fun k hk => h.gd k (h.full hl k hk)) hn
    · omega

/-! ### Levels -/
def lvR (us : Uses) (k : Nat) (g : Nat → Nat) : Nat := (us k).foldl (fun a u => max a (g u + 1)) 1
theorem foldl_ext {α β : Type} {f g : β → α → β} : ∀ (l : List α) (a : β), (∀ b, ∀ x ∈ l, f b x = g b x) → l.foldl f a = l.foldl g a
  | [], _, _ => rfl
  | x :: l, a, h => by
    rw [List.foldl_cons, List.foldl_cons, h a x List.mem_cons_self]
    exact foldl_ext l _ fun b y hy => h b y (List.mem_cons_of_mem _ hy)
noncomputable def lvl (us : Uses) : Nat → Nat := rk us 0 (lvR us)
theorem lvl_eq {us : Uses} {k : Nat} (h : Gd us k) : lvl us k = lvR us k (lvl us) :=
  rk_eq (F := lvR us) (fun k g g' hg => foldl_ext _ _ fun b u hu => by rw [hg u hu]) h
theorem foldl_max_ge {g : Nat → Nat} : ∀ (l : List Nat) (a : Nat), a ≤ l.foldl (fun a u => max a (g u + 1)) a
  | [], a => Nat.le_refl _
  | u :: l, a => Nat.le_trans (Nat.le_max_left a (g u + 1)) (foldl_max_ge l _)
theorem lvl_pos {us : Uses} {k : Nat} (h : Gd us k) : 1 ≤ lvl us k := by rw [lvl_eq h]; exact foldl_max_ge _ _
theorem foldl_max_mem {g : Nat → Nat} : ∀ (l : List Nat) (a : Nat), ∀ u ∈ l, g u + 1 ≤ l.foldl (fun a u => max a (g u + 1)) a
  | [], _, u, h => absurd h (by simp)
  | x :: l, a, u, h => by
    rcases List.mem_cons.1 h with rfl | h
    · exact Nat.le_trans (Nat.le_max_right a (g u + 1)) (foldl_max_ge l _)
    · exact foldl_max_mem l _ u h
theorem lvl_use {us : Uses} {k u : Nat} (h : Gd us k) (hu : u ∈ us k) : lvl us u + 1 ≤ lvl us k := by rw [lvl_eq h]; exact foldl_max_mem _ _ u hu
theorem foldl_max_att {g : Nat → Nat} : ∀ (l : List Nat) (a : Nat), l.foldl (fun a u => max a (g u + 1)) a = a ∨ ∃ u ∈ l, l.foldl (fun a u => max a (g u + 1)) a = g u + 1
  | [], a => .inl rfl
  | x :: l, a => by
    rcases foldl_max_att (g := g) l (max a (g x + 1)) with h | ⟨u, hu, h⟩
    · rw [List.foldl_cons, h]
      rcases Nat.le_total a (g x + 1) with h2 | h2
      · exact .inr ⟨x, List.mem_cons_self, by rw [Nat.max_eq_right h2]⟩
      · exact .inl (Nat.max_eq_left h2)
    · exact .inr ⟨u, List.mem_cons_of_mem _ hu, h⟩
/-- A level above 1 is greater by just 1 than that of one that is used. -/
theorem lvl_prev {us : Uses} {k : Nat} (h : Gd us k) (h1 : 1 < lvl us k) : ∃ u ∈ us k, lvl us k = lvl us u + 1 := by
  rw [lvl_eq h] at h1 ⊢
  rcases foldl_max_att (g := lvl us) (us k) 1 with e | e
  · unfold lvR at h1; omega
  · exact e
theorem Ordd.lvl_le {us : Uses} {N : Nat} {out : List Nat} {wait : List Int} (h : Ordd us N out wait) : ∀ j (hj : j < out.length), lvl us out[j] ≤ j + 1 := by
  have : ∀ n j (hj : j < out.length), j < n → lvl us out[j] ≤ j + 1 := by
    intro n
    induction n with
    | zero => intro j _ h; omega
    | succ n ih =>
      intro j hj _
      have hg := h.gd _ (List.getElem_mem hj)
      by_cases h1 : 1 < lvl us out[j]
      · obtain ⟨u, hu, e⟩ := lvl_prev hg h1
        obtain ⟨i, hi, e2⟩ := List.getElem_of_mem (h.ord j hj u hu)
        rw [List.getElem_take] at e2
        rw [List.length_take] at hi
        have := ih i (by omega) (by omega)
        rw [e2] at this
        omega
      · omega
  exact fun j hj => this (j + 1) j hj (by omega)

/-! ### A search for levels -/
/-- What the search knows: 0 nothing, -1 it is under way, else the level. -/
structure Srch (us : Uses) (N : Nat) (L : List Int) : Prop where
  len : L.length = N
  ok : ∀ k, k < N → L.getD k 0 = 0 ∨ L.getD k 0 = -1 ∨ (Gd us k ∧ L.getD k 0 = (lvl us k : Nat))
def zros (L : List Int) : Nat := L.countP fun x => x == 0
theorem zros_set {L : List Int} {k : Nat} {x : Int} (hk : k < L.length) (h0 : L.getD k 0 = 0) (hx : x ≠ 0) : zros (L.set k x) + 1 = zros L := by
  unfold zros
  induction L generalizing k with
  | nil => simp at hk
  | cons a L ih =>
    cases k with
    | zero => simp at h0; subst h0; simp [hx]
    | succ k =>
      have := ih (k := k) (by simpa using hk) (by simpa using h0)
      simp only [List.set_cons_succ, List.countP_cons]
      omega
/-- One search has gone from L to M: what was known is known. -/
structure Went (L M : List Int) : Prop where
  len : M.length = L.length
  old : ∀ k, L.getD k 0 ≠ 0 → M.getD k 0 = L.getD k 0
  way : ∀ k, M.getD k 0 = -1 → L.getD k 0 = -1
theorem Went.refl (L : List Int) : Went L L := ⟨rfl, fun _ _ => rfl, fun _ h => h⟩
theorem Went.trans {L M R : List Int} (h : Went L M) (h' : Went M R) : Went L R :=
  ⟨h'.len.trans h.len, fun k hk => by have := h.old k hk; rw [← this]; exact h'.old k (by rw [this]; exact hk), fun k hk => h.way k (h'.way k hk)⟩
theorem Went.zros {L M : List Int} (h : Went L M) : zros M ≤ zros L := by
  have : ∀ (L M : List Int), M.length = L.length → (∀ k, L.getD k 0 ≠ 0 → M.getD k 0 = L.getD k 0) → M.countP (fun x => x == 0) ≤ L.countP (fun x => x == 0) := by
    intro L
    induction L with
    | nil => intro M hl _; rw [List.length_eq_zero_iff.1 hl]; exact Nat.le_refl _
    | cons a L ih =>
      intro M hl ho
      cases M with
      | nil => simp at hl
      | cons b M =>
        have h1 := ih M (by simpa using hl) (fun k hk => by simpa using ho (k + 1) (by simpa using hk))
        have h2 := ho 0
        simp only [List.countP_cons]
        simp at h2
        by_cases ha : a = 0
        · subst ha; simp; split <;> omega
        · rw [h2 ha]; simp [ha]; exact h1
  exact this L M h.len h.old
/-- The element is under way from now on. -/
theorem Srch.enter {us : Uses} {N : Nat} {L : List Int} {k : Nat} (h : Srch us N L) (hk : k < N) : Srch us N (L.set k (-1)) := by
  refine ⟨by rw [List.length_set]; exact h.len, fun j hj => ?_⟩
  rw [getD_set (by rw [h.len]; exact hk)]
  by_cases e : k = j
  · rw [if_pos e]; exact .inr (.inl rfl)
  · rw [if_neg e]; exact h.ok j hj
theorem Srch.leave {us : Uses} {N : Nat} {L : List Int} {k : Nat} (h : Srch us N L) (hk : k < N) (hg : Gd us k) : Srch us N (L.set k (lvl us k : Nat)) := by
  refine ⟨by rw [List.length_set]; exact h.len, fun j hj => ?_⟩
  rw [getD_set (by rw [h.len]; exact hk)]
  by_cases e : k = j
  · subst e; rw [if_pos rfl]; exact .inr (.inr ⟨hg, rfl⟩)
  · rw [if_neg e]; exact h.ok j hj
theorem Went.visit {L M : List Int} {k : Nat} {x : Int} (hk : k < L.length) (h0 : L.getD k 0 = 0) (h : Went (L.set k (-1)) M) (hx : x ≠ -1) : Went L (M.set k x) := by
  have hl := h.len
  rw [List.length_set] at hl
  have hkM : k < M.length := by omega
  refine ⟨by rw [List.length_set]; exact hl, fun j hj => ?_, fun j hj => ?_⟩
  · have hkj : k ≠ j := fun e => by subst e; exact hj h0
    rw [getD_set hkM, if_neg hkj]
    have := h.old j (by rw [getD_set hk, if_neg hkj]; exact hj)
    rw [this, getD_set hk, if_neg hkj]
  · by_cases hkj : k = j
    · subst hkj; rw [getD_set hkM, if_pos rfl] at hj; exact absurd hj hx
    · rw [getD_set hkM, if_neg hkj] at hj
      have := h.way j hj
      rw [getD_set hk, if_neg hkj] at this; exact this
theorem lvR_take {us : Uses} {k : Nat} {g : Nat → Nat} {j : Nat} (hj : j < (us k).length) : ((us k).take (j + 1)).foldl (fun a u => max a (g u + 1)) 1 = max (((us k).take j).foldl (fun a u => max a (g u + 1)) 1) (g (us k)[j] + 1) := by
  rw [List.take_succ_eq_append_getElem hj, List.foldl_append]; rfl
end Go.Proofs.YtakbpjgnjfigcaaGreat

/- The elements of a recurrence by their numbers, and what they use; the map of the points' numbers. -/
namespace Go.Proofs.YtakbpjgnjfigcaaGreat
open Go.RowKit Go.Maps

/-! ### The number of a point -/
/-- The last place below k where p stands. -/
def pixU (P : List Pt) : Nat → Pt → Option Nat
  | 0, _ => none
  | k + 1, p => if P.getD k default = p then some k else pixU P k p
def pix (P : List Pt) (p : Pt) : Option Nat := pixU P P.length p
theorem pixU_some {P : List Pt} {p : Pt} {i : Nat} : ∀ {k : Nat}, pixU P k p = some i → i < k ∧ P.getD i default = p
  | 0, h => by cases h
  | k + 1, h => by
    unfold pixU at h
    split at h
    · rename_i e
      obtain rfl := Option.some.inj h
      exact ⟨by omega, e⟩
    · have := pixU_some h
      exact ⟨by omega, this.2⟩
theorem pixU_none {P : List Pt} {p : Pt} : ∀ {k : Nat}, pixU P k p = none → ∀ i, i < k → P.getD i default ≠ p
  | 0, _, i, h => by omega
  | k + 1, h, i, hi => by
    unfold pixU at h
    split at h
    · cases h
    · rename_i e
      by_cases hik : i = k
      · subst hik; exact e
      · exact pixU_none h i (by omega)
theorem pix_some {P : List Pt} {p : Pt} {i : Nat} (h : pix P p = some i) : ∃ h : i < P.length, P[i] = p := by
  have h1 := pixU_some h
  refine ⟨h1.1, ?_⟩
  have := h1.2
  rw [List.getD_eq_getElem?_getD, List.getElem?_eq_getElem h1.1] at this
  exact this
theorem pix_none {P : List Pt} {p : Pt} (h : pix P p = none) : p ∉ P := by
  intro hm
  obtain ⟨i, hi, e⟩ := List.getElem_of_mem hm
  refine pixU_none h i hi ?_
  rw [List.getD_eq_getElem?_getD, List.getElem?_eq_getElem hi]; exact e
theorem pix_mem {P : List Pt} {p : Pt} : (pix P p).isSome = true ↔ p ∈ P := by
  cases h : pix P p with
  | none => exact ⟨fun h2 => by simp at h2, fun hm => absurd hm (pix_none h)⟩
  | some i => exact ⟨fun _ => by obtain ⟨hi, e⟩ := pix_some h; rw [← e]; exact List.getElem_mem hi, fun _ => rfl⟩
theorem pix_at {P : List Pt} (hn : P.Nodup) {i : Nat} (hi : i < P.length) : pix P P[i] = some i := by
  cases h : pix P P[i] with
  | none => exact absurd (List.getElem_mem hi) (pix_none h)
  | some j =>
    obtain ⟨hj, e⟩ := pix_some h
    have := (List.nodup_iff_pairwise_ne.1 hn)
    rw [List.pairwise_iff_getElem] at this
    rcases Nat.lt_trichotomy i j with h1 | h1 | h1
    · exact absurd e.symm (this i j hi hj h1)
    · rw [h1]
    · exact absurd e (this j i hj hi h1)
/-! ### The map -/
theorem ptK_inj {a b : Pt} (ha : a.I64) (hb : b.I64) (h : ptK a = ptK b) : a = b := by
  have h1 := key_of_pt ha
  have h2 := key_of_pt hb
  rw [h] at h1
  have := key_ptk.inj h1 h2
  simp only [pvK, Value.agg.injEq, Array.mk.injEq, List.cons.injEq, Value.int.injEq, true_and, and_true] at this
  cases a; cases b; simp at this ⊢; exact this
def ptD (P : List Pt) : Nat → DataW Unit
  | 0 => .map []
  | k + 1 => (ptD P k).put (ptK (P.getD k default)) (.lit (.int .i64 (k : Int)))
theorem ptD_isMap (P : List Pt) : ∀ k, IsMap (ptD P k)
  | 0 => isMap_empty
  | k + 1 => (ptD_isMap P k).put _ _
theorem ptD_put {P : List Pt} {k : Nat} (hk : k < P.length) : ptD P (k + 1) = (ptD P k).put (ptK P[k]) (.lit (.int .i64 (k : Int))) := by
  simp [ptD, List.getElem?_eq_getElem hk]
theorem ptD_at {P : List Pt} {p : Pt} (hp : p.I64) : ∀ {k : Nat}, k ≤ P.length → (∀ q ∈ P, q.I64) →
    (ptD P k).atKey (ptK p) (.lit (.int .i64 0)) = .lit (.int .i64 (((pixU P k p).getD 0 : Nat) : Int)) ∧ has (ptD P k) (ptK p) = (pixU P k p).isSome
  | 0, _, _ => ⟨rfl, rfl⟩
  | k + 1, hk, hP => by
    have ih := ptD_at hp (k := k) (by omega) hP
    have hk' : k < P.length := by omega
    have e : P.getD k default = P[k] := by simp [List.getElem?_eq_getElem hk']
    have hq := hP _ (List.getElem_mem hk')
    unfold ptD pixU
    rw [e]
    by_cases h : P[k] = p
    · subst h
      rw [atKey_put_same (ptD_isMap P k) (k := ptK P[k]) trivial, has_put_same (ptD_isMap P k) (k := ptK P[k]) trivial, if_pos rfl]
      exact ⟨rfl, rfl⟩
    · have hne : ptK p ≠ ptK P[k] := fun e => h (ptK_inj hp hq e).symm
      rw [atKey_put_other hne, has_put_other hne, if_neg h]
      exact ih

/-! ### Elements -/
def ptP (p q : Pt) : Pt := ⟨p.x + q.x, p.y + q.y, p.z + q.z⟩
/-- The number of the element that an argument names at a point. -/
def argN (P : List Pt) (a : Ar) (p : Pt) : Option Nat := (pix P (ptP p a.p)).map fun i => a.v.toNat * P.length + i
def vOf (K : List Vv) (P : List Pt) (k : Nat) : Vv := K.getD (k / P.length) ⟨⟨#[]⟩, 0, [], 0, 0, 0, 0⟩
def pOf (P : List Pt) (k : Nat) : Pt := P.getD (k % P.length) default
/-- What an element uses, by the numbers. -/
def useN (K : List Vv) (P : List Pt) (k : Nat) : List Nat := (vOf K P k).args.filterMap fun a => argN P a (pOf P k)
theorem numb_lt {K P : Nat} {v i : Nat} (hv : v < K) (hi : i < P) : v * P + i < K * P := by
  have : (v + 1) * P ≤ K * P := Nat.mul_le_mul_right P (by omega)
  rw [Nat.succ_mul] at this
  omega
theorem argN_lt {K : List Vv} {P : List Pt} {a : Ar} {p : Pt} {u : Nat} (ha : bw 0 a.v (K.length - 1) = true) (h : argN P a p = some u) : u < K.length * P.length := by
  unfold argN at h
  cases hp : pix P (ptP p a.p) with
  | none => rw [hp] at h; cases h
  | some i =>
    rw [hp] at h
    obtain rfl := Option.some.inj h
    have := bw_iff.1 ha
    exact numb_lt (by omega) (pix_some hp).1
theorem useN_lt {K : List Vv} {P : List Pt} (hK : ∀ v ∈ K, ∀ a ∈ v.args, bw 0 a.v (K.length - 1) = true) {k : Nat} : ∀ u ∈ useN K P k, u < K.length * P.length := by
  intro u hu
  obtain ⟨a, ha, e⟩ := List.mem_filterMap.1 hu
  unfold vOf at ha
  rw [List.getD_eq_getElem?_getD] at ha
  cases hk : K[k / P.length]? with
  | none => rw [hk] at ha; simp at ha
  | some v =>
    rw [hk] at ha
    exact argN_lt (hK v (List.mem_of_getElem? hk) a ha) e
theorem useN_len {K : List Vv} {P : List Pt} (hK : ∀ v ∈ K, v.args.length ≤ 3) (k : Nat) : (useN K P k).length ≤ 3 := by
  refine Nat.le_trans (List.length_filterMap_le _ _) ?_
  unfold vOf
  rw [List.getD_eq_getElem?_getD]
  cases hk : K[k / P.length]? with
  | none => simp
  | some v => exact hK v (List.mem_of_getElem? hk)
theorem div_num {P v i : Nat} (hi : i < P) : (v * P + i) / P = v ∧ (v * P + i) % P = i := by
  have : 0 < P := by omega
  constructor
  · rw [Nat.mul_comm, Nat.mul_add_div this, Nat.div_eq_of_lt hi]; rfl
  · rw [Nat.mul_comm, Nat.mul_add_mod, Nat.mod_eq_of_lt hi]
theorem num_div {K P k : Nat} (h : k < K * P) : k / P < K ∧ k % P < P ∧ k / P * P + k % P = k := by
  have : 0 < P := Nat.pos_of_ne_zero fun h0 => by subst h0; simp at h
  exact ⟨(Nat.div_lt_iff_lt_mul this).2 h, Nat.mod_lt _ this, by rw [Nat.mul_comm]; exact Nat.div_add_mod k P⟩
end Go.Proofs.YtakbpjgnjfigcaaGreat

/- First values: what they are. -/
namespace Go.Proofs.YtakbpjgnjfigcaaGreat
open Go.RowKit

theorem mod_law (n : Int) : (n.tmod 10007 + 10007).tmod 10007 = n % 10007 := by
  rcases Int.le_total 0 n with h | h
  · rw [Int.tmod_eq_emod_of_nonneg h, Int.tmod_eq_emod_of_nonneg (by omega)]; omega
  · have h1 : n.tmod 10007 = -((-n) % 10007) := by
      have : n = -(-n) := by omega
      conv => lhs; rw [this]
      rw [Int.neg_tmod, Int.tmod_eq_emod_of_nonneg (by omega)]
    rw [h1, Int.tmod_eq_emod_of_nonneg (by omega)]; omega
/-- The form of a variable's first values. -/
def frstZ (v : Vv) (p : Pt) : Int := v.i0 + v.i1 * p.x + v.i2 * p.y + v.i3 * p.z
def frst (v : Vv) (p : Pt) : Int := frstZ v p % 10007
def Vv.small (v : Vv) : Prop := (0 ≤ v.i0 ∧ v.i0 ≤ 10006) ∧ (0 ≤ v.i1 ∧ v.i1 ≤ 10006) ∧ (0 ≤ v.i2 ∧ v.i2 ≤ 10006) ∧ (0 ≤ v.i3 ∧ v.i3 ≤ 10006)
def Pt.small (p : Pt) (m : Nat) : Prop := p.x.natAbs ≤ m ∧ p.y.natAbs ≤ m ∧ p.z.natAbs ≤ m
theorem mul_bd2 {a b : Int} {A B : Nat} (ha : a.natAbs ≤ A) (hb : b.natAbs ≤ B) : (a * b).natAbs ≤ A * B := by
  rw [Int.natAbs_mul]; exact Nat.mul_le_mul ha hb
theorem frst_bds {v : Vv} {p : Pt} (hv : v.small) (hp : p.small 1000) : (v.i1 * p.x).natAbs ≤ 10006000 ∧ (v.i2 * p.y).natAbs ≤ 10006000 ∧ (v.i3 * p.z).natAbs ≤ 10006000 := by
  obtain ⟨h0, h1, h2, h3⟩ := hv
  exact ⟨mul_bd2 (A := 10006) (B := 1000) (by omega) hp.1, mul_bd2 (A := 10006) (B := 1000) (by omega) hp.2.1, mul_bd2 (A := 10006) (B := 1000) (by omega) hp.2.2⟩
theorem frst_bd (v : Vv) (p : Pt) : 0 ≤ frst v p ∧ frst v p ≤ 10006 := by unfold frst; omega
end Go.Proofs.YtakbpjgnjfigcaaGreat

/- Values and levels of a recurrence's elements: what they are. -/
namespace Go.Proofs.YtakbpjgnjfigcaaGreat
open Go.RowKit

/-- What an operation makes of its arguments. -/
def applZ (op : Int) (l : List Int) : Int :=
  if op = 1 then l.getD 0 0 else if op = 2 then l.getD 0 0 + l.getD 1 0 else if op = 3 then l.getD 0 0 - l.getD 1 0 else if op = 4 then l.getD 0 0 * l.getD 1 0
  else if op = 5 then l.getD 0 0 + l.getD 1 0 * l.getD 2 0 else if op = 6 then max (l.getD 0 0) (l.getD 1 0) else min (l.getD 0 0) (l.getD 1 0)
def appl (op : Int) (l : List Int) : Int := applZ op l % 10007
theorem appl_bd (op : Int) (l : List Int) : 0 ≤ appl op l ∧ appl op l ≤ 10006 := by unfold appl; omega
def vat (K : List Vv) (v : Nat) : Vv := K.getD v ⟨⟨#[]⟩, 0, [], 0, 0, 0, 0⟩
/-- What an argument is worth. -/
def argV (K : List Vv) (P : List Pt) (g : Nat → Int) (p : Pt) (a : Ar) : Int := match argN P a p with
  | some u => g u
  | none => frst (vat K a.v.toNat) (ptP p a.p)
def vlR (K : List Vv) (P : List Pt) (k : Nat) (g : Nat → Int) : Int := appl (vOf K P k).op ((vOf K P k).args.map (argV K P g (pOf P k)))
theorem vlR_ext (K : List Vv) (P : List Pt) (k : Nat) (g g' : Nat → Int) (h : ∀ u ∈ useN K P k, g u = g' u) : vlR K P k g = vlR K P k g' := by
  unfold vlR
  congr 1
  refine List.map_congr_left fun a ha => ?_
  unfold argV
  cases e : argN P a (pOf P k) with
  | none => rfl
  | some u => exact h u (List.mem_filterMap.2 ⟨a, ha, e⟩)
/-- The values. -/
noncomputable def vlN (K : List Vv) (P : List Pt) : Nat → Int := rk (useN K P) 0 (vlR K P)
theorem vlN_eq {K : List Vv} {P : List Pt} {k : Nat} (h : Gd (useN K P) k) : vlN K P k = vlR K P k (vlN K P) := rk_eq (vlR_ext K P) h
theorem vlR_bd (K : List Vv) (P : List Pt) (k : Nat) (g : Nat → Int) : 0 ≤ vlR K P k g ∧ vlR K P k g ≤ 10006 := appl_bd _ _
noncomputable def lvN (K : List Vv) (P : List Pt) : Nat → Nat := lvl (useN K P)
/-- Whether all elements have levels. -/
def okN2 (K : List Vv) (P : List Pt) : Prop := ∀ k, k < K.length * P.length → Gd (useN K P) k
/-- A list for each variable. -/
def rowsN (m : Nat) (l : List Int) (v : Nat) : List (List Int) := (List.range v).map fun i => (l.drop (i * m)).take m
theorem rowsN_len (m : Nat) (l : List Int) (v : Nat) : (rowsN m l v).length = v := by simp [rowsN]
theorem rowsN_succ (m : Nat) (l : List Int) (v : Nat) : rowsN m l (v + 1) = rowsN m l v ++ [(l.drop (v * m)).take m] := by simp [rowsN, List.range_succ]
theorem rowsN_at {m : Nat} {l : List Int} {v i : Nat} (h : i < v) (h' : i < (rowsN m l v).length) : (rowsN m l v)[i] = (l.drop (i * m)).take m := by simp [rowsN]
noncomputable def lvsL (K : List Vv) (P : List Pt) : List Int := (List.range (K.length * P.length)).map fun k => ((lvN K P k : Nat) : Int)
noncomputable def vlsL (K : List Vv) (P : List Pt) : List Int := (List.range (K.length * P.length)).map (vlN K P)
theorem lvsL_len (K : List Vv) (P : List Pt) : (lvsL K P).length = K.length * P.length := by simp [lvsL]
theorem vlsL_len (K : List Vv) (P : List Pt) : (vlsL K P).length = K.length * P.length := by simp [vlsL]
/-- Lists that agree everywhere with what is computed. -/
theorem lvsL_of {K : List Vv} {P : List Pt} {L : List Int} (hl : L.length = K.length * P.length) (h : ∀ k, k < K.length * P.length → L.getD k 0 = ((lvN K P k : Nat) : Int)) : L = lvsL K P := by
  refine List.ext_getElem (by rw [hl, lvsL_len]) fun k h1 h2 => ?_
  have := h k (by omega)
  rw [List.getD_eq_getElem?_getD, List.getElem?_eq_getElem h1] at this
  simpa [lvsL] using this
theorem vlsL_of {K : List Vv} {P : List Pt} {L : List Int} (hl : L.length = K.length * P.length) (h : ∀ k, k < K.length * P.length → L.getD k 0 = vlN K P k) : L = vlsL K P := by
  refine List.ext_getElem (by rw [hl, vlsL_len]) fun k h1 h2 => ?_
  have := h k (by omega)
  rw [List.getD_eq_getElem?_getD, List.getElem?_eq_getElem h1] at this
  simpa [vlsL] using this
end Go.Proofs.YtakbpjgnjfigcaaGreat

/- The net of a recurrence as it lies in memory: its points, and their numbers. -/
namespace Go.Proofs.YtakbpjgnjfigcaaGreat
open Go.RowKit Go.Maps

/-- A recurrence with its points and the map of their numbers, in a block of type T. -/
structure Net (T : Nat) (V : World) (g : Nat) (n : Int) (s : Option Addr) (cap : Nat) (l : List Iq) (s2 : Option Addr) (cq : Nat) (K : List Vv) (sp : Option Addr) (cp mb : Nat) (P : List Pt) : Prop where
  row : Row V g T #[.int .i64 n, .slice s l.length cap, .slice s2 K.length cq, .slice sp P.length cp, .map (some mb)]
  rc : RecM V s l s2 cq K
  pts : PtS V sp P
  map : V.ownsMap Tryz.prog 30 (plainElem Tryz.prog 3) mb P.length (ptD P P.length)
/-- What is known of the recurrence of a net. -/
structure NetOk (n : Int) (K : List Vv) (P : List Pt) : Prop where
  len : P.length ≤ 1000
  vars : 1 ≤ K.length ∧ K.length ≤ 4
  dim : 1 ≤ n ∧ n ≤ 3
  pts : ∀ p ∈ P, p.small 20
  args : ∀ v ∈ K, v.args.length ≤ 3
  shift : ∀ v ∈ K, ∀ a ∈ v.args, a.p.small 3
  var : ∀ v ∈ K, ∀ a ∈ v.args, bw 0 a.v (K.length - 1) = true
  init : ∀ v ∈ K, v.small
  op : ∀ v ∈ K, v.args.length = needs v.op ∧ 1 ≤ v.op ∧ v.op ≤ 7
  nd : P.Nodup
theorem Net.up {T : Nat} {V V' : World} {g : Nat} {n : Int} {s : Option Addr} {cap : Nat} {l : List Iq} {s2 : Option Addr} {cq : Nat} {K : List Vv} {sp : Option Addr} {cp mb : Nat} {P : List Pt} (hb : Below V.heap.size V V') (h : Net T V g n s cap l s2 cq K sp cp mb P) : Net T V' g n s cap l s2 cq K sp cp mb P :=
  ⟨Up.block hb h.row, RecM.up hb h.rc, Up.pt hb h.pts, up_of hb h.map⟩
instance {T : Nat} {V V' : World} {g : Nat} {n : Int} {s : Option Addr} {cap : Nat} {l : List Iq} {s2 : Option Addr} {cq : Nat} {K : List Vv} {sp : Option Addr} {cp mb : Nat} {P : List Pt} : UpF V V' (Net T V g n s cap l s2 cq K sp cp mb P) (Net T V' g n s cap l s2 cq K sp cp mb P) := ⟨fun h c => Net.up h c⟩
theorem small_i64 {p : Pt} {m : Nat} (h : p.small m) (hm : m ≤ 9223372036854775807) : p.I64 := by
  obtain ⟨h1, h2, h3⟩ := h
  refine ⟨⟨?_, ?_⟩, ⟨?_, ?_⟩, ⟨?_, ?_⟩⟩ <;> omega
theorem ptP_small {p q : Pt} {a b : Nat} (hp : p.small a) (hq : q.small b) : (ptP p q).small (a + b) := by
  obtain ⟨h1, h2, h3⟩ := hp
  obtain ⟨k1, k2, k3⟩ := hq
  refine ⟨?_, ?_, ?_⟩ <;> simp only [ptP] <;> omega
theorem ltP_ne {p q : Pt} (h : ltP p q = true) : p ≠ q := by
  rintro rfl
  simp [ltP] at h
theorem netOk {n : Int} {l : List Iq} {K : List Vv} (h : recB n l K = true) : NetOk n K (pts n l) := by
  have h0 := h
  rw [recB_eq] at h
  simp only [Bool.and_eq_true, decide_eq_true_eq, recS] at h
  obtain ⟨h1, h2, h3, h4, -⟩ := h
  have hk := bw_iff.1 h3
  have hn := valid_n h1
  rw [List.all_eq_true] at h4
  have hv : ∀ v ∈ K, initB v n = true ∧ v.args.length = needs v.op ∧ needs v.op ≠ 0 ∧ ∀ a ∈ v.args, argC K.length n a = true := fun v hv => by
    have := h4 v hv
    simp only [varB, Bool.and_eq_true, decide_eq_true_eq, List.all_eq_true] at this
    exact ⟨this.2.2.2.1, this.2.2.1, this.1, this.2.2.2.2⟩
  have hnd : ∀ op : Int, needs op ≤ 3 := fun op => by unfold needs; (repeat' split) <;> omega
  have hop : ∀ op : Int, needs op ≠ 0 → 1 ≤ op ∧ op ≤ 7 := fun op hop => by
    by_cases h : 1 ≤ op ∧ op ≤ 7
    · exact h
    · exact absurd (needs_out h) hop
  refine ⟨h2, by omega, hn, fun p hp => ?_, fun v hm => by rw [(hv v hm).2.1]; exact hnd _, fun v hm a ha => ?_, fun v hm a ha => ?_, fun v hm => ?_, fun v hm => ⟨(hv v hm).2.1, hop _ (hv v hm).2.2.1⟩, ?_⟩
  · have := mem_pts.1 hp
    simp only [hasB, flatB, flatC, Bool.and_eq_true, bw_iff] at this
    obtain ⟨⟨a, b, c⟩, -⟩ := this
    refine ⟨?_, ?_, ?_⟩ <;> omega
  · have := (hv v hm).2.2.2 a ha
    simp only [argC, flatB, flatC, Bool.and_eq_true, bw_iff] at this
    obtain ⟨⟨a, b, c⟩, -⟩ := this
    refine ⟨?_, ?_, ?_⟩ <;> omega
  · have := (hv v hm).2.2.2 a ha
    simp only [argC, Bool.and_eq_true] at this
    exact this.2
  · have := (hv v hm).1
    simp only [initB, initC, Bool.and_eq_true, bw_iff] at this
    exact ⟨this.1.1, this.2.1.1, this.2.2.1.1, this.2.2.2.1⟩
  · rw [List.nodup_iff_pairwise_ne]
    exact (pts_sorted n l).imp fun h => ltP_ne h
theorem NetOk.use_lt {n : Int} {K : List Vv} {P : List Pt} (h : NetOk n K P) (k : Nat) : ∀ u ∈ useN K P k, u < K.length * P.length := useN_lt h.var
theorem NetOk.use_len {n : Int} {K : List Vv} {P : List Pt} (h : NetOk n K P) (k : Nat) : (useN K P k).length ≤ 3 := useN_len h.args k
theorem NetOk.size {n : Int} {K : List Vv} {P : List Pt} (h : NetOk n K P) : K.length * P.length ≤ 4000 := by
  have := Nat.mul_le_mul h.vars.2 h.len
  omega
/-- What a look-up of a point's number says. -/
theorem Net.look {T : Nat} {V : World} {g : Nat} {n : Int} {s : Option Addr} {cap : Nat} {l : List Iq} {s2 : Option Addr} {cq : Nat} {K : List Vv} {sp : Option Addr} {cp mb : Nat} {P : List Pt} (h : Net T V g n s cap l s2 cq K sp cp mb P) (ok : NetOk n K P) {p : Pt} (hp : p.I64) :
    (Instr.lookup 124 (.map (some mb)) (.agg #[.int .i64 p.x, .int .i64 p.y, .int .i64 p.z]) true).run Tryz.prog V = .ok (.tuple #[.int .i64 (((pix P p).getD 0 : Nat) : Int), .bool (pix P p).isSome]) V ∧
    (Instr.lookup 124 (.map (some mb)) (.agg #[.int .i64 p.x, .int .i64 p.y, .int .i64 p.z]) false).run Tryz.prog V = .ok (.int .i64 (((pix P p).getD 0 : Nat) : Int)) V := by
  have hP : ∀ q ∈ P, q.I64 := fun q hq => small_i64 (ok.pts q hq) (by omega)
  have hat := ptD_at (P := P) hp (k := P.length) (Nat.le_refl _) hP
  have hz : (zeroValue 3).run Tryz.prog V = .ok (.int .i64 0) V := by kernel_rfl
  have hzd := plainElem_int (H := Unit) (P := Tryz.prog) Tryz.underlying3 (show (Lit.int .i64 0).wf = true by decide)
  have hk := key_of_pt hp
  constructor
  · obtain ⟨v, ps, hrun, hv⟩ := h.map.look_ok key_ptk Tryz.underlying124 hz hzd hk
    obtain ⟨c, rfl, hc, -⟩ := plainElem_int_inv Tryz.underlying3 hv
    rw [hat.1] at hc
    simp only [Prod.mk.injEq, DataW.lit.injEq, Lit.int.injEq, true_and] at hc
    rw [hat.2] at hrun
    rw [show c = _ from hc.1.symm] at hrun
    exact hrun
  · obtain ⟨c, hrun, hc, -⟩ := h.map.lookup_int key_ptk Tryz.underlying124 Tryz.underlying3 hz hk
    rw [hat.1] at hc
    simp only [DataW.lit.injEq, Lit.int.injEq, true_and] at hc
    rw [show c = _ from hc.symm] at hrun
    exact hrun
end Go.Proofs.YtakbpjgnjfigcaaGreat

/- Results that lie in cells: points, elements, variables. -/
namespace Go.Proofs.YtakbpjgnjfigcaaGreat
open Go.RowKit

theorem resC1 {fn : Func} {p : Tmp} {tp : TypeId} {tmps : Array Value} {P : Program} {w : World} {a : Addr} {va : Value} (h : fn.results = #[.cell p tp])
    (hp : tmps.getD p undef = .pointer (some a)) (la : (loadVar tp a).run P w = .ok va w) : (results fn tmps).run P w = .ok va w := by
  simp only [results, h]
  simp only [Array.getD_eq_getD_getElem?] at hp
  simp [Sem.run_bind, Result.andThen, hp, asAddr, la]
theorem resCT {fn : Func} {p u : Tmp} {tp : TypeId} {tmps : Array Value} {P : Program} {w : World} {a : Addr} {va vu : Value} (h : fn.results = #[.cell p tp, .tmp u])
    (hp : tmps.getD p undef = .pointer (some a)) (hu : tmps.getD u undef = vu) (la : (loadVar tp a).run P w = .ok va w) : (results fn tmps).run P w = .ok (.tuple #[va, vu]) w := by
  simp only [results, h]
  simp only [Array.getD_eq_getD_getElem?] at hp hu
  simp [Sem.run_bind, Result.andThen, hp, hu, asAddr, la]
theorem resTCT {fn : Func} {u p v : Tmp} {tp : TypeId} {tmps : Array Value} {P : Program} {w : World} {a : Addr} {va vu vv : Value} (h : fn.results = #[.tmp u, .cell p tp, .tmp v])
    (hu : tmps.getD u undef = vu) (hp : tmps.getD p undef = .pointer (some a)) (hv : tmps.getD v undef = vv) (la : (loadVar tp a).run P w = .ok va w) : (results fn tmps).run P w = .ok (.tuple #[vu, va, vv]) w := by
  simp only [results, h]
  simp only [Array.getD_eq_getD_getElem?] at hp hu hv
  simp [Sem.run_bind, Result.andThen, hp, hu, hv, asAddr, la]
theorem loadPt {X : World} {b1 : Nat} {cs : Array Value} (rl : Row X b1 30 cs) (h3 : cs.size = 3) : (loadVar 30 ⟨b1, 0, none⟩).run Tryz.prog X = .ok (.agg cs) X :=
  run_loadVar_row X b1 _ _ cs (0, 0) _ rl Tryz.underlying30 rfl (by rw [h3]; kernel_rfl)
theorem loadEl {X : World} {b1 : Nat} {cs : Array Value} (rl : Row X b1 90 cs) (h4 : cs.size = 4) : (loadVar 90 ⟨b1, 0, none⟩).run Tryz.prog X = .ok (.agg cs) X :=
  run_loadVar_row X b1 _ _ cs (0, 0) _ rl Tryz.underlying90 rfl (by rw [h4]; kernel_rfl)
end Go.Proofs.YtakbpjgnjfigcaaGreat

/- Tables of numbers that are built row by row. -/
namespace Go.Proofs.YtakbpjgnjfigcaaGreat
open Go.RowKit

theorem info_ints : (Tryz.prog.info? 31).map (fun i => (i.zero, i.size, i.bytes)) = some (some (.slice none 0 0), 1, 24) := by kernel_rfl
theorem info_int : (Tryz.prog.info? 3).map (fun i => (i.zero, i.size, i.bytes)) = some (some (.int .i64 0), 1, 8) := by kernel_rfl
/-- A table that grows: its rows, new over A. -/
structure OutT (A V : World) (out : Value) (ss : List Sv) (R : List (List Int)) : Prop where
  own : V.ownsRow A.heap.size 31 1 out R.length (svE.all ss)
  inn : Inn intE V out ss R
  be : Below A.heap.size A V
theorem OutT.nil (A : World) : OutT A A (.slice none 0 0) [] [] := ⟨World.ownsRow_nil _ _ _ _, Inn.nil, Below.refl _ _⟩
theorem OutT.up {A V V' : World} {out : Value} {ss : List Sv} {R : List (List Int)} (hb : Below V.heap.size V V') (h : OutT A V out ss R) : OutT A V' out ss R := ⟨up_of hb h.own, up_of hb h.inn, Up.to h.be hb h.be.size⟩
instance {A V V' : World} {out : Value} {ss : List Sv} {R : List (List Int)} : UpF V V' (OutT A V out ss R) (OutT A V' out ss R) := ⟨fun h c => OutT.up h c⟩
theorem OutT.push {A V V1 w1 : World} {out v1 : Value} {ss : List Sv} {R : List (List Int)} {c : List Int} {s3 : Option Addr} {k3 B t : Nat} {o : Obj} (h : OutT A V out ss R) (hv : Below V.heap.size V V1) (hB : V.heap.size ≤ B)
    (hr : V1.ownsRow B t 1 (.slice s3 c.length k3) c.length (intE.all c)) (g1 : (V1.alloc o).grownBy w1 out.ownBlock) (g2 : v1.ownBlock = out.ownBlock ∨ v1.ownBlock = some (V1.alloc o).heap.size)
    (g3 : w1.ownsRow A.heap.size 31 1 v1 (R.length + 1) (svE.all ss ++ [.slice s3 c.length k3])) : OutT A w1 v1 (ss ++ [⟨s3, c.length, k3⟩]) (R ++ [c]) := by
  have hs := h.be.size
  have hvs := hv.size
  have bb := (Below.refl V1.heap.size V1).alloc (Nat.le_refl _) o
  have hsc : SlS intE V1 s3 c := SlS.of_own (E := intE) hr
  have hne : ∀ b, out.ownBlock = some b → A.heap.size ≤ b ∧ b < V.heap.size := fun b e => h.own.lt b e
  have hbl : ∀ b off, s3 = some ⟨b, off, none⟩ → B ≤ b ∧ b < V1.heap.size := fun b off e => hr.lt b (by rw [e]; rfl)
  refine ⟨by rw [List.length_append, svE_snoc]; exact g3, Inn.push (up_of bb (up_of hv h.inn)) g1 g2 (up_of bb hsc) (own_cap hr).2 (own_cap hr).1 (fun b off e => ⟨by have := (hbl b off e).2; simp; omega, fun e2 => by have := hne b e2; have := (hbl b off e).1; omega⟩), ?_⟩
  exact ((h.be.trans (hv.mono hs)).alloc (by omega) o).grown g1 (by simp; omega) (fun j hj => (hne j hj).1)
theorem OutT.view {A V : World} {out : Value} {ss : List Sv} {R : List (List Int)} (h : OutT A V out ss R) : ∃ s c, out = .slice s R.length c ∧ SlSS intE V s R := by
  obtain ⟨s, c, e, -⟩ := owns_shape h.own
  subst e
  have hl := h.inn.len
  refine ⟨s, c, rfl, Inn.view (ss := ss) (cap := c) (base := A.heap.size) (e := 31) ?_ ?_⟩
  · rw [hl]; exact h.inn
  · rw [hl]; exact h.own
/-- Behind an append to a row of one's own: another block's cell. -/
theorem cell_app {W w1 : World} {o : Obj} {row : Option Nat} {b off : Nat} {u : Value} (hg : (W.alloc o).grownBy w1 row) (c : W.cell? ⟨b, off, none⟩ = some u) (hne : ∀ g, row = some g → g ≠ b) : w1.cell? ⟨b, off, none⟩ = some u := by
  have hb : b < W.heap.size := World.block_lt_of_cell? W ⟨b, off, none⟩ c
  rw [World.cell?_of_block (hg.block b (by simp; omega) (fun e => hne b e.symm rfl))]; exact cell_alloc c o
theorem cell_appD {W w1 : World} {o : Obj} {row : Option Nat} {b off : Nat} {u : Value} (hg : (W.alloc o).drew.grownBy w1 row) (c : W.cell? ⟨b, off, none⟩ = some u) (hne : ∀ g, row = some g → g ≠ b) : w1.cell? ⟨b, off, none⟩ = some u := by
  have hb : b < W.heap.size := World.block_lt_of_cell? W ⟨b, off, none⟩ c
  rw [World.cell?_of_block (hg.block b (by show b < (W.alloc o).heap.size; simp; omega) (fun e => hne b e.symm rfl))]; exact cell_drew (cell_alloc c o)
theorem grown_rowD {W w1 : World} {o : Obj} {v : Value} {B e size n : Nat} {xs : List Value} (hg : (W.alloc o).drew.grownBy w1 v.ownBlock) (hown : W.ownsRow B e size v n xs) {b t : Nat} {arr : Array Value} (hb : b < B) (r : Row W b t arr) : Row w1 b t arr := by
  refine (hg.block b (by show b < (W.alloc o).heap.size; simp; have := r.lt; omega) (fun e => ?_)).trans (r.alloc o).drew
  have := (hown.lt b e.symm).1; omega
theorem int_snoc (pre : List Int) (x : Int) : intE.all (pre ++ [x]) = intE.all pre ++ [.int .i64 x] := by simp [Elt.all, intE]
end Go.Proofs.YtakbpjgnjfigcaaGreat

/- Counts and users, while they are gathered: lists of numbers. -/
namespace Go.Proofs.YtakbpjgnjfigcaaGreat

def toI (l : List Nat) : List Int := l.map fun n : Nat => (n : Int)
theorem toI_len (l : List Nat) : (toI l).length = l.length := by simp [toI]
theorem toI_at {l : List Nat} {i : Nat} (h : i < (toI l).length) (h' : i < l.length) : (toI l)[i] = (l[i] : Int) := by simp [toI]
theorem toI_snoc (l : List Nat) (x : Nat) : toI (l ++ [x]) = toI l ++ [(x : Int)] := by simp [toI]
/-- The counts: those of the first k are whole, that of k is c. -/
def wtK (us : Uses) (N k c : Nat) : List Int := (List.range N).map fun j => if j < k then ((us j).length : Int) else if j = k then (c : Int) else 0
theorem wtK_len (us : Uses) (N k c : Nat) : (wtK us N k c).length = N := by simp [wtK]
theorem wtK_zero (us : Uses) (N : Nat) : wtK us N 0 0 = List.replicate N 0 := by
  refine List.ext_getElem (by simp [wtK]) fun i h1 h2 => ?_
  simp [wtK]
theorem wtK_at {us : Uses} {N k c : Nat} (hk : k < N) (h : k < (wtK us N k c).length) : (wtK us N k c)[k] = (c : Int) := by simp [wtK]
theorem wtK_set {us : Uses} {N k c : Nat} (hk : k < N) : (wtK us N k c).set k ((c : Int) + 1) = wtK us N k (c + 1) := by
  refine List.ext_getElem (by simp [wtK]) fun i h1 h2 => ?_
  rw [List.getElem_set]
  by_cases e : k = i
  · subst e; simp [wtK]
  · rw [if_neg e]
    have e' : ¬ i = k := fun h => e h.symm
    simp [wtK, e']
theorem wtK_next {us : Uses} {N k : Nat} : wtK us N k (us k).length = wtK us N (k + 1) 0 := by
  refine List.ext_getElem (by simp [wtK]) fun i h1 h2 => ?_
  simp only [wtK, List.getElem_map, List.getElem_range]
  by_cases e : i < k
  · rw [if_pos e, if_pos (by omega)]
  · rw [if_neg e]
    by_cases e2 : i = k
    · subst e2; rw [if_pos rfl, if_pos (by omega)]
    · rw [if_neg e2, if_neg (by omega)]
      by_cases e3 : i = k + 1
      · rw [if_pos e3]; rfl
      · rw [if_neg e3]
theorem wtK_all {us : Uses} {N k : Nat} (hk : k < N) : (wtK us N N 0).getD k 0 = ((us k).length : Int) := by
  rw [List.getD_eq_getElem?_getD, List.getElem?_eq_getElem (by rw [wtK_len]; exact hk)]
  simp [wtK, hk]
/-- The users: of the first k, and of k so far. -/
def usK (us : Uses) (N k : Nat) (pre : List Nat) : List (List Int) := (List.range N).map fun u => toI (usrs us k u ++ List.replicate (pre.count u) k)
theorem usK_len (us : Uses) (N k : Nat) (pre : List Nat) : (usK us N k pre).length = N := by simp [usK]
theorem usK_zero (us : Uses) (N : Nat) : usK us N 0 [] = List.replicate N [] := by
  refine List.ext_getElem (by simp [usK]) fun i h1 h2 => ?_
  simp [usK, usrs_zero, toI]
theorem usK_at {us : Uses} {N k : Nat} {pre : List Nat} {u : Nat} (hu : u < N) (h : u < (usK us N k pre).length) : (usK us N k pre)[u] = toI (usrs us k u ++ List.replicate (pre.count u) k) := by simp [usK]
theorem usK_set {us : Uses} {N k : Nat} {pre : List Nat} {u : Nat} (hu : u < N) (h : u < (usK us N k pre).length) : (usK us N k pre).set u ((usK us N k pre)[u] ++ [(k : Int)]) = usK us N k (pre ++ [u]) := by
  refine List.ext_getElem (by simp [usK]) fun i h1 h2 => ?_
  rw [List.getElem_set]
  by_cases e : u = i
  · subst e
    rw [if_pos rfl, usK_at hu, usK_at hu, ← toI_snoc, List.append_assoc]
    congr 2
    rw [List.count_append]
    simp [List.replicate_succ']
  · rw [if_neg e]
    simp [usK, List.count_cons, e]
theorem usK_next {us : Uses} {N k : Nat} : usK us N k (us k) = usK us N (k + 1) [] := by
  refine List.ext_getElem (by simp [usK]) fun i h1 h2 => ?_
  simp [usK, usrs_succ]
theorem usK_all {us : Uses} {N u : Nat} (hu : u < N) (h : u < (usK us N N []).length) : (usK us N N [])[u] = toI (usrs us N u) := by simp [usK]
theorem usrs_len {us : Uses} {B : Nat} (hB : ∀ k, (us k).length ≤ B) (k u : Nat) : (usrs us k u).length ≤ k * B := by
  induction k with
  | zero => simp [usrs_zero]
  | succ k ih =>
    rw [usrs_succ, List.length_append, List.length_replicate, Nat.succ_mul]
    have : (us k).count u ≤ (us k).length := List.count_le_length
    have := hB k
    omega
theorem count_pre_le {us : Uses} {k u : Nat} {pre : List Nat} (h : pre <+: us k) : pre.count u ≤ (us k).length := Nat.le_trans List.count_le_length h.length_le
/-- Those that use nothing. -/
def free (us : Uses) (k : Nat) : List Nat := (List.range k).filter fun k => decide ((us k).length = 0)
theorem free_succ (us : Uses) (k : Nat) : free us (k + 1) = if (us k).length = 0 then free us k ++ [k] else free us k := by
  unfold free
  rw [List.range_succ, List.filter_append]
  by_cases h : (us k).length = 0
  · rw [if_pos h, List.filter_cons_of_pos (by simpa using h)]; rfl
  · rw [if_neg h, List.filter_cons_of_neg (by simpa using h)]; simp
theorem free_len (us : Uses) (k : Nat) : (free us k).length ≤ k := by
  have := List.length_filter_le (fun k => decide ((us k).length = 0)) (List.range k)
  rw [List.length_range] at this
  exact this
end Go.Proofs.YtakbpjgnjfigcaaGreat

/- Loops whose rounds range over functions: each such range leaves a mark among the deferred calls. Over any program. -/
namespace Go.Proofs.YtakbpjgnjfigcaaGreat
open Go.RowKit

/-- The marks of ranges that have ended: different, each at or behind `base`, none with calls. -/
def Marks (base : Nat) (ds : List Deferred) (W : World) : Prop :=
  ∃ Ds : List Nat, ds = Ds.map (fun D => { target := .collected D, args := #[] }) ∧ Ds.Nodup ∧ ∀ D ∈ Ds, base ≤ D ∧ W.heap[D]? = some (.deferred (some []))
theorem Marks.nil (base : Nat) (W : World) : Marks base [] W := ⟨[], rfl, List.nodup_nil, fun D h => absurd h (by simp)⟩
/-- As above, all below n. -/
def MarksIn (base n : Nat) (ds : List Deferred) (W : World) : Prop :=
  ∃ Ds : List Nat, ds = Ds.map (fun D => { target := .collected D, args := #[] }) ∧ Ds.Nodup ∧ ∀ D ∈ Ds, base ≤ D ∧ D < n ∧ W.heap[D]? = some (.deferred (some []))
theorem Marks.lt {base : Nat} {ds : List Deferred} {W : World} (h : Marks base ds W) : MarksIn base W.heap.size ds W := by
  obtain ⟨Ds, h0, h1, h2⟩ := h
  exact ⟨Ds, h0, h1, fun D hD => ⟨(h2 D hD).1, (Array.getElem?_eq_some_iff.1 (h2 D hD).2).1, (h2 D hD).2⟩⟩
theorem MarksIn.all {base n : Nat} {ds : List Deferred} {W : World} (h : MarksIn base n ds W) : Marks base ds W := by
  obtain ⟨Ds, h0, h1, h2⟩ := h
  exact ⟨Ds, h0, h1, fun D hD => ⟨(h2 D hD).1, (h2 D hD).2.2⟩⟩
theorem MarksIn.keep {base n : Nat} {ds : List Deferred} {W W' : World} (h : MarksIn base n ds W) (hk : ∀ k, base ≤ k → k < n → ∀ o : Obj, W.heap[k]? = some o → o = .deferred (some []) → W'.heap[k]? = some o) : MarksIn base n ds W' := by
  obtain ⟨Ds, h0, h1, h2⟩ := h
  exact ⟨Ds, h0, h1, fun D hD => ⟨(h2 D hD).1, (h2 D hD).2.1, hk D (h2 D hD).1 (h2 D hD).2.1 _ (h2 D hD).2.2 rfl⟩⟩
theorem MarksIn.below {base n : Nat} {ds : List Deferred} {W W' : World} (h : MarksIn base n ds W) (hb : Below n W W') : MarksIn base n ds W' := h.keep fun k _ hk o ho _ => (hb.block k hk).trans ho
theorem MarksIn.others {base n : Nat} {ds : List Deferred} {W W' : World} (h : MarksIn base n ds W) (hb : KeepsOthers W W') : MarksIn base n ds W' := h.keep fun k _ _ o ho e => hb.same k o ho (by subst e; rfl)
theorem MarksIn.push {base n : Nat} {ds : List Deferred} {W : World} {D : Nat} (h : MarksIn base n ds W) (hD : n ≤ D) (hb : base ≤ D) (hK : W.heap[D]? = some (.deferred (some []))) : Marks base ({ target := .collected D, args := #[] } :: ds) W := by
  obtain ⟨Ds, rfl, h1, h2⟩ := h
  refine ⟨D :: Ds, rfl, List.nodup_cons.2 ⟨fun hm => by have := (h2 D hm).2.1; omega, h1⟩, fun D' hm => ?_⟩
  rcases List.mem_cons.1 hm with rfl | hm
  · exact ⟨hb, hK⟩
  · exact ⟨(h2 D' hm).1, (h2 D' hm).2.2⟩
theorem Marks.up {base : Nat} {ds : List Deferred} {W W' : World} (hb : Below W.heap.size W W') (h : Marks base ds W) : Marks base ds W' := (h.lt.below hb).all
instance {base : Nat} {ds : List Deferred} {W W' : World} : UpF W W' (Marks base ds W) (Marks base ds W') := ⟨fun h c => Marks.up h c⟩
theorem Marks.others {base : Nat} {ds : List Deferred} {W W' : World} (hb : KeepsOthers W W') (h : Marks base ds W) : Marks base ds W' := (h.lt.others hb).all
/-- The function's end. -/
theorem marks_retN {P : Program} {fn : Func} {R : Ending → World → Prop} {tmps : Array Value} {base : Nat} {ds : List Deferred} {w : World} (hm : Marks base ds w) (hb : base ≤ w.heap.size)
    (h : ∀ W, CellsUp base w W → ∃ v, (results fn tmps).run P W = .ok v W ∧ R (.returned v) W) : bodyPostM Fence.wide 6 P fn R .ret { tmps := tmps, defers := ds } w := by
  show LeavesInM Fence.wide 6 P fn tmps R ds .returning w
  obtain ⟨Ds, rfl, h1, h2⟩ := hm
  have key : ∀ (Ds : List Nat) (W : World), Ds.Nodup → (∀ D ∈ Ds, base ≤ D ∧ W.heap[D]? = some (.deferred (some []))) → CellsUp base w W → LeavesInM Fence.wide 6 P fn tmps R (Ds.map fun D => { target := .collected D, args := #[] }) .returning W := by
    intro Ds
    induction Ds with
    | nil =>
      intro W _ _ hc
      obtain ⟨v, hr, hR⟩ := h W hc
      exact ⟨v, hr, hR⟩
    | cons D Ds ih =>
      intro W hn hD hc
      have hK := (hD D List.mem_cons_self).2
      have hDb := (hD D List.mem_cons_self).1
      have hlt : D < W.heap.size := (Array.getElem?_eq_some_iff.1 hK).1
      refine ⟨by simp, .inl ⟨_, _, rfl, run_takeDeferred hK, ih _ (List.nodup_cons.1 hn).2 (fun D' hD' => ⟨(hD D' (List.mem_cons_of_mem _ hD')).1, (World.putObj_heap_other (fun e => (List.nodup_cons.1 hn).1 (by subst e; exact hD'))).trans (hD D' (List.mem_cons_of_mem _ hD')).2⟩) ?_⟩⟩
      have hs := hc.below.size
      have h3 := marks_up (n := base) (w := W) (D := D) (by omega) hDb hK
      exact ⟨hc.below.trans h3.below, fun k c t f hk => h3.cells k c t f (hc.cells k c t f hk)⟩
  exact key Ds w h1 h2 ⟨Below.refl _ _, fun _ _ _ _ hk => hk⟩

/-! ### Loops -/
def setMany (t : Array Value) : List Nat → (Nat → Value) → Array Value
  | [], _ => t
  | s :: l, us => setMany (t.setIfInBounds s (us s)) l us
def slotF (t : Array Value) (s : Nat) : Value := t.getD s undef
theorem set_self (t : Array Value) (s : Nat) : t.setIfInBounds s (slotF t s) = t := by
  unfold slotF
  apply Array.ext
  · simp
  · intro i h1 h2
    rw [Array.getElem_setIfInBounds (by simpa using h1)]
    split
    · subst_vars; simp [Array.getD, h2]
    · rfl
theorem setMany_self (t : Array Value) : ∀ l, setMany t l (slotF t) = t
  | [] => rfl
  | s :: l => by unfold setMany; rw [set_self]; exact setMany_self t l
/-- The end of a round. -/
def RoundEnd (t0 : Array Value) (slots : List Nat) (rel : (Nat → Value) → List Deferred → World → Prop) (μ : (Nat → Value) → Nat) (m : Nat) (a : Act) (w : World) : Prop :=
  (a.tmps = setMany t0 slots (slotF a.tmps) ∧ rel (slotF a.tmps) a.defers w) ∧ μ (slotF a.tmps) < m
theorem wp_loop_marks {P : Program} {c : Code} {Q : Exit → Act → World → Prop} {t0 : Array Value} {ds0 : List Deferred} {w : World} (slots : List Nat) (rel : (Nat → Value) → List Deferred → World → Prop) (μ : (Nat → Value) → Nat)
    (h0 : rel (slotF t0) ds0 w)
    (round : ∀ us ds W, rel us ds W → c.wp P (Exit.then (RoundEnd t0 slots rel μ (μ us)) Q) { tmps := setMany t0 slots us, defers := ds } W) : (Code.loop c).wp P Q { tmps := t0, defers := ds0 } w := by
  refine wp_loop (fun a w => a.tmps = setMany t0 slots (slotF a.tmps) ∧ rel (slotF a.tmps) a.defers w) (fun a _ => μ (slotF a.tmps)) ⟨(setMany_self t0 slots).symm, h0⟩ ?_
  rintro ⟨t, ds⟩ W ⟨h1, h2⟩
  have := round _ _ _ h2
  simp only at h1 h2 this ⊢
  rw [← h1] at this
  exact this
end Go.Proofs.YtakbpjgnjfigcaaGreat

/- A range over an iterator that has memory of its own: the first m blocks that it makes; a round writes other blocks. Over any program. -/
namespace Go.Proofs.YtakbpjgnjfigcaaGreat
open Go.RowKit

/-- All below N but those of T, and m blocks from n on, lie as they lay. -/
structure KeepN (T : Nat → Prop) (N n m : Nat) (W W' : World) : Prop where
  size : W.heap.size ≤ W'.heap.size
  low : ∀ k, k < N → ¬ T k → W'.heap[k]? = W.heap[k]?
  own : ∀ k, n ≤ k → k < n + m → W'.heap[k]? = W.heap[k]?
section
variable {T : Nat → Prop} {N n m : Nat}
theorem KeepN.refl (W : World) : KeepN T N n m W W := ⟨Nat.le_refl _, fun _ _ _ => rfl, fun _ _ _ => rfl⟩
theorem KeepN.trans {A B C : World} (h : KeepN T N n m A B) (k : KeepN T N n m B C) : KeepN T N n m A C :=
  ⟨Nat.le_trans h.size k.size, fun i h1 h2 => (k.low i h1 h2).trans (h.low i h1 h2), fun i h1 h2 => (k.own i h1 h2).trans (h.own i h1 h2)⟩
theorem KeepN.of_below {W W' : World} (h : Below W.heap.size W W') (hN : N ≤ W.heap.size) (hn : n + m ≤ W.heap.size) : KeepN T N n m W W' :=
  ⟨h.size, fun k hk _ => h.block k (by omega), fun k _ hk => h.block k (by omega)⟩
theorem KeepN.grown {A W W' : World} {row : Option Nat} (h : KeepN T N n m A W) (hg : W.grownBy W' row) (hN : N ≤ W.heap.size) (hn : n + m ≤ W.heap.size) (hr : ∀ k, row = some k → (k < N → T k) ∧ ¬ (n ≤ k ∧ k < n + m)) : KeepN T N n m A W' :=
  ⟨Nat.le_trans h.size hg.size, fun k hk ht => (hg.block k (by omega) (fun e => ht ((hr k e.symm).1 hk))).trans (h.low k hk ht), fun k h1 h2 => (hg.block k (by omega) (fun e => (hr k e.symm).2 ⟨h1, h2⟩)).trans (h.own k h1 h2)⟩
theorem KeepN.setC {A W : World} (h : KeepN T N n m A W) {a : Addr} (v : Value) (ht : (a.block < N → T a.block) ∧ ¬ (n ≤ a.block ∧ a.block < n + m)) : KeepN T N n m A (W.setCell a v) :=
  ⟨by simpa [World.setCell] using h.size, fun k hk hn => (Below.heap_setCell W a v k (fun e => hn (by rw [e]; exact ht.1 (by omega)))).trans (h.low k hk hn), fun k h1 h2 => (Below.heap_setCell W a v k (fun e => ht.2 (by omega))).trans (h.own k h1 h2)⟩
theorem KeepN.drew {A W : World} (h : KeepN T N n m A W) : KeepN T N n m A W.drew := ⟨h.size, h.low, h.own⟩
theorem KeepN.cell {w W : World} (hk : KeepN T N n m w W) {a : Addr} {v : Value} (ht : (a.block < N ∧ ¬ T a.block) ∨ (n ≤ a.block ∧ a.block < n + m)) (c : w.cell? a = some v) : W.cell? a = some v := by
  rw [← c]
  refine World.cell?_of_block ?_
  rcases ht with h | h
  · exact hk.low _ h.1 h.2
  · exact hk.own _ h.1 h.2
end
/-- An iterator's contract: it hands its rounds the elements xs, in order, until a round says 'no more'; a round may write the blocks of T, and those made behind the iterator's own. -/
def IterT {α : Type} (P : Program) (gf : Nat) (lb : Array Value) (enc : α → Value) (T : Nat → Prop) (m : Nat) (xs : List α) (w : World) : Prop :=
  ∀ (l : Nat) (J Jx : List α → World → Prop) (W : World), Below w.heap.size w W →
    (∀ s A B, J s A → Below A.heap.size A B → J s B) →
    (∀ pre x W1, J pre W1 → pre ++ [x] <+: xs → W.heap.size + m ≤ W1.heap.size → YieldAt Fence.wide 4 P l #[enc x] W1 fun e W' =>
      (e = .returned (.bool true) ∧ J (pre ++ [x]) W' ∧ KeepN T w.heap.size W.heap.size m W1 W') ∨ (e = .returned (.bool false) ∧ Jx (pre ++ [x]) W')) →
    J [] W →
    CallsIn Fence.wide 5 P gf (#[.func (.yield l) #[] #[]] ++ lb) W fun e W' => (∃ v, e = .returned v) ∧ (J xs W' ∨ ∃ pre, pre <+: xs ∧ Jx pre W')

/-- How a round's body may be left. -/
def postT {α : Type} (n : Nat) (Kp : World → World → Prop) (I : List α → World → Prop) (Ix : Code → List α → World → Prop) (xs : List α) (W : World) : Exit → Act → World → Prop
  | .normal, _, W' => KeepsFrom n W W' ∧ Kp W W' ∧ I xs W'
  | .ret, _, W' => KeepsFrom n W W' ∧ Ix .ret xs W'
  | .exit id, _, W' => KeepsFrom n W W' ∧ Ix (.exit id) xs W'
  | .goto t, _, W' => KeepsFrom n W W' ∧ Ix (.goto t) xs W'
  | .panic _, _, _ => False
  | .outgrown, _, _ => False

theorem wp_rangeT {α : Type} {P : Program} {g : Operand} {p : Tmp} {assign body : Code} {Q : Exit → Act → World → Prop} {a : Act} {w : World}
    {gf : Nat} {lb : Array Value} (hg : a.eval g = .func (.func gf) #[] lb) (eg : ∀ args w, (callFunc gf args).run P w = .ok (.enter gf args) w)
    {enc : α → Value} {T : Nat → Prop} {m : Nat} {xs : List α} (hseq : IterT P gf lb enc T m xs w)
    (I : List α → World → Prop) (Ix : Code → List α → World → Prop)
    (hI : ∀ s A B, I s A → CellsUp w.heap.size A B → I s B)
    (hIx : ∀ c s A B, Ix c s A → CellsUp w.heap.size A B → Ix c s B)
    (hsz : ∀ s W, I s W → w.heap.size ≤ W.heap.size)
    (hszx : ∀ c s W, Ix c s W → w.heap.size ≤ W.heap.size)
    (h0 : I [] w) (a₁ : α → Act)
    (hassign : ∀ (l : Nat) (x : α) (W : World) (K : Act → World → Prop), K (a₁ x) W →
      assign.wpIn (Fence.wide.inRound l) 4 P (Exit.then K (fun _ _ _ => False)) { tmps := a.tmps.setIfInBounds p (enc x), defers := [] } W)
    (hbody : ∀ (l : Nat) (pre : List α) (x : α) (W : World), I pre W → pre ++ [x] <+: xs → w.heap.size + 2 + m ≤ W.heap.size →
      body.wpIn (Fence.wide.inRound l) 4 P (postT w.heap.size (KeepN T w.heap.size (w.heap.size + 2) m) I Ix (pre ++ [x]) W) (a₁ x) W)
    (hdone : ∀ (D : Nat) (W : World), w.heap.size ≤ D → I xs W → W.heap[D]? = some (.deferred (some [])) → Q .normal { a with defers := { target := .collected D, args := #[] } :: a.defers } W)
    (hstop : ∀ (D : Nat) (c : Code) (pre : List α) (W : World), w.heap.size ≤ D → pre <+: xs → Ix c pre W → W.heap[D]? = some (.deferred (some [])) → c.wp P Q { a with defers := { target := .collected D, args := #[] } :: a.defers } W) :
    (Code.rangeFunc g #[p] assign body).wp P Q a w := by
  refine (wpIn_wide (n := 6)).1 ?_
  refine wpIn_rangeFunc ?_
  intro fn hfn
  rw [show Fence.wide.round = none from rfl]
  obtain ⟨rec, hrec⟩ : ∃ rec : LoopState → Option Code → Loop, rec = fun st pe => { state := st, pending := pe, fn, tmps := a.tmps, params := #[p], assign, body, defers := w.heap.size } := ⟨_, rfl⟩
  obtain ⟨W1, hW1⟩ : ∃ W1, (w.alloc (.deferred (some []))).alloc (.loop (rec .ready none)) = W1 := ⟨_, rfl⟩
  have hs1 : W1.heap.size = w.heap.size + 2 := by rw [← hW1]; simp
  have hL1 : W1.heap[w.heap.size + 1]? = some (.loop (rec .ready none)) := by
    rw [← hW1]; have := World.alloc_heap_new (w.alloc (.deferred (some []))) (.loop (rec .ready none)); rwa [World.size_alloc] at this
  have hK1 : W1.heap[w.heap.size]? = some (.deferred (some [])) := by
    rw [← hW1]; exact (Below.heap_alloc _ _ _ (by simp)).trans (World.alloc_heap_new w _)
  have hb1 : Below w.heap.size w W1 := by
    rw [← hW1]; exact ((Below.refl _ w).alloc (Nat.le_refl _) _).alloc (by simp) _
  have hup : ∀ A B : World, w.heap.size ≤ A.heap.size → Below A.heap.size A B → CellsUp w.heap.size A B := fun A B hs hb =>
    CellsUp.of_grownBy (grownBy_of_below hb) hs (fun r e => by cases e)
  have hI1 : I [] W1 := hI _ _ _ h0 (hup _ _ (Nat.le_refl _) hb1)
  refine ⟨w.heap.size + 1, [{ target := .collected w.heap.size, args := #[] }], W1, { target := .fn (.func gf) lb, args := #[.func (.yield (w.heap.size + 1)) #[] #[]] }, W1, gf,
    #[.func (.yield (w.heap.size + 1)) #[] #[]] ++ lb, W1, ?_, ?_, ?_, ?_, fun _ => by omega, ?_⟩
  · rw [← hW1, hrec]; exact run_enterLoop_outer _ _ _ _ _
  · simp only [resolve, hg]
    simp [go_sem]
  · intro f' hf'; trivial
  · simp [invoke, go_sem, eg]
  · refine (hseq (w.heap.size + 1)
      (fun pre W => I pre W ∧ W.heap[w.heap.size + 1]? = some (.loop (rec .ready none)) ∧ W.heap[w.heap.size]? = some (.deferred (some [])))
      (fun pre W => ∃ c, Ix c pre W ∧ W.heap[w.heap.size + 1]? = some (.loop (rec .done (some c))) ∧ W.heap[w.heap.size]? = some (.deferred (some [])))
      W1 hb1 ?_ ?_ ⟨hI1, hL1, hK1⟩).mono ?_
    · rintro s A B ⟨hs, hl, hk⟩ hb
      exact ⟨hI s A B hs (hup _ _ (hsz _ _ hs) hb), Up.block hb hl, Up.block hb hk⟩
    · rintro pre x W ⟨hi, hl, hk⟩ hlen hm
      rw [hs1] at hm ⊢
      have hlt : w.heap.size + 1 < W.heap.size := (Array.getElem?_eq_some_iff.1 hl).1
      have hy := run_yield (P := P) (args := #[enc x]) hl (by rw [hrec]; rfl)
      rw [hrec] at hy
      refine ⟨fn, _, assign, body, hy, roundIn_of_wpIn hfn ?_⟩
      have ha := hassign (w.heap.size + 1) x W (fun a₁ w₁ => ∃ w₂, (Instr.beginRound (w.heap.size + 1)).run P w₁ = .ok () w₂ ∧ body.wpIn (Fence.wide.inRound (w.heap.size + 1)) 4 P (roundPost P (w.heap.size + 1) fun e W' =>
        (e = .returned (.bool true) ∧ (I (pre ++ [x]) W' ∧ W'.heap[w.heap.size + 1]? = some (.loop (rec .ready none)) ∧ W'.heap[w.heap.size]? = some (.deferred (some []))) ∧ KeepN T w.heap.size (w.heap.size + 2) m W W') ∨
        (e = .returned (.bool false) ∧ ∃ c, Ix c (pre ++ [x]) W' ∧ W'.heap[w.heap.size + 1]? = some (.loop (rec .done (some c))) ∧ W'.heap[w.heap.size]? = some (.deferred (some [])))) a₁ w₂) ?_
      · simpa using ha
      clear hy
      refine ⟨_, run_beginRound hl (by rw [hrec]), ?_⟩
      have hl2 : (W.putObj (w.heap.size + 1) (.loop { rec .ready none with state := .busy })).heap[w.heap.size + 1]? = some (.loop { rec .ready none with state := .busy }) := World.putObj_heap_same hlt
      have hk2 : (W.putObj (w.heap.size + 1) (.loop { rec .ready none with state := .busy })).heap[w.heap.size]? = some (.deferred (some [])) := (World.putObj_heap_other (by omega)).trans hk
      have hput : ∀ (V : World) (o : Obj), KeepN T w.heap.size (w.heap.size + 2) m V (V.putObj (w.heap.size + 1) o) := fun V o =>
        ⟨(grownBy_putObj' _ _ _).size, fun k h1 _ => World.putObj_heap_other (by omega), fun k h1 _ => World.putObj_heap_other (by omega)⟩
      have hi2 : I pre (W.putObj (w.heap.size + 1) (.loop { rec .ready none with state := .busy })) := hI _ _ _ hi (CellsUp.of_grownBy (grownBy_putObj' _ _ _) (by omega) (fun r e => by cases e; exact ⟨by omega, _, hl, rfl⟩))
      have hkc := hput W (.loop { rec .ready none with state := .busy })
      have hsz2 : w.heap.size + 2 + m ≤ (W.putObj (w.heap.size + 1) (.loop { rec .ready none with state := .busy })).heap.size := Nat.le_trans hm (grownBy_putObj' _ _ _).size
      obtain ⟨W2, hW2⟩ : ∃ W2, W.putObj (w.heap.size + 1) (.loop { rec .ready none with state := .busy }) = W2 := ⟨_, rfl⟩
      rw [hW2] at hl2 hk2 hi2 hkc hsz2 ⊢
      refine wpIn_mono (hbody _ pre x _ hi2 hlen hsz2) ?_
      have fin : ∀ (jump : Option Code) (W3 : World), KeepsFrom w.heap.size W2 W3 →
          (Instr.endRound (w.heap.size + 1) jump).run P W3 = .ok (.bool jump.isNone) (W3.putObj (w.heap.size + 1) (.loop (rec (if jump.isNone then .ready else .done) jump))) ∧
          W3.heap[w.heap.size + 1]? = some (.loop { rec .ready none with state := .busy }) ∧
          (W3.putObj (w.heap.size + 1) (.loop (rec (if jump.isNone then .ready else .done) jump))).heap[w.heap.size + 1]? = some (.loop (rec (if jump.isNone then .ready else .done) jump)) ∧
          (W3.putObj (w.heap.size + 1) (.loop (rec (if jump.isNone then .ready else .done) jump))).heap[w.heap.size]? = some (.deferred (some [])) := fun jump W3 hk3 => by
        have hl3 := hk3.same _ _ (by omega) hl2 rfl
        have := run_endRound (P := P) jump hl3
        rw [hrec] at this ⊢
        exact ⟨this, by rw [hrec] at hl3; exact hl3, World.putObj_heap_same (Array.getElem?_eq_some_iff.1 hl3).1, (World.putObj_heap_other (by omega)).trans (hk3.same _ _ (Nat.le_refl _) hk2 rfl)⟩
      have stop : ∀ (c : Code) (W3 : World), KeepsFrom w.heap.size W2 W3 → Ix c (pre ++ [x]) W3 → Ix c (pre ++ [x]) (W3.putObj (w.heap.size + 1) (.loop (rec .done (some c)))) := fun c W3 hk3 hi3 => by
        have hl3 := hk3.same _ _ (by omega) hl2 rfl
        exact hIx _ _ _ _ hi3 (CellsUp.of_grownBy (grownBy_putObj' _ _ _) (hszx _ _ _ hi3) (fun r e => by cases e; exact ⟨by omega, _, hl3, rfl⟩))
      rintro e a3 W3 hp
      cases e with
      | normal =>
        obtain ⟨hkf, hbel, hi3⟩ := hp
        obtain ⟨h1, hl3, hl4, hk4⟩ := fin none W3 hkf
        exact ⟨_, _, h1, .inl ⟨rfl, ⟨hI _ _ _ hi3 (CellsUp.of_grownBy (grownBy_putObj' _ _ _) (hsz _ _ hi3) (fun r e => by cases e; exact ⟨by omega, _, hl3, rfl⟩)), hl4, hk4⟩, hkc.trans (hbel.trans (hput W3 _))⟩⟩
      | ret =>
        obtain ⟨hk3, hi3⟩ := hp
        obtain ⟨h1, hl3, hl4, hk4⟩ := fin (some .ret) W3 hk3
        exact ⟨_, _, h1, .inr ⟨rfl, .ret, stop _ _ hk3 hi3, hl4, hk4⟩⟩
      | exit id =>
        obtain ⟨hk3, hi3⟩ := hp
        obtain ⟨h1, hl3, hl4, hk4⟩ := fin (some (.exit id)) W3 hk3
        exact ⟨_, _, h1, .inr ⟨rfl, .exit id, stop _ _ hk3 hi3, hl4, hk4⟩⟩
      | goto tt =>
        obtain ⟨hk3, hi3⟩ := hp
        obtain ⟨h1, hl3, hl4, hk4⟩ := fin (some (.goto tt)) W3 hk3
        exact ⟨_, _, h1, .inr ⟨rfl, .goto tt, stop _ _ hk3 hi3, hl4, hk4⟩⟩
      | panic ch => exact hp.elim
      | outgrown => exact hp.elim
    · rintro e W2 ⟨⟨v, rfl⟩, (⟨hi, hl, hk⟩ | ⟨pre, hSp, c, hi, hl, hk⟩)⟩
      · exact ⟨none, _, by have := run_endLoop (P := P) hl (by rw [hrec]; simp); rw [hrec] at this; exact this,
          hdone _ _ (Nat.le_refl _) (hI _ _ _ hi (CellsUp.of_grownBy (grownBy_putObj' _ _ _) (hsz _ _ hi) (fun r e => by cases e; exact ⟨by omega, _, hl, rfl⟩))) ((World.putObj_heap_other (by omega)).trans hk)⟩
      · exact ⟨some c, _, by have := run_endLoop (P := P) hl (by rw [hrec]; simp); rw [hrec] at this; exact this,
          wpIn_wide.2 (hstop _ c pre _ (Nat.le_refl _) hSp (hIx _ _ _ _ hi (CellsUp.of_grownBy (grownBy_putObj' _ _ _) (hszx _ _ _ hi) (fun r e => by cases e; exact ⟨by omega, _, hl, rfl⟩))) ((World.putObj_heap_other (by omega)).trans hk))⟩
end Go.Proofs.YtakbpjgnjfigcaaGreat

/- Lists of zeros that are made. -/
namespace Go.Proofs.YtakbpjgnjfigcaaGreat
open Go.RowKit

def zs (n : Nat) : List Value := List.replicate n (.int .i64 0)
theorem zeros_all (n : Nat) : zs n = intE.all (List.replicate n 0) := by
  unfold zs
  induction n with
  | zero => rfl
  | succ n ih => rw [List.replicate_succ, List.replicate_succ, ih]; rfl
theorem run_make_ints (n : Nat) (hn : n ≤ 1000000) (w : World) : (Instr.makeSlice 31 (.int .i64 n) (.int .i64 n)).run Tryz.prog w = .ok (.slice (some ⟨w.heap.size, 0, none⟩) n n) (w.alloc (.cells (zs n).toArray 3)) := by
  obtain ⟨i, hi, hz, hs, hb⟩ := info_parts info_int
  have h := run_makeSlice (P := Tryz.prog) (w := w) 31 3 i _ Tryz.underlying31 hi hz .i64 .i64 n n (by omega) (by omega) (by rw [hs]; omega) (by rw [hb]; omega) (by omega)
  rw [h, hs]
  have e : madeCells (Value.cells (.int .i64 0)) ((n : Int).toNat * 1) = (zs n).toArray := by
    apply Array.ext
    · simp [size_madeCells, zs]
    · intro j h1 h2
      simp [madeCells, Value.cells, Nat.mod_one, zs]
  rw [e]
  simp
theorem own_zeros (V : World) (n : Nat) (hn : n ≤ 1000000) : (V.alloc (.cells (zs n).toArray 3)).ownsRow V.heap.size 3 1 (.slice (some ⟨V.heap.size, 0, none⟩) n n) n (intE.all (List.replicate n 0)) := by
  have hl : (intE.all (List.replicate n 0)).length = n := by rw [Elt.all_len]; simp [intE]
  rw [zeros_all]
  exact ⟨by rw [hl, Nat.mul_one], .inr ⟨V.heap.size, n, _, rfl, Nat.le_refl _, heap_alloc_new V _, Nat.le_refl _, by unfold maxLen; omega, by simp [hl], List.take_of_length_le (by simp [hl])⟩⟩
end Go.Proofs.YtakbpjgnjfigcaaGreat

/- Counts, users and the order as they lie in memory while the order is found. -/
namespace Go.Proofs.YtakbpjgnjfigcaaGreat
open Go.RowKit

theorem intE_at (l : List Int) {i : Nat} (hi : i < l.length) : (intE.all l)[i]? = some (.int .i64 l[i]) := by
  have h := intE.all_at l i 0 hi (by decide)
  simpa [intE] using h
theorem intE_set (l : List Int) : ∀ (i : Nat) (x : Int), (intE.all l).set i (.int .i64 x) = intE.all (l.set i x) := by
  induction l with
  | nil => intro i x; rfl
  | cons a l ih =>
    intro i x
    cases i with
    | zero => rfl
    | succ i =>
      have h := ih i x
      show List.set (Value.int .i64 a :: intE.all l) (i + 1) (.int .i64 x) = Value.int .i64 a :: intE.all (l.set i x)
      rw [List.set_cons_succ, h]
theorem svE_set (ss : List Sv) : ∀ (i : Nat) (x : Sv), (svE.all ss).set i x.val = svE.all (ss.set i x) := by
  induction ss with
  | nil => intro i x; rfl
  | cons a l ih =>
    intro i x
    cases i with
    | zero => rfl
    | succ i =>
      have h := ih i x
      show List.set (a.val :: svE.all l) (i + 1) x.val = a.val :: svE.all (l.set i x)
      rw [List.set_cons_succ, h]
theorem own_set {V : World} {base e size n m : Nat} {v : Value} {xs : List Value} (h : V.ownsRow base e size v n xs) {b : Nat} (hb : v.ownBlock ≠ some b) (o : Nat) (x : Value) : (V.setCell ⟨b, o, none⟩ x).ownsRow base e size v n xs :=
  own_upto h fun j e => Below.heap_setCell _ _ _ _ (fun e2 => hb (by rw [e, e2]))
section
variable {α : Type} {E : Elt α} {T t : Nat} {V V' : World} {base : Nat} {n cap bv : Nat} {ss : List Sv} {R : List (List α)}
/-- A row of the table has been appended to, in place or anew, and its header put. -/
theorem Tbl.app (h : Tbl E T t V base (.slice (some ⟨bv, 0, none⟩) n cap) ss R) {i : Nat} (hi : i < ss.length) {x : Sv} {L : List α} (hg : V.grownBy V' ss[i].val.ownBlock)
    (hx : V'.ownsRow base t E.size x.val L.length (E.all L)) (hat : x.val.ownBlock = ss[i].val.ownBlock ∨ ∃ g, x.val.ownBlock = some g ∧ V.heap.size ≤ g) :
    Tbl E T t (V'.setCell ⟨bv, i, none⟩ x.val) base (.slice (some ⟨bv, 0, none⟩) n cap) (ss.set i x) (R.set i L) := by
  have hbv : bv < V.heap.size := (h.out.lt bv rfl).2
  have hn := owns_len h.out
  subst hn
  have ho1 : V'.ownsRow base T 1 (.slice (some ⟨bv, 0, none⟩) ss.length cap) ss.length (svE.all ss) := own_upto h.out fun b e => hg.block b (h.out.lt b e).2 fun e2 => h.off i hi b e2.symm e
  have hst := ho1.stored i x.val
  rw [svE_set] at hst
  have hl : (ss.set i x).length = ss.length := List.length_set
  have hxb : ∀ b, x.val.ownBlock = some b → b ≠ bv ∧ ∀ j (h' : j < ss.length), i ≠ j → ss[j].val.ownBlock ≠ some b := fun b e => by
    rcases hat with h1 | ⟨g, h1, h2⟩
    · rw [h1] at e
      refine ⟨fun e2 => h.off i hi b e (by rw [e2]; rfl), fun j h' hij => h.apart i j hi h' b hij e⟩
    · rw [h1] at e; cases e
      refine ⟨by omega, fun j h' _ e2 => ?_⟩
      have := (h.lt h' e2).2
      omega
  have hat' : ∀ j (h1 : j < (ss.set i x).length) (h2 : j < ss.length), i ≠ j → (ss.set i x)[j] = ss[j] := fun j h1 h2 hij => by simp [hij]
  have hai : ∀ (h1 : i < (ss.set i x).length), (ss.set i x)[i] = x := fun h1 => by simp
  refine ⟨by rw [hl]; exact hst.1, by rw [hl, List.length_set]; exact h.len, fun j h1 h2 => ?_, fun j h1 b e => ?_, fun j j' h1 h2 b hjj e => ?_⟩
  · have h3 : j < R.length := by rw [List.length_set] at h1; exact h1
    have h4 : j < ss.length := by rw [hl] at h2; exact h2
    by_cases hij : i = j
    · subst hij
      rw [hai h2, show (R.set i L)[i] = L by simp]
      exact own_upto hx fun b e => Below.heap_setCell _ _ _ _ (hxb b e).1
    · rw [hat' j h2 h4 hij, show (R.set i L)[j] = R[j] by simp [hij]]
      refine own_upto (own_upto (h.row j h3 h4) fun b e => hg.block b (h.lt h4 e).2 fun e2 => h.apart j i h4 hi b (fun e3 => hij e3.symm) e e2.symm) fun b e => Below.heap_setCell _ _ _ _ (fun e2 => h.off j h4 b e (by rw [show b = bv from e2]; rfl))
  · have h4 : j < ss.length := by rw [hl] at h1; exact h1
    by_cases hij : i = j
    · subst hij; rw [hai h1] at e
      intro e2
      exact (hxb b e).1 (by simpa [Value.ownBlock] using e2.symm)
    · rw [hat' j h1 h4 hij] at e; exact h.off j h4 b e
  · have h4 : j < ss.length := by rw [hl] at h1; exact h1
    have h5 : j' < ss.length := by rw [hl] at h2; exact h2
    by_cases hij : i = j
    · subst hij
      rw [hai h1] at e
      rw [hat' j' h2 h5 hjj]
      exact (hxb b e).2 j' h5 hjj
    · rw [hat' j h1 h4 hij] at e
      by_cases hij' : i = j'
      · subst hij'
        rw [hai h2]
        exact fun e2 => (hxb b e2).2 j h4 hij e
      · rw [hat' j' h2 h5 hij']
        exact h.apart j j' h4 h5 b hjj e
end
/-- What lies between the rounds. -/
structure OrdM (w : World) (bw bu N lo : Nat) (V : World) (wt : List Int) (ss : List Sv) (R : List (List Int)) (ov : Value) (out : List Int) : Prop where
  be : Below w.heap.size w V
  wb : w.heap.size ≤ bw ∧ bw + 1 < bu
  w0 : V.ownsRow bw 3 1 (.slice (some ⟨bw, 0, none⟩) N N) N (intE.all wt)
  w1 : Row V (bw + 1) 31 #[.slice (some ⟨bw, 0, none⟩) N N]
  tb : Tbl intE 31 3 V bu (.slice (some ⟨bu, 0, none⟩) N N) ss R
  u1 : Row V (bu + 1) 44 #[.slice (some ⟨bu, 0, none⟩) N N]
  ge : ∀ j (h : j < ss.length) g, ss[j].val.ownBlock = some g → bu + 2 ≤ g ∧ (g < lo ∨ lo + 7 ≤ g)
  ot : V.ownsRow (bu + 2) 3 1 ov out.length (intE.all out)
  ol : ∀ g, ov.ownBlock = some g → g < lo ∨ lo + 7 ≤ g
  ap : ∀ j (h : j < ss.length) g, ss[j].val.ownBlock = some g → ov.ownBlock ≠ some g
section
variable {w : World} {bw bu N lo : Nat} {V V' : World} {wt : List Int} {ss : List Sv} {R : List (List Int)} {ov : Value} {out : List Int}
theorem OrdM.cellsUp (h : OrdM w bw bu N lo V wt ss R ov out) {n : Nat} (hn : w.heap.size ≤ n) (hu : CellsUp n V V') : OrdM w bw bu N lo V' wt ss R ov out :=
  ⟨h.be.trans (hu.below.mono hn), h.wb, hu.owns h.w0, hu.cells _ _ _ _ h.w1, ⟨hu.owns h.tb.out, h.tb.len, fun i h1 h2 => hu.owns (h.tb.row i h1 h2), h.tb.off, h.tb.apart⟩, hu.cells _ _ _ _ h.u1, h.ge, hu.owns h.ot, h.ol, h.ap⟩
theorem OrdM.up (hb : Below V.heap.size V V') (h : OrdM w bw bu N lo V wt ss R ov out) : OrdM w bw bu N lo V' wt ss R ov out :=
  ⟨h.be.trans (hb.mono h.be.size), h.wb, up_of hb h.w0, up_of hb h.w1, h.tb.up hb, up_of hb h.u1, h.ge, up_of hb h.ot, h.ol, h.ap⟩
instance : UpF V V' (OrdM w bw bu N lo V wt ss R ov out) (OrdM w bw bu N lo V' wt ss R ov out) := ⟨fun h c => OrdM.up h c⟩
theorem OrdM.nextTo (h : OrdM w bw bu N lo V wt ss R ov out) {m : Nat} (hm : V.heap.size ≤ m) : OrdM w bw bu N m V wt ss R ov out :=
  ⟨h.be, h.wb, h.w0, h.w1, h.tb, h.u1, fun j hj g e => ⟨(h.ge j hj g e).1, .inl (Nat.lt_of_lt_of_le (h.tb.lt hj e).2 hm)⟩, h.ot, fun g e => .inl (Nat.lt_of_lt_of_le (h.ot.lt g e).2 hm), h.ap⟩
theorem OrdM.next (h : OrdM w bw bu N lo V wt ss R ov out) : OrdM w bw bu N V.heap.size V wt ss R ov out :=
  ⟨h.be, h.wb, h.w0, h.w1, h.tb, h.u1, fun j hj g e => ⟨(h.ge j hj g e).1, .inl (h.tb.lt hj e).2⟩, h.ot, fun g e => .inl (h.ot.lt g e).2, h.ap⟩
theorem OrdM.wlen (h : OrdM w bw bu N lo V wt ss R ov out) : wt.length = N := by
  have h1 := h.w0.1
  rw [Elt.all_len] at h1
  simpa [intE] using h1
theorem OrdM.wcell (h : OrdM w bw bu N lo V wt ss R ov out) {k : Nat} (hk : k < wt.length) : V.cell? ⟨bw, k, none⟩ = some (.int .i64 wt[k]) ∧ V.frozen? ⟨bw, k, none⟩ = false :=
  ⟨owns_cell h.w0 (intE_at wt hk), World.ownsRow.frozenAt h.w0 k⟩
/-- A count is put. -/
theorem OrdM.setw (h : OrdM w bw bu N lo V wt ss R ov out) (k : Nat) (x : Int) : OrdM w bw bu N lo (V.setCell ⟨bw, k, none⟩ (.int .i64 x)) (wt.set k x) ss R ov out := by
  have hst := h.w0.stored k (.int .i64 x)
  rw [intE_set] at hst
  have hwb := h.wb
  have hrow : ∀ j (hj : j < ss.length) g, ss[j].val.ownBlock = some g → g ≠ bw := fun j hj g e => by have := (h.ge j hj g e).1; omega
  have hot : ∀ g, ov.ownBlock = some g → g ≠ bw := fun g e => by have := (h.ot.lt g e).1; omega
  refine ⟨h.be.setCell (by exact hwb.1) _, hwb, hst.1, (Below.heap_setCell _ _ _ _ (by show bw + 1 ≠ bw; omega)).trans h.w1, ?_, (Below.heap_setCell _ _ _ _ (by show bu + 1 ≠ bw; omega)).trans h.u1, h.ge, own_upto h.ot fun b e => Below.heap_setCell _ _ _ _ (hot b e), h.ol, h.ap⟩
  exact ⟨own_upto h.tb.out fun b e => Below.heap_setCell _ _ _ _ (by simp [Value.ownBlock] at e; show b ≠ bw; omega), h.tb.len, fun i h1 h2 => own_upto (h.tb.row i h1 h2) fun b e => Below.heap_setCell _ _ _ _ (hrow i h2 b e), h.tb.off, h.tb.apart⟩
/-- A user is appended. -/
theorem OrdM.pushU (h : OrdM w bw bu N lo V wt ss R ov out) {i : Nat} (hi : i < ss.length) {x : Sv} {L : List Int} (hg : V.grownBy V' ss[i].val.ownBlock)
    (hx : V'.ownsRow bu 3 1 x.val L.length (intE.all L)) (hat : x.val.ownBlock = ss[i].val.ownBlock ∨ ∃ g, x.val.ownBlock = some g ∧ V.heap.size ≤ g) (hlo : lo + 7 ≤ V.heap.size) :
    OrdM w bw bu N lo (V'.setCell ⟨bu, i, none⟩ x.val) wt (ss.set i x) (R.set i L) ov out := by
  have hwb := h.wb
  have hge := h.ge i hi
  have hVs := h.be.size
  have hwl := (h.w0.lt bw rfl).2
  have hul := h.u1.lt
  have hw1l := h.w1.lt
  have hbul := (h.tb.out.lt bu rfl).2
  have hne : ∀ k, k < bu + 2 → k < V.heap.size → some k ≠ ss[i].val.ownBlock := fun k hk _ e => by have := (hge k e.symm).1; omega
  have hxge : ∀ g, x.val.ownBlock = some g → bu + 2 ≤ g ∧ (g < lo ∨ lo + 7 ≤ g) ∧ ov.ownBlock ≠ some g := fun g e => by
    rcases hat with h1 | ⟨g', h1, h2⟩
    · rw [h1] at e
      exact ⟨(hge g e).1, (hge g e).2, h.ap i hi g e⟩
    · rw [h1] at e; cases e
      refine ⟨by omega, by omega, fun e2 => ?_⟩
      have := (h.ot.lt _ e2).2; omega
  refine ⟨(h.be.grown hg hVs (fun j e => by have := (hge j e).1; omega)).setCell (by show w.heap.size ≤ bu; omega) _, hwb, ?_, ?_, Tbl.app h.tb hi hg hx hat, ?_, fun j hj g e => ?_, ?_, h.ol, fun j hj g e => ?_⟩
  · exact own_upto h.w0 fun b e => by
      simp [Value.ownBlock] at e; subst e
      exact (Below.heap_setCell _ _ _ _ (by show bw ≠ bu; omega)).trans (hg.block _ hwl (hne _ (by omega) hwl))
  · exact (Below.heap_setCell _ _ _ _ (by show bw + 1 ≠ bu; omega)).trans ((hg.block _ hw1l (hne _ (by omega) hw1l)).trans h.w1)
  · exact (Below.heap_setCell _ _ _ _ (by show bu + 1 ≠ bu; omega)).trans ((hg.block _ hul (hne _ (by omega) hul)).trans h.u1)
  · rw [List.getElem_set] at e
    by_cases hij : i = j
    · rw [if_pos hij] at e; exact ⟨(hxge g e).1, (hxge g e).2.1⟩
    · rw [if_neg hij] at e; exact h.ge j (by rw [List.length_set] at hj; exact hj) g e
  · exact own_upto h.ot fun b e => by
      have h1 := h.ot.lt b e
      exact (Below.heap_setCell _ _ _ _ (by show b ≠ bu; omega)).trans (hg.block _ h1.2 (fun e2 => h.ap i hi b e2.symm e))
  · rw [List.getElem_set] at e
    by_cases hij : i = j
    · rw [if_pos hij] at e; exact (hxge g e).2.2
    · rw [if_neg hij] at e; exact h.ap j (by rw [List.length_set] at hj; exact hj) g e
/-- The order is appended to. -/
theorem OrdM.pushO (h : OrdM w bw bu N lo V wt ss R ov out) {nv : Value} {out' : List Int} (hg : V.grownBy V' ov.ownBlock)
    (hx : V'.ownsRow (bu + 2) 3 1 nv out'.length (intE.all out')) (hat : nv.ownBlock = ov.ownBlock ∨ ∃ g, nv.ownBlock = some g ∧ V.heap.size ≤ g) (hlo : ∀ g, V.heap.size ≤ g → g < V'.heap.size → g < lo ∨ lo + 7 ≤ g) :
    OrdM w bw bu N lo V' wt ss R nv out' := by
  have hwb := h.wb
  have hVs := h.be.size
  have hne : ∀ k, (∀ e : some k = ov.ownBlock, False) → k < V.heap.size → V'.heap[k]? = V.heap[k]? := fun k hk hl => hg.block k hl (fun e => hk e)
  have hlow : ∀ k, k < bu + 2 → k < V.heap.size → V'.heap[k]? = V.heap[k]? := fun k hk hl => hne k (fun e => by have := (h.ot.lt k e.symm).1; omega) hl
  have hxge : ∀ g, nv.ownBlock = some g → (g < lo ∨ lo + 7 ≤ g) ∧ ∀ j (hj : j < ss.length), ss[j].val.ownBlock ≠ some g := fun g e => by
    rcases hat with h1 | ⟨g', h1, h2⟩
    · rw [h1] at e
      exact ⟨h.ol g e, fun j hj e2 => h.ap j hj g e2 e⟩
    · have hgl := (hx.lt g e).2
      rw [h1] at e; cases e
      refine ⟨hlo _ h2 hgl, fun j hj e2 => ?_⟩
      have := (h.tb.lt hj e2).2; omega
  refine ⟨h.be.grown hg hVs (fun j e => by have := (h.ot.lt j e).1; omega), hwb, ?_, (hlow _ (by omega) h.w1.lt).trans h.w1, ?_, (hlow _ (by omega) h.u1.lt).trans h.u1, h.ge, hx, fun g e => (hxge g e).1, fun j hj g e e2 => (hxge g e2).2 j hj e⟩
  · exact own_upto h.w0 fun b e => by simp [Value.ownBlock] at e; subst e; exact hlow _ (by omega) (h.w0.lt _ rfl).2
  · refine ⟨own_upto h.tb.out fun b e => ?_, h.tb.len, fun i h1 h2 => own_upto (h.tb.row i h1 h2) fun b e => hne b (fun e2 => h.ap i h2 b e e2.symm) (h.tb.lt h2 e).2, h.tb.off, h.tb.apart⟩
    simp [Value.ownBlock] at e; subst e
    exact hlow _ (by omega) (h.tb.out.lt _ rfl).2
end
end Go.Proofs.YtakbpjgnjfigcaaGreat

/- There is always an order by counting; levels are at most the elements. -/
namespace Go.Proofs.YtakbpjgnjfigcaaGreat

theorem Khn.row {us : Uses} {N i : Nat} : ∀ (b t : Nat) (out : List Nat) (wait : List Int), Khn us N i t out wait → i < out.length → (usrs us N (out.getD i N)).length - t ≤ b → t ≤ (usrs us N (out.getD i N)).length →
    ∃ out' wait', Khn us N i (usrs us N (out'.getD i N)).length out' wait' ∧ i < out'.length := by
  intro b
  induction b with
  | zero =>
    intro t out wait h hi hb ht
    have e : t = (usrs us N (out.getD i N)).length := by omega
    subst e
    exact ⟨out, wait, h, hi⟩
  | succ b ih =>
    intro t out wait h hi hb ht
    by_cases hlt : t < (usrs us N (out.getD i N)).length
    · obtain ⟨-, -, -, h1, h2⟩ := h.step hi hlt rfl
      by_cases hz : wait.getD (usrs us N (out.getD i N))[t] 0 - 1 = 0
      · have h3 := h2 hz
        have hg : (out ++ [(usrs us N (out.getD i N))[t]]).getD i N = out.getD i N := getD_snoc_lt hi
        exact ih _ _ _ h3 (by simp; omega) (by rw [hg]; omega) (by rw [hg]; omega)
      · exact ih _ _ _ (h1 hz) hi (by omega) (by omega)
    · have e : t = (usrs us N (out.getD i N)).length := by omega
      subst e
      exact ⟨out, wait, h, hi⟩
theorem Khn.ex {us : Uses} {N : Nat} : ∀ (a i : Nat) (out : List Nat) (wait : List Int), Khn us N i 0 out wait → N - i ≤ a → ∃ out wait, Ordd us N out wait := by
  intro a
  induction a with
  | zero =>
    intro i out wait h ha
    have h1 := nodup_len N out h.nd h.lt
    have h2 := h.ile
    have e : i = out.length := by omega
    subst e
    exact ⟨out, wait, h.done⟩
  | succ a ih =>
    intro i out wait h ha
    by_cases hi : i < out.length
    · obtain ⟨out', wait', h1, h2⟩ := Khn.row _ 0 out wait h hi (Nat.le_refl _) (Nat.zero_le _)
      have h3 := h1.next h2 rfl
      have h4 := nodup_len N out' h3.nd h3.lt
      exact ih (i + 1) out' wait' h3 (by omega)
    · have h2 := h.ile
      have e : i = out.length := by omega
      subst e
      exact ⟨out, wait, h.done⟩
theorem ordd_ex (us : Uses) (N : Nat) : ∃ out wait, Ordd us N out wait :=
  Khn.ex N 0 _ _ (Khn.start (us := us) (N := N) (out := free us N) (wait := wtK us N N 0) rfl (wtK_len _ _ _ _) (fun k hk => wtK_all hk)) (by omega)
theorem lvl_bd {us : Uses} {N : Nat} (hus : ∀ k, k < N → ∀ u ∈ us k, u < N) {k : Nat} (hk : k < N) (hg : Gd us k) : lvl us k ≤ N := by
  obtain ⟨out, wait, h⟩ := ordd_ex us N
  obtain ⟨j, hj, e⟩ := List.getElem_of_mem (h.has hus hk hg)
  have h1 := h.lvl_le j hj
  have h2 := h.le
  rw [e] at h1
  omega
end Go.Proofs.YtakbpjgnjfigcaaGreat
