/- Greatest weights of ways in a graph: rounds of raising, circles, and a search for them. Over any program. -/
import Derived.Test.YtadmnlkgefbhcaaB1
namespace Go.Proofs.Ytadmnlkgefbhcaa

/-- For each place: where its ways go, and their weights. -/
abbrev Gr := List (List (Nat × Int))
/-- One way, looked at: its place is raised, if it must be. -/
def rx (v : Nat) (st : List Int × Bool) (e : Nat × Int) : List Int × Bool :=
  if st.1.getD v 0 < st.1.getD e.1 0 + e.2 then (st.1.set v (st.1.getD e.1 0 + e.2), true) else st
def rxRow (st : List Int × Bool) (v : Nat) (es : List (Nat × Int)) : List Int × Bool := es.foldl (rx v) st
def rxRows (G : Gr) (k : Nat) (st : List Int × Bool) : List Int × Bool := (List.range k).foldl (fun st v => rxRow st v (G.getD v [])) st
def rxRound (G : Gr) (off : List Int) : List Int × Bool := rxRows G G.length (off, false)
/-- Rounds till nothing changes; none: so many were too few. -/
def bf (G : Gr) : Nat → List Int → Option (List Int)
  | 0, _ => none
  | k + 1, off => if (rxRound G off).2 then bf G k (rxRound G off).1 else some (rxRound G off).1

theorem getD_set {l : List Int} {i j : Nat} {x : Int} (h : i < l.length) : (l.set i x).getD j 0 = if i = j then x else l.getD j 0 := by
  simp only [List.getD_eq_getElem?_getD, List.getElem?_set]
  by_cases hij : i = j
  · subst hij; simp [h]
  · simp [hij]
theorem rx_len (v : Nat) (st : List Int × Bool) (e : Nat × Int) : (rx v st e).1.length = st.1.length := by
  unfold rx; split <;> simp
theorem rx_mono {v : Nat} {st : List Int × Bool} (hv : v < st.1.length) (e : Nat × Int) (j : Nat) : st.1.getD j 0 ≤ (rx v st e).1.getD j 0 := by
  unfold rx
  split
  · rename_i h
    rw [getD_set hv]
    split
    · subst_vars; omega
    · exact Int.le_refl _
  · exact Int.le_refl _
theorem rx_edge {v : Nat} {st : List Int × Bool} (hv : v < st.1.length) (e : Nat × Int) : st.1.getD e.1 0 + e.2 ≤ (rx v st e).1.getD v 0 := by
  unfold rx
  split
  · rw [getD_set hv, if_pos rfl]; exact Int.le_refl _
  · omega
theorem rx_false {v : Nat} {st : List Int × Bool} {e : Nat × Int} (h : (rx v st e).2 = false) : st.2 = false ∧ rx v st e = st ∧ st.1.getD e.1 0 + e.2 ≤ st.1.getD v 0 := by
  unfold rx at h ⊢
  split at h
  · cases h
  · rename_i h2
    rw [if_neg h2]
    exact ⟨h, rfl, by omega⟩
theorem rx_true {v : Nat} {st : List Int × Bool} (hv : v < st.1.length) {e : Nat × Int} (h : (rx v st e).2 = true) : st.2 = true ∨ st.1.getD v 0 < (rx v st e).1.getD v 0 := by
  unfold rx at h ⊢
  split at h
  · rename_i h2
    rw [if_pos h2]
    right
    rw [getD_set hv, if_pos rfl]; exact h2
  · exact .inl h
theorem row_len (v : Nat) : ∀ (es : List (Nat × Int)) (st : List Int × Bool), (rxRow st v es).1.length = st.1.length
  | [], _ => rfl
  | e :: es, st => (row_len v es (rx v st e)).trans (rx_len v st e)
theorem row_mono (v : Nat) : ∀ (es : List (Nat × Int)) (st : List Int × Bool), v < st.1.length → ∀ j, st.1.getD j 0 ≤ (rxRow st v es).1.getD j 0
  | [], _, _, _ => Int.le_refl _
  | e :: es, st, hv, j => Int.le_trans (rx_mono hv e j) (row_mono v es (rx v st e) (by rw [rx_len]; exact hv) j)
theorem row_edge (v : Nat) : ∀ (es : List (Nat × Int)) (st : List Int × Bool), v < st.1.length → ∀ e ∈ es, st.1.getD e.1 0 + e.2 ≤ (rxRow st v es).1.getD v 0
  | [], _, _, e, he => by cases he
  | a :: es, st, hv, e, he => by
    have hv2 : v < (rx v st a).1.length := by rw [rx_len]; exact hv
    rcases List.mem_cons.1 he with rfl | he
    · exact Int.le_trans (rx_edge hv e) (row_mono v es (rx v st e) hv2 v)
    · have h1 := row_edge v es (rx v st a) hv2 e he
      have h2 := rx_mono hv a e.1
      have h3 : rxRow st v (a :: es) = rxRow (rx v st a) v es := rfl
      rw [h3]; omega
theorem row_false (v : Nat) : ∀ (es : List (Nat × Int)) (st : List Int × Bool), (rxRow st v es).2 = false → st.2 = false ∧ rxRow st v es = st ∧ ∀ e ∈ es, st.1.getD e.1 0 + e.2 ≤ st.1.getD v 0
  | [], st, h => ⟨h, rfl, fun e he => by cases he⟩
  | a :: es, st, h => by
    obtain ⟨h1, h2, h3⟩ := row_false v es (rx v st a) h
    obtain ⟨g1, g2, g3⟩ := rx_false h1
    have e3 : rxRow st v (a :: es) = rxRow (rx v st a) v es := rfl
    rw [e3, h2]
    refine ⟨g1, g2, fun e he => ?_⟩
    rcases List.mem_cons.1 he with rfl | he
    · exact g3
    · have := h3 e he; rw [g2] at this; exact this
theorem row_true (v : Nat) : ∀ (es : List (Nat × Int)) (st : List Int × Bool), v < st.1.length → (rxRow st v es).2 = true → st.2 = true ∨ st.1.getD v 0 < (rxRow st v es).1.getD v 0
  | [], st, _, h => .inl h
  | a :: es, st, hv, h => by
    have hv2 : v < (rx v st a).1.length := by rw [rx_len]; exact hv
    have e3 : rxRow st v (a :: es) = rxRow (rx v st a) v es := rfl
    rw [e3]
    have hm := rx_mono hv a v
    have hm2 := row_mono v es (rx v st a) hv2 v
    rcases row_true v es (rx v st a) hv2 h with h1 | h1
    · rcases rx_true hv h1 with h2 | h2
      · exact .inl h2
      · right; omega
    · right; omega
theorem rows_succ (G : Gr) (k : Nat) (st : List Int × Bool) : rxRows G (k + 1) st = rxRow (rxRows G k st) k (G.getD k []) := by
  unfold rxRows; rw [List.range_succ, List.foldl_append]; rfl
theorem rows_len (G : Gr) (st : List Int × Bool) : ∀ k, (rxRows G k st).1.length = st.1.length
  | 0 => rfl
  | k + 1 => by rw [rows_succ, row_len, rows_len G st k]
theorem rows_mono (G : Gr) (st : List Int × Bool) (j : Nat) : ∀ (d k : Nat), k + d ≤ st.1.length → (rxRows G k st).1.getD j 0 ≤ (rxRows G (k + d) st).1.getD j 0
  | 0, k, _ => Int.le_refl _
  | d + 1, k, h => by
    rw [← Nat.add_assoc, rows_succ]
    exact Int.le_trans (rows_mono G st j d k (by omega)) (row_mono _ _ _ (by rw [rows_len]; omega) j)
theorem round_len (G : Gr) (off : List Int) : (rxRound G off).1.length = off.length := rows_len G _ _
theorem round_mono {G : Gr} {off : List Int} (h : off.length = G.length) (j : Nat) : off.getD j 0 ≤ (rxRound G off).1.getD j 0 := by
  have := rows_mono G (off, false) j G.length 0 (by rw [Nat.zero_add]; exact Nat.le_of_eq h.symm)
  rw [Nat.zero_add] at this
  exact this
theorem round_edge {G : Gr} {off : List Int} (h : off.length = G.length) {v : Nat} (hv : v < G.length) {e : Nat × Int} (he : e ∈ G.getD v []) : off.getD e.1 0 + e.2 ≤ (rxRound G off).1.getD v 0 := by
  have h1 := rows_mono G (off, false) e.1 v 0 (by show 0 + v ≤ off.length; omega)
  rw [Nat.zero_add] at h1
  have h2 := row_edge v (G.getD v []) (rxRows G v (off, false)) (by rw [rows_len]; show v < off.length; omega) e he
  rw [← rows_succ] at h2
  have h3 := rows_mono G (off, false) v (G.length - (v + 1)) (v + 1) (by show _ ≤ off.length; omega)
  rw [show v + 1 + (G.length - (v + 1)) = G.length by omega] at h3
  have h4 : (rxRows G 0 (off, false)).1.getD e.1 0 = off.getD e.1 0 := rfl
  unfold rxRound
  omega
theorem rows_false (G : Gr) (off : List Int) : ∀ k, (rxRows G k (off, false)).2 = false → rxRows G k (off, false) = (off, false) ∧ ∀ v, v < k → ∀ e ∈ G.getD v [], off.getD e.1 0 + e.2 ≤ off.getD v 0
  | 0, _ => ⟨rfl, fun v h => absurd h (by omega)⟩
  | k + 1, h => by
    rw [rows_succ] at h ⊢
    obtain ⟨h1, h2, h3⟩ := row_false k _ _ h
    obtain ⟨g1, g2⟩ := rows_false G off k h1
    rw [g1] at h2 h3 ⊢
    refine ⟨h2, fun v hv e he => ?_⟩
    by_cases hk : v < k
    · exact g2 v hk e he
    · obtain rfl : v = k := by omega
      exact h3 e he
theorem round_false {G : Gr} {off : List Int} (h : (rxRound G off).2 = false) : (rxRound G off).1 = off ∧ ∀ v, v < G.length → ∀ e ∈ G.getD v [], off.getD e.1 0 + e.2 ≤ off.getD v 0 := by
  obtain ⟨h1, h2⟩ := rows_false G off G.length h
  exact ⟨by unfold rxRound; rw [h1], h2⟩
theorem rows_true (G : Gr) (off : List Int) (hl : off.length = G.length) : ∀ k, k ≤ G.length → (rxRows G k (off, false)).2 = true → ∃ v, v < k ∧ off.getD v 0 < (rxRows G k (off, false)).1.getD v 0
  | 0, _, h => by cases h
  | k + 1, hk, h => by
    have hkl : k < (rxRows G k (off, false)).1.length := by rw [rows_len]; show k < off.length; omega
    rw [rows_succ] at h ⊢
    rcases row_true k _ _ hkl h with h1 | h1
    · obtain ⟨v, hv, h2⟩ := rows_true G off hl k (by omega) h1
      have := row_mono k (G.getD k []) _ hkl v
      exact ⟨v, by omega, by omega⟩
    · have := rows_mono G (off, false) k k 0 (by show 0 + k ≤ off.length; omega)
      rw [Nat.zero_add] at this
      have h4 : (rxRows G 0 (off, false)).1.getD k 0 = off.getD k 0 := rfl
      exact ⟨k, by omega, by omega⟩
theorem round_true {G : Gr} {off : List Int} (hl : off.length = G.length) (h : (rxRound G off).2 = true) : ∃ v, v < G.length ∧ off.getD v 0 < (rxRound G off).1.getD v 0 := rows_true G off hl _ (Nat.le_refl _) h
/-- What is kept by raising along a way is kept by a round. -/
theorem round_inv {G : Gr} {I : List Int → Prop} (hI : ∀ off v e, off.length = G.length → I off → v < G.length → e ∈ G.getD v [] → off.getD v 0 < off.getD e.1 0 + e.2 → I (off.set v (off.getD e.1 0 + e.2)))
    {off : List Int} (hl : off.length = G.length) (h : I off) : I (rxRound G off).1 := by
  have hrow : ∀ (v : Nat), v < G.length → ∀ (es : List (Nat × Int)) (st : List Int × Bool), st.1.length = G.length → (∀ e ∈ es, e ∈ G.getD v []) → I st.1 → I (rxRow st v es).1 := by
    intro v hv es
    induction es with
    | nil => intro st _ _ h; exact h
    | cons a es ih =>
      intro st hl2 hes h
      refine ih (rx v st a) (by rw [rx_len]; exact hl2) (fun e he => hes e (by simp [he])) ?_
      unfold rx
      split
      · rename_i h2
        exact hI st.1 v a hl2 h hv (hes a (by simp)) h2
      · exact h
  have hrows : ∀ k, k ≤ G.length → I (rxRows G k (off, false)).1 := by
    intro k
    induction k with
    | zero => intro _; exact h
    | succ k ih =>
      intro hk
      rw [rows_succ]
      exact hrow k (by omega) _ _ (by rw [rows_len]; exact hl) (fun e he => he) (ih (by omega))
  exact hrows _ (Nat.le_refl _)

/-! ### Ways -/
/-- A way from v to z along uses (place, number of the way there), with its weight. -/
inductive Pth (G : Gr) : Nat → List (Nat × Nat) → Nat → Int → Prop
  | nil (v : Nat) : Pth G v [] v 0
  | cons {v i u z : Nat} {w W : Int} {l : List (Nat × Nat)} : (G.getD v [])[i]? = some (u, w) → Pth G u l z W → Pth G v ((v, i) :: l) z (w + W)
theorem Pth.head {G : Gr} {v z : Nat} {x : Nat × Nat} {l : List (Nat × Nat)} {W : Int} (h : Pth G v (x :: l) z W) : x.1 = v := by cases h; rfl
theorem Pth.append {G : Gr} {v u z : Nat} {l m : List (Nat × Nat)} {W X : Int} (h : Pth G v l u W) (k : Pth G u m z X) : Pth G v (l ++ m) z (W + X) := by
  induction h with
  | nil v => rw [Int.zero_add]; exact k
  | cons e h ih => rw [Int.add_assoc]; exact Pth.cons e (ih k)
theorem Pth.split {G : Gr} {m : List (Nat × Nat)} {z : Nat} : ∀ {l : List (Nat × Nat)} {v : Nat} {W : Int}, Pth G v (l ++ m) z W → ∃ u W1 W2, Pth G v l u W1 ∧ Pth G u m z W2 ∧ W = W1 + W2
  | [], v, W, h => ⟨v, 0, W, .nil v, h, by omega⟩
  | x :: l, v, W, h => by
    cases h with
    | cons e h =>
      obtain ⟨u, W1, W2, h1, h2, h3⟩ := Pth.split h
      exact ⟨u, _, W2, .cons e h1, h2, by omega⟩
theorem edge_lt {G : Gr} {v i : Nat} {e : Nat × Int} (h : (G.getD v [])[i]? = some e) : v < G.length := by
  by_cases hv : v < G.length
  · exact hv
  · rw [show G.getD v [] = [] by rw [List.getD_eq_getElem?_getD, List.getElem?_eq_none (by omega)]; rfl] at h; simp at h
theorem Pth.lt {G : Gr} {v z : Nat} {l : List (Nat × Nat)} {W : Int} (h : Pth G v l z W) : ∀ x ∈ l.map Prod.fst, x < G.length := by
  induction h with
  | nil v => intro x hx; cases hx
  | cons e h ih =>
    intro x hx
    rw [List.map_cons, List.mem_cons] at hx
    rcases hx with rfl | hx
    · exact edge_lt e
    · exact ih x hx
/-- All ways lead to places. -/
def Gr.Wf (G : Gr) : Prop := ∀ v, ∀ e ∈ G.getD v [], e.1 < G.length
theorem Pth.last {G : Gr} (hG : G.Wf) {v z : Nat} {l : List (Nat × Nat)} {W : Int} (h : Pth G v l z W) (hv : v < G.length) : z < G.length := by
  induction h with
  | nil v => exact hv
  | cons e h ih => exact ih (hG _ _ (List.mem_of_getElem? e))
/-- A way on which no place comes twice. -/
def Smp (G : Gr) (v : Nat) (l : List (Nat × Nat)) (z : Nat) (W : Int) : Prop := Pth G v l z W ∧ (l.map Prod.fst).Nodup ∧ z ∉ l.map Prod.fst
/-- No circle is worth more than nothing. -/
def NoCirc (G : Gr) : Prop := ∀ v l W, Pth G v l v W → l ≠ [] → (l.map Prod.fst).Nodup → W ≤ 0
theorem nodup_len : ∀ (n : Nat) (l : List Nat), l.Nodup → (∀ x ∈ l, x < n) → l.length ≤ n
  | 0, l, _, h => by
    cases l with
    | nil => exact Nat.le_refl _
    | cons x l => exact absurd (h x (by simp)) (by omega)
  | n + 1, l, hn, h => by
    have h1 := nodup_len n (l.erase n) (hn.erase n) (fun x hx => by
      have h2 := (List.Nodup.mem_erase_iff hn).1 hx
      have := h x h2.2
      omega)
    rw [List.length_erase] at h1
    split at h1 <;> omega
theorem Smp.len {G : Gr} (hG : G.Wf) {v z : Nat} {l : List (Nat × Nat)} {W : Int} (h : Smp G v l z W) (hv : v < G.length) : l.length + 1 ≤ G.length := by
  have := nodup_len G.length (z :: l.map Prod.fst) (List.nodup_cons.2 ⟨h.2.2, h.2.1⟩) (fun x hx => by
    rcases List.mem_cons.1 hx with rfl | hx
    · exact h.1.last hG hv
    · exact h.1.lt x hx)
  simpa using this
/-- Each number is at most the weight of a way without repeats. -/
def Under (G : Gr) (off : List Int) : Prop := ∀ v, v < G.length → ∃ l z W, Smp G v l z W ∧ off.getD v 0 ≤ W
theorem under_step {G : Gr} (hG : G.Wf) (hno : NoCirc G) (off : List Int) (v : Nat) (e : Nat × Int) (hl : off.length = G.length) (h : Under G off) (hv : v < G.length) (he : e ∈ G.getD v []) (_hlt : off.getD v 0 < off.getD e.1 0 + e.2) : Under G (off.set v (off.getD e.1 0 + e.2)) := by
  intro x hx
  rw [getD_set (by omega)]
  by_cases hvx : v = x
  · subst hvx
    rw [if_pos rfl]
    obtain ⟨i, hi⟩ := List.mem_iff_getElem?.1 he
    obtain ⟨l, z, W, ⟨h1, h2, h3⟩, h4⟩ := h e.1 (hG _ _ he)
    have hi2 : (G.getD v [])[i]? = some (e.1, e.2) := hi
    by_cases hm : v ∈ l.map Prod.fst
    · obtain ⟨⟨a, j⟩, ha, rfl⟩ := List.mem_map.1 hm
      obtain ⟨l1, l2, rfl⟩ := List.append_of_mem ha
      obtain ⟨u, W1, W2, p1, p2, rfl⟩ := h1.split
      have hu := p2.head
      simp only at hu hi2 ⊢
      subst hu
      rw [List.map_append, List.nodup_append] at h2
      obtain ⟨n1, n2, n3⟩ := h2
      have hc := hno a ((a, i) :: l1) _ (Pth.cons hi2 p1) (by simp) (by
        rw [List.map_cons, List.nodup_cons]
        exact ⟨fun hin => n3 a hin a (by simp) rfl, n1⟩)
      refine ⟨(a, j) :: l2, z, W2, ⟨p2, n2, fun hz => h3 (by rw [List.map_append]; exact List.mem_append_right _ hz)⟩, ?_⟩
      omega
    · by_cases hz : v = z
      · subst hz
        have hc := hno v ((v, i) :: l) _ (Pth.cons hi2 h1) (by simp) (by rw [List.map_cons, List.nodup_cons]; exact ⟨hm, h2⟩)
        exact ⟨[], v, 0, ⟨.nil v, by simp, by simp⟩, by omega⟩
      · refine ⟨(v, i) :: l, z, e.2 + W, ⟨.cons hi2 h1, by rw [List.map_cons, List.nodup_cons]; exact ⟨hm, h2⟩, ?_⟩, by omega⟩
        rw [List.map_cons, List.mem_cons]
        rintro (h5 | h5)
        · exact hz h5.symm
        · exact h3 h5
  · rw [if_neg hvx]; exact h x hx
/-- Each number is at least the weight of every way of so many steps. -/
def Over (G : Gr) (k : Nat) (off : List Int) : Prop := ∀ v l z W, v < G.length → Pth G v l z W → l.length ≤ k → W ≤ off.getD v 0
theorem over_round {G : Gr} (hG : G.Wf) {k : Nat} {off : List Int} (hl : off.length = G.length) (h : Over G k off) : Over G (k + 1) (rxRound G off).1 := by
  intro v l z W hv hp hk
  cases hp with
  | nil v =>
    exact Int.le_trans (h v [] v 0 hv (.nil v) (by simp)) (round_mono hl v)
  | cons e hp =>
    have he := List.mem_of_getElem? e
    have h1 := h _ _ _ _ (hG _ _ he) hp (by simpa using hk)
    have h2 := round_edge hl hv he
    omega
theorem bf_ends {G : Gr} (hG : G.Wf) (hno : NoCirc G) : ∀ (k j : Nat) (off : List Int), off.length = G.length → Under G off → Over G j off → G.length ≤ j + k → bf G (k + 1) off ≠ none := by
  intro k
  induction k with
  | zero =>
    intro j off hl hu ho hj
    unfold bf
    cases hc : (rxRound G off).2
    · simp
    · exfalso
      obtain ⟨v, hv, h1⟩ := round_true hl hc
      have hu2 := round_inv (G := G) (I := Under G) (under_step hG hno) hl hu
      obtain ⟨l, z, W, hs, h2⟩ := hu2 v hv
      have h3 := hs.len hG hv
      have h4 := ho v l z W hv hs.1 (by omega)
      omega
  | succ k ih =>
    intro j off hl hu ho hj
    unfold bf
    cases hc : (rxRound G off).2
    · simp
    · exact ih (j + 1) _ (by rw [round_len]; exact hl) (round_inv (G := G) (I := Under G) (under_step hG hno) hl hu) (over_round hG hl ho) (by omega)
def zeros (n : Nat) : List Int := List.replicate n 0
theorem zeros_len (n : Nat) : (zeros n).length = n := List.length_replicate
theorem zeros_at (n v : Nat) : (zeros n).getD v 0 = 0 := by
  unfold zeros
  rw [List.getD_eq_getElem?_getD, List.getElem?_replicate]
  split <;> rfl
theorem zeros_under (G : Gr) : Under G (zeros G.length) := fun v _ => ⟨[], v, 0, ⟨.nil v, by simp, by simp⟩, by rw [zeros_at]; exact Int.le_refl _⟩
theorem zeros_over (G : Gr) : Over G 0 (zeros G.length) := fun v l z W _ hp hk => by
  cases hp with
  | nil v => rw [zeros_at]; exact Int.le_refl _
  | cons e hp => simp at hk
/-- Without a circle the rounds come to an end. -/
theorem bf_some {G : Gr} (hG : G.Wf) (hno : NoCirc G) : bf G (G.length + 1) (zeros G.length) ≠ none :=
  bf_ends hG hno G.length 0 _ (zeros_len _) (zeros_under G) (zeros_over G) (by omega)
theorem bf_none {G : Gr} (hG : G.Wf) (h : bf G (G.length + 1) (zeros G.length) = none) : ∃ v l W, Pth G v l v W ∧ l ≠ [] ∧ (l.map Prod.fst).Nodup ∧ 0 < W := by
  apply Classical.byContradiction
  intro hn
  refine bf_some hG (fun v l W h1 h2 h3 => ?_) h
  apply Classical.byContradiction
  intro h4
  exact hn ⟨v, l, W, h1, h2, h3, by omega⟩
/-- All ways are provided for. -/
def Feas (G : Gr) (s : List Int) : Prop := ∀ v, v < G.length → ∀ e ∈ G.getD v [], s.getD e.1 0 + e.2 ≤ s.getD v 0
theorem Feas.pth {G : Gr} {s : List Int} (h : Feas G s) {v z : Nat} {l : List (Nat × Nat)} {W : Int} (hp : Pth G v l z W) : W ≤ s.getD v 0 - s.getD z 0 := by
  induction hp with
  | nil v => omega
  | cons e hp ih =>
    have := h _ (edge_lt e) _ (List.mem_of_getElem? e)
    simp only at this
    omega
theorem Feas.noCirc {G : Gr} {s : List Int} (h : Feas G s) : NoCirc G := fun v l W hp _ _ => by have := h.pth hp; omega
theorem bf_inv {G : Gr} {I : List Int → Prop} (hI : ∀ off v e, off.length = G.length → I off → v < G.length → e ∈ G.getD v [] → off.getD v 0 < off.getD e.1 0 + e.2 → I (off.set v (off.getD e.1 0 + e.2))) :
    ∀ (k : Nat) (off o : List Int), off.length = G.length → I off → bf G k off = some o → I o ∧ o.length = G.length ∧ Feas G o ∧ ∀ j, off.getD j 0 ≤ o.getD j 0
  | 0, off, o, _, _, h => by cases h
  | k + 1, off, o, hl, hi, h => by
    unfold bf at h
    have h1 := round_inv hI hl hi
    have hl1 : (rxRound G off).1.length = G.length := by rw [round_len]; exact hl
    cases hc : (rxRound G off).2
    · rw [hc] at h
      simp only [Bool.false_eq_true, if_false, Option.some.injEq] at h
      obtain ⟨h2, h3⟩ := round_false hc
      rw [h2] at h h1
      subst h
      exact ⟨h1, hl, h3, fun j => Int.le_refl _⟩
    · rw [hc] at h
      simp only [if_true] at h
      obtain ⟨g1, g2, g3, g4⟩ := bf_inv hI k _ o hl1 h1 h
      exact ⟨g1, g2, g3, fun j => Int.le_trans (round_mono hl j) (g4 j)⟩
theorem bf_ok {G : Gr} {k : Nat} {o : List Int} (h : bf G k (zeros G.length) = some o) : o.length = G.length ∧ Feas G o ∧ ∀ j, 0 ≤ o.getD j 0 := by
  obtain ⟨-, h1, h2, h3⟩ := bf_inv (I := fun _ => True) (fun _ _ _ _ _ _ _ _ => trivial) k _ _ (zeros_len _) trivial h
  exact ⟨h1, h2, fun j => by have := h3 j; rw [zeros_at] at this; exact this⟩
theorem bf_least {G : Gr} (hG : G.Wf) {k : Nat} {o s : List Int} (h : bf G k (zeros G.length) = some o) (hs : Feas G s) (h0 : ∀ j, j < G.length → 0 ≤ s.getD j 0) : ∀ j, j < G.length → o.getD j 0 ≤ s.getD j 0 := by
  obtain ⟨h1, -⟩ := bf_inv (I := fun off => ∀ j, j < G.length → off.getD j 0 ≤ s.getD j 0) (fun off v e hl hI hv he _ j hj => by
    rw [getD_set (by omega)]
    by_cases hvj : v = j
    · subst hvj
      rw [if_pos rfl]
      have h2 := hs v hv e he
      have := hI e.1 (hG _ _ he)
      omega
    · rw [if_neg hvj]; exact hI j hj) k _ _ (zeros_len _) (fun j hj => by rw [zeros_at]; exact h0 j hj) h
  exact h1
theorem bf_under {G : Gr} (hG : G.Wf) {k : Nat} {o : List Int} (h : bf G k (zeros G.length) = some o) : Under G o := by
  obtain ⟨-, h2, -⟩ := bf_ok h
  exact (bf_inv (I := Under G) (under_step hG h2.noCirc) k _ _ (zeros_len _) (zeros_under G) h).1

/-! ### The search -/
/-- A circle that begins with the uses l, which go on from v. -/
def srch (G : Gr) (chk : List (Nat × Nat) → Bool) : Nat → List (Nat × Nat) → Nat → Option (List (Nat × Nat))
  | 0, _, _ => none
  | k + 1, l, v => if l.head?.map Prod.fst = some v then (if chk l then some l else none)
    else if v ∈ l.map Prod.fst then none else (List.range (G.getD v []).length).findSome? fun i => srch G chk k (l ++ [(v, i)]) ((G.getD v []).getD i (0, 0)).1
theorem srch_ok {G : Gr} {chk : List (Nat × Nat) → Bool} : ∀ (k : Nat) (l : List (Nat × Nat)) (v : Nat) (o : List (Nat × Nat)), srch G chk k l v = some o → chk o = true ∧ o ≠ []
  | 0, _, _, _, h => by cases h
  | k + 1, l, v, o, h => by
    unfold srch at h
    split at h
    · rename_i h1
      split at h
      · rename_i h2
        cases h
        exact ⟨h2, by rintro rfl; simp at h1⟩
      · cases h
    · split at h
      · cases h
      · obtain ⟨i, -, hi⟩ := List.exists_of_findSome?_eq_some h
        exact srch_ok k _ _ o hi
theorem srch_finds {G : Gr} {chk : List (Nat × Nat) → Bool} {v0 : Nat} : ∀ (rest : List (Nat × Nat)) (k : Nat) (l : List (Nat × Nat)) (v : Nat) (W : Int), Pth G v rest v0 W → (l ≠ [] → l.head?.map Prod.fst = some v0) → (l = [] → v = v0 ∧ rest ≠ []) →
    ((l ++ rest).map Prod.fst).Nodup → chk (l ++ rest) = true → rest.length < k → srch G chk k l v ≠ none
  | [], k, l, v, W, hp, h1, h2, _, hc, hk => by
    cases hp
    obtain ⟨k, rfl⟩ : ∃ j, k = j + 1 := ⟨k - 1, by simp at hk; omega⟩
    have hl : l ≠ [] := fun e => (h2 e).2 rfl
    rw [List.append_nil] at hc
    unfold srch
    rw [if_pos (h1 hl), if_pos hc]
    simp
  | x :: rest, k, l, v, W, hp, h1, h2, hn, hc, hk => by
    obtain ⟨k, rfl⟩ : ∃ j, k = j + 1 := ⟨k - 1, by simp at hk; omega⟩
    cases hp with
    | @cons _ i u _ w W' _ e hp =>
    have hv : v ∉ l.map Prod.fst := by
      rw [List.map_append, List.nodup_append] at hn
      intro hin
      exact hn.2.2 v hin v (by simp) rfl
    have hh : ¬ l.head?.map Prod.fst = some v := by
      intro he
      cases l with
      | nil => simp at he
      | cons y l =>
        simp at he
        exact hv (by simp [he])
    unfold srch
    rw [if_neg hh, if_neg hv]
    intro hnone
    rw [List.findSome?_eq_none_iff] at hnone
    have hi : i < (G.getD v []).length := (List.getElem?_eq_some_iff.1 e).1
    have h3 := hnone i (List.mem_range.2 hi)
    have h4 : (G.getD v []).getD i (0, 0) = (u, w) := by rw [List.getD_eq_getElem?_getD, e]; rfl
    rw [h4] at h3
    refine srch_finds rest k (l ++ [(v, i)]) u W' hp (fun _ => ?_) (fun e => ?_) (by rw [List.append_assoc]; exact hn) (by rw [List.append_assoc]; exact hc) (by simp at hk; omega) h3
    · cases l with
      | nil => rw [(h2 rfl).1]; simp
      | cons y l => have := h1 (by simp); simpa using this
    · simp at e
end Go.Proofs.Ytadmnlkgefbhcaa
