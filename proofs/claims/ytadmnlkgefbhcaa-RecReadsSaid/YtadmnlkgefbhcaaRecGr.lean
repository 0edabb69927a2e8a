/- Levels of a graph's elements, an order of them by counting, and a search for levels: plain functions on lists and numbers. -/
import Derived.Test.YtadmnlkgefbhcaaSchGr
namespace Go.Proofs.Ytadmnlkgefbhcaa

/-- For each element: those that it uses. -/
abbrev Uses := Nat → List Nat
/-- The element has a level. -/
inductive Gd (us : Uses) : Nat → Prop
  | mk (k : Nat) : (∀ u, u ∈ us k → Gd us u) → Gd us k
theorem Gd.all {us : Uses} {k : Nat} (h : Gd us k) : ∀ u ∈ us k, Gd us u := by cases h; assumption
theorem Gd.acc {us : Uses} {k : Nat} (h : Gd us k) : Acc (fun u k => u ∈ us k) k := by
  induction h with
  | mk k _ ih => exact ⟨k, fun u hu => ih u hu⟩
/-- What is computed of what is computed for those that are used. -/
noncomputable def rkA {β : Type} (us : Uses) (z : β) (F : Nat → (Nat → β) → β) {k : Nat} (h : Acc (fun u k => u ∈ us k) k) : β :=
  h.rec (motive := fun _ _ => β) (fun k _ ih => F k (fun u => by classical exact if hu : u ∈ us k then ih u hu else z))
noncomputable def rk {β : Type} (us : Uses) (z : β) (F : Nat → (Nat → β) → β) (k : Nat) : β := by
  classical exact if h : Gd us k then rkA us z F h.acc else z
theorem rk_eq {β : Type} {us : Uses} {z : β} {F : Nat → (Nat → β) → β} (hF : ∀ k g g', (∀ u ∈ us k, g u = g' u) → F k g = F k g') {k : Nat} (h : Gd us k) : rk us z F k = F k (rk us z F) := by
  have e : ∀ {j : Nat} (hj : Gd us j) (ha : Acc (fun u k => u ∈ us k) j), rk us z F j = rkA us z F ha := fun hj ha => by unfold rk; rw [dif_pos hj]
  have h2 := h.all
  rw [e h h.acc]
  cases hA : h.acc with
  | intro _ hk =>
    show F k _ = F k _
    refine hF k _ _ fun u hu => ?_
    rw [dif_pos hu]
    exact (e (h2 u hu) (hk u hu)).symm
/-- A way from s to k of one step at least: s uses .. k. -/
inductive Rch (us : Uses) : Nat → Nat → Prop
  | one {s k : Nat} : k ∈ us s → Rch us s k
  | more {s t k : Nat} : Rch us s t → k ∈ us t → Rch us s k
theorem Rch.gd {us : Uses} {s k : Nat} (h : Rch us s k) (hs : Gd us s) : Gd us k := by
  induction h with
  | one h => exact hs.all _ h
  | more _ h ih => exact ih.all _ h
theorem Rch.cons {us : Uses} {s t k : Nat} (h1 : t ∈ us s) (h : Rch us t k) : Rch us s k := by
  induction h with
  | one h => exact .more (.one h1) h
  | more _ h ih => exact .more ih h
theorem Rch.bad {us : Uses} {k : Nat} (h : Rch us k k) : ¬ Gd us k := by
  intro hg
  have : ∀ s, Gd us s → ¬ Rch us s s := fun s hs => by
    induction hs with
    | mk s _ ih =>
      intro hr
      -- the first step of the way leads to one that is on a circle, too
      have : ∃ u, u ∈ us s ∧ Rch us u u := by
        have key : ∀ {a b : Nat}, Rch us a b → ∃ u, u ∈ us a ∧ (u = b ∨ Rch us u b) := fun h => by
          induction h with
          | one h => exact ⟨_, h, .inl rfl⟩
          | more _ h ih =>
            obtain ⟨u, hu, h3⟩ := ih
            rcases h3 with rfl | h3
            · exact ⟨u, hu, .inr (.one h)⟩
            · exact ⟨u, hu, .inr (.more h3 h)⟩
        obtain ⟨u, hu, h3⟩ := key hr
        refine ⟨u, hu, ?_⟩
        rcases h3 with rfl | h3
        · exact hr
        · exact .more h3 hu
      obtain ⟨u, hu, h3⟩ := this
      exact ih u hu h3
  exact this k hg h

/-! ### An order by counting -/
/-- How many of those that k uses are not in l. -/
def lftN (us : Uses) (l : List Nat) (k : Nat) : Nat := (us k).countP fun u => !l.contains u
theorem left_nil (us : Uses) (k : Nat) : lftN us [] k = (us k).length := by
  unfold lftN; rw [List.countP_eq_length.2]; intro a _; simp
theorem left_snoc {us : Uses} {l : List Nat} {x k : Nat} (h : x ∉ l) : lftN us l k = lftN us (l ++ [x]) k + (us k).count x := by
  unfold lftN List.count
  generalize us k = L
  induction L with
  | nil => rfl
  | cons a L ih =>
    simp only [List.countP_cons]
    rw [ih]
    by_cases hax : a = x
    · subst hax; simp [h]; omega
    · have : ((l ++ [x]).contains a) = l.contains a := by
        simp [List.contains_eq_mem, hax]
      rw [this]
      simp [hax]; omega
theorem left_zero {us : Uses} {l : List Nat} {k : Nat} : lftN us l k = 0 ↔ ∀ u ∈ us k, u ∈ l := by
  unfold lftN
  rw [List.countP_eq_zero]
  simp
/-- The users of u among the first k. -/
def usrs (us : Uses) (k u : Nat) : List Nat := (List.range k).flatMap fun j => List.replicate ((us j).count u) j
theorem usrs_zero (us : Uses) (u : Nat) : usrs us 0 u = [] := rfl
theorem usrs_succ (us : Uses) (k u : Nat) : usrs us (k + 1) u = usrs us k u ++ List.replicate ((us k).count u) k := by
  unfold usrs; rw [List.range_succ, List.flatMap_append]; simp
theorem usrs_count (us : Uses) (u j : Nat) : ∀ k, (usrs us k u).count j = if j < k then (us j).count u else 0 := by
  intro k
  induction k with
  | zero => simp [usrs_zero]
  | succ k ih =>
    rw [usrs_succ, List.count_append, ih, List.count_replicate]
    by_cases h : j < k
    · have h1 : ¬ k = j := by omega
      have h2 : j < k + 1 := by omega
      simp [h, h1, h2]
    · by_cases h2 : k = j
      · subst h2; simp
      · have h3 : ¬ j < k + 1 := by omega
        simp [h, h2, h3]
theorem usrs_lt {us : Uses} {k u j : Nat} (h : j ∈ usrs us k u) : j < k := by
  unfold usrs at h
  obtain ⟨i, hi, h2⟩ := List.mem_flatMap.1 h
  have := List.eq_of_mem_replicate h2
  have := List.mem_range.1 hi
  omega
/-- Where the order stands: i of out are looked at, t of the users of the next one. -/
structure Khn (us : Uses) (N i t : Nat) (out : List Nat) (wait : List Int) : Prop where
  nd : out.Nodup
  lt : ∀ x ∈ out, x < N
  len : wait.length = N
  ile : i ≤ out.length
  wt : ∀ k, k < N → wait.getD k 0 + (((usrs us N (out.getD i N)).take t).count k : Nat) = (lftN us (out.take i) k : Nat)
  tz : out.length = i → t = 0
  mem : ∀ k, k < N → (k ∈ out ↔ wait.getD k 0 = 0)
  ord : ∀ j (h : j < out.length), ∀ u ∈ us out[j], u ∈ out.take j
theorem getD_snoc_lt {l : List Nat} {x i d : Nat} (h : i < l.length) : (l ++ [x]).getD i d = l.getD i d := by
  simp [List.getD_eq_getElem?_getD, List.getElem?_append_left h]
theorem count_take_succ {l : List Nat} {t k : Nat} (h : t < l.length) : (l.take (t + 1)).count k = (l.take t).count k + if l[t] = k then 1 else 0 := by
  rw [List.take_succ_eq_append_getElem h, List.count_append]
  simp [List.count_cons]
/-- One user more has one less to wait for; others are as they were. -/
theorem Khn.step {us : Uses} {N i t : Nat} {out : List Nat} {wait : List Int} (h : Khn us N i t out wait) (hi : i < out.length) (ht : t < (usrs us N (out.getD i N)).length)
    {k : Nat} (hk : (usrs us N (out.getD i N))[t] = k) :
    k < N ∧ 1 ≤ wait.getD k 0 ∧ k ∉ out ∧
    (wait.getD k 0 - 1 ≠ 0 → Khn us N i (t + 1) out (wait.set k (wait.getD k 0 - 1))) ∧
    (wait.getD k 0 - 1 = 0 → Khn us N i (t + 1) (out ++ [k]) (wait.set k (wait.getD k 0 - 1))) := by
  have hkN : k < N := usrs_lt (us := us) (u := out.getD i N) (by rw [← hk]; exact List.getElem_mem ht)
  have hxi : out.getD i N = out[i] := by rw [List.getD_eq_getElem?_getD, List.getElem?_eq_getElem hi]; rfl
  have hxn : out[i] ∉ out.take i := by
    intro hm
    obtain ⟨j, hj, e⟩ := List.getElem_of_mem hm
    rw [List.getElem_take] at e
    rw [List.length_take] at hj
    exact (List.pairwise_iff_getElem.1 (List.nodup_iff_pairwise_ne.1 h.nd) j i (by omega) hi (by omega)) e
  have htk : out.take (i + 1) = out.take i ++ [out[i]] := List.take_succ_eq_append_getElem hi
  have hcnt : ∀ j, j < N → ((usrs us N (out.getD i N)).take (t + 1)).count j ≤ (us j).count out[i] := fun j hj => by
    rw [hxi]
    refine Nat.le_trans (List.Sublist.count_le _ (List.take_sublist _ _)) ?_
    rw [usrs_count, if_pos hj]; exact Nat.le_refl _
  have hle : ∀ j, j < N → ((usrs us N (out.getD i N)).take (t + 1)).count j ≤ lftN us (out.take i) j := fun j hj => by
    have := hcnt j hj
    rw [left_snoc hxn]; omega
  have h1 : 1 ≤ wait.getD k 0 := by
    have a := h.wt k hkN
    have b := hle k hkN
    rw [count_take_succ ht, if_pos hk] at b
    omega
  have hkl : k < wait.length := by rw [h.len]; exact hkN
  have hno : k ∉ out := fun hm => by have := (h.mem k hkN).1 hm; omega
  have hwt : ∀ j, j < N → (wait.set k (wait.getD k 0 - 1)).getD j 0 + (((usrs us N (out.getD i N)).take (t + 1)).count j : Nat) = (lftN us (out.take i) j : Nat) := fun j hj => by
    have a := h.wt j hj
    rw [getD_set hkl, count_take_succ ht]
    by_cases e : k = j
    · subst e; rw [if_pos rfl, if_pos hk]; omega
    · rw [if_neg e, if_neg (by rw [hk]; exact e)]; omega
  refine ⟨hkN, h1, hno, fun h0 => ?_, fun h0 => ?_⟩
  · refine ⟨h.nd, h.lt, by rw [List.length_set]; exact h.len, h.ile, hwt, fun e => by omega, fun j hj => ?_, h.ord⟩
    rw [getD_set hkl]
    by_cases e : k = j
    · subst e; rw [if_pos rfl]
      exact ⟨fun hm => absurd hm hno, fun h2 => absurd h2 h0⟩
    · rw [if_neg e]; exact h.mem j hj
  · have hile := h.ile
    refine ⟨List.nodup_append.2 ⟨h.nd, by simp, fun a ha b hb => by simp at hb; subst hb; intro e; subst e; exact hno ha⟩, fun x hx => ?_, by rw [List.length_set]; exact h.len, by simp; omega, ?_, fun e => by simp at e; omega, fun j hj => ?_, ?_⟩
    · rcases List.mem_append.1 hx with hx | hx
      · exact h.lt x hx
      · simp at hx; omega
    · rw [getD_snoc_lt hi, List.take_append_of_le_length (by omega)]
      exact hwt
    · rw [getD_set hkl]
      by_cases e : k = j
      · subst e; rw [if_pos rfl, h0]; simp
      · rw [if_neg e, ← h.mem j hj]; simp; intro e2; exact absurd e2.symm e
    · intro j hj u hu
      by_cases hjl : j < out.length
      · rw [List.getElem_append_left hjl] at hu
        rw [List.take_append_of_le_length (by omega)]
        exact h.ord j hjl u hu
      · have hje : j = out.length := by simp at hj; omega
        subst hje
        simp only [List.getElem_concat_length] at hu
        rw [List.take_append_of_le_length (Nat.le_refl _), List.take_length]
        -- all that k uses has been looked at, or is the one that is being looked at
        have a := hwt k hkN
        rw [getD_set hkl, if_pos rfl, h0] at a
        have b := hcnt k hkN
        have c := left_snoc (us := us) (k := k) hxn
        have d : lftN us (out.take i ++ [out[i]]) k = 0 := by omega
        have e := left_zero.1 d u hu
        rw [← htk] at e
        exact List.mem_of_mem_take e
/-- All users of the next one are looked at. -/
theorem Khn.next {us : Uses} {N i t : Nat} {out : List Nat} {wait : List Int} (h : Khn us N i t out wait) (hi : i < out.length) (ht : t = (usrs us N (out.getD i N)).length) : Khn us N (i + 1) 0 out wait := by
  have hxi : out.getD i N = out[i] := by rw [List.getD_eq_getElem?_getD, List.getElem?_eq_getElem hi]; rfl
  have hxn : out[i] ∉ out.take i := by
    intro hm
    obtain ⟨j, hj, e⟩ := List.getElem_of_mem hm
    rw [List.getElem_take] at e
    rw [List.length_take] at hj
    exact (List.pairwise_iff_getElem.1 (List.nodup_iff_pairwise_ne.1 h.nd) j i (by omega) hi (by omega)) e
  refine ⟨h.nd, h.lt, h.len, hi, fun k hk => ?_, fun _ => rfl, h.mem, h.ord⟩
  have a := h.wt k hk
  rw [ht, List.take_length, hxi, usrs_count, if_pos hk, left_snoc hxn] at a
  rw [List.take_succ_eq_append_getElem hi]
  simp only [List.take_zero, List.count_nil]
  omega
/-- The order, and how much each waits for. -/
structure Ordd (us : Uses) (N : Nat) (out : List Nat) (wait : List Int) : Prop where
  nd : out.Nodup
  lt : ∀ x ∈ out, x < N
  len : wait.length = N
  wt : ∀ k, k < N → wait.getD k 0 = (lftN us out k : Nat)
  mem : ∀ k, k < N → (k ∈ out ↔ wait.getD k 0 = 0)
  ord : ∀ j (h : j < out.length), ∀ u ∈ us out[j], u ∈ out.take j
theorem Khn.done {us : Uses} {N t : Nat} {out : List Nat} {wait : List Int} (h : Khn us N out.length t out wait) : Ordd us N out wait :=
  ⟨h.nd, h.lt, h.len, fun k hk => by have a := h.wt k hk; rw [h.tz rfl, List.take_length] at a; simpa using a, h.mem, h.ord⟩
/-- The order's beginning: those that use nothing. -/
theorem Khn.start {us : Uses} {N : Nat} {out : List Nat} {wait : List Int} (ho : out = (List.range N).filter fun k => decide ((us k).length = 0)) (hl : wait.length = N) (hw : ∀ k, k < N → wait.getD k 0 = ((us k).length : Nat)) : Khn us N 0 0 out wait := by
  subst ho
  refine ⟨List.nodup_range.sublist List.filter_sublist, fun x hx => ?_, hl, Nat.zero_le _, fun k hk => ?_, fun _ => rfl, fun k hk => ?_, fun j h u hu => ?_⟩
  · exact List.mem_range.1 (List.mem_filter.1 hx).1
  · rw [show List.take 0 (List.filter (fun k => decide ((us k).length = 0)) (List.range N)) = [] from List.take_zero, left_nil, hw k hk]; simp
  · rw [hw k hk]; simp [hk]; 
  · have := List.getElem_mem h
    have := (List.mem_filter.1 this).2
    have h0 := of_decide_eq_true this
    rw [List.length_eq_zero_iff.1 h0] at hu
    exact absurd hu (by simp)
theorem Ordd.gd {us : Uses} {N : Nat} {out : List Nat} {wait : List Int} (h : Ordd us N out wait) : ∀ k ∈ out, Gd us k := by
  have : ∀ n j (hj : j < out.length), j < n → Gd us out[j] := by
    intro n
    induction n with
    | zero => intro j _ h; omega
    | succ n ih =>
      intro j hj _
      refine ⟨_, fun u hu => ?_⟩
      obtain ⟨i, hi, e⟩ := List.getElem_of_mem (h.ord j hj u hu)
      rw [List.getElem_take] at e
      rw [List.length_take] at hi
      rw [← e]
      exact ih i (by omega) (by omega)
  intro k hk
  obtain ⟨j, hj, rfl⟩ := List.getElem_of_mem hk
  exact this (j + 1) j hj (by omega)
theorem Ordd.has {us : Uses} {N : Nat} {out : List Nat} {wait : List Int} (h : Ordd us N out wait) (hus : ∀ k, k < N → ∀ u ∈ us k, u < N) {k : Nat} (hk : k < N) (hg : Gd us k) : k ∈ out := by
  have : ∀ k, Gd us k → k < N → k ∈ out := fun k hg => by
    induction hg with
    | mk k _ ih =>
      intro hk
      rw [h.mem k hk, h.wt k hk]
      have : lftN us out k = 0 := left_zero.2 fun u hu => ih u hu (hus k hk u hu)
      omega
  exact this k hg hk
theorem Ordd.le {us : Uses} {N : Nat} {out : List Nat} {wait : List Int} (h : Ordd us N out wait) : out.length ≤ N := nodup_len N out h.nd h.lt
/-- As long as the elements are: each has a level. -/
theorem Ordd.full {us : Uses} {N : Nat} {out : List Nat} {wait : List Int} (h : Ordd us N out wait) (hl : out.length = N) : ∀ k, k < N → k ∈ out := by
  intro k hk
  by_cases hm : k ∈ out
  · exact hm
  · have := nodup_len N (k :: out) (List.nodup_cons.2 ⟨hm, h.nd⟩) (fun x hx => by
      rcases List.mem_cons.1 hx with rfl | hx
      · exact hk
      · exact h.lt x hx)
    simp at this; omega
theorem range_len {N : Nat} {out : List Nat} (hall : ∀ k, k < N → k ∈ out) : N ≤ out.length := by
  have := (List.nodup_range (n := N)).length_le_of_subset (l₂ := out) (fun k hk => hall k (List.mem_range.1 hk))
  simpa using this
/-- Whether all have levels. -/
theorem Ordd.iff {us : Uses} {N : Nat} {out : List Nat} {wait : List Int} (h : Ordd us N out wait) (hus : ∀ k, k < N → ∀ u ∈ us k, u < N) : out.length < N ↔ ¬ ∀ k, k < N → Gd us k := by
  constructor
  · intro hl hg
    have := range_len fun k hk => h.has hus hk (hg k hk)
    omega
  · intro hn
    have := h.le
    by_cases hl : out.length = N
    · exact absurd (fun k hk => h.gd k (h.full hl k hk)) hn
    · omega

/-! ### Levels -/
def lvR (us : Uses) (k : Nat) (g : Nat → Nat) : Nat := (us k).foldl (fun a u => max a (g u + 1)) 1
theorem foldl_ext {α β : Type} {f g : β → α → β} : ∀ (l : List α) (a : β), (∀ b, ∀ x ∈ l, f b x = g b x) → l.foldl f a = l.foldl g a
  | [], _, _ => rfl
  | x :: l, a, h => by
    rw [List.foldl_cons, List.foldl_cons, h a x List.mem_cons_self]
    exact foldl_ext l _ fun b y hy => h b y (List.mem_cons_of_mem _ hy)
noncomputable def lvl (us : Uses) : Nat → Nat := rk us 0 (lvR us)
theorem lvl_eq {us : Uses} {k : Nat} (h : Gd us k) : lvl us k = lvR us k (lvl us) :=
  rk_eq (F := lvR us) (fun k g g' hg => foldl_ext _ _ fun b u hu => by rw [hg u hu]) h
theorem foldl_max_ge {g : Nat → Nat} : ∀ (l : List Nat) (a : Nat), a ≤ l.foldl (fun a u => max a (g u + 1)) a
  | [], a => Nat.le_refl _
  | u :: l, a => Nat.le_trans (Nat.le_max_left a (g u + 1)) (foldl_max_ge l _)
theorem lvl_pos {us : Uses} {k : Nat} (h : Gd us k) : 1 ≤ lvl us k := by rw [lvl_eq h]; exact foldl_max_ge _ _
theorem foldl_max_mem {g : Nat → Nat} : ∀ (l : List Nat) (a : Nat), ∀ u ∈ l, g u + 1 ≤ l.foldl (fun a u => max a (g u + 1)) a
  | [], _, u, h => absurd h (by simp)
  | x :: l, a, u, h => by
    rcases List.mem_cons.1 h with rfl | h
    · exact Nat.le_trans (Nat.le_max_right a (g u + 1)) (foldl_max_ge l _)
    · exact foldl_max_mem l _ u h
theorem lvl_use {us : Uses} {k u : Nat} (h : Gd us k) (hu : u ∈ us k) : lvl us u + 1 ≤ lvl us k := by rw [lvl_eq h]; exact foldl_max_mem _ _ u hu
theorem foldl_max_att {g : Nat → Nat} : ∀ (l : List Nat) (a : Nat), l.foldl (fun a u => max a (g u + 1)) a = a ∨ ∃ u ∈ l, l.foldl (fun a u => max a (g u + 1)) a = g u + 1
  | [], a => .inl rfl
  | x :: l, a => by
    rcases foldl_max_att (g := g) l (max a (g x + 1)) with h | ⟨u, hu, h⟩
    · rw [List.foldl_cons, h]
      rcases Nat.le_total a (g x + 1) with h2 | h2
      · exact .inr ⟨x, List.mem_cons_self, by rw [Nat.max_eq_right h2]⟩
      · exact .inl (Nat.max_eq_left h2)
    · exact .inr ⟨u, List.mem_cons_of_mem _ hu, h⟩
/-- A level above 1 is greater by just 1 than that of one that is used. -/
theorem lvl_prev {us : Uses} {k : Nat} (h : Gd us k) (h1 : 1 < lvl us k) : ∃ u ∈ us k, lvl us k = lvl us u + 1 := by
  rw [lvl_eq h] at h1 ⊢
  rcases foldl_max_att (g := lvl us) (us k) 1 with e | e
  · unfold lvR at h1; omega
  · exact e
theorem Ordd.lvl_le {us : Uses} {N : Nat} {out : List Nat} {wait : List Int} (h : Ordd us N out wait) : ∀ j (hj : j < out.length), lvl us out[j] ≤ j + 1 := by
  have : ∀ n j (hj : j < out.length), j < n → lvl us out[j] ≤ j + 1 := by
    intro n
    induction n with
    | zero => intro j _ h; omega
    | succ n ih =>
      intro j hj _
      have hg := h.gd _ (List.getElem_mem hj)
      by_cases h1 : 1 < lvl us out[j]
      · obtain ⟨u, hu, e⟩ := lvl_prev hg h1
        obtain ⟨i, hi, e2⟩ := List.getElem_of_mem (h.ord j hj u hu)
        rw [List.getElem_take] at e2
        rw [List.length_take] at hi
        have := ih i (by omega) (by omega)
        rw [e2] at this
        omega
      · omega
  exact fun j hj => this (j + 1) j hj (by omega)

/-! ### A search for levels -/
/-- What the search knows: 0 nothing, -1 it is under way, else the level. -/
structure Srch (us : Uses) (N : Nat) (L : List Int) : Prop where
  len : L.length = N
  ok : ∀ k, k < N → L.getD k 0 = 0 ∨ L.getD k 0 = -1 ∨ (Gd us k ∧ L.getD k 0 = (lvl us k : Nat))
def zros (L : List Int) : Nat := L.countP fun x => x == 0
theorem zros_set {L : List Int} {k : Nat} {x : Int} (hk : k < L.length) (h0 : L.getD k 0 = 0) (hx : x ≠ 0) : zros (L.set k x) + 1 = zros L := by
  unfold zros
  induction L generalizing k with
  | nil => simp at hk
  | cons a L ih =>
    cases k with
    | zero => simp at h0; subst h0; simp [hx]
    | succ k =>
      have := ih (k := k) (by simpa using hk) (by simpa using h0)
      simp only [List.set_cons_succ, List.countP_cons]
      omega
/-- One search has gone from L to M: what was known is known. -/
structure Went (L M : List Int) : Prop where
  len : M.length = L.length
  old : ∀ k, L.getD k 0 ≠ 0 → M.getD k 0 = L.getD k 0
  way : ∀ k, M.getD k 0 = -1 → L.getD k 0 = -1
theorem Went.refl (L : List Int) : Went L L := ⟨rfl, fun _ _ => rfl, fun _ h => h⟩
theorem Went.trans {L M R : List Int} (h : Went L M) (h' : Went M R) : Went L R :=
  ⟨h'.len.trans h.len, fun k hk => by have := h.old k hk; rw [← this]; exact h'.old k (by rw [this]; exact hk), fun k hk => h.way k (h'.way k hk)⟩
theorem Went.zros {L M : List Int} (h : Went L M) : zros M ≤ zros L := by
  have : ∀ (L M : List Int), M.length = L.length → (∀ k, L.getD k 0 ≠ 0 → M.getD k 0 = L.getD k 0) → M.countP (fun x => x == 0) ≤ L.countP (fun x => x == 0) := by
    intro L
    induction L with
    | nil => intro M hl _; rw [List.length_eq_zero_iff.1 hl]; exact Nat.le_refl _
    | cons a L ih =>
      intro M hl ho
      cases M with
      | nil => simp at hl
      | cons b M =>
        have h1 := ih M (by simpa using hl) (fun k hk => by simpa using ho (k + 1) (by simpa using hk))
        have h2 := ho 0
        simp only [List.countP_cons]
        simp at h2
        by_cases ha : a = 0
        · subst ha; simp; split <;> omega
        · rw [h2 ha]; simp [ha]; exact h1
  exact this L M h.len h.old
/-- The element is under way from now on. -/
theorem Srch.enter {us : Uses} {N : Nat} {L : List Int} {k : Nat} (h : Srch us N L) (hk : k < N) : Srch us N (L.set k (-1)) := by
  refine ⟨by rw [List.length_set]; exact h.len, fun j hj => ?_⟩
  rw [getD_set (by rw [h.len]; exact hk)]
  by_cases e : k = j
  · rw [if_pos e]; exact .inr (.inl rfl)
  · rw [if_neg e]; exact h.ok j hj
theorem Srch.leave {us : Uses} {N : Nat} {L : List Int} {k : Nat} (h : Srch us N L) (hk : k < N) (hg : Gd us k) : Srch us N (L.set k (lvl us k : Nat)) := by
  refine ⟨by rw [List.length_set]; exact h.len, fun j hj => ?_⟩
  rw [getD_set (by rw [h.len]; exact hk)]
  by_cases e : k = j
  · subst e; rw [if_pos rfl]; exact .inr (.inr ⟨hg, rfl⟩)
  · rw [if_neg e]; exact h.ok j hj
theorem Went.visit {L M : List Int} {k : Nat} {x : Int} (hk : k < L.length) (h0 : L.getD k 0 = 0) (h : Went (L.set k (-1)) M) (hx : x ≠ -1) : Went L (M.set k x) := by
  have hl := h.len
  rw [List.length_set] at hl
  have hkM : k < M.length := by omega
  refine ⟨by rw [List.length_set]; exact hl, fun j hj => ?_, fun j hj => ?_⟩
  · have hkj : k ≠ j := fun e => by subst e; exact hj h0
    rw [getD_set hkM, if_neg hkj]
    have := h.old j (by rw [getD_set hk, if_neg hkj]; exact hj)
    rw [this, getD_set hk, if_neg hkj]
  · by_cases hkj : k = j
    · subst hkj; rw [getD_set hkM, if_pos rfl] at hj; exact absurd hj hx
    · rw [getD_set hkM, if_neg hkj] at hj
      have := h.way j hj
      rw [getD_set hk, if_neg hkj] at this; exact this
theorem lvR_take {us : Uses} {k : Nat} {g : Nat → Nat} {j : Nat} (hj : j < (us k).length) : ((us k).take (j + 1)).foldl (fun a u => max a (g u + 1)) 1 = max (((us k).take j).foldl (fun a u => max a (g u + 1)) 1) (g (us k)[j] + 1) := by
  rw [List.take_succ_eq_append_getElem hj, List.foldl_append]; rfl
end Go.Proofs.Ytadmnlkgefbhcaa
