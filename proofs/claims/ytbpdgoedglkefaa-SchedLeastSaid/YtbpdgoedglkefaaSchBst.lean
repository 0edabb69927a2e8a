/- The best schedule: what is looked for, and that it is the best. -/
import Derived.Test.YtbpdgoedglkefaaSchPrf
import Derived.Test.YtbpdgoedglkefaaSchLaw
import Derived.Test.YtbpdgoedglkefaaB5
namespace Go.Proofs.Ytbpdgoedglkefaa
open Go.RowKit

/-- How far a coefficient goes. -/
def fa (n m : Int) (i : Nat) : Int := if (i : Int) < n then m else 0
def frZ (n m x y : Int) (l : List Int) : List Pt := l.map fun z => ⟨x, y, z⟩
def frY (n m x : Int) (l : List Int) : List Pt := l.flatMap fun y => frZ n m x y (up (-fa n m 2) (fa n m 2))
def frX (n m : Int) (l : List Int) : List Pt := l.flatMap fun x => frY n m x (up (-fa n m 1) (fa n m 1))
/-- All forms, in order. -/
def frm (n m : Int) : List Pt := frX n m (up (-fa n m 0) (fa n m 0))
theorem snoc_ind {α : Type} {P : List α → Prop} (h0 : P []) (h1 : ∀ l a, P l → P (l ++ [a])) (l : List α) : P l := by
  have h : ∀ m : List α, P m.reverse := fun m => by
    induction m with
    | nil => exact h0
    | cons a m ih => rw [List.reverse_cons]; exact h1 _ _ ih
  have := h l.reverse
  rwa [List.reverse_reverse] at this
theorem rec_vars {n : Int} {l : List Iq} {K : List Vv} (h : recB n l K = true) : 1 ≤ K.length ∧ K.length ≤ 4 := by
  unfold recB at h
  rw [Bool.and_eq_true, Bool.and_eq_true, Bool.and_eq_true] at h
  have := bw_iff.1 h.2.2.1
  omega
theorem frm_mem {n m : Int} {f : Pt} : f ∈ frm n m ↔ (-fa n m 0 ≤ f.x ∧ f.x ≤ fa n m 0) ∧ (-fa n m 1 ≤ f.y ∧ f.y ≤ fa n m 1) ∧ (-fa n m 2 ≤ f.z ∧ f.z ≤ fa n m 2) := by
  simp only [frm, frX, frY, frZ, List.mem_flatMap, List.mem_map, mem_up]
  constructor
  · rintro ⟨x, hx, y, hy, z, hz, rfl⟩
    exact ⟨hx, hy, hz⟩
  · rintro ⟨hx, hy, hz⟩
    exact ⟨f.x, hx, f.y, hy, f.z, hz, rfl⟩
/-- The latency of a form with offsets. -/
def latF (P : List Pt) (f : Pt) (o : List Int) : Int := hiL (P.map (tmP f)) - loL (P.map (tmP f)) + (hiL o - loL o) + 1
/-- The best up to now, and one more form. -/
def bstS (K : List Vv) (P : List Pt) (b : Option (Pt × List Int)) (f : Pt) : Option (Pt × List Int) :=
  match bfR K f with
  | none => b
  | some o => match b with
    | none => some (f, o)
    | some (g, u) => if latF P f o < latF P g u then some (f, o) else some (g, u)
def bstL (K : List Vv) (P : List Pt) (L : List Pt) : Option (Pt × List Int) := L.foldl (bstS K P) none
theorem bst_snoc (K : List Vv) (P L : List Pt) (f : Pt) : bstL K P (L ++ [f]) = bstS K P (bstL K P L) f := by simp [bstL]
theorem bst_none {K : List Vv} {P L : List Pt} : bstL K P L = none → ∀ f ∈ L, bfR K f = none := by
  refine snoc_ind (P := fun L => bstL K P L = none → ∀ f ∈ L, bfR K f = none) ?_ ?_ L
  · intro _ f hf; cases hf
  · intro L f ih h
    rw [bst_snoc] at h
    unfold bstS at h
    cases hb : bfR K f with
    | some o =>
      rw [hb] at h
      simp only at h
      cases hc : bstL K P L with
      | none => rw [hc] at h; cases h
      | some x => rw [hc] at h; simp only at h; split at h <;> cases h
    | none =>
      rw [hb] at h
      simp only at h
      intro g hg
      rcases List.mem_append.1 hg with hg | hg
      · exact ih h g hg
      · simp at hg; subst hg; exact hb
theorem bst_some {K : List Vv} {P L : List Pt} : ∀ {g : Pt} {u : List Int}, bstL K P L = some (g, u) → g ∈ L ∧ bfR K g = some u ∧ ∀ f ∈ L, ∀ o, bfR K f = some o → latF P g u ≤ latF P f o := by
  refine snoc_ind (P := fun L => ∀ {g : Pt} {u : List Int}, bstL K P L = some (g, u) → g ∈ L ∧ bfR K g = some u ∧ ∀ f ∈ L, ∀ o, bfR K f = some o → latF P g u ≤ latF P f o) ?_ ?_ L
  · intro g u h; cases h
  · intro L f ih g u h
    rw [bst_snoc] at h
    unfold bstS at h
    cases hb : bfR K f with
    | none =>
      rw [hb] at h
      simp only at h
      obtain ⟨h1, h2, h3⟩ := ih h
      refine ⟨List.mem_append_left _ h1, h2, fun x hx o ho => ?_⟩
      rcases List.mem_append.1 hx with hx | hx
      · exact h3 x hx o ho
      · simp at hx; subst hx; rw [hb] at ho; cases ho
    | some o =>
      rw [hb] at h
      simp only at h
      cases hc : bstL K P L with
      | none =>
        rw [hc] at h
        cases h
        refine ⟨by simp, hb, fun x hx o' ho => ?_⟩
        rcases List.mem_append.1 hx with hx | hx
        · rw [bst_none hc x hx] at ho; cases ho
        · simp at hx; subst hx; rw [hb] at ho; cases ho; exact Int.le_refl _
      | some x =>
        obtain ⟨g', u'⟩ := x
        rw [hc] at h
        simp only at h
        obtain ⟨h1, h2, h3⟩ := ih hc
        split at h
        · rename_i hlt
          cases h
          refine ⟨by simp, hb, fun x hx o' ho => ?_⟩
          rcases List.mem_append.1 hx with hx | hx
          · have := h3 x hx o' ho; omega
          · simp at hx; subst hx; rw [hb] at ho; cases ho; exact Int.le_refl _
        · rename_i hlt
          cases h
          refine ⟨List.mem_append_left _ h1, h2, fun x hx o' ho => ?_⟩
          rcases List.mem_append.1 hx with hx | hx
          · exact h3 x hx o' ho
          · simp at hx; subst hx; rw [hb] at ho; cases ho; omega
/-- Least offsets have the least spread among the legal ones. -/
theorem least_spread {n : Int} {l : List Iq} {K : List Vv} {q : Sd} (hc : chkE n l K [q] = 0) (hl : legB K q = true) {o : List Int} (hb : bfR K q.f = some o) (P : List Pt) : latF P q.f o ≤ latF P q.f q.off := by
  obtain ⟨hrb, -, hk1, hk4, -, -, hf, hol, hob⟩ := chk_ok hc
  have h1 : bf (grG K q.f) (K.length + 1) (zeros (grG K q.f).length) = some o := by rw [gr_len]; exact hb
  have hW := gr_wf (f := q.f) (rec_args hrb)
  obtain ⟨e1, e2, e3⟩ := bf_ok h1
  rw [gr_len] at e1
  have hone : o ≠ [] := by rintro rfl; simp at e1; omega
  have hqne : q.off ≠ [] := by intro e; rw [e] at hol; simp at hol; omega
  have hlo := loL_spec hqne
  have hhi := hiL_spec hqne
  have olo := loL_spec hone
  have ohi := hiL_spec hone
  have hfe := legal_feas hc hl
  obtain ⟨c, hcc⟩ : ∃ c, loL q.off = c := ⟨_, rfl⟩
  have hat : ∀ j, j < K.length → (q.off.map (· - c)).getD j 0 = q.off.getD j 0 - c := fun j hj => by
    rw [List.getD_eq_getElem?_getD, List.getElem?_map, List.getElem?_eq_getElem (by omega), List.getD_eq_getElem?_getD, List.getElem?_eq_getElem (by omega)]
    rfl
  have hle : ∀ j, j < K.length → o.getD j 0 ≤ q.off.getD j 0 - c := fun j hj => by
    have := bf_least hW h1 (s := q.off.map (· - c)) (fun v hv e he => by
      have h2 := hfe v hv e he
      have h3 := hW v e he
      rw [gr_len] at hv h3
      rw [hat v hv, hat e.1 h3]
      omega) (fun j hj => by
      rw [gr_len] at hj
      rw [hat j hj]
      have h4 : j < q.off.length := by omega
      have := hlo.2 _ (List.getElem_mem h4)
      rw [getD_mem h4]; omega) j (by rw [gr_len]; exact hj)
    rw [hat j hj] at this
    exact this
  have k1 : hiL o ≤ hiL q.off - c := by
    obtain ⟨i, hi, e⟩ := List.getElem_of_mem ohi.1
    have h4 : i < q.off.length := by omega
    have h5 := hle i (by omega)
    have h6 := hhi.2 _ (List.getElem_mem h4)
    rw [getD_mem hi, getD_mem h4] at h5
    omega
  have k2 : 0 ≤ loL o := by
    obtain ⟨i, hi, e⟩ := List.getElem_of_mem olo.1
    have h5 := e3 i
    rw [getD_mem hi] at h5
    omega
  unfold latF
  omega
/-- No legal schedule with such a form has a lesser latency than the best. -/
theorem bst_least {n m : Int} {l : List Iq} {K : List Vv} {q : Sd} (hc : chkE n l K [q] = 0) (hl : legB K q = true) (hq : q.f ∈ frm n m) (P : List Pt) : ∃ g u, bstL K P (frm n m) = some (g, u) ∧ latF P g u ≤ latF P q.f q.off := by
  cases hb : bfR K q.f with
  | none => rw [bf_nolegal hc hb] at hl; cases hl
  | some o =>
    cases hc2 : bstL K P (frm n m) with
    | none => rw [bst_none hc2 _ hq] at hb; cases hb
    | some x =>
      obtain ⟨g, u⟩ := x
      exact ⟨g, u, rfl, Int.le_trans ((bst_some hc2).2.2 _ hq _ hb) (least_spread hc hl hb P)⟩
/-- The best one is legal. -/
theorem bst_legal {n m : Int} {l : List Iq} {K : List Vv} (hrb : recB n l K = true) (hn : 1 ≤ n ∧ n ≤ 3) (hm : 0 ≤ m ∧ m ≤ 3) {P : List Pt} {g : Pt} {u : List Int} (h : bstL K P (frm n m) = some (g, u)) (s : Option Addr) (c : Nat) : chkE n l K [⟨g, u, s, c⟩] = 0 ∧ legB K ⟨g, u, s, c⟩ = true ∧ u.length = K.length := by
  obtain ⟨h1, h2, -⟩ := bst_some h
  have hfm := frm_mem.1 h1
  have hf : flatB g n 9 = true := by
    simp only [flatB, flatC, Bool.and_eq_true, bw_iff, fa] at hfm ⊢
    repeat' split at hfm
    all_goals simp only [decide_eq_true_eq, Bool.or_eq_true]
    all_goals omega
  have hk := rec_vars hrb
  have h0 : chkE n l K [⟨g, zeros K.length, none, 0⟩] = 0 := chk_one hrb (by
    unfold fitB
    rw [hf, decide_eq_true (zeros_len _)]
    show offB _ = true
    unfold offB
    rw [List.all_eq_true]
    intro x hx
    rw [zeros, List.mem_replicate] at hx
    rw [hx.2]; decide)
  obtain ⟨c1, c2, c3, -⟩ := bf_prf h0 h2 s c
  exact ⟨c1, c2, c3⟩
end Go.Proofs.Ytbpdgoedglkefaa
