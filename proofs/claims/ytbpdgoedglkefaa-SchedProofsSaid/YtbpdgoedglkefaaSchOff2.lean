/- Least offsets and circles: there are the ones just if there are not the others. -/
import Derived.Test.YtbpdgoedglkefaaSchOff
import Derived.Test.YtbpdgoedglkefaaSchUse
namespace Go.Proofs.Ytbpdgoedglkefaa
open Go.RowKit

theorem edge_use {K : List Vv} {f : Pt} {x : Nat × Nat} (h : inU K (toU x) = true) {u : Nat} (hu : (usA K (toU x)).v = u) : ((grG K f).getD x.1 [])[x.2]? = some (u, wtU K f (toU x)) := by
  obtain ⟨k, j, hk, hj, e1, e2, e3⟩ := inU_parts h
  have h1 : x.1 = k := by have : (x.1 : Int) = k := e1; omega
  have h2 : x.2 = j := by have : (x.2 : Int) = j := e2; omega
  rw [h1, h2, gr_row f hk, List.getElem?_map, List.getElem?_eq_getElem hj]
  rw [e3] at hu
  simp only [Option.map_some, Option.some.injEq, Prod.mk.injEq]
  refine ⟨by omega, by unfold wtU; rw [e3]⟩
theorem use_edge {K : List Vv} {f : Pt} (hA : ∀ v ∈ K, v.args.length ≤ 3 ∧ ∀ a ∈ v.args, bw 0 a.v (K.length - 1) = true) {x : Nat × Nat} {u : Nat} {w : Int} (h : ((grG K f).getD x.1 [])[x.2]? = some (u, w)) : inU K (toU x) = true ∧ (usA K (toU x)).v = u ∧ w = wtU K f (toU x) := by
  have hv := edge_lt h
  rw [gr_len] at hv
  rw [gr_row f hv, List.getElem?_map] at h
  cases ha : K[x.1].args[x.2]? with
  | none => rw [ha] at h; cases h
  | some a =>
    rw [ha] at h
    simp only [Option.map_some, Option.some.injEq, Prod.mk.injEq] at h
    obtain ⟨hj, hja⟩ := List.getElem?_eq_some_iff.1 ha
    have hb := bw_iff.1 ((hA _ (List.getElem_mem hv)).2 a (hja ▸ List.getElem_mem hj))
    have e1 : argsA K ((x.1 : Nat) : Int) = K[x.1].args := argsA_at hv
    have hus : usA K (toU x) = a := by
      unfold usA toU
      rw [e1, Int.toNat_natCast, List.getD_eq_getElem?_getD, ha]; rfl
    refine ⟨?_, by rw [hus]; omega, by unfold wtU; rw [hus]; exact h.2.symm⟩
    unfold inU toU
    rw [e1, Bool.and_eq_true, bw_iff, bw_iff]
    constructor <;> constructor <;> (try dsimp only) <;> omega
theorem pth_facts {K : List Vv} {f : Pt} (hA : ∀ v ∈ K, v.args.length ≤ 3 ∧ ∀ a ∈ v.args, bw 0 a.v (K.length - 1) = true) {v z : Nat} {l : List (Nat × Nat)} {W : Int} (h : Pth (grG K f) v l z W) :
    W = sumU K f (UL l) ∧ ∀ i x, l[i]? = some x → inU K (toU x) = true ∧ (usA K (toU x)).v = (((l[i + 1]?.map Prod.fst).getD z : Nat) : Int) := by
  induction h with
  | nil v => exact ⟨rfl, fun i x hx => by simp at hx⟩
  | @cons v i u z w W l e h ih =>
    obtain ⟨h1, h2, h3⟩ := use_edge hA (x := (v, i)) e
    refine ⟨?_, fun j x hx => ?_⟩
    · rw [ih.1, h3]; simp [sumU, UL]
    · cases j with
      | zero =>
        simp at hx; subst hx
        refine ⟨h1, ?_⟩
        rw [h2]
        congr 1
        cases h with
        | nil => rfl
        | cons e h => rfl
      | succ j => simpa using ih.2 j x (by simpa using hx)
theorem pth_of {K : List Vv} {f : Pt} {z : Nat} : ∀ (l : List (Nat × Nat)) (v : Nat), (l = [] → v = z) → (∀ x, l.head? = some x → x.1 = v) → (∀ i x, l[i]? = some x → inU K (toU x) = true ∧ (usA K (toU x)).v = (((l[i + 1]?.map Prod.fst).getD z : Nat) : Int)) → Pth (grG K f) v l z (sumU K f (UL l))
  | [], v, h1, _, _ => by rw [h1 rfl]; exact .nil z
  | x :: l, v, _, h2, h3 => by
    obtain ⟨g1, g2⟩ := h3 0 x rfl
    have hv := h2 x rfl
    subst hv
    have e := edge_use (f := f) g1 g2
    have := pth_of (f := f) l ((l[0]?.map Prod.fst).getD z) (fun e => by subst e; rfl) (fun y hy => by
      cases l with
      | nil => cases hy
      | cons a l => simp at hy; subst hy; rfl) (fun i y hy => by simpa using h3 (i + 1) y (by simpa using hy))
    have hs : sumU K f (UL (x :: l)) = wtU K f (toU x) + sumU K f (UL l) := by simp [sumU, UL]
    rw [hs]
    exact Pth.cons (by simpa using e) this
theorem UL_at {l : List (Nat × Nat)} {i : Nat} (h : i < (UL l).length) (h' : i < l.length) : (UL l)[i] = toU l[i] := List.getElem_map ..
/-- A circle of the program's is a way that closes. -/
theorem circ_pth {K : List Vv} {f : Pt} {l : List (Nat × Nat)} (h : circB K f (UL l) = true) : ∃ v W, Pth (grG K f) v l v W ∧ 0 < W := by
  unfold circB at h
  rw [Bool.and_eq_true, List.all_eq_true, decide_eq_true_eq] at h
  obtain ⟨h1, h2⟩ := h
  cases hl : l with
  | nil => subst hl; simp [sumU, UL] at h2
  | cons y m =>
    refine ⟨y.1, sumU K f (UL (y :: m)), ?_, by rw [← hl]; exact h2⟩
    refine pth_of _ _ (fun e => by cases e) (fun x hx => by simp at hx; rw [hx]) (fun i x hx => ?_)
    rw [← hl] at hx
    obtain ⟨hi, hix⟩ := List.getElem?_eq_some_iff.1 hx
    have hiU : i < (UL l).length := by rw [UL_len]; exact hi
    have hb := h1 i (List.mem_range.2 hiU)
    rw [badU_at hiU, UL_at hiU hi, hix] at hb
    simp only [Bool.not_eq_true', Bool.or_eq_false_iff, Bool.not_eq_false', decide_eq_true_eq] at hb
    refine ⟨hb.1, ?_⟩
    rw [hb.2.2]
    have hmod : (i + 1) % (UL l).length < l.length := by have := Nat.mod_lt (i + 1) (show 0 < (UL l).length by omega); rw [UL_len] at this ⊢; exact this
    rw [UL_at _ hmod]
    show ((l[(i + 1) % (UL l).length].1 : Nat) : Int) = _
    congr 1
    by_cases hn : i + 1 < l.length
    · have e : (i + 1) % (UL l).length = i + 1 := by rw [UL_len]; exact Nat.mod_eq_of_lt hn
      simp only [e]
      rw [← hl, List.getElem?_eq_getElem hn]; rfl
    · have e : (i + 1) % (UL l).length = 0 := by rw [UL_len, show i + 1 = l.length by omega, Nat.mod_self]
      simp only [e]
      rw [← hl, List.getElem?_eq_none (by omega)]
      subst hl; rfl
theorem pth_circ {K : List Vv} {f : Pt} (hA : ∀ v ∈ K, v.args.length ≤ 3 ∧ ∀ a ∈ v.args, bw 0 a.v (K.length - 1) = true) {v : Nat} {l : List (Nat × Nat)} {W : Int} (h : Pth (grG K f) v l v W) (hl : l ≠ []) (hn : (l.map Prod.fst).Nodup) (hW : 0 < W) : circB K f (UL l) = true := by
  obtain ⟨h1, h2⟩ := pth_facts hA h
  rw [circ_yes, decide_eq_true_eq, ← h1]
  · exact hW
  · intro i hi
    have hil : i < l.length := by rw [UL_len] at hi; exact hi
    obtain ⟨g1, g2⟩ := h2 i l[i] (List.getElem?_eq_getElem hil)
    rw [badU_at hi, UL_at hi hil, g1]
    simp only [Bool.not_true, Bool.false_or, Bool.or_eq_false_iff, Bool.not_eq_false', decide_eq_true_eq]
    constructor
    · cases hs : seenU (UL l) i (toU l[i]).v
      · rfl
      · obtain ⟨j, hj, hji, e⟩ := seenU_iff.1 hs
        have hjl : j < l.length := by rw [UL_len] at hj; exact hj
        rw [UL_at hj hjl] at e
        have e2 : l[j].1 = l[i].1 := by have : (l[j].1 : Int) = l[i].1 := e; omega
        have := (List.pairwise_iff_getElem.1 hn) j i (by simpa using hjl) (by simpa using hil) hji
        simp only [List.getElem_map] at this
        exact absurd e2 this
    · have hmod : (i + 1) % (UL l).length < l.length := by have := Nat.mod_lt (i + 1) (show 0 < (UL l).length by omega); rw [UL_len] at this ⊢; exact this
      rw [UL_at _ hmod, g2]
      show (((l[i + 1]?.map Prod.fst).getD v : Nat) : Int) = ((l[(i + 1) % (UL l).length].1 : Nat) : Int)
      congr 1
      by_cases hn2 : i + 1 < l.length
      · have e : (i + 1) % (UL l).length = i + 1 := by rw [UL_len]; exact Nat.mod_eq_of_lt hn2
        simp only [e]
        rw [List.getElem?_eq_getElem hn2]; rfl
      · have e : (i + 1) % (UL l).length = 0 := by rw [UL_len, show i + 1 = l.length by omega, Nat.mod_self]
        simp only [e]
        rw [List.getElem?_eq_none (by omega)]
        cases l with
        | nil => exact absurd rfl hl
        | cons y m => exact h.head.symm
/-- What Circle finds. -/
def cirR (K : List Vv) (f : Pt) : Option (List (Nat × Nat)) := (List.range K.length).findSome? fun v => srch (grG K f) (fun l => circB K f (UL l)) (K.length + 1) [] v
theorem cir_ok {K : List Vv} {f : Pt} {o : List (Nat × Nat)} (h : cirR K f = some o) : circB K f (UL o) = true ∧ o ≠ [] := by
  obtain ⟨v, -, hv⟩ := List.exists_of_findSome?_eq_some h
  exact srch_ok _ _ _ _ hv
theorem cir_none {K : List Vv} {f : Pt} {o : List Int} (h : bfR K f = some o) : cirR K f = none := by
  have h1 : bf (grG K f) (K.length + 1) (zeros (grG K f).length) = some o := by rw [gr_len]; exact h
  obtain ⟨-, hf, -⟩ := bf_ok h1
  cases hc : cirR K f with
  | none => rfl
  | some l =>
    obtain ⟨v, W, hp, hW⟩ := circ_pth (cir_ok hc).1
    have := hf.pth hp
    omega
theorem cir_some {K : List Vv} {f : Pt} (hA : ∀ v ∈ K, v.args.length ≤ 3 ∧ ∀ a ∈ v.args, bw 0 a.v (K.length - 1) = true) (h : bfR K f = none) : ∃ o, cirR K f = some o := by
  have h1 : bf (grG K f) ((grG K f).length + 1) (zeros (grG K f).length) = none := by rw [gr_len]; exact h
  obtain ⟨v, l, W, hp, hl, hn, hW⟩ := bf_none (gr_wf hA) h1
  have hv : v < K.length := by
    cases l with
    | nil => exact absurd rfl hl
    | cons x m => have := hp.lt x.1 (by simp); rw [hp.head, gr_len] at this; exact this
  have hlen : l.length ≤ K.length := by
    have := nodup_len (grG K f).length _ hn hp.lt
    rw [List.length_map, gr_len] at this; exact this
  have hs := srch_finds (G := grG K f) (chk := fun l => circB K f (UL l)) (v0 := v) l (K.length + 1) [] v W hp (fun e => absurd rfl e) (fun _ => ⟨rfl, hl⟩) (by simpa using hn) (by simpa using pth_circ hA hp hl hn hW) (by omega)
  cases hc : cirR K f with
  | some o => exact ⟨o, rfl⟩
  | none =>
    unfold cirR at hc
    rw [List.findSome?_eq_none_iff] at hc
    exact absurd (hc v (List.mem_range.2 hv)) hs
end Go.Proofs.Ytbpdgoedglkefaa
