/- What the levels and values of an element are by its arguments; tables of both. -/
import Derived.Test.YtadmnlkgefbhcaaRVal
namespace Go.Proofs.Ytadmnlkgefbhcaa
open Go.RowKit Go.Maps

noncomputable def lvA (K : List Vv) (P : List Pt) (p : Pt) (l : List Ar) (a : Nat) : Nat := l.foldl (fun a y => match argN P y p with | some u => max a (lvl (useN K P) u + 1) | none => a) a
theorem lvl_arg {K : List Vv} {P : List Pt} {k : Nat} (h : Gd (useN K P) k) : lvl (useN K P) k = lvA K P (pOf P k) (vOf K P k).args 1 := by
  rw [lvl_eq h]
  unfold lvR lvA
  rw [show useN K P k = (vOf K P k).args.filterMap fun a => argN P a (pOf P k) from rfl, List.foldl_filterMap]
  refine congrArg (fun f => List.foldl f 1 _) ?_
  funext x y
  cases argN P y (pOf P k) <;> rfl
theorem lvA_snoc (K : List Vv) (P : List Pt) (p : Pt) (l : List Ar) (y : Ar) (a : Nat) : lvA K P p (l ++ [y]) a = match argN P y p with | some u => max (lvA K P p l a) (lvl (useN K P) u + 1) | none => lvA K P p l a := by
  unfold lvA; rw [List.foldl_append]; rfl
theorem vlN_arg {K : List Vv} {P : List Pt} {k : Nat} (h : Gd (useN K P) k) : vlN K P k = appl (vOf K P k).op ((vOf K P k).args.map (argV K P (vlN K P) (pOf P k))) := by
  rw [vlN_eq h]; rfl
theorem vOf_num {K : List Vv} {P : List Pt} {v i : Nat} (hv : v < K.length) (hi : i < P.length) : vOf K P (v * P.length + i) = K[v] ∧ pOf P (v * P.length + i) = P[i] := by
  obtain ⟨h1, h2⟩ := div_num (v := v) hi
  constructor
  · unfold vOf; rw [h1, List.getD_eq_getElem?_getD, List.getElem?_eq_getElem hv]; rfl
  · unfold pOf; rw [h2, List.getD_eq_getElem?_getD, List.getElem?_eq_getElem hi]; rfl
theorem rowsN_part {m n : Nat} {L : List Int} (hL : L.length = n * m) {v : Nat} (hv : v < n) (h : v < (rowsN m L n).length) : (rowsN m L n)[v].length = m ∧ ∀ i (hi : i < m) (h2 : i < (rowsN m L n)[v].length), (rowsN m L n)[v][i] = L.getD (v * m + i) 0 := by
  have hmul : (v + 1) * m ≤ n * m := Nat.mul_le_mul_right m (by omega)
  rw [Nat.succ_mul] at hmul
  have e := rowsN_at (m := m) (l := L) hv h
  have hl : (rowsN m L n)[v].length = m := by rw [e, List.length_take, List.length_drop]; omega
  refine ⟨hl, fun i hi h2 => ?_⟩
  simp only [e, List.getElem_take, List.getElem_drop]
  rw [List.getD_eq_getElem?_getD, List.getElem?_eq_getElem (by omega)]; rfl
/-- A table's rows and numbers as they lie. -/
theorem tab_hdr {V : World} {s : Option Addr} {m n : Nat} {L : List Int} (hs : SlSS intE V s (rowsN m L n)) (hL : L.length = n * m) {v : Nat} (hv : v < n) : ∃ b off sa sc, s = some ⟨b, off, none⟩ ∧ V.cell? ⟨b, off + v, none⟩ = some (.slice sa m sc) := by
  have hvr : v < (rowsN m L n).length := by rw [rowsN_len]; exact hv
  obtain ⟨b, off, sa, sc, e, hb, h1, h2, -, -⟩ := hs.at hvr
  rw [(rowsN_part hL hv hvr).1] at h1
  exact ⟨b, off, sa, sc, e, h1⟩
theorem tab_cell {V : World} {s : Option Addr} {m n : Nat} {L : List Int} (hs : SlSS intE V s (rowsN m L n)) (hL : L.length = n * m) {v i : Nat} (hv : v < n) (hi : i < m) : ∃ b off ba oa sc, s = some ⟨b, off, none⟩ ∧ V.cell? ⟨b, off + v, none⟩ = some (.slice (some ⟨ba, oa, none⟩) m sc) ∧ V.cell? ⟨ba, oa + i, none⟩ = some (.int .i64 (L.getD (v * m + i) 0)) := by
  have hvr : v < (rowsN m L n).length := by rw [rowsN_len]; exact hv
  obtain ⟨b, off, sa, sc, e, hb, h1, h2, -, -⟩ := hs.at hvr
  obtain ⟨h3, h4⟩ := rowsN_part hL hv hvr
  have hi2 : i < (rowsN m L n)[v].length := by rw [h3]; exact hi
  obtain ⟨ba, oa, rfl, hba, h5⟩ := h2.int_at hi2
  rw [h4 i hi hi2] at h5
  rw [h3] at h1
  exact ⟨b, off, ba, oa, sc, e, h1, h5⟩
theorem lvsL_at {K : List Vv} {P : List Pt} {k : Nat} (hk : k < K.length * P.length) : (lvsL K P).getD k 0 = ((lvl (useN K P) k : Nat) : Int) := by
  rw [List.getD_eq_getElem?_getD, List.getElem?_eq_getElem (by rw [lvsL_len]; exact hk)]; simp [lvsL, lvN]
theorem flat_add {p q : Pt} {n : Int} (h1 : flatB p n 20 = true) (h2 : flatB q n 3 = true) : flatB (ptP p q) n 1000 = true := by
  simp only [flatB, flatC, Bool.and_eq_true, bw_iff, Bool.or_eq_true, decide_eq_true_eq] at h1 h2
  obtain ⟨⟨a1, a2⟩, ⟨a3, a4⟩, a5, a6⟩ := h1
  obtain ⟨⟨b1, b2⟩, ⟨b3, b4⟩, b5, b6⟩ := h2
  have c1 : 0 < n ∨ p.x + q.x = 0 := by rcases a2 with h | h <;> rcases b2 with h' | h' <;> first | exact .inl h | exact .inl h' | (right; omega)
  have c2 : 1 < n ∨ p.y + q.y = 0 := by rcases a4 with h | h <;> rcases b4 with h' | h' <;> first | exact .inl h | exact .inl h' | (right; omega)
  have c3 : 2 < n ∨ p.z + q.z = 0 := by rcases a6 with h | h <;> rcases b6 with h' | h' <;> first | exact .inl h | exact .inl h' | (right; omega)
  simp only [flatB, flatC, Bool.and_eq_true, bw_iff, Bool.or_eq_true, decide_eq_true_eq, ptP]
  exact ⟨⟨by omega, c1.imp_right fun h => decide_eq_true h⟩, ⟨by omega, c2.imp_right fun h => decide_eq_true h⟩, by omega, c3.imp_right fun h => decide_eq_true h⟩
/-- First values of arguments that are no elements. -/
theorem fir_arg {n : Int} {l : List Iq} {K : List Vv} (h : recB n l K = true) {v : Nat} (hv : v < K.length) {a : Ar} (ha : a ∈ K[v].args) {p : Pt} (hp : p ∈ pts n l) : firV n l K a.v (ptP p a.p) = .tuple #[.int .i64 (frst (vat K a.v.toNat) (ptP p a.p)), .int .i64 0] := by
  have ok := netOk h
  have hav := ok.var _ (List.getElem_mem hv) _ ha
  have hb := bw_iff.1 hav
  have hvk := ok.vars
  have h0 := h
  rw [recB_eq] at h
  simp only [Bool.and_eq_true, decide_eq_true_eq, recS] at h
  obtain ⟨h1, h2, h3, h4, -⟩ := h
  rw [List.all_eq_true] at h4
  have h5 := h4 _ (List.getElem_mem hv)
  simp only [varB, Bool.and_eq_true, decide_eq_true_eq, List.all_eq_true] at h5
  have h6 := h5.2.2.2.2 a ha
  simp only [argC, Bool.and_eq_true] at h6
  have h7 := mem_pts.1 hp
  simp only [hasB, Bool.and_eq_true] at h7
  have hfl := flat_add h7.1 h6.1
  obtain ⟨m, rfl⟩ := Int.eq_ofNat_of_zero_le (show 0 ≤ n by have := ok.dim; omega)
  rw [flat_far (by have := ok.dim; omega)] at hfl
  have hfl2 : (beyB (ptP p a.p) m || farB (ptP p a.p)) = false := by simpa using hfl
  unfold firV
  rw [h0, if_neg (by simp), hav, Int.toNat_natCast, hfl2, if_neg (by simp)]
  have hat : K.getD a.v.toNat default = vat K a.v.toNat := by
    unfold vat
    rw [List.getD_eq_getElem?_getD, List.getD_eq_getElem?_getD, List.getElem?_eq_getElem (by omega)]; rfl
  rw [hat]
end Go.Proofs.Ytadmnlkgefbhcaa
