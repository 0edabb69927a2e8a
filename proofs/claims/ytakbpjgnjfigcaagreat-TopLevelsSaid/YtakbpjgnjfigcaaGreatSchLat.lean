/- A recurrence with a legal schedule has levels, and no legal schedule is shorter than the greatest of them: the law. -/
import Derived.Test.YtakbpjgnjfigcaaGreatC3
import Derived.Test.YtakbpjgnjfigcaaGreatMostL
import Derived.Test.YtakbpjgnjfigcaaGreatB7
import Derived.Test.YtakbpjgnjfigcaaGreatB5
namespace Go.Proofs.YtakbpjgnjfigcaaGreat
open Go.RowKit Go.Maps

theorem dot_add (f a b : Pt) : dotZ f (ptP a b) = dotZ f a + dotZ f b := by
  unfold dotZ ptP
  simp only [Int.mul_add]
  omega
/-- The time of an element. -/
def timN (P : List Pt) (q : Sd) (k : Nat) : Int := dotZ q.f (pOf P k) + q.off.getD (k / P.length) 0
section
variable {n : Int} {l : List Iq} {K : List Vv} {q : Sd}
theorem tim_use (hc : chkE n l K [q] = 0) (hl : legB K q = true) {k : Nat} (hk : k < K.length * (pts n l).length) : ∀ u ∈ useN K (pts n l) k, timN (pts n l) q u + 1 ≤ timN (pts n l) q k := by
  intro u hu
  have hfe := legal_feas hc hl
  obtain ⟨hk1, hk2, hk3⟩ := num_div hk
  unfold useN at hu
  obtain ⟨a, ha, e⟩ := List.mem_filterMap.1 hu
  have hvO : vOf K (pts n l) k = K[k / (pts n l).length] := by
    unfold vOf; rw [List.getD_eq_getElem?_getD, List.getElem?_eq_getElem hk1]; rfl
  rw [hvO] at ha
  unfold argN at e
  cases hp : pix (pts n l) (ptP (pOf (pts n l) k) a.p) with
  | none => rw [hp] at e; cases e
  | some i =>
    rw [hp] at e
    obtain rfl := Option.some.inj e
    obtain ⟨hi, hpi⟩ := pix_some hp
    obtain ⟨d1, d2⟩ := div_num (v := a.v.toNat) hi
    have h1 := hfe (k / (pts n l).length) (by rw [gr_len]; exact hk1) (a.v.toNat, 1 + dotZ q.f a.p) (by rw [gr_row q.f hk1]; exact List.mem_map.2 ⟨a, ha, rfl⟩)
    have h2 : pOf (pts n l) (a.v.toNat * (pts n l).length + i) = ptP (pOf (pts n l) k) a.p := by
      unfold pOf at hpi ⊢
      rw [d2, List.getD_eq_getElem?_getD, List.getElem?_eq_getElem hi]; exact hpi
    unfold timN
    rw [h2, d1, dot_add]
    simp only at h1
    omega
/-- The least and the greatest time. -/
theorem tim_bd (hc : chkE n l K [q] = 0) (hP : pts n l ≠ []) : ∃ a b : Int, spLo q (pts n l) = a ∧ spHi q (pts n l) = b ∧ -540 ≤ a ∧ a ≤ b ∧ b ≤ 1540 ∧ ∀ k, k < K.length * (pts n l).length → a ≤ timN (pts n l) q k ∧ timN (pts n l) q k ≤ b := by
  obtain ⟨hrb, -, hk1, hk4, -, -, hf, hol, hob⟩ := chk_ok hc
  have ho : q.off ≠ [] := fun e => by rw [e] at hol; simp at hol; omega
  have hPm : (pts n l).map (tmP q.f) ≠ [] := by simpa using hP
  obtain ⟨a, b, c, d, ea, eb, ec, ed, -, hab, hcd⟩ := lat_parts (n := n) (l := l) (flat_abs hf) hP ho (fun x hx => off_bd hob hx)
  obtain ⟨-, l2⟩ := loL_spec hPm
  obtain ⟨-, u2⟩ := hiL_spec hPm
  obtain ⟨-, c2⟩ := loL_spec ho
  obtain ⟨-, d2⟩ := hiL_spec ho
  refine ⟨a + c, b + d, ?_, ?_, by omega, by omega, by omega, fun k hk => ?_⟩
  · unfold spLo; rw [ea, ec, IntKind.wrap_i64]; omega
  · unfold spHi; rw [eb, ed, IntKind.wrap_i64]; omega
  · obtain ⟨hk1, hk2, hk3⟩ := num_div hk
    have hpm : pOf (pts n l) k ∈ pts n l := by
      unfold pOf; rw [List.getD_eq_getElem?_getD, List.getElem?_eq_getElem hk2]; exact List.getElem_mem hk2
    have e1 : tmP q.f (pOf (pts n l) k) = dotZ q.f (pOf (pts n l) k) := (tm_small (flat_abs hf) (pts_abs hpm)).1
    have h1 := l2 _ (List.mem_map.2 ⟨_, hpm, rfl⟩)
    have h2 := u2 _ (List.mem_map.2 ⟨_, hpm, rfl⟩)
    rw [e1] at h1 h2
    have hko : k / (pts n l).length < q.off.length := by rw [hol]; exact hk1
    have e2 : q.off.getD (k / (pts n l).length) 0 = q.off[k / (pts n l).length] := getD_mem hko
    have h3 := c2 _ (List.getElem_mem hko)
    have h4 := d2 _ (List.getElem_mem hko)
    unfold timN
    rw [e2]
    omega
theorem lat_gd (hc : chkE n l K [q] = 0) (hl : legB K q = true) : okN2 K (pts n l) := by
  obtain ⟨hrb, -⟩ := chk_ok hc
  have ok := netOk hrb
  by_cases hP : pts n l = []
  · intro k hk
    rw [hP] at hk; simp at hk
  obtain ⟨a, b, -, -, -, -, -, hbd⟩ := tim_bd hc hP
  have : ∀ m k, k < K.length * (pts n l).length → (timN (pts n l) q k - a).toNat < m → Gd (useN K (pts n l)) k := by
    intro m
    induction m with
    | zero => intro k _ h; omega
    | succ m ih =>
      intro k hk h
      refine .mk _ fun u hu => ih u (ok.use_lt k u hu) ?_
      have h1 := tim_use hc hl hk u hu
      have h2 := (hbd u (ok.use_lt k u hu)).1
      omega
  intro k hk
  exact this _ k hk (Nat.lt_succ_self _)
theorem lat_lvl (hc : chkE n l K [q] = 0) (hl : legB K q = true) {a : Int} (ha : ∀ k, k < K.length * (pts n l).length → a ≤ timN (pts n l) q k) : ∀ m k, k < K.length * (pts n l).length → lvl (useN K (pts n l)) k ≤ m → (lvl (useN K (pts n l)) k : Int) ≤ timN (pts n l) q k - a + 1 := by
  obtain ⟨hrb, -⟩ := chk_ok hc
  have ok := netOk hrb
  have hg := lat_gd hc hl
  intro m
  induction m with
  | zero =>
    intro k hk h
    have := lvl_pos (hg k hk)
    omega
  | succ m ih =>
    intro k hk h
    have h0 := ha k hk
    by_cases h1 : 1 < lvl (useN K (pts n l)) k
    · obtain ⟨u, hu, e⟩ := lvl_prev (hg k hk) h1
      have h2 := ih u (ok.use_lt k u hu) (by omega)
      have h3 := tim_use hc hl hk u hu
      omega
    · omega
theorem lat_law (hc : chkE n l K [q] = 0) (hl : legB K q = true) :
    okN2 K (pts n l) ∧ (pts n l = [] → mostL (rowsN (pts n l).length (lvsL K (pts n l)) K.length) = 0) ∧
    (pts n l ≠ [] → 1 ≤ mostL (rowsN (pts n l).length (lvsL K (pts n l)) K.length) ∧ mostL (rowsN (pts n l).length (lvsL K (pts n l)) K.length) ≤ spHi q (pts n l) - spLo q (pts n l) + 1 ∧ wrap64 (wrap64 (spHi q (pts n l) - spLo q (pts n l)) + 1) = spHi q (pts n l) - spLo q (pts n l) + 1) := by
  obtain ⟨hrb, -, hk1, hk4, -⟩ := chk_ok hc
  have hg := lat_gd hc hl
  refine ⟨hg, fun hP => most_none (lvsL_len K (pts n l)) (by rw [hP]; simp), fun hP => ?_⟩
  obtain ⟨a, b, ea, eb, h1, h2, h3, hbd⟩ := tim_bd hc hP
  rw [ea, eb]
  have hLl := lvsL_len K (pts n l)
  have hpos : 0 < K.length * (pts n l).length := Nat.mul_pos (by omega) (List.length_pos_iff.2 hP)
  refine ⟨?_, ?_, ?_⟩
  · obtain ⟨r, hr, hx⟩ := rowsN_has hLl hpos
    have h4 := (most_le (mostL_nonneg _)).1 (Int.le_refl _) r hr _ hx
    rw [lvsL_at hpos] at h4
    have := lvl_pos (hg 0 hpos)
    omega
  · refine (most_le (by omega)).2 fun r hr x hx => ?_
    obtain ⟨k, hk, rfl⟩ := List.getElem_of_mem (rowsN_mem hLl hr hx)
    have hkN : k < K.length * (pts n l).length := by rw [← hLl]; exact hk
    have e : (lvsL K (pts n l))[k] = (lvsL K (pts n l)).getD k 0 := by rw [List.getD_eq_getElem?_getD, List.getElem?_eq_getElem hk]; rfl
    rw [e, lvsL_at hkN]
    have h4 := lat_lvl hc hl (fun k hk => (hbd k hk).1) _ k hkN (Nat.le_refl _)
    have h5 := (hbd k hkN).2
    omega
  · unfold wrap64; omega
end
end Go.Proofs.YtakbpjgnjfigcaaGreat
