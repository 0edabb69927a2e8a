/- Least offsets make a form legal, and are below all legal ones: the law. -/
import Derived.Test.YtbpdgoedglkefaaSchAdd
import Derived.Test.YtbpdgoedglkefaaSch18
import Derived.Test.YtbpdgoedglkefaaSchOff
namespace Go.Proofs.Ytbpdgoedglkefaa
open Go.RowKit

theorem del_eq {n : Int} {l : List Iq} {K : List Vv} {q : Sd} (hrb : recB n l K = true) {v : Nat} (hv : v < K.length) {a : Ar} (ha : a ∈ K[v].args) : ∃ u : Nat, a.v = u ∧ u < K.length := by
  have h2 := bw_iff.1 ((rec_args hrb _ (List.getElem_mem hv)).2 a ha)
  exact ⟨a.v.toNat, by omega, by omega⟩
theorem legal_feas {n : Int} {l : List Iq} {K : List Vv} {q : Sd} (hc : chkE n l K [q] = 0) (h : legB K q = true) : Feas (grG K q.f) q.off := by
  intro v hv e he
  rw [gr_len] at hv
  rw [gr_row q.f hv] at he
  obtain ⟨a, ha, rfl⟩ := List.mem_map.1 he
  obtain ⟨j, hj, rfl⟩ := List.getElem_of_mem ha
  have hd := (delW_small hc hv ha).1
  have hk : v < (delT K q).length := by rw [delT_len]; exact hv
  have er := delT_row hv hk
  have h1 := leg_at h hk (j := j) (by rw [er, List.length_map]; exact hj)
  have h2 : (delT K q)[v][j]'(by rw [er, List.length_map]; exact hj) = delW q v K[v].args[j] := by simp only [er, List.getElem_map]
  rw [h2, hd] at h1
  unfold delP at h1
  show q.off.getD K[v].args[j].v.toNat 0 + (1 + dotZ q.f K[v].args[j].p) ≤ q.off.getD v 0
  omega
theorem feas_legal {n : Int} {l : List Iq} {K : List Vv} {q : Sd} (hc : chkE n l K [q] = 0) (h : Feas (grG K q.f) q.off) : legB K q = true := by
  refine leg_yes fun v hk j hj => ?_
  have hv : v < K.length := by rw [delT_len] at hk; exact hk
  have er := delT_row hv hk
  have hja : j < K[v].args.length := by rw [er, List.length_map] at hj; exact hj
  have h2 : (delT K q)[v][j] = delW q v K[v].args[j] := by simp only [er, List.getElem_map]
  have ha := List.getElem_mem hja
  rw [h2, (delW_small hc hv ha).1]
  have h1 := h v (by rw [gr_len]; exact hv) (K[v].args[j].v.toNat, 1 + dotZ q.f K[v].args[j].p) (by rw [gr_row q.f hv]; exact List.mem_map.2 ⟨_, ha, rfl⟩)
  simp only at h1
  unfold delP
  omega
theorem pth_wt {K : List Vv} {f : Pt} (hN : NearK K) (hf : f.x.natAbs ≤ 9 ∧ f.y.natAbs ≤ 9 ∧ f.z.natAbs ≤ 9) {v z : Nat} {l : List (Nat × Nat)} {W : Int} (h : Pth (grG K f) v l z W) : W ≤ 82 * l.length := by
  induction h with
  | nil v => simp
  | @cons v i u z w W l e h ih =>
    have hv := edge_lt e
    rw [gr_len] at hv
    rw [gr_row f hv, List.getElem?_map] at e
    cases ha : K[v].args[i]? with
    | none => rw [ha] at e; cases e
    | some a =>
      rw [ha] at e
      simp only [Option.map_some, Option.some.injEq, Prod.mk.injEq] at e
      obtain ⟨hj, hja⟩ := List.getElem?_eq_some_iff.1 ha
      have hw := (wt_small hf (hN _ (List.getElem_mem hv) a (hja ▸ List.getElem_mem hj))).2.2
      have := e.2
      simp only [List.length_cons]
      omega
/-- What the rounds find fits, is legal, and is below every legal one. -/
theorem bf_prf {n : Int} {l : List Iq} {K : List Vv} {q : Sd} (hc : chkE n l K [q] = 0) {o : List Int} (hb : bfR K q.f = some o) (s : Option Addr) (c : Nat) :
    chkE n l K [⟨q.f, o, s, c⟩] = 0 ∧ legB K ⟨q.f, o, s, c⟩ = true ∧ o.length = K.length ∧ q.off.length = K.length ∧ K.length ≤ 4 ∧ (legB K q = true → ∀ i (h : i < o.length) (h2 : i < q.off.length), o[i] ≤ q.off[i]) := by
  obtain ⟨hrb, -, -, hk4, -, -, hf, hol, hob⟩ := chk_ok hc
  have h1 : bf (grG K q.f) (K.length + 1) (zeros (grG K q.f).length) = some o := by rw [gr_len]; exact hb
  have hW := gr_wf (f := q.f) (rec_args hrb)
  obtain ⟨e1, e2, e3⟩ := bf_ok h1
  rw [gr_len] at e1
  have hun := bf_under hW h1
  have hoff : offB o = true := by
    unfold offB
    rw [List.all_eq_true]
    intro x hx
    obtain ⟨i, hi, rfl⟩ := List.getElem_of_mem hx
    rw [bw_iff, ← getD_mem hi]
    obtain ⟨m, z, W, hs, hle⟩ := hun i (by rw [gr_len]; omega)
    have h2 := pth_wt (rec_near hrb) (flat_abs hf) hs.1
    have h3 := hs.len hW (by rw [gr_len]; omega)
    rw [gr_len] at h3
    have := e3 i
    omega
  have hfit : fitB n K.length q.f o = true := by
    unfold fitB
    rw [hf, hoff, decide_eq_true e1]; rfl
  have hc2 : chkE n l K [⟨q.f, o, s, c⟩] = 0 := chk_one hrb hfit
  refine ⟨hc2, feas_legal hc2 e2, e1, hol, hk4, fun hl i h h2 => ?_⟩
  rw [← getD_mem h, ← getD_mem h2]
  refine bf_least hW h1 (legal_feas hc hl) (fun j hj => ?_) i (by rw [gr_len]; omega)
  rw [gr_len] at hj
  rw [getD_mem (by omega)]
  exact (off_bd hob (List.getElem_mem (by omega))).1
theorem bf_nolegal {n : Int} {l : List Iq} {K : List Vv} {q : Sd} (hc : chkE n l K [q] = 0) (hb : bfR K q.f = none) : legB K q = false := by
  cases hl : legB K q
  · rfl
  · obtain ⟨hrb, -⟩ := chk_ok hc
    have := bf_some (gr_wf (f := q.f) (rec_args hrb)) (legal_feas hc hl).noCirc
    rw [gr_len] at this
    exact absurd hb this
theorem chk_frm {n : Int} {l : List Iq} {K : List Vv} {q : Sd} (hc : chkE n l K [q] = 0) : frmE n l K q.f = 0 := by
  obtain ⟨hrb, -, -, hk4, -, -, hf, hol, hob⟩ := chk_ok hc
  unfold frmE
  rw [if_pos hrb, if_pos hf]
theorem chk_vld {n : Int} {l : List Iq} {K : List Vv} {q : Sd} (h : (recB n l K && q.fit n K.length) = true) : chkE n l K [q] = 0 := by
  rw [Bool.and_eq_true] at h
  unfold chkE
  rw [if_pos h.1, if_pos (by simp [h.2])]
end Go.Proofs.Ytbpdgoedglkefaa
