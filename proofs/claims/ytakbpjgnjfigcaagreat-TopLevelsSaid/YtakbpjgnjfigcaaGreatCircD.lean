/- Which lists are circles: what it is. -/
import Derived.Test.YtakbpjgnjfigcaaGreatC5
import Derived.Test.YtakbpjgnjfigcaaGreatElEq
namespace Go.Proofs.YtakbpjgnjfigcaaGreat
open Go.RowKit Go.Maps

def endB (K : List Vv) (P : List Pt) (L : List Ar) : Bool := (useN K P (elNum P (L.getD 0 default))).contains (elNum P (L.getD (L.length - 1) default))
def icB (K : List Vv) (P : List Pt) (L : List Ar) : Bool := chB K P L && (decide (L.length ≠ 0) && (endB K P L && decide L.Nodup))
def icA (n : Int) (l : List Iq) (K : List Vv) (L : List Ar) : Bool := recB n l K && (decide (L.length ≤ 5000) && icB K (pts n l) L)
theorem icA_no {n : Int} {l : List Iq} {K : List Vv} {L : List Ar} (h : liC n l K L ≠ 0) : icA n l K L = false := by
  unfold liC at h
  unfold icA
  cases hb : recB n l K
  · rfl
  · rw [hb] at h
    by_cases hl : L.length ≤ 5000
    · rw [if_pos rfl, if_pos hl] at h; exact absurd rfl h
    · simp [hl]
theorem chB_el {K : List Vv} {P : List Pt} {L : List Ar} (h : chB K P L = true) : ∀ y ∈ L, isEl K P y.v y.p = true := by
  intro y hy
  obtain ⟨i, hi, rfl⟩ := List.getElem_of_mem hy
  unfold chB at h
  have := List.all_eq_true.1 h i (List.mem_range.2 hi)
  unfold stepB at this
  rw [getD_el hi, Bool.and_eq_true] at this
  exact this.1
theorem elNum_inj {n : Int} {K : List Vv} {P : List Pt} (ok : NetOk n K P) {x y : Ar} (hx : isEl K P x.v x.p = true) (hy : isEl K P y.v y.p = true) (h : elNum P x = elNum P y) : x = y := by
  rw [isEl_in, Bool.and_eq_true] at hx hy
  have h1 := (elOf_num ok hx.2 hx.1).1
  have h2 := (elOf_num ok hy.2 hy.1).1
  rw [← h1, ← h2, h]
theorem nd_nums {n : Int} {K : List Vv} {P : List Pt} {L : List Ar} (ok : NetOk n K P) (h : chB K P L = true) : (toI (L.map (elNum P))).Nodup ↔ L.Nodup := by
  have he := chB_el h
  rw [List.nodup_iff_pairwise_ne, List.nodup_iff_pairwise_ne, toI, List.map_map, List.pairwise_map]
  constructor
  · intro hp
    exact hp.imp fun h e => h (by rw [e])
  · intro hp
    refine hp.imp_of_mem fun ha hb hne e => hne (elNum_inj ok (he _ ha) (he _ hb) ?_)
    simp only [Function.comp] at e
    omega
end Go.Proofs.YtakbpjgnjfigcaaGreat
