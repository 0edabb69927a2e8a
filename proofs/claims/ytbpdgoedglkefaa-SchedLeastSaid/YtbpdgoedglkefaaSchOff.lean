/- Least offsets: the graph of a form; one look at a way. -/
import Derived.Test.YtbpdgoedglkefaaB7
import Derived.Test.YtbpdgoedglkefaaSchCirc
import Derived.Test.YtbpdgoedglkefaaSchAdd
import Derived.Test.YtbpdgoedglkefaaSchTab
namespace Go.Proofs.Ytbpdgoedglkefaa
open Go.RowKit

/-- The graph of a form: for each variable, what its arguments use, and how much later it must be. -/
def grG (K : List Vv) (f : Pt) : Gr := K.map fun v => v.args.map fun a => (a.v.toNat, 1 + dotZ f a.p)
theorem gr_len (K : List Vv) (f : Pt) : (grG K f).length = K.length := List.length_map ..
theorem gr_row {K : List Vv} (f : Pt) {v : Nat} (h : v < K.length) : (grG K f).getD v [] = K[v].args.map fun a => (a.v.toNat, 1 + dotZ f a.p) := by
  unfold grG
  rw [List.getD_eq_getElem?_getD, List.getElem?_map, List.getElem?_eq_getElem h]; rfl
theorem gr_wf {K : List Vv} {f : Pt} (h : ∀ v ∈ K, v.args.length ≤ 3 ∧ ∀ a ∈ v.args, bw 0 a.v (K.length - 1) = true) : (grG K f).Wf := by
  intro v e he
  rw [gr_len]
  by_cases hv : v < K.length
  · rw [gr_row f hv] at he
    obtain ⟨a, ha, rfl⟩ := List.mem_map.1 he
    have := bw_iff.1 ((h _ (List.getElem_mem hv)).2 a ha)
    show a.v.toNat < K.length
    omega
  · rw [List.getD_eq_getElem?_getD, List.getElem?_eq_none (by rw [gr_len]; omega)] at he; cases he
/-- A row, its first j ways looked at. -/
def rxPart (G : Gr) (v : Nat) (st : List Int × Bool) (j : Nat) : List Int × Bool := rxRow st v ((G.getD v []).take j)
theorem part_zero (G : Gr) (v : Nat) (st : List Int × Bool) : rxPart G v st 0 = st := by simp [rxPart, rxRow]
theorem part_succ {G : Gr} {v : Nat} (st : List Int × Bool) {j : Nat} (h : j < (G.getD v []).length) : rxPart G v st (j + 1) = rx v (rxPart G v st j) (G.getD v [])[j] := by
  unfold rxPart rxRow
  rw [List.take_succ_eq_append_getElem h, List.foldl_append]; rfl
theorem part_all (G : Gr) (v : Nat) (st : List Int × Bool) : rxPart G v st (G.getD v []).length = rxRow st v (G.getD v []) := by
  unfold rxPart; rw [List.take_length]
theorem offPart_len (G : Gr) (v : Nat) (st : List Int × Bool) (j : Nat) : (rxPart G v st j).1.length = st.1.length := row_len _ _ _
/-- All numbers are between 0 and B. -/
def BetB (off : List Int) (B : Int) : Prop := ∀ x, 0 ≤ off.getD x 0 ∧ off.getD x 0 ≤ B
theorem BetB.mono {off : List Int} {B C : Int} (h : BetB off B) (hc : B ≤ C) : BetB off C := fun x => ⟨(h x).1, Int.le_trans (h x).2 hc⟩
theorem rx_bet {v : Nat} {st : List Int × Bool} (hv : v < st.1.length) {e : Nat × Int} {B : Int} (h : BetB st.1 B) (he : e.2 ≤ 82) : BetB (rx v st e).1 (B + 82) := by
  unfold rx
  split
  · rename_i hlt
    intro x
    rw [getD_set hv]
    have h1 := h v; have h2 := h e.1; have h3 := h x
    split
    · constructor <;> omega
    · constructor <;> omega
  · exact h.mono (by omega)
theorem bet_zeros (n : Nat) : BetB (zeros n) 0 := fun x => by rw [zeros_at]; omega
theorem bf_step (G : Gr) (k : Nat) (off : List Int) : bf G (k + 1) off = if (rxRound G off).2 then bf G k (rxRound G off).1 else some (rxRound G off).1 := rfl
/-- The least offsets of a form; none: there are none. -/
def bfR (K : List Vv) (f : Pt) : Option (List Int) := bf (grG K f) (K.length + 1) (zeros K.length)
/-- One argument's edge. -/
theorem edge_facts {K : List Vv} {f : Pt} (hA : ∀ v ∈ K, v.args.length ≤ 3 ∧ ∀ a ∈ v.args, bw 0 a.v (K.length - 1) = true) (hN : NearK K) (hf : f.x.natAbs ≤ 9 ∧ f.y.natAbs ≤ 9 ∧ f.z.natAbs ≤ 9) {v j : Nat} (hv : v < K.length) (hj : j < K[v].args.length) :
    ∃ (u : Nat) (d : Int), K[v].args[j].v = u ∧ u < K.length ∧ wrap64 (dotZ f K[v].args[j].p) = d ∧ -81 ≤ d ∧ d ≤ 81 ∧ ∀ st, rxPart (grG K f) v st (j + 1) = rx v (rxPart (grG K f) v st j) (u, 1 + d) := by
  have h1 := bw_iff.1 ((hA _ (List.getElem_mem hv)).2 _ (List.getElem_mem hj))
  have h2 := wt_small hf (hN _ (List.getElem_mem hv) _ (List.getElem_mem hj))
  refine ⟨K[v].args[j].v.toNat, _, by omega, by omega, h2.1, h2.2.1, h2.2.2, fun st => ?_⟩
  have hl : j < ((grG K f).getD v []).length := by rw [gr_row f hv, List.length_map]; exact hj
  rw [part_succ st hl]
  congr 1
  simp only [gr_row f hv, List.getElem_map]
end Go.Proofs.Ytbpdgoedglkefaa
