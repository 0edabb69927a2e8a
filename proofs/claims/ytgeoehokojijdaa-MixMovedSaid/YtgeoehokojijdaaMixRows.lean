/- Lists within a list of one's own; what a shifted kernel is. -/
import Derived.Test.YtgeoehokojijdaaMix41
namespace Go.Proofs.Ytgeoehokojijdaa
open Go.RowKit

section
variable {α : Type} {E : Elt α}
theorem SlS.block {W W' : World} {s : Option Addr} {l : List α} (c : SlS E W s l) (hs : W.heap.size ≤ W'.heap.size) (h : ∀ b o, s = some ⟨b, o, none⟩ → b < W.heap.size → W'.heap[b]? = W.heap[b]?) : SlS E W' s l := by
  rcases c with c | ⟨b, off, e, hb, c⟩
  · exact .inl c
  · refine .inr ⟨b, off, e, by omega, fun j u hj => ?_⟩
    have h2 := c j u hj
    rw [World.cell?_of_block (a := ⟨b, off + j, none⟩) (h b off e hb)]
    exact h2
/-- The slices ss hold the lists K; none of them lies in the block of v. -/
structure Inn (E : Elt α) (W : World) (v : Value) (ss : List Sv) (K : List (List α)) : Prop where
  len : ss.length = K.length
  row : ∀ i (h : i < K.length) (h' : i < ss.length), ss[i].len = K[i].length ∧ SlS E W ss[i].addr K[i] ∧ (ss[i].addr = none → ss[i].cap = 0) ∧ K[i].length ≤ ss[i].cap
  apart : ∀ x ∈ ss, ∀ b o, x.addr = some ⟨b, o, none⟩ → b < W.heap.size ∧ v.ownBlock ≠ some b
theorem Inn.nil {W : World} {v : Value} : Inn E W v [] [] := ⟨rfl, fun i h => absurd h (by simp), fun x hx => by simp at hx⟩
theorem Inn.up {W W' : World} {v : Value} {ss : List Sv} {K : List (List α)} (hb : Below W.heap.size W W') (h : Inn E W v ss K) : Inn E W' v ss K :=
  ⟨h.len, fun i h1 h2 => ⟨(h.row i h1 h2).1, (h.row i h1 h2).2.1.up hb, (h.row i h1 h2).2.2⟩, fun x hx b o e => ⟨Nat.lt_of_lt_of_le (h.apart x hx b o e).1 hb.size, (h.apart x hx b o e).2⟩⟩
instance {W W' : World} {v : Value} {ss : List Sv} {K : List (List α)} : UpF W W' (Inn E W v ss K) (Inn E W' v ss K) := ⟨fun h c => Inn.up h c⟩
theorem Inn.push {W W' : World} {v v' : Value} {ss : List Sv} {K : List (List α)} (h : Inn E W v ss K) (hg : W.grownBy W' v.ownBlock) (hat : v'.ownBlock = v.ownBlock ∨ v'.ownBlock = some W.heap.size)
    {s : Option Addr} {cap : Nat} {l : List α} (c : SlS E W s l) (hn : s = none → cap = 0) (hc : l.length ≤ cap) (ha : ∀ b o, s = some ⟨b, o, none⟩ → b < W.heap.size ∧ v.ownBlock ≠ some b) : Inn E W' v' (ss ++ [⟨s, l.length, cap⟩]) (K ++ [l]) := by
  have hap : ∀ x ∈ ss ++ [(⟨s, l.length, cap⟩ : Sv)], ∀ b o, x.addr = some ⟨b, o, none⟩ → b < W.heap.size ∧ v.ownBlock ≠ some b := fun x hx b o e => by
    rcases List.mem_append.1 hx with hx | hx
    · exact h.apart x hx b o e
    · obtain rfl := List.mem_singleton.1 hx
      exact ha b o e
  have hrow : ∀ i (h1 : i < (K ++ [l]).length) (h2 : i < (ss ++ [(⟨s, l.length, cap⟩ : Sv)]).length), (ss ++ [(⟨s, l.length, cap⟩ : Sv)])[i].len = (K ++ [l])[i].length ∧ SlS E W (ss ++ [(⟨s, l.length, cap⟩ : Sv)])[i].addr (K ++ [l])[i] ∧ ((ss ++ [(⟨s, l.length, cap⟩ : Sv)])[i].addr = none → (ss ++ [(⟨s, l.length, cap⟩ : Sv)])[i].cap = 0) ∧ (K ++ [l])[i].length ≤ (ss ++ [(⟨s, l.length, cap⟩ : Sv)])[i].cap := fun i h1 h2 => by
    by_cases hi : i < K.length
    · have hi2 : i < ss.length := by rw [h.len]; exact hi
      have e1 := List.getElem_append_left (bs := [l]) (h' := h1) hi
      have e2 := List.getElem_append_left (bs := [(⟨s, l.length, cap⟩ : Sv)]) (h' := h2) hi2
      rw [e1, e2]
      exact h.row i hi hi2
    · have hiK : i = K.length := by simp at h1; omega
      subst hiK
      have e1 : (K ++ [l])[K.length] = l := by simp
      have e2 : (ss ++ [(⟨s, l.length, cap⟩ : Sv)])[K.length] = ⟨s, l.length, cap⟩ := by simp [← h.len]
      rw [e1, e2]
      exact ⟨rfl, c, hn, hc⟩
  refine ⟨by simp [h.len], fun i h1 h2 => ?_, fun x hx b o e => ?_⟩
  · obtain ⟨r1, r2, r3⟩ := hrow i h1 h2
    exact ⟨r1, r2.block hg.size fun b o e hb => hg.block b hb (fun e2 => (hap _ (List.getElem_mem h2) b o e).2 e2.symm), r3⟩
  · obtain ⟨h1, h2⟩ := hap x hx b o e
    refine ⟨Nat.lt_of_lt_of_le h1 hg.size, fun e2 => ?_⟩
    rcases hat with h3 | h3
    · exact h2 (h3.symm.trans e2)
    · rw [h3] at e2; injection e2 with e2; omega
end
theorem own_cap {w : World} {base e size n cap : Nat} {s : Option Addr} {xs : List Value} (h : w.ownsRow base e size (.slice s n cap) n xs) : n ≤ cap ∧ (s = none → cap = 0) := by
  rcases h.2 with ⟨h1, h2⟩ | ⟨g, c, cur, h1, _, _, h2, _⟩
  · simp only [Value.slice.injEq] at h1
    obtain ⟨rfl, _, rfl⟩ := h1
    exact ⟨by omega, fun _ => rfl⟩
  · simp only [Value.slice.injEq] at h1
    obtain ⟨rfl, _, rfl⟩ := h1
    exact ⟨h2, fun e => by cases e⟩
theorem Inn.ker {W : World} {base e cap : Nat} {s : Option Addr} {ss : List Sv} {K : List (List Clm)} (h : Inn clmE W (.slice s ss.length cap) ss K) (ho : W.ownsRow base e 1 (.slice s ss.length cap) ss.length (svE.all ss))
    (hK : K.length ≤ 1000) (hl : ∀ l ∈ K, l.length ≤ 1000) : Ker W s cap K := by
  have hsl : SlS svE W s ss := SlS.of_own (E := svE) ho
  have hc := own_cap ho
  exact ⟨⟨ss, hsl, h.len, fun i h1 h2 => h.row i h1 h2⟩, by omega, fun l hm => by have := hl l hm; omega, by rw [← h.len]; exact hc.1, hc.2⟩
/-- A claim later by a number. -/
def addT (d : Int) (c : Clm) : Clm := ⟨c.cell, c.time + d⟩
/-- Kernels of which number q claims later by a number. -/
def shiftK (k : List (List Clm)) (q d : Int) : List (List Clm) := k.mapIdx fun i l => l.map (addT (if (i : Int) = q then d else 0))
end Go.Proofs.Ytgeoehokojijdaa
