/- Slices that are only read, their headers in a list of one's own. Over any program. -/
import Derived.Test.YtbpdgoedglkefaaTbl
namespace Go.Proofs.Ytbpdgoedglkefaa
open Go.RowKit

theorem own_cap {w : World} {base e size n cap : Nat} {s : Option Addr} {xs : List Value} (h : w.ownsRow base e size (.slice s n cap) n xs) : n ≤ cap ∧ (s = none → cap = 0) := by
  rcases h.2 with ⟨h1, h2⟩ | ⟨g, c, cur, h1, _, _, h2, _⟩
  · simp only [Value.slice.injEq] at h1
    obtain ⟨rfl, _, rfl⟩ := h1
    exact ⟨by omega, fun _ => rfl⟩
  · simp only [Value.slice.injEq] at h1
    obtain ⟨rfl, _, rfl⟩ := h1
    exact ⟨h2, fun e => by cases e⟩
section
variable {α : Type} {E : Elt α}
theorem SlS.block {W W' : World} {s : Option Addr} {l : List α} (c : SlS E W s l) (hs : W.heap.size ≤ W'.heap.size) (h : ∀ b o, s = some ⟨b, o, none⟩ → b < W.heap.size → W'.heap[b]? = W.heap[b]?) : SlS E W' s l := by
  rcases c with c | ⟨b, off, e, hb, c⟩
  · exact .inl c
  · refine .inr ⟨b, off, e, by omega, fun j u hj => ?_⟩
    have h2 := c j u hj
    rw [World.cell?_of_block (a := ⟨b, off + j, none⟩) (h b off e hb)]
    exact h2
/-- The slices ss hold the lists K; none of them lies in the block of v. -/
structure Inn (E : Elt α) (W : World) (v : Value) (ss : List Sv) (K : List (List α)) : Prop where
  len : ss.length = K.length
  row : ∀ i (h : i < K.length) (h' : i < ss.length), ss[i].len = K[i].length ∧ SlS E W ss[i].addr K[i] ∧ (ss[i].addr = none → ss[i].cap = 0) ∧ K[i].length ≤ ss[i].cap
  apart : ∀ x ∈ ss, ∀ b o, x.addr = some ⟨b, o, none⟩ → b < W.heap.size ∧ v.ownBlock ≠ some b
theorem Inn.nil {W : World} {v : Value} : Inn E W v [] [] := ⟨rfl, fun i h => absurd h (by simp), fun x hx => by simp at hx⟩
theorem Inn.up {W W' : World} {v : Value} {ss : List Sv} {K : List (List α)} (hb : Below W.heap.size W W') (h : Inn E W v ss K) : Inn E W' v ss K :=
  ⟨h.len, fun i h1 h2 => ⟨(h.row i h1 h2).1, (h.row i h1 h2).2.1.up hb, (h.row i h1 h2).2.2⟩, fun x hx b o e => ⟨Nat.lt_of_lt_of_le (h.apart x hx b o e).1 hb.size, (h.apart x hx b o e).2⟩⟩
instance {W W' : World} {v : Value} {ss : List Sv} {K : List (List α)} : UpF W W' (Inn E W v ss K) (Inn E W' v ss K) := ⟨fun h c => Inn.up h c⟩
theorem Inn.push {W W' : World} {v v' : Value} {ss : List Sv} {K : List (List α)} (h : Inn E W v ss K) (hg : W.grownBy W' v.ownBlock) (hat : v'.ownBlock = v.ownBlock ∨ v'.ownBlock = some W.heap.size)
    {s : Option Addr} {cap : Nat} {l : List α} (c : SlS E W s l) (hn : s = none → cap = 0) (hc : l.length ≤ cap) (ha : ∀ b o, s = some ⟨b, o, none⟩ → b < W.heap.size ∧ v.ownBlock ≠ some b) : Inn E W' v' (ss ++ [⟨s, l.length, cap⟩]) (K ++ [l]) := by
  have hap : ∀ x ∈ ss ++ [(⟨s, l.length, cap⟩ : Sv)], ∀ b o, x.addr = some ⟨b, o, none⟩ → b < W.heap.size ∧ v.ownBlock ≠ some b := fun x hx b o e => by
    rcases List.mem_append.1 hx with hx | hx
    · exact h.apart x hx b o e
    · obtain rfl := List.mem_singleton.1 hx
      exact ha b o e
  have hrow : ∀ i (h1 : i < (K ++ [l]).length) (h2 : i < (ss ++ [(⟨s, l.length, cap⟩ : Sv)]).length), (ss ++ [(⟨s, l.length, cap⟩ : Sv)])[i].len = (K ++ [l])[i].length ∧ SlS E W (ss ++ [(⟨s, l.length, cap⟩ : Sv)])[i].addr (K ++ [l])[i] ∧ ((ss ++ [(⟨s, l.length, cap⟩ : Sv)])[i].addr = none → (ss ++ [(⟨s, l.length, cap⟩ : Sv)])[i].cap = 0) ∧ (K ++ [l])[i].length ≤ (ss ++ [(⟨s, l.length, cap⟩ : Sv)])[i].cap := fun i h1 h2 => by
    by_cases hi : i < K.length
    · have hi2 : i < ss.length := by rw [h.len]; exact hi
      have e1 := List.getElem_append_left (bs := [l]) (h' := h1) hi
      have e2 := List.getElem_append_left (bs := [(⟨s, l.length, cap⟩ : Sv)]) (h' := h2) hi2
      rw [e1, e2]
      exact h.row i hi hi2
    · have hiK : i = K.length := by simp at h1; omega
      subst hiK
      have e1 : (K ++ [l])[K.length] = l := by simp
      have e2 : (ss ++ [(⟨s, l.length, cap⟩ : Sv)])[K.length] = ⟨s, l.length, cap⟩ := by simp [← h.len]
      rw [e1, e2]
      exact ⟨rfl, c, hn, hc⟩
  refine ⟨by simp [h.len], fun i h1 h2 => ?_, fun x hx b o e => ?_⟩
  · obtain ⟨r1, r2, r3⟩ := hrow i h1 h2
    exact ⟨r1, r2.block hg.size fun b o e hb => hg.block b hb (fun e2 => (hap _ (List.getElem_mem h2) b o e).2 e2.symm), r3⟩
  · obtain ⟨h1, h2⟩ := hap x hx b o e
    refine ⟨Nat.lt_of_lt_of_le h1 hg.size, fun e2 => ?_⟩
    rcases hat with h3 | h3
    · exact h2 (h3.symm.trans e2)
    · rw [h3] at e2; injection e2 with e2; omega
end
theorem Inn.view {α : Type} {E : Elt α} {W : World} {base e cap : Nat} {s : Option Addr} {ss : List Sv} {K : List (List α)} (h : Inn E W (.slice s ss.length cap) ss K) (ho : W.ownsRow base e 1 (.slice s ss.length cap) ss.length (svE.all ss)) : SlSS E W s K :=
  ⟨ss, SlS.of_own (E := svE) ho, h.len, fun i h1 h2 => h.row i h1 h2⟩
theorem own_ex {w : World} {base e size n cap : Nat} {s : Option Addr} {xs : List Value} (h : w.ownsRow base e size (.slice s n cap) n xs) (hn : 0 < n) : ∃ g, s = some ⟨g, 0, none⟩ ∧ base ≤ g ∧ g < w.heap.size := by
  obtain ⟨s', cap', he, hs⟩ := owns_shape h
  simp only [Value.slice.injEq] at he
  obtain ⟨rfl, _, rfl⟩ := he
  rcases hs with ⟨h0, _⟩ | hs
  · omega
  · exact hs
theorem svE_snoc (ss : List Sv) (x : Sv) : svE.all (ss ++ [x]) = svE.all ss ++ [.slice x.addr x.len x.cap] := by simp [Elt.all, svE]
theorem meas {k n : Nat} (h : k < n) : n - (intOf (.int .i64 ((k : Int) + 1))).toNat < n - (intOf (.int .i64 (k : Int))).toNat := by simp [intOf]; omega
theorem i64_small {n : Int} (h : -9223372036854775808 ≤ n ∧ n ≤ 9223372036854775807) : IntKind.i64.wrap n = n := by rw [IntKind.wrap_i64]; omega
theorem Row.two {W : World} {b t : Nat} {x y : Value} (h : Row W b t #[x, y]) : W.cell? ⟨b, 0, none⟩ = some x ∧ W.cell? ⟨b, 1, none⟩ = some y := ⟨h.cell rfl, h.cell rfl⟩
theorem any_not {α : Type} (pr : α → Bool) (l : List α) : (!l.any fun x => !pr x) = l.all pr := by
  induction l with
  | nil => rfl
  | cons x l ih => simp only [List.any_cons, List.all_cons, Bool.not_or, Bool.not_not, ih]
/-- Numbers in memory. -/
structure Ints (w : World) (s : Option Addr) (l : List Int) : Prop where
  sl : SlS intE w s l
  len : l.length ≤ 9223372036854775807
instance {W W' : World} {s : Option Addr} {l : List Int} : UpF W W' (Ints W s l) (Ints W' s l) := ⟨fun h c => ⟨c.sl.up h, c.len⟩⟩
theorem SlS.bool_at {w : World} {s : Option Addr} {l : List Bool} (c : SlS boolE w s l) {i : Nat} (h : i < l.length) : ∃ b off, s = some ⟨b, off, none⟩ ∧ b < w.heap.size ∧ w.cell? ⟨b, off + i, none⟩ = some (.bool l[i]) := by
  obtain ⟨b, off, e, hb, hc⟩ := c.at h
  have := hc 0 _ rfl
  simp only [boolE, Nat.mul_one, Nat.add_zero] at this
  exact ⟨b, off, e, hb, this⟩
end Go.Proofs.Ytbpdgoedglkefaa
