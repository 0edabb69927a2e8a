/- The groups of claims on a slot. -/
import Derived.Test.YtgeoehokojijdaaMixGrp
import Derived.Test.YtgeoehokojijdaaMix1
import Derived.Maps.AppendAt
namespace Go.Proofs.Ytgeoehokojijdaa
open Go.RowKit Go.Maps

theorem law_slot : WideMaps.KeyLaw Try.prog 96 := deep_law_laid (by kernel_rfl) (m := 2) (by omega) (of_decide_eq_true (by kernel_rfl)) (by kernel_rfl) (by kernel_rfl)
theorem key_slot : Keyed Try.prog 96 := Keyed.of_law law_slot
theorem slot_of {c : Clm} (h : clmOk c = true) : keyOf Try.prog 96 (clmV c) = some (clmK c) := by
  have h1 := clm_ok h
  exact keyOf_two Try.underlying96 (by kernel_rfl) Try.underlying3 (by kernel_rfl) (by kernel_rfl) (by kernel_rfl) (by kernel_rfl) (by kernel_rfl) (by kernel_rfl) (by kernel_rfl) (by kernel_rfl) (of_decide_eq_true (by kernel_rfl)) (wf_64 (by omega)) (wf_64 (by omega))
theorem zero_pairs (w : World) : (zeroValue 42).run Try.prog w = .ok (.slice none 0 0) w := by kernel_rfl
/-- The places of those entries that lie on a slot. -/
def grpL (E : List (Clm × Clm)) (s : Clm) : List Clm := (E.filter fun x => decide (x.1 = s)).map fun x => x.2
theorem grpL_same (E : List (Clm × Clm)) (s x : Clm) : grpL (E ++ [(s, x)]) s = grpL E s ++ [x] := by simp [grpL]
theorem grpL_other (E : List (Clm × Clm)) {s s' : Clm} (x : Clm) (h : ¬ s' = s) : grpL (E ++ [(s, x)]) s' = grpL E s' := by
  have h2 : ¬ s = s' := fun e => h e.symm
  simp [grpL, h2]
theorem grpL_le (E : List (Clm × Clm)) (s : Clm) : (grpL E s).length ≤ E.length := by
  unfold grpL; rw [List.length_map]; exact List.length_filter_le _ _
structure Grp (V : World) (mb : Nat) (E : List (Clm × Clm)) (f : Clm → Value) : Prop where
  map : ∃ D : DataW Unit, IsMap D ∧ V.ownsMap Try.prog 96 hdR mb E.length D ∧ ∀ s, clmOk s = true → ∃ d, hdR (f s) = some (d, []) ∧ D.atKey (clmK s) .nil = d
  own : ∀ s, clmOk s = true → V.ownsRow (mb + 1) 45 2 (f s) (grpL E s).length (clmE.all (grpL E s))
  apart : ∀ s s', clmOk s = true → clmOk s' = true → s ≠ s' → ∀ j, (f s).ownBlock = some j → (f s').ownBlock ≠ some j
theorem Grp.lt {V : World} {mb : Nat} {E : List (Clm × Clm)} {f : Clm → Value} (G : Grp V mb E f) : mb < V.heap.size := by
  obtain ⟨D, -, h, -⟩ := G.map
  exact h.lt
theorem Grp.made (w : World) : Grp (w.alloc (.map #[] 0)) w.heap.size [] (fun _ => .slice none 0 0) :=
  ⟨⟨.map [], isMap_empty, World.ownsMap_made w _ _ _, fun _ _ => ⟨_, hdR_nil, rfl⟩⟩, fun _ _ => World.ownsRow_nil _ _ _ _, fun _ _ _ _ _ j h => by simp [Value.ownBlock] at h⟩
theorem Grp.up {V V' : World} {mb : Nat} {E : List (Clm × Clm)} {f : Clm → Value} (h : Below V.heap.size V V') (G : Grp V mb E f) : Grp V' mb E f := by
  obtain ⟨D, hI, ⟨es, clock, hb, hF⟩, hat⟩ := G.map
  exact ⟨⟨D, hI, ⟨es, clock, Up.block h hb, hF⟩, hat⟩, fun s hs => Up.owns h (G.own s hs), G.apart⟩
instance {W W' : World} {mb : Nat} {E : List (Clm × Clm)} {f : Clm → Value} : UpF W W' (Grp W mb E f) (Grp W' mb E f) := ⟨fun h c => c.up h⟩
theorem Grp.look {V : World} {mb : Nat} {E : List (Clm × Clm)} {f : Clm → Value} (G : Grp V mb E f) {s : Clm} (hs : clmOk s = true) :
    (Instr.lookup 94 (.map (some mb)) (clmV s) false).run Try.prog V = .ok (f s) V := by
  obtain ⟨D, -, hm, hat⟩ := G.map
  obtain ⟨d, h1, h2⟩ := hat s hs
  exact grp_look hm key_slot Try.underlying94 (zero_pairs _) (slot_of hs) h1 h2
theorem ne_own {w : World} {base e size n b : Nat} {v : Value} {xs : List Value} (h : w.ownsRow base e size v n xs) (hb : b < base) : v.ownBlock = none ∨ v.ownBlock ≠ some b := by
  cases hv : v.ownBlock with
  | none => exact .inl rfl
  | some g => exact .inr fun e => by have := (h.lt g hv).1; cases e; omega
theorem Grp.entry {V : World} {mb : Nat} {E : List (Clm × Clm)} {f : Clm → Value} (G : Grp V mb E f) {s : Clm} (hs : clmOk s = true) (hn : E.length < maxLen) :
    ∃ (st : Nat) (V2 : World), (Instr.mapEntry 94 (.map (some mb)) (clmV s)).run Try.prog V = .ok (.tuple #[f s, goInt st]) V2 ∧ V.grownBy V2 (some mb) ∧
      V2.ownsRow (mb + 1) 45 2 (f s) (grpL E s).length (clmE.all (grpL E s)) ∧
      ∀ (V3 : World) (v' : Value) (x : Clm), V3.ownsRow (mb + 1) 45 2 v' ((grpL E s).length + 1) (clmE.all (grpL E s) ++ clmE.cells x) → V2.grownBy V3 (f s).ownBlock → (v'.ownBlock = (f s).ownBlock ∨ v'.ownBlock = some V2.heap.size) →
        ∃ V4, (Instr.entryStore 94 (.map (some mb)) (goInt st) v').run Try.prog V3 = .ok () V4 ∧ Grp V4 mb (E ++ [(s, x)]) (fun s' => if s' = s then v' else f s') ∧ V3.grownBy V4 (some mb) := by
  obtain ⟨D, hI, hm, hat⟩ := G.map
  obtain ⟨d, h1, h2⟩ := hat s hs
  obtain ⟨st, V2, hrun, hg, hback⟩ := grp_entry hm law_slot Try.underlying94 zero_pairs hn (slot_of hs) h1 h2
  have own2 : ∀ s', clmOk s' = true → V2.ownsRow (mb + 1) 45 2 (f s') (grpL E s').length (clmE.all (grpL E s')) := fun s' hs' => (G.own s' hs').kept hg (ne_own (G.own s' hs') (by omega))
  have hlt2 : mb < V2.heap.size := Nat.lt_of_lt_of_le G.lt hg.size
  refine ⟨st, V2, hrun, hg, own2 s hs, fun V3 v' x ho3 hg3 hloc => ?_⟩
  have hmb : V3.heap[mb]? = V2.heap[mb]? := hg3.block mb hlt2 (fun e => by
    rcases ne_own (own2 s hs) (show mb < mb + 1 by omega) with h | h
    · rw [h] at e; cases e
    · exact h e.symm)
  obtain ⟨dv, hdv⟩ := hdR_own ho3
  obtain ⟨V4, hst, hm4, hg4⟩ := hback V3 v' dv hmb hdv
  refine ⟨V4, hst, ⟨⟨D.put (clmK s) dv, hI.put _ _, ?_, ?_⟩, ?_, ?_⟩, hg4⟩
  · rw [List.length_append]; exact hm4
  · intro s' hs'
    by_cases h : s' = s
    · subst h
      exact ⟨dv, by rw [if_pos rfl]; exact hdv, atKey_put_same hI (k := clmK s') trivial _ _⟩
    · obtain ⟨d', h3, h4⟩ := hat s' hs'
      exact ⟨d', by rw [if_neg h]; exact h3, by rw [atKey_put_other (fun e => h (clmK_inj hs' hs e)), h4]⟩
  · intro s' hs'
    by_cases h : s' = s
    · subst h
      rw [if_pos rfl, grpL_same, Elt.all_append, Elt.all_single, List.length_append]
      exact ho3.kept hg4 (ne_own ho3 (by omega))
    · rw [if_neg h, grpL_other E x h]
      have h5 := (own2 s' hs').kept hg3 (by
        cases hv : (f s').ownBlock with
        | none => exact .inl rfl
        | some g => exact .inr fun e => G.apart s' s hs' hs h g hv e.symm)
      exact h5.kept hg4 (ne_own h5 (by omega))
  · intro s' s'' hs' hs'' hne j hj
    by_cases h' : s' = s
    · subst h'
      rw [if_pos rfl] at hj
      rw [if_neg (fun e => hne e.symm)]
      rcases hloc with e | e
      · exact G.apart s' s'' hs' hs'' hne j (by rw [← e]; exact hj)
      · intro e2
        have := ((own2 s'' hs'').lt j e2).2
        rw [hj] at e; cases e; omega
    · rw [if_neg h'] at hj
      by_cases h'' : s'' = s
      · subst h''
        rw [if_pos rfl]
        rcases hloc with e | e
        · rw [e]; exact G.apart s' s'' hs' hs'' hne j hj
        · rw [e]; intro e2; cases e2
          have := ((own2 s' hs').lt _ hj).2
          omega
      · rw [if_neg h'']; exact G.apart s' s'' hs' hs'' hne j hj
end Go.Proofs.Ytgeoehokojijdaa
