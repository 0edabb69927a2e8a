/- A map of slices that the call made: an entry, and what is stored back. Over any program. -/
import Derived.Test.YtgeoehokojijdaaMixKey
import Derived.Test.YtgeoehokojijdaaApp
import Derived.WideKeyEntry
import Derived.Maps.OwnSet
namespace Go.Proofs.Ytgeoehokojijdaa
open Go.RowKit Go.Maps Go.WideElems Go.MapKept Go.WideShapes
open Go.ChangeMaps (setBlock heap_setBlock_same heap_setBlock_other)

/-- A slice's header, read as a datum: of no world. -/
def hdR : Value → Option (DataW Unit × List MemPlace)
  | .slice none 0 0 => some (.nil, [])
  | .slice (some ⟨g, 0, none⟩) n c => some (.agg [.lit (.int .i64 (g : Int)), .lit (.int .i64 (n : Int)), .lit (.int .i64 (c : Int))], [])
  | _ => none
theorem hdR_nil : hdR (.slice none 0 0) = some (.nil, []) := rfl
theorem hdR_some (g n c : Nat) : hdR (.slice (some ⟨g, 0, none⟩) n c) = some (.agg [.lit (.int .i64 (g : Int)), .lit (.int .i64 (n : Int)), .lit (.int .i64 (c : Int))], []) := rfl
theorem hdR_cases {v : Value} {z : DataW Unit × List MemPlace} (h : hdR v = some z) : (v = .slice none 0 0 ∧ z = (.nil, [])) ∨ ∃ g n c : Nat, v = .slice (some ⟨g, 0, none⟩) n c ∧ z = (.agg [.lit (.int .i64 (g : Int)), .lit (.int .i64 (n : Int)), .lit (.int .i64 (c : Int))], []) := by
  unfold hdR at h
  split at h
  · exact .inl ⟨rfl, (Option.some.inj h).symm⟩
  · exact .inr ⟨_, _, _, rfl, (Option.some.inj h).symm⟩
  · cases h
theorem hdR_inj {v v' : Value} {z z' : DataW Unit × List MemPlace} (h : hdR v = some z) (h' : hdR v' = some z') (he : z.1 = z'.1) : v = v' := by
  rcases hdR_cases h with ⟨rfl, rfl⟩ | ⟨g, n, c, rfl, rfl⟩ <;> rcases hdR_cases h' with ⟨rfl, rfl⟩ | ⟨g', n', c', rfl, rfl⟩
  · rfl
  · simp at he
  · simp at he
  · simp at he
    obtain ⟨h1, h2, h3⟩ := he
    have : g = g' := by omega
    have : n = n' := by omega
    have : c = c' := by omega
    subst_vars; rfl
theorem hdR_places {v : Value} {z : DataW Unit × List MemPlace} (h : hdR v = some z) : z.2 = [] := by
  rcases hdR_cases h with ⟨rfl, rfl⟩ | ⟨g, n, c, rfl, rfl⟩ <;> rfl
theorem hdR_own {w : World} {base e size n : Nat} {v : Value} {xs : List Value} (h : w.ownsRow base e size v n xs) : ∃ d, hdR v = some (d, []) := by
  obtain ⟨s, c, rfl, hs⟩ := owns_shape h
  rcases hs with ⟨rfl, rfl, rfl⟩ | ⟨g, rfl, _⟩
  · exact ⟨_, hdR_nil⟩
  · exact ⟨_, hdR_some g n c⟩
section
variable {P : Program} {t k e : TypeId} {w : World} {b n : Nat} {D : DataW Unit}
theorem grp_look (h : w.ownsMap P k hdR b n D) (K : Keyed P k) (ht : P.underlying t = some (.map k e)) (hz : (zeroValue e).run P w = .ok (.slice none 0 0) w) {key : Value} {kl : Lit} (hkey : keyOf P k key = some kl)
    {v : Value} {d : DataW Unit} (hv : hdR v = some (d, [])) (hd : D.atKey kl .nil = d) : (Instr.lookup t (.map (some b)) key false).run P w = .ok v w := by
  obtain ⟨v', ps, hrun, hv'⟩ := h.lookup K ht hz hdR_nil hkey
  rw [hdR_inj hv hv' hd.symm]
  exact hrun
theorem grp_entry (h : w.ownsMap P k hdR b n D) (K : WideMaps.KeyLaw P k) (ht : P.underlying t = some (.map k e)) (hz : ∀ u : World, (zeroValue e).run P u = .ok (.slice none 0 0) u) (hn : n < maxLen) {key : Value} {kl : Lit} (hkey : keyOf P k key = some kl)
    {v : Value} {d : DataW Unit} (hv : hdR v = some (d, [])) (hd : D.atKey kl .nil = d) :
    ∃ (st : Nat) (w1 : World), (Instr.mapEntry t (.map (some b)) key).run P w = .ok (.tuple #[v, goInt st]) w1 ∧ w.grownBy w1 (some b) ∧
      ∀ (w2 : World) (val : Value) (dv : DataW Unit), w2.heap[b]? = w1.heap[b]? → hdR val = some (dv, []) → ∃ w3, (Instr.entryStore t (.map (some b)) (goInt st) val).run P w2 = .ok () w3 ∧ w3.ownsMap P k hdR b (n + 1) (D.put kl dv) ∧ w2.grownBy w3 (some b) := by
  have KK : Keyed P k := Keyed.of_law K
  have h0 := h
  obtain ⟨es, clock, hb, F, hs, rfl⟩ := h
  obtain ⟨v0, st, es1, clock1, h1, h2, h3⟩ := entry_then_store K ht hz hb F hkey
  have hat := atKey_sorted (es.toList.map (rg P k hdR)) (fit_rising KK F) kl (KK.key hkey)
  have hv0 : v0 = v := by
    rcases h2 with ⟨e0, hm0, hk0, rfl⟩ | ⟨hno, rfl⟩
    · obtain ⟨y0, hy0⟩ := F.reads e0 hm0
      obtain ⟨zv, hzv, hdd⟩ := rd_val hy0
      have m0 := rd_key hy0
      rw [hk0, hkey] at m0
      have e1 := hat.2 (rg P k hdR e0) (List.mem_map.2 ⟨e0, hm0, rfl⟩) (by rw [rg_of hy0]; exact (Option.some.inj m0).symm) .nil
      refine hdR_inj hzv hv ?_
      rw [← hd, e1, rg_of hy0, hdd]
    · refine hdR_inj hdR_nil hv ?_
      rw [← hd]
      refine (hat.1 (fun p hp e1 => ?_) .nil).symm
      obtain ⟨x, hx, rfl⟩ := List.mem_map.1 hp
      obtain ⟨y, hy⟩ := F.reads x hx
      have m1 := rd_key hy
      rw [rg_of hy] at e1
      rw [e1] at m1
      exact hno x hx (KK.inj m1 hkey)
  subst hv0
  refine ⟨st, _, h1, ⟨rfl, rfl, rfl, by simp [setBlock], fun i _ hi => heap_setBlock_other hb _ (fun e => hi (by rw [e]))⟩, fun w2 val dv hw2 hval => ?_⟩
  rw [heap_setBlock_same hb] at hw2
  obtain ⟨es', clock', hst, hup⟩ := h3 w2 val hw2
  obtain ⟨w', hrun, ⟨es2, clock2, hb2, F2, hs2, hD2⟩, _⟩ := h0.update KK ht hn hkey hval
  rw [hup] at hrun
  obtain rfl : setBlock w b (.map es' clock') = w' := by simpa using hrun
  rw [heap_setBlock_same hb] at hb2
  obtain ⟨rfl, rfl⟩ : es' = es2 ∧ clock' = clock2 := by simpa using hb2
  exact ⟨_, hst, ⟨es', clock', heap_setBlock_same hw2 _, F2, hs2, hD2⟩, ⟨rfl, rfl, rfl, by simp [setBlock], fun i _ hi => heap_setBlock_other hw2 _ (fun e => hi (by rw [e]))⟩⟩
theorem wpList_entryStore {ops : Array Oper} {rest : List Oper} {o : Oper} {a : Act} {Q : Exit → Act → World → Prop} (hg : o.guard = none) (m s x : Operand) (t : TypeId) (hop : o.op = Op.entryStore t m s x)
    {M S X : Value} (hm : a.eval m = M) (hs : a.eval s = S) (hx : a.eval x = X) {w' : World} (hrun : (Instr.entryStore t M S X).run P w = .ok () w') (hK : wpList P ops Q rest (a.put o.dst undef) w') : wpList P ops Q (o :: rest) a w := by
  refine wpList_plain hg fun K' hK' => ?_
  unfold Oper.wp
  simp [execOp, hop, hm, hs, hx, hrun, Result.andThen]
  exact hK' _ _ hK
theorem wpList_mapEntry {ops : Array Oper} {rest : List Oper} {o : Oper} {a : Act} {Q : Exit → Act → World → Prop} (hg : o.guard = none) (m x : Operand) (t : TypeId) (hop : o.op = Op.mapEntry t m x)
    {M X V : Value} (hm : a.eval m = M) (hx : a.eval x = X) {w' : World} (hrun : (Instr.mapEntry t M X).run P w = .ok V w') (hK : wpList P ops Q rest (a.put o.dst V) w') : wpList P ops Q (o :: rest) a w := by
  refine wpList_plain hg fun K' hK' => ?_
  unfold Oper.wp
  simp [execOp, hop, hm, hx, hrun, Result.andThen]
  exact hK' _ _ hK
end
end Go.Proofs.Ytgeoehokojijdaa
