/- Several texts in one: each says what it proves. -/
import Derived.Test.YtakbpjgnjfigcaaGreatB1
import Derived.Test.YtakbpjgnjfigcaaGreatFndLaw
import Derived.Test.YtakbpjgnjfigcaaGreatLastIn
import Derived.Test.YtakbpjgnjfigcaaGreatB12
import Derived.Test.YtakbpjgnjfigcaaGreatUses
import Derived.Test.YtakbpjgnjfigcaaGreatB7
import Derived.Test.YtakbpjgnjfigcaaGreatB3
/- A range over an iterator that hands out the elements of a list in order, and makes nothing; each round knows how far it has come. Over any program. -/
namespace Go.Proofs.YtakbpjgnjfigcaaGreat
open Go.RowKit

/-- The iterator hands its rounds the elements xs, in order; a round must leave the blocks of S as they are. -/
def SeqP {α : Type} (P : Program) (gf : Nat) (lb : Array Value) (encs : α → Array Value) (S : Nat → Prop) (xs : List α) (w : World) : Prop :=
  ∀ (l : Nat) (J : List α → World → Prop) (W : World), Below w.heap.size w W →
    (∀ pre x W1, J pre W1 → pre ++ [x] <+: xs → YieldAt Fence.wide 4 P l (encs x) W1 fun e W' =>
      e = .returned (.bool true) ∧ J (pre ++ [x]) W' ∧ KeepUp S W1 W') →
    J [] W →
    CallsIn Fence.wide 5 P gf (#[.func (.yield l) #[] #[]] ++ lb) W fun e W' => (∃ v, e = .returned v) ∧ J xs W'

/-- How a round's body is left. -/
def postP {α : Type} (n : Nat) (S : Nat → Prop) (I : List α → World → Prop) (xs : List α) (W : World) : Exit → Act → World → Prop
  | .normal, _, W' => KeepsFrom n W W' ∧ KeepUp S W W' ∧ I xs W'
  | _, _, _ => False

theorem wp_rangeP {α : Type} {P : Program} {g : Operand} {ps : Array Tmp} {assign body : Code} {Q : Exit → Act → World → Prop} {a : Act} {w : World}
    {gf : Nat} {lb : Array Value} (hg : a.eval g = .func (.func gf) #[] lb) (eg : ∀ args w, (callFunc gf args).run P w = .ok (.enter gf args) w)
    {encs : α → Array Value} {S : Nat → Prop} {xs : List α} (hS : ∀ k, S k → k < w.heap.size) (hseq : SeqP P gf lb encs S xs w) (hps : ∀ x, (encs x).size = ps.size)
    (I : List α → World → Prop) (hI : ∀ s W W', I s W → CellsUp w.heap.size W W' → I s W') (hsz : ∀ s W, I s W → w.heap.size ≤ W.heap.size) (h0 : I [] w) (a₁ : α → Act)
    (hassign : ∀ (l : Nat) (x : α) (W : World) (K : Act → World → Prop), K (a₁ x) W →
      assign.wpIn (Fence.wide.inRound l) 4 P (Exit.then K (fun _ _ _ => False)) { tmps := (ps.zip (encs x)).foldl (fun t (p, v) => t.setIfInBounds p v) a.tmps, defers := [] } W)
    (hbody : ∀ (l : Nat) (pre : List α) (x : α) (W : World), I pre W → pre ++ [x] <+: xs → body.wpIn (Fence.wide.inRound l) 4 P (postP w.heap.size S I (pre ++ [x]) W) (a₁ x) W)
    (hdone : ∀ (D : Nat) (W : World), w.heap.size ≤ D → I xs W → W.heap[D]? = some (.deferred (some [])) → Q .normal { a with defers := { target := .collected D, args := #[] } :: a.defers } W) :
    (Code.rangeFunc g ps assign body).wp P Q a w := by
  refine (wpIn_wide (n := 6)).1 ?_
  refine wpIn_rangeFunc ?_
  intro fn hfn
  rw [show Fence.wide.round = none from rfl]
  obtain ⟨rec, hrec⟩ : ∃ rec : LoopState → Option Code → Loop, rec = fun st pe => { state := st, pending := pe, fn, tmps := a.tmps, params := ps, assign, body, defers := w.heap.size } := ⟨_, rfl⟩
  obtain ⟨W1, hW1⟩ : ∃ W1, (w.alloc (.deferred (some []))).alloc (.loop (rec .ready none)) = W1 := ⟨_, rfl⟩
  have hs1 : W1.heap.size = w.heap.size + 2 := by rw [← hW1]; simp
  have hL1 : W1.heap[w.heap.size + 1]? = some (.loop (rec .ready none)) := by
    rw [← hW1]; have := World.alloc_heap_new (w.alloc (.deferred (some []))) (.loop (rec .ready none)); rwa [World.size_alloc] at this
  have hK1 : W1.heap[w.heap.size]? = some (.deferred (some [])) := by
    rw [← hW1]; exact (Below.heap_alloc _ _ _ (by simp)).trans (World.alloc_heap_new w _)
  have hb1 : Below w.heap.size w W1 := by
    rw [← hW1]; exact ((Below.refl _ w).alloc (Nat.le_refl _) _).alloc (by simp) _
  have hI1 : I [] W1 := by
    rw [← hW1]
    refine hI _ _ _ (hI _ _ _ h0 (CellsUp.of_grownBy (World.grownBy_alloc _ _ none) (Nat.le_refl _) (fun r e => by cases e))) (CellsUp.of_grownBy (World.grownBy_alloc _ _ none) (by simp) (fun r e => by cases e))
  refine ⟨w.heap.size + 1, [{ target := .collected w.heap.size, args := #[] }], W1, { target := .fn (.func gf) lb, args := #[.func (.yield (w.heap.size + 1)) #[] #[]] }, W1, gf,
    #[.func (.yield (w.heap.size + 1)) #[] #[]] ++ lb, W1, ?_, ?_, ?_, ?_, fun _ => by omega, ?_⟩
  · rw [← hW1, hrec]; exact run_enterLoop_outer _ _ _ _ _
  · simp only [resolve, hg]
    simp [go_sem]
  · intro f' hf'; trivial
  · simp [invoke, go_sem, eg]
  · refine (hseq (w.heap.size + 1)
      (fun pre W => I pre W ∧ W.heap[w.heap.size + 1]? = some (.loop (rec .ready none)) ∧ W.heap[w.heap.size]? = some (.deferred (some [])))
      W1 hb1 ?_ ⟨hI1, hL1, hK1⟩).mono ?_
    · rintro pre x W ⟨hi, hl, hk⟩ hpre
      have hlt : w.heap.size + 1 < W.heap.size := (Array.getElem?_eq_some_iff.1 hl).1
      have hy := run_yield (P := P) (args := encs x) hl (by rw [hrec]; exact hps x)
      rw [hrec] at hy
      refine ⟨fn, _, assign, body, hy, roundIn_of_wpIn hfn ?_⟩
      have ha := hassign (w.heap.size + 1) x W (fun a₁ w₁ => ∃ w₂, (Instr.beginRound (w.heap.size + 1)).run P w₁ = .ok () w₂ ∧ body.wpIn (Fence.wide.inRound (w.heap.size + 1)) 4 P (roundPost P (w.heap.size + 1) fun e W' =>
        e = .returned (.bool true) ∧ (I (pre ++ [x]) W' ∧ W'.heap[w.heap.size + 1]? = some (.loop (rec .ready none)) ∧ W'.heap[w.heap.size]? = some (.deferred (some []))) ∧ KeepUp S W W') a₁ w₂) ?_
      · exact ha
      clear hy
      refine ⟨_, run_beginRound hl (by rw [hrec]), ?_⟩
      have hl2 : (W.putObj (w.heap.size + 1) (.loop { rec .ready none with state := .busy })).heap[w.heap.size + 1]? = some (.loop { rec .ready none with state := .busy }) := World.putObj_heap_same hlt
      have hk2 : (W.putObj (w.heap.size + 1) (.loop { rec .ready none with state := .busy })).heap[w.heap.size]? = some (.deferred (some [])) := (World.putObj_heap_other (by omega)).trans hk
      have hi2 : I pre (W.putObj (w.heap.size + 1) (.loop { rec .ready none with state := .busy })) := hI _ _ _ hi (CellsUp.of_grownBy (grownBy_putObj' _ _ _) (by omega) (fun r e => by cases e; exact ⟨by omega, _, hl, rfl⟩))
      have hks : KeepUp S W (W.putObj (w.heap.size + 1) (.loop { rec .ready none with state := .busy })) := KeepUp.grown (grownBy_putObj' _ _ _) (fun k hk => by have := hS k hk; omega) (fun k hk e => by have := hS k hk; cases e; omega)
      obtain ⟨W2, hW2⟩ : ∃ W2, W.putObj (w.heap.size + 1) (.loop { rec .ready none with state := .busy }) = W2 := ⟨_, rfl⟩
      rw [hW2] at hl2 hk2 hi2 hks ⊢
      refine wpIn_mono (hbody _ pre x _ hi2 hpre) ?_
      rintro e a3 W3 hp
      cases e with
      | normal =>
        obtain ⟨hk3, hku, hi3⟩ := hp
        have hl3 := hk3.same _ _ (by omega) hl2 rfl
        have h1 := run_endRound (P := P) none hl3
        have hs3 := hsz _ _ hi3
        refine ⟨_, _, h1, rfl, ⟨hI _ _ _ hi3 (CellsUp.of_grownBy (grownBy_putObj' _ _ _) hs3 (fun r e => by cases e; exact ⟨by omega, _, hl3, rfl⟩)), ?_, ?_⟩, hks.trans (hku.trans (KeepUp.grown (grownBy_putObj' _ _ _) (fun k hk => by have := hS k hk; omega) (fun k hk e => by have := hS k hk; cases e; omega)))⟩
        · rw [hrec]; exact World.putObj_heap_same (Array.getElem?_eq_some_iff.1 hl3).1
        · exact (World.putObj_heap_other (by omega)).trans (hk3.same _ _ (Nat.le_refl _) hk2 rfl)
      | ret => exact hp.elim
      | exit id => exact hp.elim
      | goto tt => exact hp.elim
      | panic ch => exact hp.elim
      | outgrown => exact hp.elim
    · rintro e W2 ⟨⟨v, rfl⟩, hi, hl, hk⟩
      exact ⟨none, _, by have := run_endLoop (P := P) hl (by rw [hrec]; simp); rw [hrec] at this; exact this,
          hdone _ _ (Nat.le_refl _) (hI _ _ _ hi (CellsUp.of_grownBy (grownBy_putObj' _ _ _) (hsz _ _ hi) (fun r e => by cases e; exact ⟨by omega, _, hl, rfl⟩))) ((World.putObj_heap_other (by omega)).trans hk)⟩
end Go.Proofs.YtakbpjgnjfigcaaGreat

/- slices.Backward over numbers. -/
namespace Go.Proofs.YtakbpjgnjfigcaaGreat
open Go.RowKit Go.Maps

attribute [local go_sem] Oper.semAt_some

def encK (x : Nat × Int) : Array Value := #[.int .i64 x.1, .int .i64 x.2]
def bkI (ss : List Int) : List (Nat × Int) := ((List.range ss.length).map fun i => (i, ss.getD i 0)).reverse
theorem bkI_len (ss : List Int) : (bkI ss).length = ss.length := by simp [bkI]
theorem bkI_at {ss : List Int} {m : Nat} (hm : m < ss.length) : (bkI ss)[ss.length - 1 - m]'(by rw [bkI_len]; omega) = (m, ss[m]) := by
  unfold bkI
  rw [List.getElem_reverse]
  simp only [List.length_map, List.length_range, List.getElem_map, List.getElem_range]
  have e : ss.length - 1 - (ss.length - 1 - m) = m := by omega
  rw [e, List.getD_eq_getElem?_getD, List.getElem?_eq_getElem hm]; rfl
theorem bkI_take {ss : List Int} {m : Nat} (hm : m < ss.length) : (bkI ss).take (ss.length - m) = (bkI ss).take (ss.length - (m + 1)) ++ [(m, ss[m])] := by
  have h := List.take_succ_eq_append_getElem (l := bkI ss) (i := ss.length - (m + 1)) (by rw [bkI_len]; omega)
  have e : ss.length - (m + 1) + 1 = ss.length - m := by omega
  rw [e] at h
  rw [h]
  have e2 : ss.length - (m + 1) = ss.length - 1 - m := by omega
  have h3 := bkI_at hm
  simp only [e2, h3]
set_option maxRecDepth 100000 in
set_option maxHeartbeats 1000000 in
theorem backI_iter (b : Nat) (s : Option Addr) (cap : Nat) (ss : List Int) (w : World) (hc : w.cell? ⟨b, 0, none⟩ = some (.slice s ss.length cap)) (hs : SlS intE w s ss) (hl : ss.length ≤ 5000) (S : Nat → Prop) (hS : ∀ k, S k → k < w.heap.size) (hb : S b) (hsb : ss ≠ [] → ∀ k o, s = some ⟨k, o, none⟩ → S k) :
    SeqP Tryz.prog 120 #[.pointer (some ⟨b, 0, none⟩)] encK S (bkI ss) w := by
  intro l J W hW hY h0
  have hK0 : KeepUp S w W := KeepUp.of_below hW hS
  have hsl : ∀ A, KeepUp S w A → SlS intE A s ss := fun A h => by
    by_cases h0 : ss = []
    · exact .inl h0
    rcases hs with c | ⟨b, off, e, hb, c⟩
    · exact .inl c
    · refine .inr ⟨b, off, e, Nat.lt_of_lt_of_le hb h.size, fun j u hj => ?_⟩
      rw [World.cell?_of_block (a := ⟨b, off + j, none⟩) (h.same b (hsb h0 b off e))]
      exact c j u hj
  have htk := fun (m : Nat) hm => bkI_take (ss := ss) (m := m) hm
  have hta : (bkI ss).take (ss.length - 0) = bkI ss := by rw [Nat.sub_zero, ← bkI_len ss, List.take_length]
  have ht0 : (bkI ss).take (ss.length - ss.length) = [] := by rw [Nat.sub_self]; rfl
  rw [← ht0] at h0
  have hpre := fun n => List.take_prefix n (bkI ss)
  obtain ⟨BK, hBK⟩ : ∃ x, bkI ss = x := ⟨_, rfl⟩
  rw [hBK] at hta ht0 h0 hY ⊢
  simp only [hBK] at htk hpre
  have e0 := hK0.cell hb hc
  have w1 : IntKind.i64.wrap ((ss.length : Int) - 1) = (ss.length : Int) - 1 := i64_small (by omega)
  replace hsl := Lib.hid hsl; replace hY := Lib.hid hY; replace htk := Lib.hid htk; replace hta := Lib.hid hta; replace ht0 := Lib.hid ht0; replace hpre := Lib.hid hpre; replace hBK := Lib.hid hBK; replace h0 := Lib.hid h0
  refine callsIn_of_wp Tryz.func120 rfl trivial ?_ rfl
  simp only [Tryz.ntmps120, List.size_toArray, List.length_cons, List.length_nil, Nat.reduceAdd, Nat.reduceSub, Array.replicate_succ, Array.replicate_zero, List.push_toArray, List.append_toArray, List.nil_append, List.cons_append]
  gi_wp2
  gi_loopw [3] (fun i wr => ∃ n : Nat, n ≤ ss.length ∧ i = .int .i64 ((n : Int) - 1) ∧ J (BK.take (ss.length - n)) wr ∧ KeepUp S w wr) (fun i _ => (intOf i + 1).toNat)
  case atStart => exact ⟨ss.length, Nat.le_refl _, rfl, h0.out, hK0⟩
  case round =>
    clear e0 h0
    obtain ⟨n, hn, rfl, hj, hR⟩ := hrel
    have e0 := hR.cell hb hc
    by_cases hn0 : n = 0
    · subst hn0
      rw [hta.out] at hj
      gi_wp2
      go_end0
      exact ⟨⟨_, rfl⟩, hj⟩
    · obtain ⟨m, rfl⟩ : ∃ m, n = m + 1 := ⟨n - 1, by omega⟩
      have hm : m < ss.length := by omega
      obtain ⟨bh, oh, e, hbh, q0⟩ := (hsl.out _ hR).int_at hm
      have ht := htk.out m hm
      have hp := hpre.out (ss.length - m)
      obtain ⟨x, hx⟩ : ∃ x, ss[m] = x := ⟨_, rfl⟩
      rw [hx] at q0 ht
      rw [ht] at hp
      obtain ⟨fn, tmps, assign, body, hy, hRd⟩ := hY.out _ (m, x) wr hj hp
      dsimp only [encK] at hy
      have c1 : ((m + 1 : Nat) : Int) - 1 = (m : Int) := by omega
      have i1 : (0 : Int) ≤ (m : Int) := by omega
      have i2 : (m : Int) < (ss.length : Int) := by omega
      have w2 : IntKind.i64.wrap ((m : Int) - 1) = (m : Int) - 1 := i64_small (by omega)
      replace hx := Lib.hid hx; replace ht := Lib.hid ht; replace hp := Lib.hid hp
      subst e
      clear hj
      rw [c1]
      gi_wp2
      refine hRd.mono ?_
      rintro e Z ⟨rfl, hjZ, hkZ⟩
      rw [← ht.out] at hjZ
      replace hjZ := Lib.hid hjZ
      gi_wp2
      go_roundw
      case rel => exact ⟨m, by omega, rfl, hjZ.out, hR.trans hkZ⟩
      case measure => simp [intOf] <;> omega
set_option maxRecDepth 100000 in
theorem backI_c (s : Option Addr) (n cap : Nat) (w : World) :
    Calls Tryz.prog 83 #[.slice s n cap] w fun e w' => e = .returned (.func (.func 120) #[] #[.pointer (some ⟨w.heap.size, 0, none⟩)]) ∧ w' = w.alloc (.cells #[.slice s n cap] 31) := by
  go_enter Tryz.func83, Tryz.ntmps83
  go_wp2
  go_ret
  exact ⟨rfl, rfl⟩
theorem bkI_next {ss : List Int} {pre : List (Nat × Int)} {x : Nat × Int} (h : pre ++ [x] <+: bkI ss) : ∃ m, ∃ (hm : m < ss.length), pre.length = ss.length - (m + 1) ∧ x = (m, ss[m]) := by
  have hl := h.length_le
  rw [List.length_append, bkI_len] at hl
  simp only [List.length_cons, List.length_nil] at hl
  have hm : ss.length - (pre.length + 1) < ss.length := by omega
  refine ⟨ss.length - (pre.length + 1), hm, by omega, ?_⟩
  have h1 := bkI_at hm
  obtain ⟨t, ht⟩ := h
  have h2 : (bkI ss)[pre.length]? = some x := by rw [← ht]; simp
  have e : ss.length - 1 - (ss.length - (pre.length + 1)) = pre.length := by omega
  simp only [e] at h1
  rw [List.getElem?_eq_getElem (by rw [bkI_len]; omega), h1] at h2
  exact (Option.some.inj h2).symm
end Go.Proofs.YtakbpjgnjfigcaaGreat

/- The elements with numbers, the last one first: the program. -/
namespace Go.Proofs.YtakbpjgnjfigcaaGreat
open Go.RowKit Go.Maps

attribute [local go_sem] Oper.semAt_some

/-- What the rounds turn. -/
structure ElM (w : World) (g : Nat) (V : World) (o : Value) (R : List Ar) : Prop where
  be : Below w.heap.size w V
  b0 : Row V w.heap.size 71 #[.pointer (some ⟨g, 0, none⟩)]
  b1 : Row V (w.heap.size + 1) 28 #[o]
  ow : V.ownsRow (w.heap.size + 3) 90 4 o R.length (arE.all R)
  sz : w.heap.size + 3 ≤ V.heap.size
section
variable {w : World} {g : Nat} {V V' : World} {o : Value} {R : List Ar}
theorem ElM.cellsUp (h : ElM w g V o R) {n : Nat} (hn : w.heap.size ≤ n) (hu : CellsUp n V V') : ElM w g V' o R :=
  ⟨h.be.trans (hu.below.mono hn), hu.cells _ _ _ _ h.b0, hu.cells _ _ _ _ h.b1, hu.owns h.ow, Nat.le_trans h.sz hu.below.size⟩
theorem ElM.up (hb : Below V.heap.size V V') (h : ElM w g V o R) : ElM w g V' o R :=
  ⟨h.be.trans (hb.mono h.be.size), up_of hb h.b0, up_of hb h.b1, up_of hb h.ow, Nat.le_trans h.sz hb.size⟩
instance : UpF V V' (ElM w g V o R) (ElM w g V' o R) := ⟨fun h c => ElM.up h c⟩
end
theorem back_el {P : List Pt} {ks : List Nat} {m j : Nat} (hm : m < ks.length) (hj : j = ks.length - (m + 1)) : (ks.reverse.map (elOf P)).take (j + 1) = (ks.reverse.map (elOf P)).take j ++ [elOf P ks[m]] := by
  have hl : j < (ks.reverse.map (elOf P)).length := by simp; omega
  rw [List.take_succ_eq_append_getElem hl, List.getElem_map, List.getElem_reverse]
  congr 4
  omega
section
variable {g : Nat} {n : Int} {s : Option Addr} {cap : Nat} {l : List Iq} {s2 : Option Addr} {cq : Nat} {K : List Vv} {sp : Option Addr} {cp mb : Nat} {P : List Pt}
set_option maxRecDepth 100000 in
set_option maxHeartbeats 2000000 in
theorem nelements_c (sl : Option Addr) (cl : Nat) (ks : List Nat) (w : World) (h : Net 126 w g n s cap l s2 cq K sp cp mb P) (ok : NetOk n K P) (hs : SlS intE w sl (toI ks)) (hlt : ∀ k ∈ ks, k < K.length * P.length) (hl : ks.length ≤ 5000) :
    Calls Tryz.prog 38 #[.pointer (some ⟨g, 0, none⟩), .slice sl ks.length cl] w fun e w' => (∃ so co, e = .returned (.slice so ks.length co) ∧ SlS arE w' so (ks.reverse.map (elOf P))) ∧ Below w.heap.size w w' := by
  have hel := fun k (hk : k < K.length * P.length) V (h : Net 126 V g n s cap l s2 cq K sp cp mb P) => (element_cs k V h ok hk).mono (R' := fun e w' => e = .returned (.agg #[.int .i64 (elOf P k).v, .int .i64 (elOf P k).p.x, .int .i64 (elOf P k).p.y, .int .i64 (elOf P k).p.z]) ∧ Below V.heap.size V w') (fun e w' ⟨h1, h2, _⟩ => ⟨h1, h2⟩)
  have hbk := fun m j (hm : m < ks.length) (hj : j = ks.length - (m + 1)) => back_el (P := P) hm hj
  obtain ⟨RR, hRR⟩ : ∃ x, ks.reverse.map (elOf P) = x := ⟨_, rfl⟩
  have hRl : RR.length = ks.length := by rw [← hRR]; simp
  simp only [hRR] at hbk ⊢
  have hkl : (toI ks).length = ks.length := toI_len ks
  clear ok hRR
  obtain ⟨i0, hi0, hz0, hz1, hz2⟩ := info_parts info_elm
  replace hel := Lib.hid hel; replace hbk := Lib.hid hbk; replace hRl := Lib.hid hRl; replace hlt := Lib.hid hlt; replace hkl := Lib.hid hkl
  refine calls_of_wp_marks Tryz.func38 rfl ?_
  simp only [Tryz.ntmps38, List.size_toArray, List.length_cons, List.length_nil, Nat.reduceAdd, Nat.reduceSub, Array.replicate_succ, Array.replicate_zero, List.push_toArray, List.append_toArray, List.nil_append, List.cons_append]
  go_upto_region 2 with (fail)
  refine wp_world fun X HX => ?_
  have hX : Below w.heap.size w X := by
    rw [HX.out]
    repeat (first | (with_reducible exact Below.refl _ _) | (with_reducible refine Below.drew ?_) | ((with_reducible refine Below.setC ?_ ?_); (focus (first | omega | (simp; done) | (simp; omega)))) | ((with_reducible refine Below.allo ?_ ?_); (focus (first | omega | (simp; done) | (simp; omega)))))
  have hXs : X.heap.size = w.heap.size + 2 := by rw [HX.out]; simp
  have x0 : Row X w.heap.size 71 #[.pointer (some ⟨g, 0, none⟩)] := by
    rw [HX.out]
    refine Row.of ?_
    repeat (first | (with_reducible refine RowG.new ?_) | (with_reducible refine RowG.drew ?_) | (with_reducible refine RowG.set ?_) | ((with_reducible refine RowG.other ?_ ?_); (focus (first | omega | (simp; done) | (simp; omega)))) | ((with_reducible refine RowG.new' ?_ ?_); (focus (first | omega | (simp; done) | (simp; omega)))) | (with_reducible refine RowG.alloc ?_))
    rfl
  have x1 : Row X (w.heap.size + 1) 28 #[.slice none 0 0] := by
    rw [HX.out]
    refine Row.of ?_
    repeat (first | (with_reducible refine RowG.new ?_) | (with_reducible refine RowG.drew ?_) | (with_reducible refine RowG.set ?_) | ((with_reducible refine RowG.other ?_ ?_); (focus (first | omega | (simp; done) | (simp; omega)))) | ((with_reducible refine RowG.new' ?_ ?_); (focus (first | omega | (simp; done) | (simp; omega)))) | (with_reducible refine RowG.alloc ?_))
    rfl
  clear HX
  have hback := Lib.hid (backI_c sl ks.length cl X)
  have bV : Below X.heap.size X (X.alloc (.cells #[.slice sl ks.length cl] 31)) := (Below.refl _ X).alloc (Nat.le_refl _) _
  have hVs : (X.alloc (.cells #[.slice sl ks.length cl] 31)).heap.size = w.heap.size + 3 := by simp; omega
  have v4 : (X.alloc (.cells #[.slice sl ks.length cl] 31)).cell? ⟨w.heap.size + 2, 0, none⟩ = some (.slice sl ks.length cl) := by rw [← hXs]; simp [go_sem]
  have hE : ElM w g (X.alloc (.cells #[.slice sl ks.length cl] 31)) (.slice none 0 0) [] :=
    ⟨hX.trans (bV.mono (by omega)), Up.block bV x0, Up.block bV x1, World.ownsRow_nil _ _ _ _, by omega⟩
  have hXV := hX.trans (bV.mono (by omega))
  obtain ⟨V, hV⟩ : ∃ V, X.alloc (.cells #[.slice sl ks.length cl] 31) = V := ⟨_, rfl⟩
  rw [hV] at hVs v4 hE hXV
  rw [hV] at hback
  have hsV := hs.up hXV
  have hv5 : V.cell? ⟨w.heap.size + 2, 0, none⟩ = some (.slice sl (toI ks).length cl) := by rw [hkl.out]; exact v4
  have hsb : toI ks ≠ [] → ∀ k o, sl = some ⟨k, o, none⟩ → k < w.heap.size ∨ k = w.heap.size + 2 := fun hne k o e => by
    rcases hs with hs | ⟨b, off, e', hb, -⟩
    · exact absurd hs hne
    · rw [e'] at e; cases e; exact .inl hb
  have hseq := backI_iter (w.heap.size + 2) sl cl (toI ks) V hv5 hsV (by rw [hkl.out]; exact hl) (fun k => k < w.heap.size ∨ k = w.heap.size + 2) (fun k hk => by omega) (.inr rfl) hsb
  have hVw := hXV.size
  have hSk : ∀ k, (k < w.heap.size ∨ k = w.heap.size + 2) → k < V.heap.size := fun k hk => by omega
  rw [← hXs] at hseq
  replace hE := Lib.hid hE
  clear x0 x1 bV v4 hV hv5 hsV hX hXV hsb
  have h0 := Lib.hid h
  have hbe := hE.out.be
  go_wp2_with (go_at_call 83; refine hback.out.mono ?_; rintro e V' ⟨rfl, rfl⟩)
  rw [hXs] at hseq
  clear hback h
  refine' wp_rangeP rfl (fun _ _ => by simp [go_sem]) (S := fun k => k < w.heap.size ∨ k = w.heap.size + 2) hSk hseq (fun _ => rfl) (fun pre W => ∃ o, ElM w g W o (RR.take pre.length)) ?hI (fun pre W hp => by obtain ⟨o, hp⟩ := hp; have := hp.sz; omega) ⟨_, hE.out⟩ _ ?assign ?body ?done
  case hI =>
    rintro pre A B ⟨o, hp⟩ hu
    rw [hVs] at hu
    exact ⟨o, hp.cellsUp (by omega) hu⟩
  case assign =>
    intro l x W K hK
    simp only [encK, List.zip_toArray, List.zip_cons_cons, List.zip_nil_right, List.foldl_toArray, List.foldl_cons, List.foldl_nil, List.setIfInBounds_toArray, List.set_cons_zero, List.set_cons_succ]
    gi_wp2
    exact hK
  case body =>
    rintro l pre x W ⟨o, hE⟩ hpre
    obtain ⟨m, hm, hk, rfl⟩ := bkI_next hpre
    have hmk : m < ks.length := by rw [hkl.out] at hm; exact hm
    have hx : (toI ks)[m] = ((ks[m] : Nat) : Int) := toI_at hm hmk
    have hkj : pre.length = ks.length - (m + 1) := by rw [hk, hkl.out]
    have hnext := hbk.out m pre.length hmk hkj
    have hel2 := fun V h => hel.out ks[m] (hlt.out _ (List.getElem_mem hmk)) V h
    simp only [hx]
    obtain ⟨k, hkk⟩ : ∃ x, ks[m] = x := ⟨_, rfl⟩
    rw [hkk] at hnext
    simp only [hkk] at hel2 ⊢
    have hpl : (pre ++ [(m, (k : Int))]).length = pre.length + 1 := by simp
    obtain ⟨⟨ev, ⟨ex, ey, ez⟩⟩, hee⟩ : ∃ y, elOf P k = y := ⟨_, rfl⟩
    rw [hee] at hnext
    simp only [hee] at hel2
    have hnt := up_of hE.be h0.out
    have hRk : (RR.take pre.length).length ≤ 5000 := by rw [List.length_take]; have := hRl.out; omega
    obtain ⟨R, hR⟩ : ∃ x, RR.take pre.length = x := ⟨_, rfl⟩
    rw [hR] at hE hRk hnext
    have hown := hE.ow
    have hvb : ∀ j, o.ownBlock = some j → w.heap.size + 3 ≤ j ∧ j < W.heap.size := fun j e => hown.lt j e
    have b0B := hE.b0
    have b1B := hE.b1
    have b0 : W.cell? ⟨w.heap.size, 0, none⟩ = some (.pointer (some ⟨g, 0, none⟩)) := hE.b0.cell rfl
    have c0 : W.cell? ⟨w.heap.size + 1, 0, none⟩ = some o := hE.b1.cell rfl
    have hWs := hE.sz
    have hbe2 := hE.be
    replace hnext := Lib.hid hnext; replace hel2 := Lib.hid hel2; replace hpl := Lib.hid hpl; replace hee := Lib.hid hee; replace hkk := Lib.hid hkk; replace hR := Lib.hid hR; replace hk := Lib.hid hk; replace hkj := Lib.hid hkj; replace hx := Lib.hid hx; replace hE := Lib.hid hE; replace hpre := Lib.hid hpre; replace hvb := Lib.hid hvb; replace hbe2 := Lib.hid hbe2
    gi_upto_region 4 with (fail)
    refine wpL.regionIn (m := 6) (S := fun V => V.cell? ⟨w.heap.size + 1, 0, none⟩ = some o ∧ V.cell? ⟨w.heap.size, 0, none⟩ = some (.pointer (some ⟨g, 0, none⟩))) (by kernel_rfl) (by kernel_rfl) ?_ (fun hHeld => ?_)
    (focus ((first | exact ⟨c0, b0⟩ | ((first | (with_reducible exact ⟨c0, b0⟩) | ((try dsimp only); (repeat' apply And.intro) <;> (repeat (first | (with_reducible assumption) | (with_reducible refine cell_set (by simp; try omega) ?_) | (with_reducible refine cell_drew ?_) | (with_reducible refine cell_alloc ?_ _))))))); done))
    refine wpL.take' (i := 0) rfl (by kernel_rfl) (by kernel_rfl) (by kernel_rfl) (by kernel_rfl) (by decide) (by kernel_rfl) (by assumption) ?_
    apply Exists.intro; refine ⟨fun _ _ _ h => (by cases h.1), ?_, ?_⟩
    (focus (first | (refine Or.inl ⟨by rfl, fun V hV => ?_⟩; ((try dsimp only at hV); go_simp; (try (with_reducible rfl)); done)) | exact Or.inr ⟨by rfl, rfl⟩))
    try simp only [Act.put, List.setIfInBounds_toArray, List.set_cons_zero, List.set_cons_succ]
    refine wpL.take' (i := 1) rfl (by kernel_rfl) (by kernel_rfl) (by kernel_rfl) (by kernel_rfl) (by decide) (by kernel_rfl) (by assumption) ?_
    apply Exists.intro; refine ⟨fun _ _ _ h => (by cases h.1), ?_, ?_⟩
    (focus (first | (refine Or.inl ⟨by rfl, fun V hV => ?_⟩; ((try dsimp only at hV); go_simp; (try (with_reducible rfl)); done)) | exact Or.inr ⟨by rfl, rfl⟩))
    try simp only [Act.put, List.setIfInBounds_toArray, List.set_cons_zero, List.set_cons_succ]
    refine wpL.take' (i := 2) rfl (by kernel_rfl) (by kernel_rfl) (by kernel_rfl) (by kernel_rfl) (by decide) (by kernel_rfl) (by assumption) ?_
    apply Exists.intro; refine ⟨fun _ _ _ h => (by cases h.1), ?_, ?_⟩
    (focus (first | (refine Or.inl ⟨by rfl, fun V hV => ?_⟩; ((try dsimp only at hV); go_simp; (try (with_reducible rfl)); done)) | exact Or.inr ⟨by rfl, rfl⟩))
    try simp only [Act.put, List.setIfInBounds_toArray, List.set_cons_zero, List.set_cons_succ]
    refine wpL.one (i := 3) (by kernel_rfl) rfl fun K hK => ?_
    rw [if_pos (by rfl)]
    go_simp
    ((first | (go_at_call 84; refine calls_below (W0 := W) ?_ fun hpre => ?_; (repeat (first | exact Below.refl _ _ | refine Below.alloc ?_ (by simp; try omega) _ | refine Below.drew ?_)); refine (hel2.out _ (up_of hpre hnt)).mono ?_; rintro e N1 ⟨rfl, hb1⟩; have hb := Up.trans hpre hb1; clear hpre; (first | have hs_N1 := below_alloc_lt hb1 | have hs_N1 := below_alloc_lt (drewB hb1) | skip); (try replace hnt := up_of hb hnt); (try replace hown := up_of hb hown); (try replace b0B := up_of hb b0B); (try replace b1B := up_of hb b1B); (try replace b0 := up_of hb b0); (try replace c0 := up_of hb c0); (first | have nB := new_up hb1 | have nB := new_up (drewB hb1) | (try replace nB := up_of hb nB))) | (have hbz := hb.size; refine step_append_lies _ (by rfl) _ _ 28 (by rfl) (w.heap.size + 3) 90 i0 (.agg #[.int .i64 0, .int .i64 0, .int .i64 0, .int .i64 0]) 4 32 Tryz.underlying28 hi0 hz0 hz1 hz2 rfl (by decide) _ _ _ (by rfl) (hown.alloc _) ⟨N1.heap.size, 0, none⟩ 1 1 [.int .i64 ev, .int .i64 ex, .int .i64 ey, .int .i64 ez] (by rfl) (by rfl) (news_new _ _ _) (by simp [Value.oneCell']) (by decide) (by unfold maxLen; omega) (by omega) (by simp; omega) (N1.heap.size + 1) (by simp) ?_; intro gg cap1 w1 hown1 hgrow hat hlt2; replace b0B := grown_row hgrow hown (by omega) b0B; replace b1B := grown_row hgrow hown (by omega) b1B; have b0 := b0B.cell (i := 0) rfl; have c0 := b1B.cell (i := 0) rfl; have f1 := b1B.frozen 0)))
    try clear hHeld
    refine hK.out _ _ ?_ (fun hHeld => ?_)
    (focus ((first | exact ⟨c0, b0⟩ | ((first | (with_reducible exact ⟨c0, b0⟩) | ((try dsimp only); (repeat' apply And.intro) <;> (repeat (first | (with_reducible assumption) | (with_reducible refine cell_set (by simp; try omega) ?_) | (with_reducible refine cell_drew ?_) | (with_reducible refine cell_alloc ?_ _))))))); done))
    clear hK K
    try simp only [Act.put, List.setIfInBounds_toArray, List.set_cons_zero, List.set_cons_succ]
    refine wpL.one (i := 4) (by kernel_rfl) rfl fun K hK => ?_
    rw [if_pos (by rfl)]
    go_simp
    try clear hHeld
    refine hK.out _ _ ?_ (fun hHeld => ?_)
    (focus ((first | exact ⟨c0, b0⟩ | ((first | (with_reducible exact ⟨c0, b0⟩) | ((try dsimp only); (repeat' apply And.intro) <;> (repeat (first | (with_reducible assumption) | (with_reducible refine cell_set (by simp; try omega) ?_) | (with_reducible refine cell_drew ?_) | (with_reducible refine cell_alloc ?_ _))))))); done))
    clear hK K
    try simp only [Act.put, List.setIfInBounds_toArray, List.set_cons_zero, List.set_cons_succ]
    refine wpL.one (i := 5) (by kernel_rfl) rfl fun K hK => ?_
    ((first | (go_at_call 84; refine calls_below (W0 := W) ?_ fun hpre => ?_; (repeat (first | exact Below.refl _ _ | refine Below.alloc ?_ (by simp; try omega) _ | refine Below.drew ?_)); refine (hel2.out _ (up_of hpre hnt)).mono ?_; rintro e N1 ⟨rfl, hb1⟩; have hb := Up.trans hpre hb1; clear hpre; (first | have hs_N1 := below_alloc_lt hb1 | have hs_N1 := below_alloc_lt (drewB hb1) | skip); (try replace hnt := up_of hb hnt); (try replace hown := up_of hb hown); (try replace b0B := up_of hb b0B); (try replace b1B := up_of hb b1B); (try replace b0 := up_of hb b0); (try replace c0 := up_of hb c0); (first | have nB := new_up hb1 | have nB := new_up (drewB hb1) | (try replace nB := up_of hb nB))) | (have hbz := hb.size; refine step_append_lies _ (by rfl) _ _ 28 (by rfl) (w.heap.size + 3) 90 i0 (.agg #[.int .i64 0, .int .i64 0, .int .i64 0, .int .i64 0]) 4 32 Tryz.underlying28 hi0 hz0 hz1 hz2 rfl (by decide) _ _ _ (by rfl) (hown.alloc _) ⟨N1.heap.size, 0, none⟩ 1 1 [.int .i64 ev, .int .i64 ex, .int .i64 ey, .int .i64 ez] (by rfl) (by rfl) (news_new _ _ _) (by simp [Value.oneCell']) (by decide) (by unfold maxLen; omega) (by omega) (by simp; omega) (N1.heap.size + 1) (by simp) ?_; intro gg cap1 w1 hown1 hgrow hat hlt2; replace b0B := grown_row hgrow hown (by omega) b0B; replace b1B := grown_row hgrow hown (by omega) b1B; have b0 := b0B.cell (i := 0) rfl; have c0 := b1B.cell (i := 0) rfl; have f1 := b1B.frozen 0)))
    try clear hHeld
    refine hK.out _ _ ?_ (fun hHeld => ?_)
    (focus ((first | exact ⟨c0, b0⟩ | ((first | (with_reducible exact ⟨c0, b0⟩) | ((try dsimp only); (repeat' apply And.intro) <;> (repeat (first | (with_reducible assumption) | (with_reducible refine cell_set (by simp; try omega) ?_) | (with_reducible refine cell_drew ?_) | (with_reducible refine cell_alloc ?_ _))))))); done))
    clear hK K
    try simp only [Act.put, List.setIfInBounds_toArray, List.set_cons_zero, List.set_cons_succ]
    refine wpL.last (by kernel_rfl) (by kernel_rfl) rfl fun K hK => ?_
    rw [if_pos (by rfl)]
    go_simp
    refine hK.out _ _ (wpL.fin (by kernel_rfl) ?_ _)
    clear hK K
    try simp only [Act.put, List.setIfInBounds_toArray, List.set_cons_zero, List.set_cons_succ]
    refine ⟨rfl, ?_⟩
    gi_wp2_with fail
    obtain ⟨Z2, hZ2, hZ2s, hgr⟩ : ∃ Z2, Below N1.heap.size N1 Z2 ∧ Z2.heap.size = N1.heap.size + 1 ∧ Z2.grownBy w1 o.ownBlock := ⟨_, ((Below.refl _ N1).alloc (Nat.le_refl _) _), by simp, hgrow⟩
    have hb9 : Below W.heap.size W Z2 := hb.trans (hZ2.mono hb.size)
    have hown9 := up_of hZ2 hown
    have hbz2 := hb.size
    have hKO : KeepsOthers W w1 := by
      refine (KeepsOthers.of_below hb9).trans (KeepsOthers.of_grownBy hgr fun j o ej hj => ?_)
      rcases hown9.2 with ⟨h, _⟩ | ⟨g', c', cur, h, _, hgb, _⟩
      · rw [h] at ej; simp [Value.ownBlock] at ej
      · rw [h] at ej
        obtain rfl : g' = j := by simpa [Value.ownBlock] using ej
        rw [hgb] at hj; cases hj; rfl
    refine ⟨(hKO.trans (KeepsOthers.setCell _ _ _)).from _, ?_, .slice (some ⟨gg, 0, none⟩) (R.length + 1) cap1, ?_⟩
    · refine ((KeepUp.of_below hb9 (fun k hk => by omega)).trans (KeepUp.grown hgr (fun k hk => by omega) (fun k hk e => by have := (hown9.lt k e.symm).1; omega))).trans (KeepUp.setCell _ _ (fun k hk => by show k ≠ w.heap.size + 1; omega))
    · rw [hpl.out, hnext.out]
      refine ⟨?_, ?_, ?_, ?_, ?_⟩
      · exact (((hbe2.out.trans (hb9.mono (by omega))).grown hgr (by omega) (fun j e => by have := (hown9.lt j e).1; omega)).setCell (by show w.heap.size ≤ w.heap.size + 1; omega) _)
      · refine Row.of ?_
        repeat (first | (with_reducible refine RowG.base b0B ?_) | (with_reducible refine RowG.drew ?_) | (with_reducible refine RowG.set ?_) | ((with_reducible refine RowG.other ?_ ?_); (focus (first | omega | (simp; done) | (simp; omega)))) | (with_reducible refine RowG.alloc ?_))
        rfl
      · refine Row.of ?_
        repeat (first | (with_reducible refine RowG.base b1B ?_) | (with_reducible refine RowG.drew ?_) | (with_reducible refine RowG.set ?_) | ((with_reducible refine RowG.other ?_ ?_); (focus (first | omega | (simp; done) | (simp; omega)))) | (with_reducible refine RowG.alloc ?_))
        rfl
      · rw [ar_snoc, List.length_append]
        exact own_chg (p := fun j => j = w.heap.size + 1) ((Chg.refl _ _).setCell (by rfl) _) (fun j hj e => by omega) hown1
      · have := hgr.size
        simp [World.setCell]; omega
  case done =>
    rintro D W hD ⟨o, hE⟩ hK
    have hpl : RR.take (bkI (toI ks)).length = RR := by rw [bkI_len, hkl.out, ← hRl.out, List.take_length]
    rw [hpl] at hE
    have c0 : W.cell? ⟨w.heap.size + 1, 0, none⟩ = some o := hE.b1.cell rfl
    have hMD := (MarksIn.none w.heap.size V'.heap.size W).push hD (by omega) hK
    obtain ⟨s9, c9, e9, -⟩ := owns_shape hE.ow
    replace hE := Lib.hid hE; replace hMD := Lib.hid hMD; replace hpl := Lib.hid hpl
    dsimp only
    go_wp2
    refine marks_retN hMD.out hE.out.be.size fun W' hu => ?_
    have hE2 := hE.out.cellsUp (Nat.le_refl _) hu
    refine ⟨_, results_tmp rfl _ _ _, ⟨s9, c9, ?_, ?_⟩, hE2.be⟩
    · rw [hRl.out]; rfl
    · have := hE2.ow
      rw [e9] at this
      exact SlS.of_own (E := arE) (base := w.heap.size + 3) (e := 90) (cap := c9) this
end
end Go.Proofs.YtakbpjgnjfigcaaGreat

/- The map of the places in a walk. -/
namespace Go.Proofs.YtakbpjgnjfigcaaGreat
open Go.RowKit Go.Maps

theorem key_intW : Keyed Tryz.prog 3 := int_keyed Tryz.underlying3
def natK (k : Nat) : Lit := .int .i64 (k : Int)
theorem key_of_nat {k : Nat} (h : k ≤ 100000) : keyOf Tryz.prog 3 (.int .i64 (k : Int)) = some (natK k) := keyOf_int_mk Tryz.underlying3 (wf_64 ⟨by omega, by omega⟩)
theorem natK_inj {a b : Nat} (h : natK a = natK b) : a = b := by
  unfold natK at h; injection h with _ h; omega
/-- Where a number stands, in a list that is written from its end. -/
def wkI : List Nat → Nat → Option Nat
  | [], _ => none
  | b :: R, a => if b = a then some R.length else wkI R a
theorem wkI_some {a f : Nat} : ∀ {R : List Nat}, wkI R a = some f → ∃ h : f < R.reverse.length, R.reverse[f] = a
  | [], h => by cases h
  | b :: R, h => by
    unfold wkI at h
    split at h
    · rename_i e
      obtain rfl := Option.some.inj h
      exact ⟨by simp, by simp [e]⟩
    · obtain ⟨h1, h2⟩ := wkI_some h
      rw [List.length_reverse] at h1
      refine ⟨by simp; omega, ?_⟩
      simp only [List.reverse_cons]
      rw [List.getElem_append_left (by simpa using h1)]
      exact h2
theorem wkI_none {a : Nat} : ∀ {R : List Nat}, wkI R a = none → a ∉ R
  | [], _ => by simp
  | b :: R, h => by
    unfold wkI at h
    split at h
    · cases h
    · rename_i e
      intro hm
      rcases List.mem_cons.1 hm with rfl | hm
      · exact e rfl
      · exact wkI_none h hm
def wkD : List Nat → DataW Unit
  | [] => .map []
  | a :: R => (wkD R).put (natK a) (.lit (.int .i64 (R.length : Int)))
theorem wkD_isMap : ∀ R, IsMap (wkD R)
  | [] => isMap_empty
  | _ :: R => (wkD_isMap R).put _ _
theorem wkD_at {a : Nat} : ∀ {R : List Nat}, (wkD R).atKey (natK a) (.lit (.int .i64 0)) = .lit (.int .i64 (((wkI R a).getD 0 : Nat) : Int)) ∧ has (wkD R) (natK a) = (wkI R a).isSome
  | [] => ⟨rfl, rfl⟩
  | b :: R => by
    have ih := wkD_at (a := a) (R := R)
    unfold wkD wkI
    by_cases h : b = a
    · subst h
      rw [atKey_put_same (wkD_isMap R) (k := natK b) trivial, has_put_same (wkD_isMap R) (k := natK b) trivial, if_pos rfl]
      exact ⟨rfl, rfl⟩
    · have hne : natK a ≠ natK b := fun e => h (natK_inj e).symm
      rw [atKey_put_other hne, has_put_other hne, if_neg h]
      exact ih
theorem wk_look {V : World} {mb c : Nat} {R : List Nat} (h : V.ownsMap Tryz.prog 3 (plainElem Tryz.prog 3) mb c (wkD R)) {a : Nat} (ha : a ≤ 100000) :
    (Instr.lookup 80 (.map (some mb)) (.int .i64 (a : Int)) true).run Tryz.prog V = .ok (.tuple #[.int .i64 (((wkI R a).getD 0 : Nat) : Int), .bool (wkI R a).isSome]) V := by
  have hat := wkD_at (a := a) (R := R)
  have hz : (zeroValue 3).run Tryz.prog V = .ok (.int .i64 0) V := by kernel_rfl
  have hzd := plainElem_int (H := Unit) (P := Tryz.prog) Tryz.underlying3 (show (Lit.int .i64 0).wf = true by decide)
  obtain ⟨v, ps, hrun, hv⟩ := h.look_ok key_intW Tryz.underlying80 hz hzd (key_of_nat ha)
  obtain ⟨c, rfl, hc, -⟩ := plainElem_int_inv Tryz.underlying3 hv
  rw [hat.1] at hc
  simp only [Prod.mk.injEq, DataW.lit.injEq, Lit.int.injEq, true_and] at hc
  rw [hat.2] at hrun
  rw [show c = _ from hc.1.symm] at hrun
  exact hrun
end Go.Proofs.YtakbpjgnjfigcaaGreat

/- The greatest of a list of numbers, where one stands, where one is positive. -/
namespace Go.Proofs.YtakbpjgnjfigcaaGreat
open Go.RowKit Go.Maps

set_option maxRecDepth 100000 in
theorem imax_c (s : Option Addr) (cap : Nat) (L : List Int) (w : World) (hn : 1 ≤ L.length ∧ L.length ≤ 100000) (hs : SlS intE w s L) :
    Calls Tryz.prog 50 #[.slice s L.length cap] w fun e w' => (∃ M, e = .returned (.int .i64 M) ∧ M ∈ L ∧ ∀ x ∈ L, x ≤ M) ∧ w = w' := by
  have hc : ∀ i (hi : i < L.length), ∃ b off, s = some ⟨b, off, none⟩ ∧ w.cell? ⟨b, off + i, none⟩ = some (.int .i64 L[i]) := fun i hi => by
    obtain ⟨b, off, e, hb, h⟩ := hs.int_at (i := i) hi
    exact ⟨b, off, e, h⟩
  obtain ⟨b, off, rfl, h0⟩ := hc 0 (by omega)
  have hc2 : ∀ i (hi : i < L.length), w.cell? ⟨b, off + i, none⟩ = some (.int .i64 L[i]) := fun i hi => by
    obtain ⟨b2, off2, e, h⟩ := hc i hi
    cases e; exact h
  have hstep : ∀ j (hj : j < L.length), L.take (j + 1) = L.take j ++ [L[j]] := fun j hj => List.take_succ_eq_append_getElem hj
  have hone : L.take 1 = [L[0]'(by omega)] := by
    have := hstep 0 (by omega)
    simpa using this
  have hall : L.take L.length = L := List.take_length
  obtain ⟨x0, hx0⟩ : ∃ x, L[0]'(by omega) = x := ⟨_, rfl⟩
  rw [hx0] at h0 hone
  simp only [Nat.add_zero] at h0
  have hI0 : x0 ∈ L.take 1 ∧ ∀ x ∈ L.take 1, x ≤ x0 := by rw [hone]; simp
  obtain ⟨n, hn0⟩ : ∃ n, n = L.length := ⟨_, rfl⟩
  rw [← hn0] at hn
  simp only [← hn0]
  replace hc2 := Lib.hid hc2; replace hstep := Lib.hid hstep; replace hone := Lib.hid hone; replace hall := Lib.hid hall; replace hI0 := Lib.hid hI0; replace hn0 := Lib.hid hn0
  clear hc hs hx0
  have h1 : ¬ (n : Int) < 1 := by omega
  go_enter Tryz.func50, Tryz.ntmps50
  go_wp2
  go_loop [3, 4] (fun v i => ∃ (j : Nat) (M : Int), 1 ≤ j ∧ j ≤ n ∧ i = .int .i64 j ∧ v = .int .i64 M ∧ Hid (M ∈ L.take j ∧ ∀ x ∈ L.take j, x ≤ M)) (fun _ i => n - (intOf i).toNat)
  case atStart => exact ⟨1, x0, by omega, by omega, rfl, rfl, hI0⟩
  case round =>
    clear h0 hI0
    obtain ⟨j, M, hj1, hj, rfl, rfl, hM⟩ := hrel
    by_cases hlt : j < n
    · have hlt2 : j < L.length := by rw [← hn0.out]; exact hlt
      have e0 := hc2.out j hlt2
      have e1 := hstep.out j hlt2
      obtain ⟨x, hx⟩ : ∃ x, L[j] = x := ⟨_, rfl⟩
      rw [hx] at e0 e1
      have i4 : (0 : Int) ≤ (j : Int) := by omega
      have i5 : (j : Int) < (n : Int) := by omega
      replace hx := Lib.hid hx; replace e1 := Lib.hid e1
      by_cases hm : M < x
      · have hM2 : x ∈ L.take (j + 1) ∧ ∀ y ∈ L.take (j + 1), y ≤ x := by
          rw [e1.out]
          refine ⟨by simp, fun y hy => ?_⟩
          rcases List.mem_append.1 hy with hy | hy
          · have := hM.out.2 y hy; omega
          · simp at hy; omega
        replace hM2 := Lib.hid hM2
        go_wp2
        go_round
        case rel => exact ⟨j + 1, x, by omega, by omega, by go_num, by first | exact congrArg (Value.int .i64) (Int.max_eq_right (by omega)) | rfl, hM2⟩
        case measure => simp [intOf]; omega
      · have hM2 : M ∈ L.take (j + 1) ∧ ∀ y ∈ L.take (j + 1), y ≤ M := by
          rw [e1.out]
          refine ⟨List.mem_append_left _ hM.out.1, fun y hy => ?_⟩
          rcases List.mem_append.1 hy with hy | hy
          · exact hM.out.2 y hy
          · simp at hy; omega
        replace hM2 := Lib.hid hM2
        go_wp2
        go_round
        case rel => exact ⟨j + 1, M, by omega, by omega, by go_num, by first | exact congrArg (Value.int .i64) (Int.max_eq_left (by omega)) | rfl, hM2⟩
        case measure => simp [intOf]; omega
    · obtain rfl : j = n := by omega
      have hM2 := hM.out
      rw [hn0.out, hall.out] at hM2
      replace hM2 := Lib.hid hM2
      go_wp2
      go_ret
      exact ⟨⟨M, rfl, hM2.out⟩, rfl⟩
set_option maxRecDepth 100000 in
set_option maxHeartbeats 400000 in
theorem iindex_c (c : Int) (s : Option Addr) (cap : Nat) (l : List Int) (w : World) (hs : SlS intE w s l) (hl : l.length ≤ 100000) :
    Calls Tryz.prog 49 #[.slice s l.length cap, .int .i64 c] w fun e w' => e = .returned (.int .i64 (fidx (fun x => c == x) l)) ∧ w = w' := by
  have hs0 := Lib.hid hs
  obtain ⟨pr, hpr⟩ : ∃ p : Int → Bool, (fun x => c == x) = p := ⟨_, rfl⟩
  have hpx : ∀ x, (c == x) = pr x := fun x => by rw [← hpr]
  rw [hpr]
  replace hpr := Lib.hid hpr; replace hpx := Lib.hid hpx
  clear hs
  go_enter Tryz.func49, Tryz.ntmps49
  go_wp2
  go_loop [8] (fun i => ∃ k : Nat, k ≤ l.length ∧ i = .int .i64 k ∧ Hid (∀ j (hj : j < l.length), j < k → pr l[j] = false)) (fun i => l.length - (intOf i).toNat)
  case atStart => exact ⟨0, by omega, rfl, fun j _ h => absurd h (by omega)⟩
  case round =>
    obtain ⟨k, hk, rfl, hno⟩ := hrel
    by_cases hlt : k < l.length
    · obtain ⟨b, off, rfl, hb, h0⟩ := hs0.out.int_at hlt
      have hp := hpx.out l[k]
      have hat := hno.out
      obtain ⟨x, hx⟩ : ∃ x, l[k] = x := ⟨_, rfl⟩
      rw [hx] at h0 hp
      have i4 : (0 : Int) ≤ (k : Int) := by omega
      have i5 : (k : Int) < (l.length : Int) := by omega
      replace hx := Lib.hid hx; replace hat := Lib.hid hat
      cases hq : pr x
      · rw [hq] at hp
        go_wp2
        go_round
        case rel => exact ⟨k + 1, by omega, by go_num, fun j hj h => by
          rcases Nat.lt_succ_iff_lt_or_eq.1 h with h | rfl
          · exact hat.out j hj h
          · rw [hx.out]; exact hq⟩
        case measure => simp [intOf]; omega
      · rw [hq] at hp
        go_wp2
        go_ret
        exact ⟨ret_int (fidx_at hlt (fun j hj => hat.out j (by omega) hj) (by rw [hx.out]; exact hq)).symm, rfl⟩
    · obtain rfl : k = l.length := by omega
      go_wp2
      go_ret
      exact ⟨ret_int (fidx_none fun j hj => hno.out j hj hj).symm, rfl⟩
theorem circle1_c (n : Int) (w : World) : Calls Tryz.prog 37 #[.int .i64 n] w fun e w' => e = .returned (.bool (decide (0 < n))) ∧ Below w.heap.size w w' := by
  go_enter Tryz.func37, Tryz.ntmps37
  go_wp2
  go_ret
  exact ⟨rfl, Below.refl _ _⟩
end Go.Proofs.YtakbpjgnjfigcaaGreat
