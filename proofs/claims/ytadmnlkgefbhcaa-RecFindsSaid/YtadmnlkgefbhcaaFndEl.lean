/- The elements with numbers, the last one first: the program. -/
import Derived.Test.YtadmnlkgefbhcaaFndBk
import Derived.Test.YtadmnlkgefbhcaaLastIn
import Derived.Test.YtadmnlkgefbhcaaB12
import Derived.Test.YtadmnlkgefbhcaaUses
namespace Go.Proofs.Ytadmnlkgefbhcaa
open Go.RowKit Go.Maps

attribute [local go_sem] Oper.semAt_some

/-- What the rounds turn. -/
structure ElM (w : World) (g : Nat) (V : World) (o : Value) (R : List Ar) : Prop where
  be : Below w.heap.size w V
  b0 : Row V w.heap.size 84 #[.pointer (some ⟨g, 0, none⟩)]
  b1 : Row V (w.heap.size + 1) 43 #[o]
  ow : V.ownsRow (w.heap.size + 3) 38 4 o R.length (arE.all R)
  sz : w.heap.size + 3 ≤ V.heap.size
section
variable {w : World} {g : Nat} {V V' : World} {o : Value} {R : List Ar}
theorem ElM.cellsUp (h : ElM w g V o R) {n : Nat} (hn : w.heap.size ≤ n) (hu : CellsUp n V V') : ElM w g V' o R :=
  ⟨h.be.trans (hu.below.mono hn), hu.cells _ _ _ _ h.b0, hu.cells _ _ _ _ h.b1, hu.owns h.ow, Nat.le_trans h.sz hu.below.size⟩
theorem ElM.up (hb : Below V.heap.size V V') (h : ElM w g V o R) : ElM w g V' o R :=
  ⟨h.be.trans (hb.mono h.be.size), up_of hb h.b0, up_of hb h.b1, up_of hb h.ow, Nat.le_trans h.sz hb.size⟩
instance : UpF V V' (ElM w g V o R) (ElM w g V' o R) := ⟨fun h c => ElM.up h c⟩
end
theorem back_el {P : List Pt} {ks : List Nat} {m j : Nat} (hm : m < ks.length) (hj : j = ks.length - (m + 1)) : (ks.reverse.map (elOf P)).take (j + 1) = (ks.reverse.map (elOf P)).take j ++ [elOf P ks[m]] := by
  have hl : j < (ks.reverse.map (elOf P)).length := by simp; omega
  rw [List.take_succ_eq_append_getElem hl, List.getElem_map, List.getElem_reverse]
  congr 4
  omega
section
variable {g : Nat} {n : Int} {s : Option Addr} {cap : Nat} {l : List Iq} {s2 : Option Addr} {cq : Nat} {K : List Vv} {sp : Option Addr} {cp mb : Nat} {P : List Pt}
set_option maxRecDepth 100000 in
set_option maxHeartbeats 2000000 in
theorem elements_c (sl : Option Addr) (cl : Nat) (ks : List Nat) (w : World) (h : Net 106 w g n s cap l s2 cq K sp cp mb P) (ok : NetOk n K P) (hs : SlS intE w sl (toI ks)) (hlt : ∀ k ∈ ks, k < K.length * P.length) (hl : ks.length ≤ 5000) :
    Calls Try.prog 84 #[.pointer (some ⟨g, 0, none⟩), .slice sl ks.length cl] w fun e w' => (∃ so co, e = .returned (.slice so ks.length co) ∧ SlS arE w' so (ks.reverse.map (elOf P))) ∧ Below w.heap.size w w' := by
  have hel := fun k (hk : k < K.length * P.length) V (h : Net 106 V g n s cap l s2 cq K sp cp mb P) => (element_cs k V h ok hk).mono (R' := fun e w' => e = .returned (.agg #[.int .i64 (elOf P k).v, .int .i64 (elOf P k).p.x, .int .i64 (elOf P k).p.y, .int .i64 (elOf P k).p.z]) ∧ Below V.heap.size V w') (fun e w' ⟨h1, h2, _⟩ => ⟨h1, h2⟩)
  have hbk := fun m j (hm : m < ks.length) (hj : j = ks.length - (m + 1)) => back_el (P := P) hm hj
  obtain ⟨RR, hRR⟩ : ∃ x, ks.reverse.map (elOf P) = x := ⟨_, rfl⟩
  have hRl : RR.length = ks.length := by rw [← hRR]; simp
  simp only [hRR] at hbk ⊢
  have hkl : (toI ks).length = ks.length := toI_len ks
  clear ok hRR
  obtain ⟨i0, hi0, hz0, hz1, hz2⟩ := info_parts info_elm
  replace hel := Lib.hid hel; replace hbk := Lib.hid hbk; replace hRl := Lib.hid hRl; replace hlt := Lib.hid hlt; replace hkl := Lib.hid hkl
  refine calls_of_wp_marks Try.func84 rfl ?_
  simp only [Try.ntmps84, List.size_toArray, List.length_cons, List.length_nil, Nat.reduceAdd, Nat.reduceSub, Array.replicate_succ, Array.replicate_zero, List.push_toArray, List.append_toArray, List.nil_append, List.cons_append]
  go_upto_region 2 with (fail)
  refine wp_world fun X HX => ?_
  have hX : Below w.heap.size w X := by
    rw [HX.out]
    repeat (first | (with_reducible exact Below.refl _ _) | (with_reducible refine Below.drew ?_) | ((with_reducible refine Below.setC ?_ ?_); (focus (first | omega | (simp; done) | (simp; omega)))) | ((with_reducible refine Below.allo ?_ ?_); (focus (first | omega | (simp; done) | (simp; omega)))))
  have hXs : X.heap.size = w.heap.size + 2 := by rw [HX.out]; simp
  have x0 : Row X w.heap.size 84 #[.pointer (some ⟨g, 0, none⟩)] := by
    rw [HX.out]
    refine Row.of ?_
    repeat (first | (with_reducible refine RowG.new ?_) | (with_reducible refine RowG.drew ?_) | (with_reducible refine RowG.set ?_) | ((with_reducible refine RowG.other ?_ ?_); (focus (first | omega | (simp; done) | (simp; omega)))) | ((with_reducible refine RowG.new' ?_ ?_); (focus (first | omega | (simp; done) | (simp; omega)))) | (with_reducible refine RowG.alloc ?_))
    rfl
  have x1 : Row X (w.heap.size + 1) 43 #[.slice none 0 0] := by
    rw [HX.out]
    refine Row.of ?_
    repeat (first | (with_reducible refine RowG.new ?_) | (with_reducible refine RowG.drew ?_) | (with_reducible refine RowG.set ?_) | ((with_reducible refine RowG.other ?_ ?_); (focus (first | omega | (simp; done) | (simp; omega)))) | ((with_reducible refine RowG.new' ?_ ?_); (focus (first | omega | (simp; done) | (simp; omega)))) | (with_reducible refine RowG.alloc ?_))
    rfl
  clear HX
  have hback := Lib.hid (backI_c sl ks.length cl X)
  have bV : Below X.heap.size X (X.alloc (.cells #[.slice sl ks.length cl] 53)) := (Below.refl _ X).alloc (Nat.le_refl _) _
  have hVs : (X.alloc (.cells #[.slice sl ks.length cl] 53)).heap.size = w.heap.size + 3 := by simp; omega
  have v4 : (X.alloc (.cells #[.slice sl ks.length cl] 53)).cell? ⟨w.heap.size + 2, 0, none⟩ = some (.slice sl ks.length cl) := by rw [← hXs]; simp [go_sem]
  have hE : ElM w g (X.alloc (.cells #[.slice sl ks.length cl] 53)) (.slice none 0 0) [] :=
    ⟨hX.trans (bV.mono (by omega)), Up.block bV x0, Up.block bV x1, World.ownsRow_nil _ _ _ _, by omega⟩
  have hXV := hX.trans (bV.mono (by omega))
  obtain ⟨V, hV⟩ : ∃ V, X.alloc (.cells #[.slice sl ks.length cl] 53) = V := ⟨_, rfl⟩
  rw [hV] at hVs v4 hE hXV
  rw [hV] at hback
  have hsV := hs.up hXV
  have hv5 : V.cell? ⟨w.heap.size + 2, 0, none⟩ = some (.slice sl (toI ks).length cl) := by rw [hkl.out]; exact v4
  have hsb : toI ks ≠ [] → ∀ k o, sl = some ⟨k, o, none⟩ → k < w.heap.size ∨ k = w.heap.size + 2 := fun hne k o e => by
    rcases hs with hs | ⟨b, off, e', hb, -⟩
    · exact absurd hs hne
    · rw [e'] at e; cases e; exact .inl hb
  have hseq := backI_iter (w.heap.size + 2) sl cl (toI ks) V hv5 hsV (by rw [hkl.out]; exact hl) (fun k => k < w.heap.size ∨ k = w.heap.size + 2) (fun k hk => by omega) (.inr rfl) hsb
  have hVw := hXV.size
  have hSk : ∀ k, (k < w.heap.size ∨ k = w.heap.size + 2) → k < V.heap.size := fun k hk => by omega
  rw [← hXs] at hseq
  replace hE := Lib.hid hE
  clear x0 x1 bV v4 hV hv5 hsV hX hXV hsb
  have h0 := Lib.hid h
  have hbe := hE.out.be
  go_wp2_with (go_at_call 114; refine hback.out.mono ?_; rintro e V' ⟨rfl, rfl⟩)
  rw [hXs] at hseq
  clear hback h
  refine' wp_rangeP rfl (fun _ _ => by simp [go_sem]) (S := fun k => k < w.heap.size ∨ k = w.heap.size + 2) hSk hseq (fun _ => rfl) (fun pre W => ∃ o, ElM w g W o (RR.take pre.length)) ?hI (fun pre W hp => by obtain ⟨o, hp⟩ := hp; have := hp.sz; omega) ⟨_, hE.out⟩ _ ?assign ?body ?done
  case hI =>
    rintro pre A B ⟨o, hp⟩ hu
    rw [hVs] at hu
    exact ⟨o, hp.cellsUp (by omega) hu⟩
  case assign =>
    intro l x W K hK
    simp only [encK, List.zip_toArray, List.zip_cons_cons, List.zip_nil_right, List.foldl_toArray, List.foldl_cons, List.foldl_nil, List.setIfInBounds_toArray, List.set_cons_zero, List.set_cons_succ]
    gi_wp2
    exact hK
  case body =>
    rintro l pre x W ⟨o, hE⟩ hpre
    obtain ⟨m, hm, hk, rfl⟩ := bkI_next hpre
    have hmk : m < ks.length := by rw [hkl.out] at hm; exact hm
    have hx : (toI ks)[m] = ((ks[m] : Nat) : Int) := toI_at hm hmk
    have hkj : pre.length = ks.length - (m + 1) := by rw [hk, hkl.out]
    have hnext := hbk.out m pre.length hmk hkj
    have hel2 := fun V h => hel.out ks[m] (hlt.out _ (List.getElem_mem hmk)) V h
    simp only [hx]
    obtain ⟨k, hkk⟩ : ∃ x, ks[m] = x := ⟨_, rfl⟩
    rw [hkk] at hnext
    simp only [hkk] at hel2 ⊢
    have hpl : (pre ++ [(m, (k : Int))]).length = pre.length + 1 := by simp
    obtain ⟨⟨ev, ⟨ex, ey, ez⟩⟩, hee⟩ : ∃ y, elOf P k = y := ⟨_, rfl⟩
    rw [hee] at hnext
    simp only [hee] at hel2
    have hnt := up_of hE.be h0.out
    have hRk : (RR.take pre.length).length ≤ 5000 := by rw [List.length_take]; have := hRl.out; omega
    obtain ⟨R, hR⟩ : ∃ x, RR.take pre.length = x := ⟨_, rfl⟩
    rw [hR] at hE hRk hnext
    have hown := hE.ow
    have hvb : ∀ j, o.ownBlock = some j → w.heap.size + 3 ≤ j ∧ j < W.heap.size := fun j e => hown.lt j e
    have b0B := hE.b0
    have b1B := hE.b1
    have b0 : W.cell? ⟨w.heap.size, 0, none⟩ = some (.pointer (some ⟨g, 0, none⟩)) := hE.b0.cell rfl
    have c0 : W.cell? ⟨w.heap.size + 1, 0, none⟩ = some o := hE.b1.cell rfl
    have hWs := hE.sz
    have hbe2 := hE.be
    replace hnext := Lib.hid hnext; replace hel2 := Lib.hid hel2; replace hpl := Lib.hid hpl; replace hee := Lib.hid hee; replace hkk := Lib.hid hkk; replace hR := Lib.hid hR; replace hk := Lib.hid hk; replace hkj := Lib.hid hkj; replace hx := Lib.hid hx; replace hE := Lib.hid hE; replace hpre := Lib.hid hpre; replace hvb := Lib.hid hvb; replace hbe2 := Lib.hid hbe2
    gi_upto_region 4 with (fail)
    refine wpL.regionIn (m := 6) (S := fun V => V.cell? ⟨w.heap.size + 1, 0, none⟩ = some o ∧ V.cell? ⟨w.heap.size, 0, none⟩ = some (.pointer (some ⟨g, 0, none⟩))) (by kernel_rfl) (by kernel_rfl) ?_ (fun hHeld => ?_)
    (focus ((first | exact ⟨c0, b0⟩ | ((first | (with_reducible exact ⟨c0, b0⟩) | ((try dsimp only); (repeat' apply And.intro) <;> (repeat (first | (with_reducible assumption) | (with_reducible refine cell_set (by simp; try omega) ?_) | (with_reducible refine cell_drew ?_) | (with_reducible refine cell_alloc ?_ _))))))); done))
    refine wpL.take' (i := 0) rfl (by kernel_rfl) (by kernel_rfl) (by kernel_rfl) (by kernel_rfl) (by decide) (by kernel_rfl) (by assumption) ?_
    apply Exists.intro; refine ⟨fun _ _ _ h => (by cases h.1), ?_, ?_⟩
    (focus (first | (refine Or.inl ⟨by rfl, fun V hV => ?_⟩; ((try dsimp only at hV); go_simp; (try (with_reducible rfl)); done)) | exact Or.inr ⟨by rfl, rfl⟩))
    try simp only [Act.put, List.setIfInBounds_toArray, List.set_cons_zero, List.set_cons_succ]
    refine wpL.take' (i := 1) rfl (by kernel_rfl) (by kernel_rfl) (by kernel_rfl) (by kernel_rfl) (by decide) (by kernel_rfl) (by assumption) ?_
    apply Exists.intro; refine ⟨fun _ _ _ h => (by cases h.1), ?_, ?_⟩
    (focus (first | (refine Or.inl ⟨by rfl, fun V hV => ?_⟩; ((try dsimp only at hV); go_simp; (try (with_reducible rfl)); done)) | exact Or.inr ⟨by rfl, rfl⟩))
    try simp only [Act.put, List.setIfInBounds_toArray, List.set_cons_zero, List.set_cons_succ]
    refine wpL.take' (i := 2) rfl (by kernel_rfl) (by kernel_rfl) (by kernel_rfl) (by kernel_rfl) (by decide) (by kernel_rfl) (by assumption) ?_
    apply Exists.intro; refine ⟨fun _ _ _ h => (by cases h.1), ?_, ?_⟩
    (focus (first | (refine Or.inl ⟨by rfl, fun V hV => ?_⟩; ((try dsimp only at hV); go_simp; (try (with_reducible rfl)); done)) | exact Or.inr ⟨by rfl, rfl⟩))
    try simp only [Act.put, List.setIfInBounds_toArray, List.set_cons_zero, List.set_cons_succ]
    refine wpL.one (i := 3) (by kernel_rfl) rfl fun K hK => ?_
    rw [if_pos (by rfl)]
    go_simp
    ((first | (go_at_call 99; refine calls_below (W0 := W) ?_ fun hpre => ?_; (repeat (first | exact Below.refl _ _ | refine Below.alloc ?_ (by simp; try omega) _ | refine Below.drew ?_)); refine (hel2.out _ (up_of hpre hnt)).mono ?_; rintro e N1 ⟨rfl, hb1⟩; have hb := Up.trans hpre hb1; clear hpre; (first | have hs_N1 := below_alloc_lt hb1 | have hs_N1 := below_alloc_lt (drewB hb1) | skip); (try replace hnt := up_of hb hnt); (try replace hown := up_of hb hown); (try replace b0B := up_of hb b0B); (try replace b1B := up_of hb b1B); (try replace b0 := up_of hb b0); (try replace c0 := up_of hb c0); (first | have nB := new_up hb1 | have nB := new_up (drewB hb1) | (try replace nB := up_of hb nB))) | (have hbz := hb.size; refine step_append_lies _ (by rfl) _ _ 43 (by rfl) (w.heap.size + 3) 38 i0 (.agg #[.int .i64 0, .int .i64 0, .int .i64 0, .int .i64 0]) 4 32 Try.underlying43 hi0 hz0 hz1 hz2 rfl (by decide) _ _ _ (by rfl) (hown.alloc _) ⟨N1.heap.size, 0, none⟩ 1 1 [.int .i64 ev, .int .i64 ex, .int .i64 ey, .int .i64 ez] (by rfl) (by rfl) (news_new _ _ _) (by simp [Value.oneCell']) (by decide) (by unfold maxLen; omega) (by omega) (by simp; omega) (N1.heap.size + 1) (by simp) ?_; intro gg cap1 w1 hown1 hgrow hat hlt2; replace b0B := grown_row hgrow hown (by omega) b0B; replace b1B := grown_row hgrow hown (by omega) b1B; have b0 := b0B.cell (i := 0) rfl; have c0 := b1B.cell (i := 0) rfl; have f1 := b1B.frozen 0)))
    try clear hHeld
    refine hK.out _ _ ?_ (fun hHeld => ?_)
    (focus ((first | exact ⟨c0, b0⟩ | ((first | (with_reducible exact ⟨c0, b0⟩) | ((try dsimp only); (repeat' apply And.intro) <;> (repeat (first | (with_reducible assumption) | (with_reducible refine cell_set (by simp; try omega) ?_) | (with_reducible refine cell_drew ?_) | (with_reducible refine cell_alloc ?_ _))))))); done))
    clear hK K
    try simp only [Act.put, List.setIfInBounds_toArray, List.set_cons_zero, List.set_cons_succ]
    refine wpL.one (i := 4) (by kernel_rfl) rfl fun K hK => ?_
    rw [if_pos (by rfl)]
    go_simp
    try clear hHeld
    refine hK.out _ _ ?_ (fun hHeld => ?_)
    (focus ((first | exact ⟨c0, b0⟩ | ((first | (with_reducible exact ⟨c0, b0⟩) | ((try dsimp only); (repeat' apply And.intro) <;> (repeat (first | (with_reducible assumption) | (with_reducible refine cell_set (by simp; try omega) ?_) | (with_reducible refine cell_drew ?_) | (with_reducible refine cell_alloc ?_ _))))))); done))
    clear hK K
    try simp only [Act.put, List.setIfInBounds_toArray, List.set_cons_zero, List.set_cons_succ]
    refine wpL.one (i := 5) (by kernel_rfl) rfl fun K hK => ?_
    ((first | (go_at_call 99; refine calls_below (W0 := W) ?_ fun hpre => ?_; (repeat (first | exact Below.refl _ _ | refine Below.alloc ?_ (by simp; try omega) _ | refine Below.drew ?_)); refine (hel2.out _ (up_of hpre hnt)).mono ?_; rintro e N1 ⟨rfl, hb1⟩; have hb := Up.trans hpre hb1; clear hpre; (first | have hs_N1 := below_alloc_lt hb1 | have hs_N1 := below_alloc_lt (drewB hb1) | skip); (try replace hnt := up_of hb hnt); (try replace hown := up_of hb hown); (try replace b0B := up_of hb b0B); (try replace b1B := up_of hb b1B); (try replace b0 := up_of hb b0); (try replace c0 := up_of hb c0); (first | have nB := new_up hb1 | have nB := new_up (drewB hb1) | (try replace nB := up_of hb nB))) | (have hbz := hb.size; refine step_append_lies _ (by rfl) _ _ 43 (by rfl) (w.heap.size + 3) 38 i0 (.agg #[.int .i64 0, .int .i64 0, .int .i64 0, .int .i64 0]) 4 32 Try.underlying43 hi0 hz0 hz1 hz2 rfl (by decide) _ _ _ (by rfl) (hown.alloc _) ⟨N1.heap.size, 0, none⟩ 1 1 [.int .i64 ev, .int .i64 ex, .int .i64 ey, .int .i64 ez] (by rfl) (by rfl) (news_new _ _ _) (by simp [Value.oneCell']) (by decide) (by unfold maxLen; omega) (by omega) (by simp; omega) (N1.heap.size + 1) (by simp) ?_; intro gg cap1 w1 hown1 hgrow hat hlt2; replace b0B := grown_row hgrow hown (by omega) b0B; replace b1B := grown_row hgrow hown (by omega) b1B; have b0 := b0B.cell (i := 0) rfl; have c0 := b1B.cell (i := 0) rfl; have f1 := b1B.frozen 0)))
    try clear hHeld
    refine hK.out _ _ ?_ (fun hHeld => ?_)
    (focus ((first | exact ⟨c0, b0⟩ | ((first | (with_reducible exact ⟨c0, b0⟩) | ((try dsimp only); (repeat' apply And.intro) <;> (repeat (first | (with_reducible assumption) | (with_reducible refine cell_set (by simp; try omega) ?_) | (with_reducible refine cell_drew ?_) | (with_reducible refine cell_alloc ?_ _))))))); done))
    clear hK K
    try simp only [Act.put, List.setIfInBounds_toArray, List.set_cons_zero, List.set_cons_succ]
    refine wpL.last (by kernel_rfl) (by kernel_rfl) rfl fun K hK => ?_
    rw [if_pos (by rfl)]
    go_simp
    refine hK.out _ _ (wpL.fin (by kernel_rfl) ?_ _)
    clear hK K
    try simp only [Act.put, List.setIfInBounds_toArray, List.set_cons_zero, List.set_cons_succ]
    refine ⟨rfl, ?_⟩
    gi_wp2_with fail
    obtain ⟨Z2, hZ2, hZ2s, hgr⟩ : ∃ Z2, Below N1.heap.size N1 Z2 ∧ Z2.heap.size = N1.heap.size + 1 ∧ Z2.grownBy w1 o.ownBlock := ⟨_, ((Below.refl _ N1).alloc (Nat.le_refl _) _), by simp, hgrow⟩
    have hb9 : Below W.heap.size W Z2 := hb.trans (hZ2.mono hb.size)
    have hown9 := up_of hZ2 hown
    have hbz2 := hb.size
    have hKO : KeepsOthers W w1 := by
      refine (KeepsOthers.of_below hb9).trans (KeepsOthers.of_grownBy hgr fun j o ej hj => ?_)
      rcases hown9.2 with ⟨h, _⟩ | ⟨g', c', cur, h, _, hgb, _⟩
      · rw [h] at ej; simp [Value.ownBlock] at ej
      · rw [h] at ej
        obtain rfl : g' = j := by simpa [Value.ownBlock] using ej
        rw [hgb] at hj; cases hj; rfl
    refine ⟨(hKO.trans (KeepsOthers.setCell _ _ _)).from _, ?_, .slice (some ⟨gg, 0, none⟩) (R.length + 1) cap1, ?_⟩
    · refine ((KeepUp.of_below hb9 (fun k hk => by omega)).trans (KeepUp.grown hgr (fun k hk => by omega) (fun k hk e => by have := (hown9.lt k e.symm).1; omega))).trans (KeepUp.setCell _ _ (fun k hk => by show k ≠ w.heap.size + 1; omega))
    · rw [hpl.out, hnext.out]
      refine ⟨?_, ?_, ?_, ?_, ?_⟩
      · exact (((hbe2.out.trans (hb9.mono (by omega))).grown hgr (by omega) (fun j e => by have := (hown9.lt j e).1; omega)).setCell (by show w.heap.size ≤ w.heap.size + 1; omega) _)
      · refine Row.of ?_
        repeat (first | (with_reducible refine RowG.base b0B ?_) | (with_reducible refine RowG.drew ?_) | (with_reducible refine RowG.set ?_) | ((with_reducible refine RowG.other ?_ ?_); (focus (first | omega | (simp; done) | (simp; omega)))) | (with_reducible refine RowG.alloc ?_))
        rfl
      · refine Row.of ?_
        repeat (first | (with_reducible refine RowG.base b1B ?_) | (with_reducible refine RowG.drew ?_) | (with_reducible refine RowG.set ?_) | ((with_reducible refine RowG.other ?_ ?_); (focus (first | omega | (simp; done) | (simp; omega)))) | (with_reducible refine RowG.alloc ?_))
        rfl
      · rw [ar_snoc, List.length_append]
        exact own_chg (p := fun j => j = w.heap.size + 1) ((Chg.refl _ _).setCell (by rfl) _) (fun j hj e => by omega) hown1
      · have := hgr.size
        simp [World.setCell]; omega
  case done =>
    rintro D W hD ⟨o, hE⟩ hK
    have hpl : RR.take (bkI (toI ks)).length = RR := by rw [bkI_len, hkl.out, ← hRl.out, List.take_length]
    rw [hpl] at hE
    have c0 : W.cell? ⟨w.heap.size + 1, 0, none⟩ = some o := hE.b1.cell rfl
    have hMD := (MarksIn.none w.heap.size V'.heap.size W).push hD (by omega) hK
    obtain ⟨s9, c9, e9, -⟩ := owns_shape hE.ow
    replace hE := Lib.hid hE; replace hMD := Lib.hid hMD; replace hpl := Lib.hid hpl
    dsimp only
    go_wp2
    refine marks_retN hMD.out hE.out.be.size fun W' hu => ?_
    have hE2 := hE.out.cellsUp (Nat.le_refl _) hu
    refine ⟨_, results_tmp rfl _ _ _, ⟨s9, c9, ?_, ?_⟩, hE2.be⟩
    · rw [hRl.out]; rfl
    · have := hE2.ow
      rw [e9] at this
      exact SlS.of_own (E := arE) (base := w.heap.size + 3) (e := 38) (cap := c9) this
end
end Go.Proofs.Ytadmnlkgefbhcaa
