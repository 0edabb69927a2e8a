/- Several texts in one: each says what it proves. -/
import Derived.Test.YtakbpjgnjfigcaaGreatNet3
import Derived.Test.YtakbpjgnjfigcaaGreatB7
import Derived.Test.YtakbpjgnjfigcaaGreatLastIn
import Derived.Test.YtakbpjgnjfigcaaGreatB10
/- The order of the elements: the program. -/
namespace Go.Proofs.YtakbpjgnjfigcaaGreat
open Go.RowKit Go.Maps

attribute [local go_sem] Oper.semAt_some

theorem info_intss : (Tryz.prog.info? 31).map (fun i => (i.zero, i.size, i.bytes)) = some (some (.slice none 0 0), 1, 24) := by kernel_rfl
def nils (k : Nat) : List Value := List.replicate k (.slice none 0 0)
theorem run_make_tab (k : Nat) (hk : k ≤ 100000) (w : World) : (Instr.makeSlice 44 (.int .i64 k) (.int .i64 k)).run Tryz.prog w = .ok (.slice (some ⟨w.heap.size, 0, none⟩) k k) (w.alloc (.cells (nils k).toArray 31)) := by
  obtain ⟨i, hi, hz, hs, hb⟩ := info_parts info_intss
  have h := run_makeSlice (P := Tryz.prog) (w := w) 44 31 i _ Tryz.underlying44 hi hz .i64 .i64 k k (by omega) (by omega) (by rw [hs]; omega) (by rw [hb]; omega) (by omega)
  rw [h, hs]
  have e : madeCells (Value.cells (.slice none 0 0)) ((k : Int).toNat * 1) = (nils k).toArray := by
    apply Array.ext
    · simp [size_madeCells, nils]
    · intro j h1 h2
      simp [madeCells, Value.cells, Nat.mod_one, nils]
  rw [e]
  simp
/-- What order hands back. -/
def OrdRet (us : Uses) (N : Nat) (w : World) (e : Ending) (w' : World) : Prop :=
  ∃ (out : List Nat) (wait : List Int) (so : Option Addr) (co : Nat) (sw : Option Addr) (cw : Nat), e = .returned (.tuple #[.slice so out.length co, .slice sw N cw]) ∧ SlS intE w' so (toI out) ∧ SlS intE w' sw wait ∧ Ordd us N out wait ∧ Below w.heap.size w w'
section
variable {g : Nat} {n : Int} {s : Option Addr} {cap : Nat} {l : List Iq} {s2 : Option Addr} {cq : Nat} {K : List Vv} {sp : Option Addr} {cp mb : Nat} {P : List Pt}
set_option maxRecDepth 100000 in
set_option maxHeartbeats 1000000 in
theorem order_c (w : World) (h : Net 126 w g n s cap l s2 cq K sp cp mb P) (ok : NetOk n K P) :
    Calls Tryz.prog 32 #[.pointer (some ⟨g, 0, none⟩)] w (OrdRet (useN K P) (K.length * P.length) w) := by
  have hsz := fun V (h : Net 126 V g n s cap l s2 cq K sp cp mb P) => size_c V h ok
  have hNs := ok.size
  have hul := ok.use_len
  have hult := ok.use_lt
  have hused := fun (k : Nat) (hk : k < K.length * P.length) (V : World) (hV : Below w.heap.size w V) (Tw : Nat → Prop) hT => used_c k w V h ok hV hk Tw hT
  obtain ⟨N, hN⟩ : ∃ N, K.length * P.length = N := ⟨_, rfl⟩
  simp only [hN] at hsz hNs hult hused ⊢
  obtain ⟨us, hus⟩ : ∃ f, useN K P = f := ⟨_, rfl⟩
  simp only [hus] at hul hult hused ⊢
  clear hN hus ok
  have hmk := run_make_ints N (by omega)
  have hmt := run_make_tab N (by omega)
  replace hsz := Lib.hid hsz; replace hul := Lib.hid hul; replace hult := Lib.hid hult; replace hused := Lib.hid hused
  refine calls_of_wp_marks Tryz.func32 rfl ?_
  simp only [Tryz.ntmps32, List.size_toArray, List.length_cons, List.length_nil, Nat.reduceAdd, Nat.reduceSub, Array.replicate_succ, Array.replicate_zero, List.push_toArray, List.append_toArray, List.nil_append, List.cons_append]
  go_upto_region 2 with (first | (go_at_call 33; refine (hsz.out _ h).mono ?_; rintro e W1 ⟨rfl, hb1⟩; have h1 := Net.up hb1 h))
  refine wp_world fun A1 HA => ?_
  have hA : Below W1.heap.size W1 A1 := by
    rw [HA.out]
    repeat (first | (with_reducible exact Below.refl _ _) | (with_reducible refine Below.drew ?_) | ((with_reducible refine Below.setC ?_ ?_); (focus (first | omega | (simp; done) | (simp; omega)))) | ((with_reducible refine Below.allo ?_ ?_); (focus (first | omega | (simp; done) | (simp; omega)))))
  have hAs : A1.heap.size = W1.heap.size + 2 := by rw [HA.out]; simp
  have w0 : A1.ownsRow W1.heap.size 3 1 (.slice (some ⟨W1.heap.size, 0, none⟩) N N) N (intE.all (List.replicate N 0)) := by
    rw [HA.out]; exact (own_zeros W1 N (by omega)).alloc _
  have w1 : Row A1 (W1.heap.size + 1) 31 #[.slice (some ⟨W1.heap.size, 0, none⟩) N N] := by
    rw [HA.out]
    refine Row.of ?_
    repeat (first | (with_reducible refine RowG.new ?_) | (with_reducible refine RowG.drew ?_) | (with_reducible refine RowG.set ?_) | ((with_reducible refine RowG.other ?_ ?_); (focus (first | omega | (simp; done) | (simp; omega)))) | ((with_reducible refine RowG.new' ?_ ?_); (focus (first | omega | (simp; done) | (simp; omega)))) | (with_reducible refine RowG.alloc ?_))
    rfl
  replace h1 := Net.up hA h1
  have hwA : Below w.heap.size w A1 := hb1.trans (hA.mono hb1.size)
  have hwb := hb1.size
  clear HA
  replace hAs := Lib.hid hAs
  go_upto_region 3 with (first | (go_at_call 33; refine (hsz.out _ h1).mono ?_; rintro e W2 ⟨rfl, hb2⟩; replace h1 := Net.up hb2 h1; replace w0 := up_of hb2 w0; replace w1 := up_of hb2 w1; replace hwA := hwA.trans (hb2.mono hwA.size); have hAW := hb2.size))
  refine wp_world fun B1 HB => ?_
  have hB : Below W2.heap.size W2 B1 := by
    rw [HB.out]
    repeat (first | (with_reducible exact Below.refl _ _) | (with_reducible refine Below.drew ?_) | ((with_reducible refine Below.setC ?_ ?_); (focus (first | omega | (simp; done) | (simp; omega)))) | ((with_reducible refine Below.allo ?_ ?_); (focus (first | omega | (simp; done) | (simp; omega)))))
  have tb : Tbl intE 31 3 B1 W2.heap.size (.slice (some ⟨W2.heap.size, 0, none⟩) N N) (List.replicate N ⟨none, 0, 0⟩) (List.replicate N []) := by
    refine Tbl.made ?_ (Nat.le_refl _) (by omega)
    rw [HB.out]
    exact (heap_alloc_old _ _ (by simp)).trans (heap_alloc_new W2 _)
  have u1 : Row B1 (W2.heap.size + 1) 44 #[.slice (some ⟨W2.heap.size, 0, none⟩) N N] := by
    rw [HB.out]
    refine Row.of ?_
    repeat (first | (with_reducible refine RowG.new ?_) | (with_reducible refine RowG.drew ?_) | (with_reducible refine RowG.set ?_) | ((with_reducible refine RowG.other ?_ ?_); (focus (first | omega | (simp; done) | (simp; omega)))) | ((with_reducible refine RowG.new' ?_ ?_); (focus (first | omega | (simp; done) | (simp; omega)))) | (with_reducible refine RowG.alloc ?_))
    rfl
  replace h1 := Net.up hB h1; replace w0 := up_of hB w0; replace w1 := up_of hB w1; replace hwA := hwA.trans (hB.mono hwA.size)
  clear HB
  obtain ⟨bw, hbw⟩ : ∃ b, W1.heap.size = b := ⟨_, rfl⟩
  obtain ⟨bu, hbu⟩ : ∃ b, W2.heap.size = b := ⟨_, rfl⟩
  have hwbu : w.heap.size ≤ bw ∧ bw + 1 < bu := by have := hAs.out; omega
  simp only [hbw] at w0 w1 ⊢
  simp only [hbu] at tb u1 ⊢
  have hO : OrdM w bw bu N B1.heap.size B1 (List.replicate N 0) (List.replicate N ⟨none, 0, 0⟩) (List.replicate N []) (.slice none 0 0) [] :=
    ⟨hwA, hwbu, w0, w1, tb, u1, fun j hj g e => by simp [Sv.val, Value.ownBlock] at e, World.ownsRow_nil _ _ _ _, fun g e => by simp [Value.ownBlock] at e, fun j hj g e => by simp [Sv.val, Value.ownBlock] at e⟩
  clear tb w0 w1 u1 hwA hB hA hb1 hb2 hAW hwb hAs hbw hbu hmk hmt
  go_wp2_with (first | (go_at_call 33; refine (hsz.out _ h1).mono ?_; rintro e W3 ⟨rfl, hb⟩; replace h1 := Net.up hb h1; replace hO := OrdM.up hb hO))
  replace hO := hO.next
  rw [← wtK_zero us, ← usK_zero us] at hO
  clear h1
  refine wp_loop_marks [6, 7, 20, 21, 22, 23, 24, 25, 43, 44, 45, 46, 47, 48, 49, 50, 51, 52] (fun z ds V => ∃ (k : Nat) (ss : List Sv) (ov : Value), k ≤ N ∧ z 20 = .int .i64 k ∧ z 6 = ov ∧ OrdM w bw bu N V.heap.size V (wtK us N k 0) ss (usK us N k []) ov (toI (free us k)) ∧ Marks w.heap.size ds V) (fun z => N - (intOf (z 20)).toNat) ?_ ?_
  · exact ⟨0, _, _, by omega, rfl, rfl, hO, Marks.nil _ _⟩
  · clear hO
    rintro z ds U ⟨k, ss, ov, hk, z20, z6, hO, hM⟩
    simp only [setMany, List.setIfInBounds_toArray, List.set_cons_zero, List.set_cons_succ]
    simp only [z20, z6]
    by_cases hlt : k < N
    · have hkU := usrs_len (us := us) hul.out k
      have hbuV := hO.u1.lt
      have hwb := hO.wb
      go_upto_region 7 with (fail)
      refine wp_world fun X HX => ?_
      have hX : Below U.heap.size U X := by rw [HX.out]; (repeat (first | exact Below.refl _ _ | refine Below.alloc ?_ (by simp; try omega) _ | refine Below.setCell ?_ (by simp) _ | refine Below.drew ?_))
      have kbB : Row X (U.heap.size) 3 #[.int .i64 k] := (by rw [HX.out]; (repeat (first | (refine blk_new ?_; simp; done) | refine blk_old ?_ _)) : X.heap[U.heap.size]? = some (.cells #[.int .i64 k] 3 (0, 0)))
      have kb0 : X.cell? ⟨U.heap.size, 0, none⟩ = some (.int .i64 k) := by rw [HX.out]; simp [go_sem]
      have kbl : U.heap.size < X.heap.size := World.block_lt_of_cell? X _ kb0
      try replace hO := up_of hX hO
      try replace hM := up_of hX hM
      have hXs : X.heap.size = U.heap.size + 1 := by rw [HX.out]; simp
      have hwX := hO.be
      replace hXs := Lib.hid hXs
      clear HX
      go_wp2_with (first | (go_at_call 39; refine (hused.out k hlt X hwX (fun j => w.heap.size ≤ j ∧ j < U.heap.size) (fun j hj => ⟨hj.1, by have := hXs.out; omega⟩)).mono ?_; rintro e Y ⟨rfl, hit, hb, hYs⟩; replace hYs := Lib.hid hYs; replace hO := OrdM.up hb hO; replace hM := Marks.up hb hM; replace kbB := up_of hb kbB))
      have hYV : Y.heap.size = U.heap.size + 3 := by have := hXs.out; have := hYs.out; omega
      replace hYV := Lib.hid hYV
      have hbe := hO.be
      refine' wp_rangeT rfl (fun _ _ => by simp [go_sem]) hit (fun pre W => ∃ ss', OrdM w bw bu N U.heap.size W (wtK us N k pre.length) ss' (usK us N k pre) ov (toI (free us k)) ∧ Row W U.heap.size 3 #[.int .i64 k] ∧ MarksIn w.heap.size Y.heap.size ds W ∧ Y.heap.size ≤ W.heap.size) (fun _ _ _ => False) ?hI (fun _ _ _ _ h _ => h) (fun s W h => h.choose_spec.2.2.2) (fun _ _ _ h => h.elim) ⟨ss, hO, kbB, hM.lt, Nat.le_refl _⟩ _ ?assign ?body ?done (fun _ _ _ _ _ _ h _ => h.elim)
      case hI =>
        rintro pre A B ⟨ss', h1, h2, h3, h4⟩ hu
        exact ⟨ss', h1.cellsUp hbe.size hu, hu.cells _ _ _ _ h2, h3.below hu.below, Nat.le_trans h4 hu.below.size⟩
      case assign =>
        intro l x W K hK
        simp only [List.setIfInBounds_toArray, List.set_cons_zero, List.set_cons_succ]
        gi_wp2
        exact hK
      case body =>
        rintro l pre x W ⟨ss', hO', kbW, hM', hYW⟩ hpre hW2
        have hxm : x ∈ us k := hpre.subset (by simp)
        have hxN := hult.out k x hxm
        have hpl : pre.length + 1 ≤ (us k).length := by have := hpre.length_le; simpa using this
        have hu3 := hul.out k
        have hcnt : pre.count x ≤ pre.length := List.count_le_length
        have c27 : W.cell? ⟨bw + 1, 0, none⟩ = some (.slice (some ⟨bw, 0, none⟩) N N) := hO'.w1.cell rfl
        have c28 : W.cell? ⟨U.heap.size, 0, none⟩ = some (.int .i64 k) := kbW.cell rfl
        obtain ⟨wc, wf⟩ := hO'.wcell (k := k) (by rw [wtK_len]; exact hlt)
        rw [wtK_at hlt] at wc
        have hsetw := hO'.setw k ((pre.length : Int) + 1)
        rw [wtK_set hlt] at hsetw
        have e1 : IntKind.i64.wrap ((pre.length : Int) + 1) = (pre.length : Int) + 1 := i64_small (by omega)
        have i1 : (0 : Int) ≤ (k : Int) := by omega
        have i2 : (k : Int) < (N : Int) := by omega
        have hWs : U.heap.size + 7 ≤ W.heap.size := by have := hYV.out; omega
        replace hsetw := Lib.hid hsetw; replace hO' := Lib.hid hO'; replace hM' := Lib.hid hM'; replace hpre := Lib.hid hpre; replace kbW := Lib.hid kbW; replace hxm := Lib.hid hxm; replace hpl := Lib.hid hpl; replace hu3 := Lib.hid hu3; replace hcnt := Lib.hid hcnt
        gi_upto_region 10 with (fail)
        refine wpIn_world fun Z HZ => ?_
        have hOZ : OrdM w bw bu N U.heap.size Z (wtK us N k (pre.length + 1)) ss' (usK us N k pre) ov (toI (free us k)) := by rw [HZ.out]; exact hsetw.out
        have kbZ : Row Z U.heap.size 3 #[.int .i64 k] := by
          rw [HZ.out]; exact (Below.heap_setCell _ _ _ _ (by show U.heap.size ≠ bw; omega)).trans kbW.out
        have hKZ : KeepN (fun j => w.heap.size ≤ j ∧ j < U.heap.size) Y.heap.size (Y.heap.size + 2) 2 W Z := by
          rw [HZ.out]
          exact (KeepN.refl W).setC _ ⟨fun _ => ⟨hwb.1, by show bw < U.heap.size; omega⟩, fun h => by have := hYV.out; have h1 : Y.heap.size + 2 ≤ bw := h.1; omega⟩
        have hFZ : KeepsOthers W Z := by rw [HZ.out]; exact KeepsOthers.setCell _ _ _
        have hZs : Z.heap.size = W.heap.size := by rw [HZ.out]; simp [World.setCell]
        clear HZ c27 c28 wc wf
        have hxR : x < (usK us N k pre).length := by rw [usK_len]; exact hxN
        obtain ⟨b', e', hb', f0, hxs, x0, hv⟩ := hOZ.tb.head hxR
        cases e'
        have hrow := hOZ.tb.row x hxR hxs
        rw [hv] at hrow
        have hgex := fun g e => hOZ.ge x hxs g (by rw [hv]; exact e)
        have hset := usK_set (us := us) (N := N) (k := k) (pre := pre) hxN hxR
        have hRl : (usK us N k pre)[x].length ≤ 20000 := by
          rw [usK_at hxN, toI_len, List.length_append, List.length_replicate]
          have := usrs_len (us := us) hul.out k x
          have := hpl.out; have := hu3.out; have := hcnt.out
          omega
        obtain ⟨RL, hRL⟩ : ∃ y, (usK us N k pre)[x] = y := ⟨_, rfl⟩
        rw [hRL] at x0 hv hrow hset hRl
        simp only [hRL] at hgex
        obtain ⟨sa, hsa⟩ : ∃ y, ss'[x].addr = y := ⟨_, rfl⟩
        obtain ⟨sc, hsc⟩ : ∃ y, ss'[x].cap = y := ⟨_, rfl⟩
        simp only [hsa, hsc] at x0 hv hrow hgex
        have b0 : Z.cell? ⟨bu + 1, 0, none⟩ = some (.slice (some ⟨bu, 0, none⟩) N N) := hOZ.u1.cell rfl
        have k0 : Z.cell? ⟨U.heap.size, 0, none⟩ = some (.int .i64 k) := kbZ.cell rfl
        obtain ⟨i0, hi0, hz0, hz1, hz2⟩ := info_parts info_int
        have j1 : (0 : Int) ≤ (x : Int) := by omega
        have j2 : (x : Int) < (N : Int) := by omega
        have hZW : U.heap.size + 7 ≤ Z.heap.size := by omega
        have hgne : ∀ g, (Value.slice sa RL.length sc).ownBlock = some g → g ≠ U.heap.size ∧ g ≠ bu ∧ g ≠ bu + 1 := fun g e => by have := hgex g e; omega
        replace hOZ := Lib.hid hOZ; replace kbZ := Lib.hid kbZ; replace hKZ := Lib.hid hKZ; replace hFZ := Lib.hid hFZ; replace hset := Lib.hid hset; replace hRL := Lib.hid hRL; replace hsa := Lib.hid hsa; replace hsc := Lib.hid hsc; replace hv := Lib.hid hv; replace hgex := Lib.hid hgex; replace hgne := Lib.hid hgne; replace hZs := Lib.hid hZs
        refine wpL.regionIn (m := 10) (S := fun V => V.cell? ⟨bu + 1, 0, none⟩ = some (.slice (some ⟨bu, 0, none⟩) N N) ∧ V.cell? ⟨U.heap.size, 0, none⟩ = some (.int .i64 k) ∧ V.cell? ⟨bu, x, none⟩ = some (.slice sa RL.length sc)) (by kernel_rfl) (by kernel_rfl) ?_ (fun hHeld => ?_)
        (focus ((first | exact ⟨b0, k0, x0⟩ | ((first | (with_reducible exact ⟨b0, k0, x0⟩) | ((try dsimp only); (repeat' apply And.intro) <;> (repeat (first | (with_reducible assumption) | (with_reducible refine cell_set (by simp; try omega) ?_) | (with_reducible refine cell_drew ?_) | (with_reducible refine cell_alloc ?_ _))))))); done))
        refine wpL.take' (i := 0) rfl (by kernel_rfl) (by kernel_rfl) (by kernel_rfl) (by kernel_rfl) (by decide) (by kernel_rfl) (by assumption) ?_
        apply Exists.intro; refine ⟨fun _ _ _ h => (by cases h.1), ?_, ?_⟩
        (focus (first | (refine Or.inl ⟨by rfl, fun V hV => ?_⟩; ((try dsimp only at hV); go_simp; (try (with_reducible rfl)); done)) | exact Or.inr ⟨by rfl, rfl⟩))
        try simp only [Act.put, List.setIfInBounds_toArray, List.set_cons_zero, List.set_cons_succ]
        refine wpL.take' (i := 1) rfl (by kernel_rfl) (by kernel_rfl) (by kernel_rfl) (by kernel_rfl) (by decide) (by kernel_rfl) (by assumption) ?_
        apply Exists.intro; refine ⟨fun _ _ _ h => (by cases h.1), ?_, ?_⟩
        (focus (first | (refine Or.inl ⟨by rfl, fun V hV => ?_⟩; ((try dsimp only at hV); go_simp; (try (with_reducible rfl)); done)) | exact Or.inr ⟨by rfl, rfl⟩))
        try simp only [Act.put, List.setIfInBounds_toArray, List.set_cons_zero, List.set_cons_succ]
        refine wpL.take' (i := 2) rfl (by kernel_rfl) (by kernel_rfl) (by kernel_rfl) (by kernel_rfl) (by decide) (by kernel_rfl) (by assumption) ?_
        apply Exists.intro; refine ⟨fun _ _ _ h => (by cases h.1), ?_, ?_⟩
        (focus (first | (refine Or.inl ⟨by rfl, fun V hV => ?_⟩; ((try dsimp only at hV); go_simp; (try (with_reducible rfl)); done)) | exact Or.inr ⟨by rfl, rfl⟩))
        try simp only [Act.put, List.setIfInBounds_toArray, List.set_cons_zero, List.set_cons_succ]
        refine wpL.take' (i := 3) rfl (by kernel_rfl) (by kernel_rfl) (by kernel_rfl) (by kernel_rfl) (by decide) (by kernel_rfl) (by assumption) ?_
        apply Exists.intro; refine ⟨fun _ _ _ h => (by cases h.1), ?_, ?_⟩
        (focus (first | (refine Or.inl ⟨by rfl, fun V hV => ?_⟩; ((try dsimp only at hV); go_simp; (try (with_reducible rfl)); done)) | exact Or.inr ⟨by rfl, rfl⟩))
        try simp only [Act.put, List.setIfInBounds_toArray, List.set_cons_zero, List.set_cons_succ]
        refine wpL.take' (i := 4) rfl (by kernel_rfl) (by kernel_rfl) (by kernel_rfl) (by kernel_rfl) (by decide) (by kernel_rfl) (by assumption) ?_
        apply Exists.intro; refine ⟨fun _ _ _ h => (by cases h.1), ?_, ?_⟩
        (focus (first | (refine Or.inl ⟨by rfl, fun V hV => ?_⟩; ((try dsimp only at hV); go_simp; (try (with_reducible rfl)); done)) | exact Or.inr ⟨by rfl, rfl⟩))
        try simp only [Act.put, List.setIfInBounds_toArray, List.set_cons_zero, List.set_cons_succ]
        refine wpL.take' (i := 5) rfl (by kernel_rfl) (by kernel_rfl) (by kernel_rfl) (by kernel_rfl) (by decide) (by kernel_rfl) (by assumption) ?_
        apply Exists.intro; refine ⟨fun _ _ _ h => (by cases h.1), ?_, ?_⟩
        (focus (first | (refine Or.inl ⟨by rfl, fun V hV => ?_⟩; ((try dsimp only at hV); go_simp; (try (with_reducible rfl)); done)) | exact Or.inr ⟨by rfl, rfl⟩))
        try simp only [Act.put, List.setIfInBounds_toArray, List.set_cons_zero, List.set_cons_succ]
        refine wpL.take' (i := 6) rfl (by kernel_rfl) (by kernel_rfl) (by kernel_rfl) (by kernel_rfl) (by decide) (by kernel_rfl) (by assumption) ?_
        apply Exists.intro; refine ⟨fun _ _ _ h => (by cases h.1), ?_, ?_⟩
        (focus (first | (refine Or.inl ⟨by rfl, fun V hV => ?_⟩; ((try dsimp only at hV); go_simp; (try (with_reducible rfl)); done)) | exact Or.inr ⟨by rfl, rfl⟩))
        try simp only [Act.put, List.setIfInBounds_toArray, List.set_cons_zero, List.set_cons_succ]
        refine wpL.one (i := 7) (by kernel_rfl) rfl fun K hK => ?_
        rw [if_pos (by rfl)]
        go_simp
        try clear hHeld
        refine hK.out _ _ ?_ (fun hHeld => ?_)
        (focus ((first | exact ⟨b0, k0, x0⟩ | ((first | (with_reducible exact ⟨b0, k0, x0⟩) | ((try dsimp only); (repeat' apply And.intro) <;> (repeat (first | (with_reducible assumption) | (with_reducible refine cell_set (by simp; try omega) ?_) | (with_reducible refine cell_drew ?_) | (with_reducible refine cell_alloc ?_ _))))))); done))
        clear hK K
        try simp only [Act.put, List.setIfInBounds_toArray, List.set_cons_zero, List.set_cons_succ]
        refine wpL.one (i := 8) (by kernel_rfl) rfl fun K hK => ?_
        ((first | (refine step_append_lies _ (by rfl) _ _ 31 (by rfl) bu 3 i0 (.int .i64 0) 1 8 Tryz.underlying31 hi0 hz0 hz1 hz2 rfl (by decide) _ _ _ (by rfl) (hrow.alloc _) ⟨Z.heap.size, 0, none⟩ 1 1 [.int .i64 k] (by rfl) (by rfl) (news_new _ _ _) (by simp [Value.oneCell']) (by decide) (by unfold maxLen; omega) (by omega) (by first | omega | (simp; omega)) (Z.heap.size + 1) (by simp) ?_; intro gg cap1 w1 hown1 hgrow hat hlt2; replace b0 := cell_appD hgrow b0 (fun g e => (hgne.out g e).2.2); replace k0 := cell_appD hgrow k0 (fun g e => (hgne.out g e).1); replace x0 := cell_appD hgrow x0 (fun g e => (hgne.out g e).2.1); have f1 : w1.frozen? ⟨bu, x, none⟩ = false := (World.frozen?_of_block (w := Z) (a := ⟨bu, x, none⟩) ((hgrow.block bu (by show bu < (Z.alloc _).heap.size; simp; omega) (fun e => (hgne.out bu e.symm).2.1 rfl)).trans (heap_alloc_old Z _ (by show bu < Z.heap.size; omega)))).trans f0)))
        try clear hHeld
        refine hK.out _ _ ?_ (fun hHeld => ?_)
        (focus ((first | exact ⟨b0, k0, x0⟩ | ((first | (with_reducible exact ⟨b0, k0, x0⟩) | ((try dsimp only); (repeat' apply And.intro) <;> (repeat (first | (with_reducible assumption) | (with_reducible refine cell_set (by simp; try omega) ?_) | (with_reducible refine cell_drew ?_) | (with_reducible refine cell_alloc ?_ _))))))); done))
        clear hK K
        try simp only [Act.put, List.setIfInBounds_toArray, List.set_cons_zero, List.set_cons_succ]
        refine wpL.take' (i := 9) rfl (by kernel_rfl) (by kernel_rfl) (by kernel_rfl) (by kernel_rfl) (by decide) (by kernel_rfl) (by assumption) ?_
        apply Exists.intro; refine ⟨fun _ _ _ h => (by cases h.1), ?_, ?_⟩
        (focus (first | (refine Or.inl ⟨by rfl, fun V hV => ?_⟩; ((try dsimp only at hV); go_simp; (try (with_reducible rfl)); done)) | exact Or.inr ⟨by rfl, rfl⟩))
        try simp only [Act.put, List.setIfInBounds_toArray, List.set_cons_zero, List.set_cons_succ]
        refine wpL.last (by kernel_rfl) (by kernel_rfl) rfl fun K hK => ?_
        rw [if_pos (by rfl)]
        go_simp
        refine hK.out _ _ (wpL.fin (by kernel_rfl) ?_ _)
        clear hK K
        try simp only [Act.put, List.setIfInBounds_toArray, List.set_cons_zero, List.set_cons_succ]
        refine ⟨rfl, ?_⟩
        gi_wp2_with fail
        obtain ⟨Z2, hZ2, hZ2s, hgr⟩ : ∃ Z2, Below Z.heap.size Z Z2 ∧ Z2.heap.size = Z.heap.size + 1 ∧ Z2.grownBy w1 (Value.slice sa RL.length sc).ownBlock := ⟨_, ((Below.refl _ Z).drew.alloc (by exact Nat.le_refl _) _), by simp, hgrow⟩
        have hO2 := OrdM.up hZ2 hOZ.out
        have hvx : ss'[x].val.ownBlock = (Value.slice sa RL.length sc).ownBlock := by rw [hv.out]
        have hpu := hO2.pushU hxs (x := ⟨some ⟨gg, 0, none⟩, RL.length + 1, cap1⟩) (L := RL ++ [(k : Int)]) (V' := w1) (by rw [hvx]; exact hgr) (by rw [int_snoc, List.length_append]; exact hown1) (by
          rw [hvx]
          rcases hat with h | h
          · exact .inl h.symm
          · exact .inr ⟨gg, rfl, by omega⟩) (by omega)
        rw [hset.out] at hpu
        have hYW2 := hYV.out
        have hKW : KeepN (fun j => w.heap.size ≤ j ∧ j < U.heap.size) Y.heap.size (Y.heap.size + 2) 2 W (w1.setCell ⟨bu, x, none⟩ (.slice (some ⟨gg, 0, none⟩) (RL.length + 1) cap1)) := by
          refine ((hKZ.out.trans (KeepN.of_below hZ2 (by omega) (by omega))).grown hgr (by omega) (by omega) (fun j e => ?_)).setC _ ⟨fun _ => ⟨by show w.heap.size ≤ bu; omega, by show bu < U.heap.size; omega⟩, fun h => by have h1 : Y.heap.size + 2 ≤ bu := h.1; omega⟩
          have := hgex.out j e
          exact ⟨fun h => ⟨by omega, by omega⟩, by omega⟩
        have hFW : KeepsOthers W (w1.setCell ⟨bu, x, none⟩ (.slice (some ⟨gg, 0, none⟩) (RL.length + 1) cap1)) := by
          refine ((hFZ.out.trans (KeepsOthers.of_below hZ2)).trans (KeepsOthers.of_grownBy hgr fun j o ej hj => ?_)).trans (KeepsOthers.setCell _ _ _)
          have hrw := up_of hZ2 hrow
          rcases hrw.2 with ⟨h, _⟩ | ⟨g', c', cur, h, _, hgb, _⟩
          · rw [h] at ej; simp [Value.ownBlock] at ej
          · rw [h] at ej
            obtain rfl : g' = j := by simpa [Value.ownBlock] using ej
            rw [hgb] at hj; cases hj; rfl
        refine ⟨hFW.from _, hKW, ss'.set x ⟨some ⟨gg, 0, none⟩, RL.length + 1, cap1⟩, ?_, ?_, hM'.out.others hFW, ?_⟩
        · rw [List.length_append]; exact hpu
        · refine (Below.heap_setCell _ _ _ _ (by show U.heap.size ≠ bu; omega)).trans ((hgr.block _ (by omega) (fun e => (hgne.out _ e.symm).1 rfl)).trans (Up.block hZ2 kbZ.out))
        · exact Nat.le_trans hYW hFW.size
      case done =>
        rintro D W hD ⟨ss', hO', kbW, hM', hYW⟩ hK
        rw [wtK_next, usK_next] at hO'
        have hMD := hM'.push hD (Nat.le_trans hbe.size hD) hK
        obtain ⟨wc, wf⟩ := hO'.wcell (k := k) (by rw [wtK_len]; exact hlt)
        have hwk : (wtK us N (k + 1) 0)[k]'(by rw [wtK_len]; exact hlt) = ((us k).length : Int) := by simp [wtK]
        rw [hwk] at wc
        have c43 : W.cell? ⟨bw + 1, 0, none⟩ = some (.slice (some ⟨bw, 0, none⟩) N N) := hO'.w1.cell rfl
        have c44 : W.cell? ⟨U.heap.size, 0, none⟩ = some (.int .i64 k) := kbW.cell rfl
        have hfree := free_succ us k
        have hfl := free_len us k
        have i1 : (0 : Int) ≤ (k : Int) := by omega
        have i2 : (k : Int) < (N : Int) := by omega
        have hWU : U.heap.size + 3 ≤ W.heap.size := by have := hYV.out; omega
        replace hK := Lib.hid hK; replace hO' := Lib.hid hO'; replace hMD := Lib.hid hMD; replace hfree := Lib.hid hfree
        clear hM' hwk
        obtain ⟨uk, huk⟩ : ∃ x, (us k).length = x := ⟨_, rfl⟩
        rw [huk] at wc
        by_cases h0 : uk = 0
        · subst h0
          have hfr := hfree.out
          rw [if_pos huk] at hfr
          have hot := hO'.out.ot
          rw [toI_len] at hot
          obtain ⟨i0, hi0, hz0, hz1, hz2⟩ := info_parts info_int
          replace hfr := Lib.hid hfr; replace huk := Lib.hid huk
          go_upto_region 12 with (fail)
          go_wp2_with (first | (at_builtin; refine wpList_append_lies _ rfl _ _ 31 rfl (bu + 2) 3 i0 (.int .i64 0) 1 8 Tryz.underlying31 hi0 hz0 hz1 hz2 rfl (by decide) _ _ _ rfl (hot.alloc _) ⟨W.heap.size, 0, none⟩ 1 1 [.int .i64 k] rfl rfl (news_new _ _ _) (by simp [Value.oneCell']) (by decide) (by unfold maxLen; omega) (by omega) (by simp; omega) (W.heap.size + 1) (by simp) ?_; intro gg cap1 w1 hown1 hgrow hat hlt2))
          obtain ⟨Z2, hZ2, hZ2s, hgr⟩ : ∃ Z2, Below W.heap.size W Z2 ∧ Z2.heap.size = W.heap.size + 1 ∧ Z2.grownBy w1 ov.ownBlock := ⟨_, ((Below.refl _ W).alloc (by exact Nat.le_refl _) _), by simp, hgrow⟩
          have hO2 := (OrdM.up hZ2 hO'.out).nextTo hgr.size
          have hpo := hO2.pushO (V' := w1) (nv := .slice (some ⟨gg, 0, none⟩) ((free us k).length + 1) cap1) (out' := toI (free us (k + 1))) hgr (by
            rw [hfr.out, toI_snoc, List.length_append, toI_len, int_snoc]; exact hown1) (by
            rcases hat with h | h
            · exact .inl h.symm
            · exact .inr ⟨gg, rfl, by omega⟩) (fun g _ h => .inl h)
          have hFW : KeepsOthers W w1 := by
            refine (KeepsOthers.of_below hZ2).trans (KeepsOthers.of_grownBy hgr fun j o ej hj => ?_)
            rcases (up_of hZ2 hot).2 with ⟨h, _⟩ | ⟨g', c', cur, h, _, hgb, _⟩
            · rw [h] at ej; simp [Value.ownBlock] at ej
            · rw [h] at ej
              obtain rfl : g' = j := by simpa [Value.ownBlock] using ej
              rw [hgb] at hj; cases hj; rfl
          refine ⟨⟨by kernel_rfl, k + 1, ss', _, by omega, rfl, rfl, hpo, hMD.out.others hFW⟩, ?_⟩
          show N - (intOf (.int .i64 ((k : Int) + 1))).toNat < _
          exact meas hlt
        · have hfr := hfree.out
          rw [if_neg (by omega)] at hfr
          have h0' : ((uk : Int) == 0) = false := by simp; omega
          replace hfr := Lib.hid hfr; replace huk := Lib.hid huk
          clear h0
          go_wp2
          refine ⟨⟨by kernel_rfl, k + 1, ss', _, by omega, rfl, rfl, by rw [hfr.out]; exact hO'.out.next, hMD.out⟩, ?_⟩
          show N - (intOf (.int .i64 ((k : Int) + 1))).toNat < _
          exact meas hlt
    · have hkN : N = k := by omega
      subst hkN
      have hKh := Khn.start (us := us) (N := N) (out := free us N) (wait := wtK us N N 0) rfl (wtK_len _ _ _ _) (fun k hk => wtK_all hk)
      obtain ⟨so, co, e, -⟩ := owns_shape hO.ot
      rw [toI_len] at e
      subst e
      obtain ⟨o0, hfo⟩ : ∃ o, free us N = o := ⟨_, rfl⟩
      obtain ⟨wt0, hwt0⟩ : ∃ o, wtK us N N 0 = o := ⟨_, rfl⟩
      rw [hfo, hwt0] at hKh hO
      rw [hfo]
      clear hfo hwt0 z20 z6 hk hlt
      replace hKh := Lib.hid hKh
      have hUs := hO.be.size
      go_wp2
      go_loopw [6, 9] (fun ov ii V => ∃ (i : Nat) (out : List Nat) (wt : List Int) (so : Option Addr) (co : Nat), ii = .int .i64 i ∧ ov = .slice so out.length co ∧ OrdM w bw bu N V.heap.size V wt ss (usK us N N []) ov (toI out) ∧ Hid (Khn us N i 0 out wt) ∧ Marks w.heap.size ds V) (fun _ ii _ => N - (intOf ii).toNat)
      case atStart => exact ⟨0, o0, wt0, so, co, rfl, rfl, hO, hKh, hM⟩
      case round =>
        clear hO hKh hM hUs
        obtain ⟨i, out, wt, so, co, rfl, rfl, hO, hKh, hM⟩ := hrel
        have hol : out.length ≤ N := nodup_len N out hKh.out.nd hKh.out.lt
        by_cases hi : i < out.length
        · have hiI : i < (toI out).length := by rw [toI_len]; exact hi
          have hot := hO.ot
          rw [toI_len] at hot
          obtain ⟨og, hso, hog1, hog2⟩ := own_ex hot (by omega)
          subst hso
          have o0 := owns_cell hot (intE_at (toI out) hiI)
          rw [toI_at hiI hi] at o0
          have hxN := hKh.out.lt _ (List.getElem_mem hi)
          have hgd : out.getD i N = out[i] := by rw [List.getD_eq_getElem?_getD, List.getElem?_eq_getElem hi]; rfl
          obtain ⟨x, hx⟩ : ∃ x, out[i] = x := ⟨_, rfl⟩
          rw [hx] at o0 hxN hgd
          have hxR : x < (usK us N N []).length := by rw [usK_len]; exact hxN
          obtain ⟨b', e', hb', f0, hxs, x0, hv⟩ := hO.tb.head hxR
          cases e'
          have hRL := usK_all (us := us) (N := N) hxN hxR
          have hRl : (usrs us N x).length ≤ 12000 := by have := usrs_len (us := us) hul.out N x; omega
          rw [hRL, toI_len] at x0 hv
          obtain ⟨sa, hsa⟩ : ∃ y, ss[x].addr = y := ⟨_, rfl⟩
          obtain ⟨sc, hsc⟩ : ∃ y, ss[x].cap = y := ⟨_, rfl⟩
          rw [hsa, hsc] at x0 hv
          have b0 : wr.cell? ⟨bu + 1, 0, none⟩ = some (.slice (some ⟨bu, 0, none⟩) N N) := hO.u1.cell rfl
          obtain ⟨UL, hUL⟩ : ∃ y, usrs us N x = y := ⟨_, rfl⟩
          rw [hUL] at x0 hv hRL hRl
          have hgd2 := hgd
          replace hgd := Lib.hid hgd; replace hx := Lib.hid hx; replace hsa := Lib.hid hsa; replace hsc := Lib.hid hsc; replace hv := Lib.hid hv; replace hRL := Lib.hid hRL; replace hUL := Lib.hid hUL; replace hO := Lib.hid hO; replace hM := Lib.hid hM; replace hot := Lib.hid hot
          clear hgd2
          have g1 : (0 : Int) ≤ (i : Int) := by omega
          have g2 : (i : Int) < (out.length : Int) := by omega
          have g3 : (0 : Int) ≤ (x : Int) := by omega
          have g4 : (x : Int) < (N : Int) := by omega
          go_upto_region 17 with (fail)
          try have ld_b0 := World.block_lt_of_cell? _ _ b0
          try have ld_o0 := World.block_lt_of_cell? _ _ o0
          try have ld_x0 := World.block_lt_of_cell? _ _ x0
          refine region_q (by kernel_rfl) (by kernel_rfl) ?_
          dsimp only [List.toList_toArray]
          repeat (first
           | go_big_quiet_skip
           | (go_big_quiet_want
              first
              | (refine qq_det ?_
                 apply Exists.intro; refine ⟨fun W' hW' => ?_, ?_⟩
                 (· have hk := cellB hW'; go_simp; try (first | rfl | rw [if_pos (by omega)]))
                 simp only [Act.put, List.setIfInBounds_toArray, List.set_cons_zero, List.set_cons_succ]; go_big_quiet_on)))
          refine wpQuiet_nil ?_
          intro W1 hb
          try replace b0 := up_of hb b0
          try replace o0 := up_of hb o0
          try replace x0 := up_of hb x0
          have hO1 := OrdM.up hb hO.out
          have hM1 := Marks.up hb hM.out
          clear b0 o0 x0 hO hM hot
          have hO2 := hO1.next
          clear hO1
          go_wp2
          go_loopw [6, 67] (fun ov tt V => ∃ (t : Nat) (out : List Nat) (wt : List Int) (so : Option Addr) (co : Nat), t ≤ UL.length ∧ tt = .int .i64 t ∧ ov = .slice so out.length co ∧ i < out.length ∧ Hid (out.getD i N = x) ∧ OrdM w bw bu N V.heap.size V wt ss (usK us N N []) ov (toI out) ∧ Hid (Khn us N i t out wt) ∧ Marks w.heap.size ds V) (fun _ tt _ => UL.length - (intOf tt).toNat)
          case atStart => exact ⟨0, out, wt, _, co, by omega, rfl, rfl, hi, hgd, hO2, hKh, hM1⟩
          case round =>
            clear hO2 hKh hM1 hgd hx hi hol hiI g1 g2
            obtain ⟨t, out, wt, so, co, ht, rfl, rfl, hi, hgd, hO, hKh, hM⟩ := hrel
            have hol : out.length ≤ N := nodup_len N out hKh.out.nd hKh.out.lt
            by_cases hlt : t < UL.length
            · have hrow := hO.tb.row x hxR hxs
              have hRL2 := hRL.out
              rw [hv.out, hRL2, toI_len] at hrow
              have htI : t < (toI UL).length := by rw [toI_len]; exact hlt
              obtain ⟨ga, hsa', hg1, hg2⟩ := own_ex hrow (by omega)
              subst hsa'
              have t0 := owns_cell hrow (intE_at (toI UL) htI)
              rw [toI_at htI hlt] at t0
              have hU2 : usrs us N (out.getD i N) = UL := by rw [hgd.out]; exact hUL.out
              have hstep := hKh.out.step hi (t := t) (by rw [hU2]; exact hlt) (k := UL[t]) (by simp only [hU2])
              obtain ⟨k, hk⟩ : ∃ y, UL[t] = y := ⟨_, rfl⟩
              rw [hk] at t0 hstep
              obtain ⟨hkN, hc1, hno, hA, hB⟩ := hstep
              have hwl := hO.wlen
              have hkw : k < wt.length := by omega
              obtain ⟨wc, wf⟩ := hO.wcell hkw
              have hcd : wt.getD k 0 = wt[k] := by rw [List.getD_eq_getElem?_getD, List.getElem?_eq_getElem hkw]; rfl
              have hc3 : wt.getD k 0 ≤ 3 := by
                have h1 := hKh.out.wt k hkN
                have h2 : lftN us (out.take i) k ≤ (us k).length := List.countP_le_length
                have h3 := hul.out k
                omega
              have hset := hO.setw k (wt.getD k 0 - 1)
              obtain ⟨c, hc⟩ : ∃ c, wt.getD k 0 = c := ⟨_, rfl⟩
              rw [hc] at hcd hc1 hA hB hc3 hset
              rw [← hcd] at wc
              have c71 : wr.cell? ⟨bw + 1, 0, none⟩ = some (.slice (some ⟨bw, 0, none⟩) N N) := hO.w1.cell rfl
              have e1 : IntKind.i64.wrap (c - 1) = c - 1 := i64_small (by omega)
              have i1 : (0 : Int) ≤ (k : Int) := by omega
              have i2 : (k : Int) < (N : Int) := by omega
              have i3 : (0 : Int) ≤ (t : Int) := by omega
              have i4 : (t : Int) < (UL.length : Int) := by omega
              have hMZ := Marks.others (KeepsOthers.setCell wr ⟨bw, k, none⟩ (.int .i64 (c - 1))) hM
              replace hA := Lib.hid hA; replace hB := Lib.hid hB; replace hset := Lib.hid hset; replace hk := Lib.hid hk; replace hc := Lib.hid hc; replace hcd := Lib.hid hcd; replace hno := Lib.hid hno; replace hwl := Lib.hid hwl; replace hU2 := Lib.hid hU2; replace hMZ := Lib.hid hMZ
              clear hO hM hrow
              go_upto_region 21 with (fail)
              refine wp_world fun Z HZ => ?_
              have hOZ : OrdM w bw bu N wr.heap.size Z (wt.set k (c - 1)) ss (usK us N N []) (.slice so out.length co) (toI out) := by rw [HZ.out]; exact hset.out
              have hMz : Marks w.heap.size ds Z := by rw [HZ.out]; exact hMZ.out
              clear HZ hset hMZ wc wf c71 t0
              have hkw2 : k < (wt.set k (c - 1)).length := by rw [List.length_set]; exact hkw
              obtain ⟨wc, -⟩ := hOZ.wcell hkw2
              rw [List.getElem_set_self] at wc
              have c71 : Z.cell? ⟨bw + 1, 0, none⟩ = some (.slice (some ⟨bw, 0, none⟩) N N) := hOZ.w1.cell rfl
              have hOZ2 := Lib.hid hOZ.next
              have hZs := hOZ.be.size
              have hot := hOZ.ot
              have hbuZ := hOZ.u1.lt
              rw [toI_len] at hot
              replace hMz := Lib.hid hMz
              clear hOZ hkw2
              by_cases hz : c - 1 = 0
              · have hK2 := hB.out hz
                have hgd' : (out ++ [k]).getD i N = x := by rw [getD_snoc_lt hi]; exact hgd.out
                have hz2 : (c - 1 == 0) = true := by rw [hz]; rfl
                obtain ⟨i0, hi0, hz0, hz1, hz2'⟩ := info_parts info_int
                replace hz := Lib.hid hz; replace hK2 := Lib.hid hK2; replace hgd' := Lib.hid hgd'
                clear hA hB
                go_upto_region 22 with (fail)
                go_wp2_with (first | (at_builtin; refine wpList_append_lies _ rfl _ _ 31 rfl (bu + 2) 3 i0 (.int .i64 0) 1 8 Tryz.underlying31 hi0 hz0 hz1 hz2' rfl (by decide) _ _ _ rfl (hot.alloc _) ⟨Z.heap.size, 0, none⟩ 1 1 [.int .i64 k] rfl rfl (news_new _ _ _) (by simp [Value.oneCell']) (by decide) (by unfold maxLen; omega) (by omega) (by simp; omega) (Z.heap.size + 1) (by simp) ?_; intro gg cap1 w1 hown1 hgrow hat hlt2))
                obtain ⟨Z2, hZ2, hZ2s, hgr⟩ : ∃ Z2, Below Z.heap.size Z Z2 ∧ Z2.heap.size = Z.heap.size + 1 ∧ Z2.grownBy w1 (Value.slice so out.length co).ownBlock := ⟨_, ((Below.refl _ Z).alloc (by exact Nat.le_refl _) _), by simp, hgrow⟩
                have hO2 := (OrdM.up hZ2 hOZ2.out).nextTo hgr.size
                have hpo := hO2.pushO (V' := w1) (nv := .slice (some ⟨gg, 0, none⟩) (out.length + 1) cap1) (out' := toI (out ++ [k])) hgr (by
                  rw [toI_snoc, List.length_append, toI_len, int_snoc]; exact hown1) (by
                  rcases hat with h | h
                  · exact .inl h.symm
                  · exact .inr ⟨gg, rfl, by omega⟩) (fun g _ h => .inl h)
                have hFW : KeepsOthers Z w1 := by
                  refine (KeepsOthers.of_below hZ2).trans (KeepsOthers.of_grownBy hgr fun j o ej hj => ?_)
                  rcases (up_of hZ2 hot).2 with ⟨h, _⟩ | ⟨g', c', cur, h, _, hgb, _⟩
                  · rw [h] at ej; simp [Value.ownBlock] at ej
                  · rw [h] at ej
                    obtain rfl : g' = j := by simpa [Value.ownBlock] using ej
                    rw [hgb] at hj; cases hj; rfl
                have hll : out.length + 1 = (out ++ [k]).length := by simp
                go_roundw
                case rel => exact ⟨t + 1, out ++ [k], wt.set k (c - 1), some ⟨gg, 0, none⟩, cap1, by omega, rfl, by rw [← hll], by rw [← hll]; omega, hgd', hpo, hK2, hMz.out.others hFW⟩
                case measure => exact meas hlt
              · have hK2 := hA.out hz
                have hz2 : (c - 1 == 0) = false := by simpa using hz
                replace hz := Lib.hid hz; replace hK2 := Lib.hid hK2
                clear hA hB
                go_wp2
                go_roundw
                case rel => exact ⟨t + 1, out, wt.set k (c - 1), so, co, by omega, rfl, rfl, hi, hgd, hOZ2.out, hK2, hMz.out⟩
                case measure => exact meas hlt
            · have hte : t = UL.length := by omega
              have hU2 : usrs us N (out.getD i N) = UL := by rw [hgd.out]; exact hUL.out
              have hnx := hKh.out.next hi (by rw [hU2]; exact hte)
              replace hnx := Lib.hid hnx; replace hU2 := Lib.hid hU2
              have hiN : i < N := by omega
              go_wp2
              go_roundw
              case rel => exact ⟨i + 1, out, wt, so, co, rfl, rfl, hO, hnx, hM⟩
              case measure => exact meas hiN
        · have hie : i = out.length := by have := hKh.out.ile; omega
          subst hie
          have hdn := hKh.out.done
          have b0 : wr.cell? ⟨bw + 1, 0, none⟩ = some (.slice (some ⟨bw, 0, none⟩) N N) := hO.w1.cell rfl
          replace hdn := Lib.hid hdn; replace hO := Lib.hid hO; replace hM := Lib.hid hM
          go_upto_region 24 with (fail)
          try have ld_b0 := World.block_lt_of_cell? _ _ b0
          refine region_q (by kernel_rfl) (by kernel_rfl) ?_
          dsimp only [List.toList_toArray]
          repeat (first
           | go_big_quiet_skip
           | (go_big_quiet_want
              first
              | (refine qq_det ?_
                 apply Exists.intro; refine ⟨fun W' hW' => ?_, ?_⟩
                 (· have hk := cellB hW'; go_simp; try (first | rfl | rw [if_pos (by omega)]))
                 simp only [Act.put, List.setIfInBounds_toArray, List.set_cons_zero, List.set_cons_succ]; go_big_quiet_on)))
          refine wpQuiet_nil ?_
          intro W1 hb
          try replace b0 := up_of hb b0
          have hO1 := OrdM.up hb hO.out
          have hM1 := Marks.up hb hM.out
          clear b0 hO hM
          replace hO1 := Lib.hid hO1; replace hM1 := Lib.hid hM1
          go_wp2
          refine marks_retN hM1.out hO1.out.be.size fun W' hu => ?_
          have hO2 := hO1.out.cellsUp (Nat.le_refl _) hu
          have h1 := hO2.ot
          have h2 := hO2.w0
          have h3 := hO2.wlen
          rw [← h3] at h2
          refine ⟨_, results_tmp2 rfl _ _ _, out, wt, so, co, some ⟨bw, 0, none⟩, N, rfl, ?_, ?_, hdn.out, hO2.be⟩
          · refine SlS.of_own (E := intE) (base := bu + 2) (e := 3) (cap := co) ?_
            rw [toI_len] at h1 ⊢
            exact h1
          · exact SlS.of_own (E := intE) (base := bw) (e := 3) (cap := wt.length) h2
end
end Go.Proofs.YtakbpjgnjfigcaaGreat

/- The levels of the elements: the program. -/
namespace Go.Proofs.YtakbpjgnjfigcaaGreat
open Go.RowKit Go.Maps

attribute [local go_sem] Oper.semAt_some

/-- A list of numbers of one's own, in a box. -/
structure LstM (w : World) (bl N : Nat) (V : World) (L : List Int) : Prop where
  be : Below w.heap.size w V
  wb : w.heap.size ≤ bl
  l0 : V.ownsRow bl 3 1 (.slice (some ⟨bl, 0, none⟩) N N) N (intE.all L)
  l1 : Row V (bl + 1) 31 #[.slice (some ⟨bl, 0, none⟩) N N]
section
variable {w : World} {bl N : Nat} {V V' : World} {L : List Int}
theorem LstM.cellsUp (h : LstM w bl N V L) {n : Nat} (hn : w.heap.size ≤ n) (hu : CellsUp n V V') : LstM w bl N V' L := ⟨h.be.trans (hu.below.mono hn), h.wb, hu.owns h.l0, hu.cells _ _ _ _ h.l1⟩
theorem LstM.up (hb : Below V.heap.size V V') (h : LstM w bl N V L) : LstM w bl N V' L := ⟨h.be.trans (hb.mono h.be.size), h.wb, up_of hb h.l0, up_of hb h.l1⟩
instance : UpF V V' (LstM w bl N V L) (LstM w bl N V' L) := ⟨fun h c => LstM.up h c⟩
theorem LstM.len (h : LstM w bl N V L) : L.length = N := by
  have h1 := h.l0.1
  rw [Elt.all_len] at h1
  simpa [intE] using h1
theorem LstM.cell (h : LstM w bl N V L) {k : Nat} (hk : k < L.length) : V.cell? ⟨bl, k, none⟩ = some (.int .i64 L[k]) ∧ V.frozen? ⟨bl, k, none⟩ = false :=
  ⟨owns_cell h.l0 (intE_at L hk), World.ownsRow.frozenAt h.l0 k⟩
theorem LstM.set (h : LstM w bl N V L) (k : Nat) (x : Int) : LstM w bl N (V.setCell ⟨bl, k, none⟩ (.int .i64 x)) (L.set k x) := by
  have hst := h.l0.stored k (.int .i64 x)
  rw [intE_set] at hst
  exact ⟨h.be.setCell (by exact h.wb) _, h.wb, hst.1, (Below.heap_setCell _ _ _ _ (by show bl + 1 ≠ bl; omega)).trans h.l1⟩
end
section
variable {g : Nat} {n : Int} {s : Option Addr} {cap : Nat} {l : List Iq} {s2 : Option Addr} {cq : Nat} {K : List Vv} {sp : Option Addr} {cp mb : Nat} {P : List Pt}
set_option maxRecDepth 100000 in
set_option maxHeartbeats 1000000 in
theorem nlevels_c (so : Option Addr) (co : Nat) (out : List Nat) (wait : List Int) (w : World) (h : Net 126 w g n s cap l s2 cq K sp cp mb P) (ok : NetOk n K P) (ho : SlS intE w so (toI out)) (hd : Ordd (useN K P) (K.length * P.length) out wait) (hfull : out.length = K.length * P.length) :
    Calls Tryz.prog 48 #[.pointer (some ⟨g, 0, none⟩), .slice so out.length co] w fun e w' => (∃ b, e = .returned (.slice (some ⟨b, 0, none⟩) (K.length * P.length) (K.length * P.length)) ∧ SlS intE w' (some ⟨b, 0, none⟩) (lvsL K P)) ∧ Below w.heap.size w w' := by
  have hsz := fun V (h : Net 126 V g n s cap l s2 cq K sp cp mb P) => size_c V h ok
  have hNs := ok.size
  have hul := ok.use_len
  have hult := ok.use_lt
  have hused := fun (k : Nat) (hk : k < K.length * P.length) (V : World) (hV : Below w.heap.size w V) (Tw : Nat → Prop) hT => used_c k w V h ok hV hk Tw hT
  have hend := fun (L : List Int) => lvsL_of (K := K) (P := P) (L := L)
  unfold lvN at hend
  obtain ⟨LL, hLL⟩ : ∃ x, lvsL K P = x := ⟨_, rfl⟩
  simp only [hLL] at hend ⊢
  obtain ⟨N, hN⟩ : ∃ N, K.length * P.length = N := ⟨_, rfl⟩
  simp only [hN] at hsz hNs hult hused hend hd hfull ⊢
  obtain ⟨us, hus⟩ : ∃ f, useN K P = f := ⟨_, rfl⟩
  simp only [hus] at hul hult hused hend hd ⊢
  clear hN hus ok hLL
  have hlv : ∀ j ∈ out, lvl us j ≤ N := fun j hj => by
    obtain ⟨i, hi, rfl⟩ := List.getElem_of_mem hj
    have := hd.lvl_le i hi
    omega
  have hol : out.length ≤ 4000 := by omega
  have hmk := run_make_ints N (by omega)
  replace hsz := Lib.hid hsz; replace hul := Lib.hid hul; replace hult := Lib.hid hult; replace hused := Lib.hid hused; replace hend := Lib.hid hend; replace hd := Lib.hid hd; replace hfull := Lib.hid hfull; replace hlv := Lib.hid hlv
  refine calls_of_wp_marks Tryz.func48 rfl ?_
  simp only [Tryz.ntmps48, List.size_toArray, List.length_cons, List.length_nil, Nat.reduceAdd, Nat.reduceSub, Array.replicate_succ, Array.replicate_zero, List.push_toArray, List.append_toArray, List.nil_append, List.cons_append]
  go_upto_region 2 with (first | (go_at_call 33; refine (hsz.out _ h).mono ?_; rintro e W1 ⟨rfl, hb1⟩; have h1 := Net.up hb1 h))
  refine wp_world fun A1 HA => ?_
  have hA : Below W1.heap.size W1 A1 := by
    rw [HA.out]
    repeat (first | (with_reducible exact Below.refl _ _) | (with_reducible refine Below.drew ?_) | ((with_reducible refine Below.setC ?_ ?_); (focus (first | omega | (simp; done) | (simp; omega)))) | ((with_reducible refine Below.allo ?_ ?_); (focus (first | omega | (simp; done) | (simp; omega)))))
  have hL0 : LstM w W1.heap.size N A1 (List.replicate N 0) := by
    refine ⟨hb1.trans (hA.mono hb1.size), hb1.size, ?_, ?_⟩
    · rw [HA.out]; exact (own_zeros W1 N (by omega)).alloc _
    · rw [HA.out]
      refine Row.of ?_
      repeat (first | (with_reducible refine RowG.new ?_) | (with_reducible refine RowG.drew ?_) | (with_reducible refine RowG.set ?_) | ((with_reducible refine RowG.other ?_ ?_); (focus (first | omega | (simp; done) | (simp; omega)))) | ((with_reducible refine RowG.new' ?_ ?_); (focus (first | omega | (simp; done) | (simp; omega)))) | (with_reducible refine RowG.alloc ?_))
      rfl
  clear HA hA
  obtain ⟨bl, hbl⟩ : ∃ b, W1.heap.size = b := ⟨_, rfl⟩
  simp only [hbl] at hL0 ⊢
  clear hmk hbl h1 hb1
  replace ho := Lib.hid ho
  go_wp2
  refine wp_loop_marks [7, 14, 15, 16, 17, 18, 19, 20, 21, 22, 23, 38] (fun z ds V => ∃ (i : Nat) (L : List Int), i ≤ out.length ∧ z 14 = .int .i64 i ∧ LstM w bl N V L ∧ Hid (∀ j ∈ out.take i, L.getD j 0 = ((lvl us j : Nat) : Int)) ∧ Marks w.heap.size ds V) (fun z => out.length - (intOf (z 14)).toNat) ?_ ?_
  · exact ⟨0, _, by omega, rfl, hL0, Lib.hid (by simp), Marks.nil _ _⟩
  · clear hL0
    rintro z ds U ⟨i, L, hi, z14, hL, hin, hM⟩
    simp only [setMany, List.setIfInBounds_toArray, List.set_cons_zero, List.set_cons_succ]
    simp only [z14]
    by_cases hlt : i < out.length
    · have hiI : i < (toI out).length := by rw [toI_len]; exact hlt
      obtain ⟨ob, oo, eo, hob, o0⟩ := (ho.out.up hL.be).int_at hiI
      subst eo
      rw [toI_at hiI hlt] at o0
      have hkN := hd.out.lt _ (List.getElem_mem hlt)
      have hno : out[i] ∉ out.take i := by
        intro hm
        obtain ⟨j, hj, e⟩ := List.getElem_of_mem hm
        rw [List.getElem_take] at e
        rw [List.length_take] at hj
        exact (List.pairwise_iff_getElem.1 (List.nodup_iff_pairwise_ne.1 hd.out.nd) j i (by omega) hlt (by omega)) e
      have hord := hd.out.ord i hlt
      have hgd := hd.out.gd _ (List.getElem_mem hlt)
      have htk : out.take (i + 1) = out.take i ++ [out[i]] := List.take_succ_eq_append_getElem hlt
      obtain ⟨k, hk⟩ : ∃ k, out[i] = k := ⟨_, rfl⟩
      rw [hk] at o0 hkN hno hord hgd htk
      have hblU := hL.l1.lt
      have hwb := hL.wb
      have hLlen := hL.len
      have i1 : (0 : Int) ≤ (i : Int) := by omega
      have i2 : (i : Int) < (out.length : Int) := by omega
      have i3 : (0 : Int) ≤ (k : Int) := by omega
      have i4 : (k : Int) < (N : Int) := by omega
      replace hLlen := Lib.hid hLlen; replace hord := Lib.hid hord; replace hgd := Lib.hid hgd; replace htk := Lib.hid htk; replace hno := Lib.hid hno; replace hk := Lib.hid hk
      go_upto_region 5 with (fail)
      refine wp_world fun X HX => ?_
      have hX : Below U.heap.size U X := by rw [HX.out]; (repeat (first | exact Below.refl _ _ | refine Below.alloc ?_ (by simp; try omega) _ | refine Below.setCell ?_ (by simp) _ | refine Below.drew ?_))
      have kbB : Row X (U.heap.size) 3 #[.int .i64 k] := (by rw [HX.out]; (repeat (first | (refine blk_new ?_; simp; done) | refine blk_old ?_ _)) : X.heap[U.heap.size]? = some (.cells #[.int .i64 k] 3 (0, 0)))
      have kb0 : X.cell? ⟨U.heap.size, 0, none⟩ = some (.int .i64 k) := by rw [HX.out]; simp [go_sem]
      have kbl : U.heap.size < X.heap.size := World.block_lt_of_cell? X _ kb0
      try replace hL := up_of hX hL
      try replace hM := up_of hX hM
      have hXs : X.heap.size = U.heap.size + 1 := by rw [HX.out]; simp
      replace hXs := Lib.hid hXs
      clear HX
      have c18 : X.cell? ⟨bl + 1, 0, none⟩ = some (.slice (some ⟨bl, 0, none⟩) N N) := hL.l1.cell rfl
      obtain ⟨wc, wf⟩ := hL.cell (k := k) (by rw [hLlen.out]; exact hkN)
      have hset := hL.set k 1
      have hMs := Marks.others (KeepsOthers.setCell X ⟨bl, k, none⟩ (.int .i64 1)) hM
      replace hset := Lib.hid hset; replace hMs := Lib.hid hMs
      go_upto_region 6 with (fail)
      refine wp_world fun Z HZ => ?_
      have hLZ : LstM w bl N Z (L.set k 1) := by rw [HZ.out]; exact hset.out
      have hMZ : Marks w.heap.size ds Z := by rw [HZ.out]; exact hMs.out
      have kbZ : Row Z U.heap.size 3 #[.int .i64 k] := by rw [HZ.out]; exact (Below.heap_setCell _ _ _ _ (by show U.heap.size ≠ bl; omega)).trans kbB
      have hZs : Z.heap.size = U.heap.size + 1 := by rw [HZ.out]; have := hXs.out; simpa [World.setCell] using this
      have hin2 : ∀ j ∈ out.take i, (L.set k 1).getD j 0 = ((lvl us j : Nat) : Int) := fun j hj => by
        rw [getD_set (by rw [hLlen.out]; exact hkN), if_neg (fun e => hno.out (by rw [e]; exact hj))]
        exact hin.out j hj
      have hcur : (L.set k 1).getD k 0 = (((([] : List Nat).foldl (fun a u => max a (lvl us u + 1)) 1 : Nat)) : Int) := by
        rw [getD_set (by rw [hLlen.out]; exact hkN), if_pos rfl]; rfl
      have c22 : Z.cell? ⟨U.heap.size, 0, none⟩ = some (.int .i64 k) := kbZ.cell rfl
      replace hZs := Lib.hid hZs; replace hin2 := Lib.hid hin2; replace hcur := Lib.hid hcur
      have hwX := hLZ.be
      clear HZ hset hMs c18 wc wf hL hM kbB kb0 hin
      go_wp2_with (first | (go_at_call 39; refine (hused.out k hkN Z hwX (fun j => w.heap.size ≤ j ∧ j < U.heap.size) (fun j hj => ⟨hj.1, by have := hZs.out; omega⟩)).mono ?_; rintro e Y ⟨rfl, hit, hb, hYs⟩; replace hYs := Lib.hid hYs; replace hLZ := LstM.up hb hLZ; replace hMZ := Marks.up hb hMZ; replace kbZ := up_of hb kbZ))
      have hYV : Y.heap.size = U.heap.size + 3 := by have := hZs.out; have := hYs.out; omega
      replace hYV := Lib.hid hYV
      have hbe := hLZ.be
      refine' wp_rangeT rfl (fun _ _ => by simp [go_sem]) hit (fun pre W => ∃ L', LstM w bl N W L' ∧ Row W U.heap.size 3 #[.int .i64 k] ∧ MarksIn w.heap.size Y.heap.size ds W ∧ Y.heap.size ≤ W.heap.size ∧ (∀ j ∈ out.take i, L'.getD j 0 = ((lvl us j : Nat) : Int)) ∧ L'.getD k 0 = ((pre.foldl (fun a u => max a (lvl us u + 1)) 1 : Nat) : Int)) (fun _ _ _ => False) ?hI (fun _ _ _ _ h _ => h) (fun s W h => h.choose_spec.2.2.2.1) (fun _ _ _ h => h.elim) ⟨_, hLZ, kbZ, hMZ.lt, Nat.le_refl _, hin2.out, hcur.out⟩ _ ?assign ?body ?done (fun _ _ _ _ _ _ h _ => h.elim)
      case hI =>
        rintro pre A B ⟨L', h1, h2, h3, h4, h5⟩ hu
        exact ⟨L', h1.cellsUp hbe.size hu, hu.cells _ _ _ _ h2, h3.below hu.below, Nat.le_trans h4 hu.below.size, h5⟩
      case assign =>
        intro l x W K hK
        simp only [List.setIfInBounds_toArray, List.set_cons_zero, List.set_cons_succ]
        gi_wp2
        exact hK
      case body =>
        rintro l pre x W ⟨L', hL', kbW, hM', hYW, hin', hcur'⟩ hpre hW2
        have hxm : x ∈ us k := hpre.subset (by simp)
        have hxo := hord.out x hxm
        have hxN := hult.out k x hxm
        have hxk : k ≠ x := fun e => hno.out (by rw [e]; exact hxo)
        have hxl := hin' x hxo
        have hxb := hlv.out x (List.mem_of_mem_take hxo)
        have hll := hL'.len
        have hkL : k < L'.length := by omega
        have hxL : x < L'.length := by omega
        obtain ⟨wck, wfk⟩ := hL'.cell hkL
        obtain ⟨wcx, -⟩ := hL'.cell hxL
        have c25 : W.cell? ⟨bl + 1, 0, none⟩ = some (.slice (some ⟨bl, 0, none⟩) N N) := hL'.l1.cell rfl
        have c26 : W.cell? ⟨U.heap.size, 0, none⟩ = some (.int .i64 k) := kbW.cell rfl
        have ek : L'[k] = ((pre.foldl (fun a u => max a (lvl us u + 1)) 1 : Nat) : Int) := by rw [← hcur', List.getD_eq_getElem?_getD, List.getElem?_eq_getElem hkL]; rfl
        have ex : L'[x] = ((lvl us x : Nat) : Int) := by rw [← hxl, List.getD_eq_getElem?_getD, List.getElem?_eq_getElem hxL]; rfl
        rw [ek] at wck
        rw [ex] at wcx
        have hfs : (pre ++ [x]).foldl (fun a u => max a (lvl us u + 1)) 1 = max (pre.foldl (fun a u => max a (lvl us u + 1)) 1) (lvl us x + 1) := by rw [List.foldl_append]; rfl
        obtain ⟨F, hF⟩ : ∃ F, pre.foldl (fun a u => max a (lvl us u + 1)) 1 = F := ⟨_, rfl⟩
        rw [hF] at wck hfs
        obtain ⟨lx, hlx⟩ : ∃ y, lvl us x = y := ⟨_, rfl⟩
        rw [hlx] at wcx hfs hxb
        have hall : ∀ v : Int, v = ((max F (lx + 1) : Nat) : Int) → LstM w bl N (W.setCell ⟨bl, k, none⟩ (.int .i64 v)) (L'.set k v) ∧ (∀ j ∈ out.take i, (L'.set k v).getD j 0 = ((lvl us j : Nat) : Int)) ∧ (L'.set k v).getD k 0 = (((pre ++ [x]).foldl (fun a u => max a (lvl us u + 1)) 1 : Nat) : Int) ∧
            KeepN (fun j => w.heap.size ≤ j ∧ j < U.heap.size) Y.heap.size (Y.heap.size + 2) 2 W (W.setCell ⟨bl, k, none⟩ (.int .i64 v)) ∧ KeepsOthers W (W.setCell ⟨bl, k, none⟩ (.int .i64 v)) ∧ Row (W.setCell ⟨bl, k, none⟩ (.int .i64 v)) U.heap.size 3 #[.int .i64 k] := fun v hv =>
          ⟨hL'.set k v, fun j hj => by
              rw [getD_set hkL, if_neg (fun e => hno.out (by rw [e]; exact hj))]
              exact hin' j hj, by rw [getD_set hkL, if_pos rfl, hfs]; exact hv,
            (KeepN.refl W).setC _ ⟨fun _ => ⟨hwb, by show bl < U.heap.size; omega⟩, fun h => by have := hYV.out; have h1 : Y.heap.size + 2 ≤ bl := h.1; omega⟩, KeepsOthers.setCell _ _ _,
            (Below.heap_setCell _ _ _ _ (by show U.heap.size ≠ bl; omega)).trans kbW⟩
        have e1 : IntKind.i64.wrap ((lx : Int) + 1) = (lx : Int) + 1 := i64_small (by omega)
        have i5 : (0 : Int) ≤ (x : Int) := by omega
        have i6 : (x : Int) < (N : Int) := by omega
        have b0 := c25
        have k0 := c26
        have x0 := wcx
        have y0 := wck
        replace hall := Lib.hid hall; replace hM' := Lib.hid hM'; replace hF := Lib.hid hF
        clear hin' hcur' hpre hxm hxo hxl ek ex hfs hlx hll c25 c26 wcx wck hL' kbW
        gi_upto_region 8 with (fail)
        by_cases hFl : F < lx + 1
        · have hv := Lib.hid (hall.out ((lx : Int) + 1) (by omega))
          have hFl2 : (F : Int) < (lx : Int) + 1 := by omega
          clear hFl hall
          refine wpL.regionIn (m := 13) (S := fun V => V.cell? ⟨bl + 1, 0, none⟩ = some (.slice (some ⟨bl, 0, none⟩) N N) ∧ V.cell? ⟨U.heap.size, 0, none⟩ = some (.int .i64 k) ∧ V.cell? ⟨bl, k, none⟩ = some (.int .i64 F) ∧ V.cell? ⟨bl, x, none⟩ = some (.int .i64 lx)) (by kernel_rfl) (by kernel_rfl) ?_ (fun hHeld => ?_)
          (focus ((first | exact ⟨b0, k0, y0, x0⟩ | ((first | (with_reducible exact ⟨b0, k0, y0, x0⟩) | ((try dsimp only); (repeat' apply And.intro) <;> (repeat (first | (with_reducible assumption) | (with_reducible refine cell_set (by simp; try omega) ?_) | (with_reducible refine cell_drew ?_) | (with_reducible refine cell_alloc ?_ _))))))); done))
          refine wpL.take' (i := 0) rfl (by kernel_rfl) (by kernel_rfl) (by kernel_rfl) (by kernel_rfl) (by decide) (by kernel_rfl) (by assumption) ?_
          apply Exists.intro; refine ⟨fun _ _ _ h => (by cases h.1), ?_, ?_⟩
          (focus (first | (refine Or.inl ⟨by rfl, fun V hV => ?_⟩; ((try dsimp only at hV); go_simp; (try (with_reducible rfl)); done)) | exact Or.inr ⟨by rfl, rfl⟩))
          try simp only [Act.put, List.setIfInBounds_toArray, List.set_cons_zero, List.set_cons_succ]
          refine wpL.take' (i := 1) rfl (by kernel_rfl) (by kernel_rfl) (by kernel_rfl) (by kernel_rfl) (by decide) (by kernel_rfl) (by assumption) ?_
          apply Exists.intro; refine ⟨fun _ _ _ h => (by cases h.1), ?_, ?_⟩
          (focus (first | (refine Or.inl ⟨by rfl, fun V hV => ?_⟩; ((try dsimp only at hV); go_simp; (try (with_reducible rfl)); done)) | exact Or.inr ⟨by rfl, rfl⟩))
          try simp only [Act.put, List.setIfInBounds_toArray, List.set_cons_zero, List.set_cons_succ]
          refine wpL.take' (i := 2) rfl (by kernel_rfl) (by kernel_rfl) (by kernel_rfl) (by kernel_rfl) (by decide) (by kernel_rfl) (by assumption) ?_
          apply Exists.intro; refine ⟨fun _ _ _ h => (by cases h.1), ?_, ?_⟩
          (focus (first | (refine Or.inl ⟨by rfl, fun V hV => ?_⟩; ((try dsimp only at hV); go_simp; (try (with_reducible rfl)); done)) | exact Or.inr ⟨by rfl, rfl⟩))
          try simp only [Act.put, List.setIfInBounds_toArray, List.set_cons_zero, List.set_cons_succ]
          refine wpL.take' (i := 3) rfl (by kernel_rfl) (by kernel_rfl) (by kernel_rfl) (by kernel_rfl) (by decide) (by kernel_rfl) (by assumption) ?_
          apply Exists.intro; refine ⟨fun _ _ _ h => (by cases h.1), ?_, ?_⟩
          (focus (first | (refine Or.inl ⟨by rfl, fun V hV => ?_⟩; ((try dsimp only at hV); go_simp; (try (with_reducible rfl)); done)) | exact Or.inr ⟨by rfl, rfl⟩))
          try simp only [Act.put, List.setIfInBounds_toArray, List.set_cons_zero, List.set_cons_succ]
          refine wpL.take' (i := 4) rfl (by kernel_rfl) (by kernel_rfl) (by kernel_rfl) (by kernel_rfl) (by decide) (by kernel_rfl) (by assumption) ?_
          apply Exists.intro; refine ⟨fun _ _ _ h => (by cases h.1), ?_, ?_⟩
          (focus (first | (refine Or.inl ⟨by rfl, fun V hV => ?_⟩; ((try dsimp only at hV); go_simp; (try (with_reducible rfl)); done)) | exact Or.inr ⟨by rfl, rfl⟩))
          try simp only [Act.put, List.setIfInBounds_toArray, List.set_cons_zero, List.set_cons_succ]
          refine wpL.take' (i := 5) rfl (by kernel_rfl) (by kernel_rfl) (by kernel_rfl) (by kernel_rfl) (by decide) (by kernel_rfl) (by assumption) ?_
          apply Exists.intro; refine ⟨fun _ _ _ h => (by cases h.1), ?_, ?_⟩
          (focus (first | (refine Or.inl ⟨by rfl, fun V hV => ?_⟩; ((try dsimp only at hV); go_simp; (try (with_reducible rfl)); done)) | exact Or.inr ⟨by rfl, rfl⟩))
          try simp only [Act.put, List.setIfInBounds_toArray, List.set_cons_zero, List.set_cons_succ]
          refine wpL.take' (i := 6) rfl (by kernel_rfl) (by kernel_rfl) (by kernel_rfl) (by kernel_rfl) (by decide) (by kernel_rfl) (by assumption) ?_
          apply Exists.intro; refine ⟨fun _ _ _ h => (by cases h.1), ?_, ?_⟩
          (focus (first | (refine Or.inl ⟨by rfl, fun V hV => ?_⟩; ((try dsimp only at hV); go_simp; (try (with_reducible rfl)); done)) | exact Or.inr ⟨by rfl, rfl⟩))
          try simp only [Act.put, List.setIfInBounds_toArray, List.set_cons_zero, List.set_cons_succ]
          refine wpL.take' (i := 7) rfl (by kernel_rfl) (by kernel_rfl) (by kernel_rfl) (by kernel_rfl) (by decide) (by kernel_rfl) (by assumption) ?_
          apply Exists.intro; refine ⟨fun _ _ _ h => (by cases h.1), ?_, ?_⟩
          (focus (first | (refine Or.inl ⟨by rfl, fun V hV => ?_⟩; ((try dsimp only at hV); go_simp; (try (with_reducible rfl)); done)) | exact Or.inr ⟨by rfl, rfl⟩))
          try simp only [Act.put, List.setIfInBounds_toArray, List.set_cons_zero, List.set_cons_succ]
          refine wpL.take' (i := 8) rfl (by kernel_rfl) (by kernel_rfl) (by kernel_rfl) (by kernel_rfl) (by decide) (by kernel_rfl) (by assumption) ?_
          apply Exists.intro; refine ⟨fun _ _ _ h => (by cases h.1), ?_, ?_⟩
          (focus (first | (refine Or.inl ⟨by rfl, fun V hV => ?_⟩; ((try dsimp only at hV); go_simp; (try (with_reducible rfl)); done)) | exact Or.inr ⟨by rfl, rfl⟩))
          try simp only [Act.put, List.setIfInBounds_toArray, List.set_cons_zero, List.set_cons_succ]
          refine wpL.take' (i := 9) rfl (by kernel_rfl) (by kernel_rfl) (by kernel_rfl) (by kernel_rfl) (by decide) (by kernel_rfl) (by assumption) ?_
          apply Exists.intro; refine ⟨fun _ _ _ h => (by cases h.1), ?_, ?_⟩
          (focus (first | (refine Or.inl ⟨by rfl, fun V hV => ?_⟩; ((try dsimp only at hV); go_simp; (try (with_reducible rfl)); done)) | exact Or.inr ⟨by rfl, rfl⟩))
          try simp only [Act.put, List.setIfInBounds_toArray, List.set_cons_zero, List.set_cons_succ]
          refine wpL.take' (i := 10) rfl (by kernel_rfl) (by kernel_rfl) (by kernel_rfl) (by kernel_rfl) (by decide) (by kernel_rfl) (by assumption) ?_
          apply Exists.intro; refine ⟨fun _ _ _ h => (by cases h.1), ?_, ?_⟩
          (focus (first | (refine Or.inl ⟨by rfl, fun V hV => ?_⟩; ((try dsimp only at hV); go_simp; (try (with_reducible rfl)); done)) | exact Or.inr ⟨by rfl, rfl⟩))
          try simp only [Act.put, List.setIfInBounds_toArray, List.set_cons_zero, List.set_cons_succ]
          refine wpL.one (i := 11) (by kernel_rfl) rfl fun K hK => ?_
          ((first | (rw [if_pos (by rfl)]; go_simp)))
          try clear hHeld
          refine hK.out _ _ ?_ (fun hHeld => ?_)
          (focus ((first | exact ⟨b0, k0, y0, x0⟩ | ((first | (with_reducible exact ⟨b0, k0, y0, x0⟩) | ((try dsimp only); (repeat' apply And.intro) <;> (repeat (first | (with_reducible assumption) | (with_reducible refine cell_set (by simp; try omega) ?_) | (with_reducible refine cell_drew ?_) | (with_reducible refine cell_alloc ?_ _))))))); done))
          clear hK K
          try simp only [Act.put, List.setIfInBounds_toArray, List.set_cons_zero, List.set_cons_succ]
          refine wpL.take' (i := 12) rfl (by kernel_rfl) (by kernel_rfl) (by kernel_rfl) (by kernel_rfl) (by decide) (by kernel_rfl) (by assumption) ?_
          apply Exists.intro; refine ⟨fun _ _ _ h => (by cases h.1), ?_, ?_⟩
          (focus (first | (refine Or.inl ⟨by rfl, fun V hV => ?_⟩; ((try dsimp only at hV); go_simp; (try (with_reducible rfl)); done)) | exact Or.inr ⟨by rfl, rfl⟩))
          try simp only [Act.put, List.setIfInBounds_toArray, List.set_cons_zero, List.set_cons_succ]
          refine wpL.last (by kernel_rfl) (by kernel_rfl) rfl fun K hK => ?_
          rw [if_pos (by rfl)]
          go_simp
          refine hK.out _ _ (wpL.fin (by kernel_rfl) ?_ _)
          clear hK K
          try simp only [Act.put, List.setIfInBounds_toArray, List.set_cons_zero, List.set_cons_succ]
          obtain ⟨h1, h2, h3, h4, h5, h6⟩ := hv.out
          have hdr : ∀ X : World, Below X.heap.size X X.drew := fun X => (Below.refl _ X).drew
          refine ⟨rfl, ?_⟩
          gi_wp2_with fail
          exact ⟨(h5.trans (KeepsOthers.of_below (hdr _))).from _, h4.drew, _, LstM.up (hdr _) h1, Up.block (hdr _) h6, hM'.out.others (h5.trans (KeepsOthers.of_below (hdr _))), Nat.le_trans hYW (h5.trans (KeepsOthers.of_below (hdr _))).size, h2, h3⟩
        · have hv := Lib.hid (hall.out (F : Int) (by omega))
          have hFl2 : ¬ (F : Int) < (lx : Int) + 1 := by omega
          clear hFl hall
          refine wpL.regionIn (m := 13) (S := fun V => V.cell? ⟨bl + 1, 0, none⟩ = some (.slice (some ⟨bl, 0, none⟩) N N) ∧ V.cell? ⟨U.heap.size, 0, none⟩ = some (.int .i64 k) ∧ V.cell? ⟨bl, k, none⟩ = some (.int .i64 F) ∧ V.cell? ⟨bl, x, none⟩ = some (.int .i64 lx)) (by kernel_rfl) (by kernel_rfl) ?_ (fun hHeld => ?_)
          (focus ((first | exact ⟨b0, k0, y0, x0⟩ | ((first | (with_reducible exact ⟨b0, k0, y0, x0⟩) | ((try dsimp only); (repeat' apply And.intro) <;> (repeat (first | (with_reducible assumption) | (with_reducible refine cell_set (by simp; try omega) ?_) | (with_reducible refine cell_drew ?_) | (with_reducible refine cell_alloc ?_ _))))))); done))
          refine wpL.take' (i := 0) rfl (by kernel_rfl) (by kernel_rfl) (by kernel_rfl) (by kernel_rfl) (by decide) (by kernel_rfl) (by assumption) ?_
          apply Exists.intro; refine ⟨fun _ _ _ h => (by cases h.1), ?_, ?_⟩
          (focus (first | (refine Or.inl ⟨by rfl, fun V hV => ?_⟩; ((try dsimp only at hV); go_simp; (try (with_reducible rfl)); done)) | exact Or.inr ⟨by rfl, rfl⟩))
          try simp only [Act.put, List.setIfInBounds_toArray, List.set_cons_zero, List.set_cons_succ]
          refine wpL.take' (i := 1) rfl (by kernel_rfl) (by kernel_rfl) (by kernel_rfl) (by kernel_rfl) (by decide) (by kernel_rfl) (by assumption) ?_
          apply Exists.intro; refine ⟨fun _ _ _ h => (by cases h.1), ?_, ?_⟩
          (focus (first | (refine Or.inl ⟨by rfl, fun V hV => ?_⟩; ((try dsimp only at hV); go_simp; (try (with_reducible rfl)); done)) | exact Or.inr ⟨by rfl, rfl⟩))
          try simp only [Act.put, List.setIfInBounds_toArray, List.set_cons_zero, List.set_cons_succ]
          refine wpL.take' (i := 2) rfl (by kernel_rfl) (by kernel_rfl) (by kernel_rfl) (by kernel_rfl) (by decide) (by kernel_rfl) (by assumption) ?_
          apply Exists.intro; refine ⟨fun _ _ _ h => (by cases h.1), ?_, ?_⟩
          (focus (first | (refine Or.inl ⟨by rfl, fun V hV => ?_⟩; ((try dsimp only at hV); go_simp; (try (with_reducible rfl)); done)) | exact Or.inr ⟨by rfl, rfl⟩))
          try simp only [Act.put, List.setIfInBounds_toArray, List.set_cons_zero, List.set_cons_succ]
          refine wpL.take' (i := 3) rfl (by kernel_rfl) (by kernel_rfl) (by kernel_rfl) (by kernel_rfl) (by decide) (by kernel_rfl) (by assumption) ?_
          apply Exists.intro; refine ⟨fun _ _ _ h => (by cases h.1), ?_, ?_⟩
          (focus (first | (refine Or.inl ⟨by rfl, fun V hV => ?_⟩; ((try dsimp only at hV); go_simp; (try (with_reducible rfl)); done)) | exact Or.inr ⟨by rfl, rfl⟩))
          try simp only [Act.put, List.setIfInBounds_toArray, List.set_cons_zero, List.set_cons_succ]
          refine wpL.take' (i := 4) rfl (by kernel_rfl) (by kernel_rfl) (by kernel_rfl) (by kernel_rfl) (by decide) (by kernel_rfl) (by assumption) ?_
          apply Exists.intro; refine ⟨fun _ _ _ h => (by cases h.1), ?_, ?_⟩
          (focus (first | (refine Or.inl ⟨by rfl, fun V hV => ?_⟩; ((try dsimp only at hV); go_simp; (try (with_reducible rfl)); done)) | exact Or.inr ⟨by rfl, rfl⟩))
          try simp only [Act.put, List.setIfInBounds_toArray, List.set_cons_zero, List.set_cons_succ]
          refine wpL.take' (i := 5) rfl (by kernel_rfl) (by kernel_rfl) (by kernel_rfl) (by kernel_rfl) (by decide) (by kernel_rfl) (by assumption) ?_
          apply Exists.intro; refine ⟨fun _ _ _ h => (by cases h.1), ?_, ?_⟩
          (focus (first | (refine Or.inl ⟨by rfl, fun V hV => ?_⟩; ((try dsimp only at hV); go_simp; (try (with_reducible rfl)); done)) | exact Or.inr ⟨by rfl, rfl⟩))
          try simp only [Act.put, List.setIfInBounds_toArray, List.set_cons_zero, List.set_cons_succ]
          refine wpL.take' (i := 6) rfl (by kernel_rfl) (by kernel_rfl) (by kernel_rfl) (by kernel_rfl) (by decide) (by kernel_rfl) (by assumption) ?_
          apply Exists.intro; refine ⟨fun _ _ _ h => (by cases h.1), ?_, ?_⟩
          (focus (first | (refine Or.inl ⟨by rfl, fun V hV => ?_⟩; ((try dsimp only at hV); go_simp; (try (with_reducible rfl)); done)) | exact Or.inr ⟨by rfl, rfl⟩))
          try simp only [Act.put, List.setIfInBounds_toArray, List.set_cons_zero, List.set_cons_succ]
          refine wpL.take' (i := 7) rfl (by kernel_rfl) (by kernel_rfl) (by kernel_rfl) (by kernel_rfl) (by decide) (by kernel_rfl) (by assumption) ?_
          apply Exists.intro; refine ⟨fun _ _ _ h => (by cases h.1), ?_, ?_⟩
          (focus (first | (refine Or.inl ⟨by rfl, fun V hV => ?_⟩; ((try dsimp only at hV); go_simp; (try (with_reducible rfl)); done)) | exact Or.inr ⟨by rfl, rfl⟩))
          try simp only [Act.put, List.setIfInBounds_toArray, List.set_cons_zero, List.set_cons_succ]
          refine wpL.take' (i := 8) rfl (by kernel_rfl) (by kernel_rfl) (by kernel_rfl) (by kernel_rfl) (by decide) (by kernel_rfl) (by assumption) ?_
          apply Exists.intro; refine ⟨fun _ _ _ h => (by cases h.1), ?_, ?_⟩
          (focus (first | (refine Or.inl ⟨by rfl, fun V hV => ?_⟩; ((try dsimp only at hV); go_simp; (try (with_reducible rfl)); done)) | exact Or.inr ⟨by rfl, rfl⟩))
          try simp only [Act.put, List.setIfInBounds_toArray, List.set_cons_zero, List.set_cons_succ]
          refine wpL.take' (i := 9) rfl (by kernel_rfl) (by kernel_rfl) (by kernel_rfl) (by kernel_rfl) (by decide) (by kernel_rfl) (by assumption) ?_
          apply Exists.intro; refine ⟨fun _ _ _ h => (by cases h.1), ?_, ?_⟩
          (focus (first | (refine Or.inl ⟨by rfl, fun V hV => ?_⟩; ((try dsimp only at hV); go_simp; (try (with_reducible rfl)); done)) | exact Or.inr ⟨by rfl, rfl⟩))
          try simp only [Act.put, List.setIfInBounds_toArray, List.set_cons_zero, List.set_cons_succ]
          refine wpL.take' (i := 10) rfl (by kernel_rfl) (by kernel_rfl) (by kernel_rfl) (by kernel_rfl) (by decide) (by kernel_rfl) (by assumption) ?_
          apply Exists.intro; refine ⟨fun _ _ _ h => (by cases h.1), ?_, ?_⟩
          (focus (first | (refine Or.inl ⟨by rfl, fun V hV => ?_⟩; ((try dsimp only at hV); go_simp; (try (with_reducible rfl)); done)) | exact Or.inr ⟨by rfl, rfl⟩))
          try simp only [Act.put, List.setIfInBounds_toArray, List.set_cons_zero, List.set_cons_succ]
          refine wpL.one (i := 11) (by kernel_rfl) rfl fun K hK => ?_
          ((first | (rw [if_pos (by rfl)]; go_simp)))
          try clear hHeld
          refine hK.out _ _ ?_ (fun hHeld => ?_)
          (focus ((first | exact ⟨b0, k0, y0, x0⟩ | ((first | (with_reducible exact ⟨b0, k0, y0, x0⟩) | ((try dsimp only); (repeat' apply And.intro) <;> (repeat (first | (with_reducible assumption) | (with_reducible refine cell_set (by simp; try omega) ?_) | (with_reducible refine cell_drew ?_) | (with_reducible refine cell_alloc ?_ _))))))); done))
          clear hK K
          try simp only [Act.put, List.setIfInBounds_toArray, List.set_cons_zero, List.set_cons_succ]
          refine wpL.take' (i := 12) rfl (by kernel_rfl) (by kernel_rfl) (by kernel_rfl) (by kernel_rfl) (by decide) (by kernel_rfl) (by assumption) ?_
          apply Exists.intro; refine ⟨fun _ _ _ h => (by cases h.1), ?_, ?_⟩
          (focus (first | (refine Or.inl ⟨by rfl, fun V hV => ?_⟩; ((try dsimp only at hV); go_simp; (try (with_reducible rfl)); done)) | exact Or.inr ⟨by rfl, rfl⟩))
          try simp only [Act.put, List.setIfInBounds_toArray, List.set_cons_zero, List.set_cons_succ]
          refine wpL.last (by kernel_rfl) (by kernel_rfl) rfl fun K hK => ?_
          rw [if_pos (by rfl)]
          go_simp
          refine hK.out _ _ (wpL.fin (by kernel_rfl) ?_ _)
          clear hK K
          try simp only [Act.put, List.setIfInBounds_toArray, List.set_cons_zero, List.set_cons_succ]
          obtain ⟨h1, h2, h3, h4, h5, h6⟩ := hv.out
          have hdr : ∀ X : World, Below X.heap.size X X.drew := fun X => (Below.refl _ X).drew
          refine ⟨rfl, ?_⟩
          gi_wp2_with fail
          exact ⟨(h5.trans (KeepsOthers.of_below (hdr _))).from _, h4.drew, _, LstM.up (hdr _) h1, Up.block (hdr _) h6, hM'.out.others (h5.trans (KeepsOthers.of_below (hdr _))), Nat.le_trans hYW (h5.trans (KeepsOthers.of_below (hdr _))).size, h2, h3⟩
      case done =>
        rintro D W hD ⟨L', hL', kbW, hM', hYW, hin', hcur'⟩ hK
        have hMD := hM'.push hD (Nat.le_trans hbe.size hD) hK
        have hin3 : ∀ j ∈ out.take (i + 1), L'.getD j 0 = ((lvl us j : Nat) : Int) := fun j hj => by
          rw [htk.out] at hj
          rcases List.mem_append.1 hj with hj | hj
          · exact hin' j hj
          · simp at hj; subst hj
            rw [hcur', lvl_eq hgd.out]; rfl
        replace hin3 := Lib.hid hin3; replace hL' := Lib.hid hL'; replace hMD := Lib.hid hMD
        clear hin' hcur' hM'
        dsimp only
        go_wp2
        refine ⟨⟨by kernel_rfl, i + 1, L', by omega, rfl, hL'.out, hin3, hMD.out⟩, ?_⟩
        show out.length - (intOf (.int .i64 ((i : Int) + 1))).toNat < _
        exact meas hlt
    · have hie : i = out.length := by omega
      subst hie
      have hlen := hL.len
      have hLL : L = LL := hend.out L hlen fun k hk => hin.out k (by rw [List.take_length]; exact hd.out.full hfull.out k hk)
      subst hLL
      have c39 : U.cell? ⟨bl + 1, 0, none⟩ = some (.slice (some ⟨bl, 0, none⟩) N N) := hL.l1.cell rfl
      replace hL := Lib.hid hL; replace hM := Lib.hid hM; replace hlen := Lib.hid hlen
      clear hin hend
      go_wp2
      refine marks_retN hM.out hL.out.be.size fun W' hu => ?_
      have hL2 := hL.out.cellsUp (Nat.le_refl _) hu
      have h2 := hL2.l0
      have h3 := hL2.len
      refine ⟨_, results_tmp rfl _ _ _, ⟨bl, rfl, ?_⟩, hL2.be⟩
      rw [← h3] at h2
      exact SlS.of_own (E := intE) (base := bl) (e := 3) (cap := L.length) h2
end
end Go.Proofs.YtakbpjgnjfigcaaGreat

/- A list for each variable: the program. -/
namespace Go.Proofs.YtakbpjgnjfigcaaGreat
open Go.RowKit Go.Maps

set_option maxRecDepth 100000 in
set_option maxHeartbeats 400000 in
theorem nint_clone (s : Option Addr) (cap : Nat) (l : List Int) (w : World) (hs : SlS intE w s l) (hc : s = none → cap = 0) (hl : l.length ≤ 1099511627776) :
    Calls Tryz.prog 89 #[.slice s l.length cap] w (RetS intE 3 l w) := by
  have hml : l.length ≤ maxLen := by unfold maxLen; omega
  have hin := hs
  cases s with
  | none =>
    obtain rfl := hs.none_nil
    obtain rfl := hc rfl
    clear hs hin hml hc
    have hq : ∀ w : World, (binOp .eql 31 (.slice none 0 0) (.slice none 0 0)).run Tryz.prog w = .ok (.bool true) w := fun w => Lib.run_eql_slice_nil w 31 3 _ _ _ _ _ Tryz.underlying31
    go_enter Tryz.func89, Tryz.ntmps89
    go_wp2
    go_ret
    exact ⟨none, 0, rfl, World.ownsRow_nil _ _ _ _, Below.refl _ _⟩
  | some a =>
    have hs2 := Lib.hid (up_of ((Below.refl w.heap.size w).alloc (Nat.le_refl _) (.cells #[] 3)) hs)
    replace hs := Lib.hid hs
    clear hin hc
    have hq : ∀ w : World, (binOp .eql 31 (.slice (some a) l.length cap) (.slice none 0 0)).run Tryz.prog w = .ok (.bool false) w := fun w => Lib.run_eql_slice_nil w 31 3 _ _ _ _ _ Tryz.underlying31
    go_enter Tryz.func89, Tryz.ntmps89
    obtain ⟨i0, hi, hz0, hz1, hz2⟩ := info_parts info_int
    go_wp2_with (first | (at_builtin; refine wpList_append_own _ rfl _ _ 31 rfl w.heap.size 3 i0 (.int .i64 0) 1 8 Tryz.underlying31 hi hz0 hz1 hz2 rfl (by decide) _ _ _ rfl (owns_built w 3 1) a l.length cap (Elt.all intE l) rfl (Elt.all_len _ _) (SlS.news hs2.out) (Elt.all_one _ _) (by unfold maxLen; omega) (by omega) (by simp) ?_; intro v1 w1 hown1 hgrow hnil))
    simp only [Nat.zero_add, List.nil_append] at hown1
    obtain ⟨s', c', rfl, _⟩ := owns_shape hown1
    go_wp2
    go_ret
    exact ⟨s', c', rfl, hown1, ((Below.refl _ w).alloc (Nat.le_refl _) _).grown hgrow (by simp) (fun k hk => by cases hk; exact Nat.le_refl _)⟩

theorem inb_world {n} {Q : Exit → Act → World → Prop} {e : Exit} {a : Act} {w : World} (h : ∀ W, Hid (W = w) → Exit.inBlock n Q e a W) : Exit.inBlock n Q e a w := h w rfl
/-- A part of a slice. -/
theorem SlS.part {w : World} {b o : Nat} {l : List Int} (c : SlS intE w (some ⟨b, o, none⟩) l) (i m : Nat) : SlS intE w (some ⟨b, o + i, none⟩) ((l.drop i).take m) := by
  by_cases hl : (l.drop i).take m = []
  · exact .inl hl
  · have hi : i < l.length := by
      by_cases h : i < l.length
      · exact h
      · exact absurd (by rw [List.drop_of_length_le (by omega)]; simp) hl
    obtain ⟨b', o', e, hb, -⟩ := c.at hi
    cases e
    refine sl_ints hb fun j hj => ?_
    have hj2 : j < l.length - i := by rw [List.length_take, List.length_drop] at hj; omega
    obtain ⟨b', o', e, -, h0⟩ := c.int_at (i := i + j) (by omega)
    cases e
    rw [Nat.add_assoc, h0, List.getElem_take, List.getElem_drop]
/-- The rows, of which so many are done. -/
def rowsK (m : Nat) (l : List Int) (n v : Nat) : List (List Int) := (List.range n).map fun i => if i < v then (l.drop (i * m)).take m else []
theorem rowsK_len (m : Nat) (l : List Int) (n v : Nat) : (rowsK m l n v).length = n := by simp [rowsK]
theorem rowsK_zero (m : Nat) (l : List Int) (n : Nat) : rowsK m l n 0 = List.replicate n [] := by
  refine List.ext_getElem (by simp [rowsK]) fun i h1 h2 => ?_
  simp [rowsK]
theorem rowsK_all (m : Nat) (l : List Int) (n : Nat) : rowsK m l n n = rowsN m l n := by
  refine List.ext_getElem (by simp [rowsK, rowsN]) fun i h1 h2 => ?_
  have : i < n := by simpa [rowsK] using h1
  simp [rowsK, rowsN, this]
theorem rowsK_set {m : Nat} {l : List Int} {n v : Nat} : (rowsK m l n v).set v ((l.drop (v * m)).take m) = rowsK m l n (v + 1) := by
  refine List.ext_getElem (by simp [rowsK]) fun i h1 h2 => ?_
  rw [List.getElem_set]
  by_cases e : v = i
  · subst e; simp [rowsK]
  · rw [if_neg e]
    have h3 : (i < v + 1) ↔ (i < v) := by omega
    simp [rowsK, h3]
theorem part_len {m n v : Nat} {l : List Int} (hl : l.length = n * m) (hv : v < n) : ((l.drop (v * m)).take m).length = m := by
  have : (v + 1) * m ≤ n * m := Nat.mul_le_mul_right m (by omega)
  rw [Nat.succ_mul] at this
  rw [List.length_take, List.length_drop]; omega
section
variable {g : Nat} {n : Int} {s : Option Addr} {cap : Nat} {l : List Iq} {s2 : Option Addr} {cq : Nat} {K : List Vv} {sp : Option Addr} {cp mb : Nat} {P : List Pt}
set_option maxRecDepth 100000 in
set_option maxHeartbeats 1000000 in
theorem cut_c (b : Nat) (L : List Int) (w : World) (h : Net 126 w g n s cap l s2 cq K sp cp mb P) (ok : NetOk n K P) (hs : SlS intE w (some ⟨b, 0, none⟩) L) (hL : L.length = K.length * P.length) :
    Calls Tryz.prog 45 #[.pointer (some ⟨g, 0, none⟩), .slice (some ⟨b, 0, none⟩) (K.length * P.length) (K.length * P.length)] w fun e w' => (∃ s' c', e = .returned (.slice s' K.length c') ∧ SlSS intE w' s' (rowsN P.length L K.length)) ∧ Below w.heap.size w w' := by
  have hNs := ok.size
  have hkl := ok.vars
  have hpl := ok.len
  have hend := rowsK_all P.length L K.length
  have hmt := run_make_tab K.length (by omega)
  obtain ⟨n0, n1, n2, n3, n4⟩ := h.cells
  replace hend := Lib.hid hend; replace hL := Lib.hid hL
  have h0 := Lib.hid h
  have hgw : g < w.heap.size := World.block_lt_of_cell? w ⟨g, 0, none⟩ n0
  go_enter Tryz.func45, Tryz.ntmps45
  go_upto_region 2 with (fail)
  refine wp_world fun X HX => ?_
  have hX : Below w.heap.size w X := by
    rw [HX.out]
    repeat (first | (with_reducible exact Below.refl _ _) | (with_reducible refine Below.drew ?_) | ((with_reducible refine Below.setC ?_ ?_); (focus (first | omega | (simp; done) | (simp; omega)))) | ((with_reducible refine Below.allo ?_ ?_); (focus (first | omega | (simp; done) | (simp; omega)))))
  have tb : Tbl intE 31 3 X w.heap.size (.slice (some ⟨w.heap.size, 0, none⟩) K.length K.length) (List.replicate K.length ⟨none, 0, 0⟩) (rowsK P.length L K.length 0) := by
    rw [rowsK_zero]
    refine Tbl.made ?_ (Nat.le_refl _) (by omega)
    rw [HX.out]
    exact heap_alloc_new w _
  clear HX h
  go_wp2
  go_loopw [16] (fun ii V => ∃ (v : Nat) (ss : List Sv), v ≤ K.length ∧ ii = .int .i64 v ∧ Tbl intE 31 3 V w.heap.size (.slice (some ⟨w.heap.size, 0, none⟩) K.length K.length) ss (rowsK P.length L K.length v) ∧ Below w.heap.size w V) (fun ii _ => K.length - (intOf ii).toNat)
  case atStart => exact ⟨0, _, by omega, rfl, tb, hX⟩
  case round =>
    clear tb hX
    obtain ⟨v, ss, hv, rfl, tb, hB⟩ := hrel
    by_cases hlt : v < K.length
    · have n3' := Up.cell hB n3
      have hsV := (hs.up hB).part (v * P.length) P.length
      have hpl2 := part_len hL.out hlt
      have hset := rowsK_set (m := P.length) (l := L) (n := K.length) (v := v)
      have hmul : (v + 1) * P.length ≤ K.length * P.length := Nat.mul_le_mul_right _ (by omega)
      have hsm : (v + 1) * P.length = v * P.length + P.length := Nat.succ_mul _ _
      have e1 : (v : Int) * (P.length : Int) = ((v * P.length : Nat) : Int) := (Int.natCast_mul _ _).symm
      obtain ⟨B, hBe⟩ : ∃ a, (v + 1) * P.length = a := ⟨_, rfl⟩
      have e2 : ((v : Int) + 1) * (P.length : Int) = (B : Int) := by rw [← hBe, Int.natCast_mul]; rfl
      rw [hBe] at hmul hsm
      obtain ⟨A, hA⟩ : ∃ a, v * P.length = a := ⟨_, rfl⟩
      rw [hA] at e1 hsm hsV hpl2 hset
      rw [Nat.zero_add] at hsV
      obtain ⟨row, hrow⟩ : ∃ r, (L.drop A).take P.length = r := ⟨_, rfl⟩
      rw [hrow] at hsV hpl2 hset
      have hpl3 : row.length = B - A := by omega
      obtain ⟨NN, hNN⟩ : ∃ q, K.length * P.length = q := ⟨_, rfl⟩
      simp only [hNN] at hmul hNs ⊢
      have w1 : IntKind.i64.wrap ((v : Int) * (P.length : Int)) = (A : Int) := by rw [e1]; exact i64_small (by omega)
      have w2 : IntKind.i64.wrap (((v : Int) + 1) * (P.length : Int)) = (B : Int) := by rw [e2]; exact i64_small (by omega)
      have w4 : IntKind.i64.wrap ((v : Int) + 1) = (v : Int) + 1 := i64_small (by omega)
      have htlt := fun i h g e => (tb.lt (i := i) h (b := g) e).2
      have hwlt : w.heap.size < wr.heap.size := (tb.out.lt _ rfl).2
      have hclG := fun SA V' (h : SlS intE V' SA row) (hn : SA = none → NN - A = 0) => (nint_clone SA (NN - A) row V' h hn (by omega)).mono (R' := fun e w' => (∃ s' c', e = .returned (.slice s' row.length c') ∧ w'.ownsRow V'.heap.size 3 1 (.slice s' row.length c') row.length (intE.all row)) ∧ Below V'.heap.size V' w') (fun e w' ⟨s', c', he, ho, hb⟩ => ⟨⟨s', c', he, ho⟩, hb⟩)
      simp only [hpl3] at hclG
      have j1 : (A : Int) ≤ (B : Int) := by omega
      have j2 : (B : Int) ≤ (NN : Int) := by omega
      have j3 : A ≤ B := by omega
      have j4 : B ≤ NN := hmul
      have j5 : (0 : Int) ≤ (A : Int) := by omega
      obtain ⟨tb0, te, -, tf, ths, tc, tv⟩ := tb.head (i := v) (by rw [rowsK_len]; exact hlt)
      cases te
      have i1 : (0 : Int) ≤ (v : Int) := by omega
      have i2 : (v : Int) < (K.length : Int) := by omega
      have hb0 := hB.size
      replace e1 := Lib.hid e1; replace e2 := Lib.hid e2; replace hsm := Lib.hid hsm; replace hA := Lib.hid hA; replace hrow := Lib.hid hrow; replace hpl2 := Lib.hid hpl2; replace hpl3 := Lib.hid hpl3; replace hBe := Lib.hid hBe; replace hset := Lib.hid hset; replace hclG := Lib.hid hclG; replace htlt := Lib.hid htlt; replace tv := Lib.hid tv; replace hNN := Lib.hid hNN
      by_cases hNA : NN = A
      · have hrn : row = [] := List.length_eq_zero_iff.1 (by have := hpl3.out; omega)
        have hsc : SlS intE wr (some ⟨b, 0, none⟩) row := by rw [hrn]; exact SlS.nil
        have hcl := fun V' h => hclG.out (some ⟨b, 0, none⟩) V' h (by simp)
        have hpl5 : row.length = 0 := by rw [hrn]; rfl
        have hz1 : B - A = 0 := by have := hpl3.out; omega
        have hz2 : NN - A = 0 := by omega
        simp only [hz1, hz2] at hcl
        replace hcl := Lib.hid hcl; replace hpl5 := Lib.hid hpl5; replace hz1 := Lib.hid hz1; replace hz2 := Lib.hid hz2; replace hrn := Lib.hid hrn
        subst hNA
        clear hsV hclG
        go_upto_region 5 with (fail)
        go_region_held3 (fun V => V.cell? ⟨g, 3, none⟩ = some (.slice sp P.length cp)) ((first | (with_reducible exact ⟨n3'⟩) | ((try dsimp only); (repeat' apply And.intro) <;> (repeat (first | (with_reducible assumption) | (with_reducible refine cell_set (by simp; try omega) ?_) | (with_reducible refine cell_drew ?_) | (with_reducible refine cell_alloc ?_ _)))))) ((first | (go_at_call 89; refine calls_below (W0 := wr) ?_ fun hpre => ?_; (repeat (first | exact Below.refl _ _ | refine Below.alloc ?_ (by simp; try omega) _ | refine Below.drew ?_)); refine (hcl.out _ (up_of hpre hsc)).mono ?_; rintro e N1 ⟨⟨s9, c9, rfl, hown⟩, hb1⟩; have hb := Up.trans hpre hb1; clear hpre; (first | have hs_N1 := below_alloc_lt hb1 | have hs_N1 := below_alloc_lt (drewB hb1) | skip); (try replace n3' := up_of hb n3'); (try replace hsc := up_of hb hsc); (try replace hB := up_of hb hB); (try replace tb := up_of hb tb); (first | have nB := new_up hb1 | have nB := new_up (drewB hb1) | (try replace nB := up_of hb nB)); obtain ⟨_, te', _, tf', _, tc', _⟩ := tb.head (i := v) (by rw [rowsK_len]; exact hlt); cases te')))
        all_goals
          refine inb_world fun Y HY => ?_
          have hpl4 := hpl5.out
          rw [← hpl4] at hown
          have hwl := hwlt
          have hN1 := hb.size
          have tb2 := Tbl.puts tb (i := v) (by rw [rowsK_len]; exact hlt) (sx := s9) (cx := c9) (L := row) hown hwl (fun i h g e => htlt.out i h g e) (by exact hb0)
          rw [hset.out, hpl4] at tb2
          have tbY : Tbl intE 31 3 Y w.heap.size (.slice (some ⟨w.heap.size, 0, none⟩) K.length K.length) (ss.set v ⟨s9, 0, c9⟩) (rowsK P.length L K.length (v + 1)) := by rw [HY.out]; first | exact tb2 | exact tb2.up ((Below.refl _ _).drew)
          have hBY : Below w.heap.size w Y := by
            rw [HY.out]
            repeat (first | (with_reducible exact hB) | (with_reducible refine Below.drew ?_) | ((with_reducible refine Below.setC ?_ ?_); (focus (first | omega | (simp; done) | (simp; omega)))) | ((with_reducible refine Below.allo ?_ ?_); (focus (first | omega | (simp; done) | (simp; omega)))))
          clear HY tb tb2 hown hpl4 hB n3' hsc
          replace tbY := Lib.hid tbY
          go_wp2
          go_roundw
          case rel => exact ⟨v + 1, _, by omega, rfl, tbY.out, hBY⟩
          case measure => exact meas hlt

      · have hsc := hsV
        have hcl := Lib.hid (fun V' h => hclG.out (some ⟨b, A, none⟩) V' h (by simp))
        clear hsV hclG
        go_upto_region 5 with (fail)
        go_region_held3 (fun V => V.cell? ⟨g, 3, none⟩ = some (.slice sp P.length cp)) ((first | (with_reducible exact ⟨n3'⟩) | ((try dsimp only); (repeat' apply And.intro) <;> (repeat (first | (with_reducible assumption) | (with_reducible refine cell_set (by simp; try omega) ?_) | (with_reducible refine cell_drew ?_) | (with_reducible refine cell_alloc ?_ _)))))) ((first | (go_at_call 89; refine calls_below (W0 := wr) ?_ fun hpre => ?_; (repeat (first | exact Below.refl _ _ | refine Below.alloc ?_ (by simp; try omega) _ | refine Below.drew ?_)); refine (hcl.out _ (up_of hpre hsc)).mono ?_; rintro e N1 ⟨⟨s9, c9, rfl, hown⟩, hb1⟩; have hb := Up.trans hpre hb1; clear hpre; (first | have hs_N1 := below_alloc_lt hb1 | have hs_N1 := below_alloc_lt (drewB hb1) | skip); (try replace n3' := up_of hb n3'); (try replace hsc := up_of hb hsc); (try replace hB := up_of hb hB); (try replace tb := up_of hb tb); (first | have nB := new_up hb1 | have nB := new_up (drewB hb1) | (try replace nB := up_of hb nB)); obtain ⟨_, te', _, tf', _, tc', _⟩ := tb.head (i := v) (by rw [rowsK_len]; exact hlt); cases te')))
        all_goals
          refine inb_world fun Y HY => ?_
          have hpl4 := hpl3.out
          rw [← hpl4] at hown
          have hwl := hwlt
          have hN1 := hb.size
          have tb2 := Tbl.puts tb (i := v) (by rw [rowsK_len]; exact hlt) (sx := s9) (cx := c9) (L := row) hown hwl (fun i h g e => htlt.out i h g e) (by exact hb0)
          rw [hset.out, hpl4] at tb2
          have tbY : Tbl intE 31 3 Y w.heap.size (.slice (some ⟨w.heap.size, 0, none⟩) K.length K.length) (ss.set v ⟨s9, B - A, c9⟩) (rowsK P.length L K.length (v + 1)) := by rw [HY.out]; first | exact tb2 | exact tb2.up ((Below.refl _ _).drew)
          have hBY : Below w.heap.size w Y := by
            rw [HY.out]
            repeat (first | (with_reducible exact hB) | (with_reducible refine Below.drew ?_) | ((with_reducible refine Below.setC ?_ ?_); (focus (first | omega | (simp; done) | (simp; omega)))) | ((with_reducible refine Below.allo ?_ ?_); (focus (first | omega | (simp; done) | (simp; omega)))))
          clear HY tb tb2 hown hpl4 hB n3' hsc
          replace tbY := Lib.hid tbY
          go_wp2
          go_roundw
          case rel => exact ⟨v + 1, _, by omega, rfl, tbY.out, hBY⟩
          case measure => exact meas hlt

    · have hve : v = K.length := by omega
      subst hve
      rw [hend.out] at tb
      have hl2 := tb.len
      rw [rowsN_len] at hl2
      have hview := Tbl.view (ss := ss) (s := some ⟨w.heap.size, 0, none⟩) (cap := K.length) (by rw [hl2]; exact tb)
      replace hview := Lib.hid hview; replace hl2 := Lib.hid hl2
      clear tb
      go_wp2
      go_ret
      exact ⟨⟨_, _, rfl, hview.out⟩, hB⟩
end
end Go.Proofs.YtakbpjgnjfigcaaGreat

/- The levels as exported: the program. -/
namespace Go.Proofs.YtakbpjgnjfigcaaGreat
open Go.RowKit Go.Maps

theorem newNet_no (n : Int) (s : Option Addr) (cap : Nat) (l : List Iq) (s2 : Option Addr) (cq : Nat) (K : List Vv) (w : World) (hr : RecM w s l s2 cq K) (h : recB n l K = false) :
    Calls Tryz.prog 31 #[.agg #[.int .i64 n, .slice s l.length cap, .slice s2 K.length cq]] w fun e w' => e = .returned (.tuple #[.pointer none, .bool false]) ∧ Below w.heap.size w w' :=
  (newNet_c n s cap l s2 cq K w hr).mono fun e w' ⟨h1, h2⟩ => by rw [h] at h1; exact ⟨h1, h2⟩
theorem newNet_yes (n : Int) (s : Option Addr) (cap : Nat) (l : List Iq) (s2 : Option Addr) (cq : Nat) (K : List Vv) (w : World) (hr : RecM w s l s2 cq K) (h : recB n l K = true) :
    Calls Tryz.prog 31 #[.agg #[.int .i64 n, .slice s l.length cap, .slice s2 K.length cq]] w fun e w' => (∃ g sp cp mb, e = .returned (.tuple #[.pointer (some ⟨g, 0, none⟩), .bool true]) ∧ Net 126 w' g n s cap l s2 cq K sp cp mb (pts n l)) ∧ Below w.heap.size w w' :=
  (newNet_c n s cap l s2 cq K w hr).mono fun e w' ⟨h1, h2⟩ => by rw [h] at h1; exact ⟨h1, h2⟩
/-- What straight hands back, where there is no circle. -/
def StrOk (n : Int) (s : Option Addr) (cap : Nat) (l : List Iq) (s2 : Option Addr) (cq : Nat) (K : List Vv) (P : List Pt) (e : Ending) (w' : World) : Prop :=
  ∃ g sp cp mb so co, ∃ (out : List Nat) (wait : List Int), e = .returned (.tuple #[.pointer (some ⟨g, 0, none⟩), .slice so out.length co, .int .i64 0]) ∧ Net 126 w' g n s cap l s2 cq K sp cp mb P ∧ SlS intE w' so (toI out) ∧ Ordd (useN K P) (K.length * P.length) out wait ∧ out.length = K.length * P.length
set_option maxRecDepth 100000 in
set_option maxHeartbeats 1000000 in
theorem straight_bad (n : Int) (s : Option Addr) (cap : Nat) (l : List Iq) (s2 : Option Addr) (cq : Nat) (K : List Vv) (w : World) (hr : RecM w s l s2 cq K) (h : recB n l K = false) :
    Calls Tryz.prog 44 #[.agg #[.int .i64 n, .slice s l.length cap, .slice s2 K.length cq]] w fun e w' => e = .returned (.tuple #[.pointer none, .slice none 0 0, .int .i64 20]) ∧ Below w.heap.size w w' := by
  have hn := fun V (hr : RecM V s l s2 cq K) => newNet_no n s cap l s2 cq K V hr h
  replace hn := Lib.hid hn
  clear h
  go_enter Tryz.func44, Tryz.ntmps44
  go_upto_region 1 with (fail)
  refine wp_world fun W HW => ?_
  have hB : Below w.heap.size w W := by rw [HW.out]; (repeat (first | exact Below.refl _ _ | refine Below.alloc ?_ (by simp; try omega) _ | refine Below.setCell ?_ (by simp) _ | refine Below.drew ?_))
  have d0 : W.cell? ⟨w.heap.size, 0, none⟩ = some (.int .i64 n) := by rw [HW.out]; simp [go_sem]
  have d1 : W.cell? ⟨w.heap.size, 1, none⟩ = some (.slice s l.length cap) := by rw [HW.out]; simp [go_sem]
  have d2 : W.cell? ⟨w.heap.size, 2, none⟩ = some (.slice s2 K.length cq) := by rw [HW.out]; simp [go_sem]
  have dl : w.heap.size < W.heap.size := World.block_lt_of_cell? W _ d0
  try replace hr := up_of hB hr
  go_wp2_with (first | (go_at_call 31; refine (hn.out _ hr).mono ?_; rintro e W1 ⟨rfl, hb⟩; (try replace hr := up_of hb hr); (try replace hB := up_of hb hB); (try replace d0 := up_of hb d0); (try replace d1 := up_of hb d1); (try replace d2 := up_of hb d2); (try replace dl := up_of hb dl)))
  refine bodyPost_ret (results_tmp3 rfl _ _ _) rfl ?_
  exact ⟨rfl, hB⟩
set_option maxRecDepth 100000 in
set_option maxHeartbeats 1000000 in
theorem straight_c (n : Int) (s : Option Addr) (cap : Nat) (l : List Iq) (s2 : Option Addr) (cq : Nat) (K : List Vv) (w : World) (hr : RecM w s l s2 cq K) (h : recB n l K = true) :
    Calls Tryz.prog 44 #[.agg #[.int .i64 n, .slice s l.length cap, .slice s2 K.length cq]] w fun e w' => ((okN2 K (pts n l) ∧ StrOk n s cap l s2 cq K (pts n l) e w') ∨ (¬ okN2 K (pts n l) ∧ e = .returned (.tuple #[.pointer none, .slice none 0 0, .int .i64 21]))) ∧ Below w.heap.size w w' := by
  have hn := fun V (hr : RecM V s l s2 cq K) => newNet_yes n s cap l s2 cq K V hr h
  have ok := netOk h
  obtain ⟨P, hP⟩ : ∃ P, pts n l = P := ⟨_, rfl⟩
  simp only [hP] at hn ok ⊢
  clear hP
  have ho := fun g sp cp mb V (h : Net 126 V g n s cap l s2 cq K sp cp mb P) => order_c V h ok
  have hz := fun g sp cp mb V (h : Net 126 V g n s cap l s2 cq K sp cp mb P) => size_c V h ok
  have hiff := fun out wait (h : Ordd (useN K P) (K.length * P.length) out wait) => h.iff (fun k _ => ok.use_lt k)
  have hle := fun out wait (h : Ordd (useN K P) (K.length * P.length) out wait) => h.le
  have hNs := ok.size
  replace hn := Lib.hid hn; replace ho := Lib.hid ho; replace hz := Lib.hid hz; replace hiff := Lib.hid hiff; replace hle := Lib.hid hle
  clear h
  go_enter Tryz.func44, Tryz.ntmps44
  go_upto_region 1 with (fail)
  refine wp_world fun W HW => ?_
  have hB : Below w.heap.size w W := by rw [HW.out]; (repeat (first | exact Below.refl _ _ | refine Below.alloc ?_ (by simp; try omega) _ | refine Below.setCell ?_ (by simp) _ | refine Below.drew ?_))
  have d0 : W.cell? ⟨w.heap.size, 0, none⟩ = some (.int .i64 n) := by rw [HW.out]; simp [go_sem]
  have d1 : W.cell? ⟨w.heap.size, 1, none⟩ = some (.slice s l.length cap) := by rw [HW.out]; simp [go_sem]
  have d2 : W.cell? ⟨w.heap.size, 2, none⟩ = some (.slice s2 K.length cq) := by rw [HW.out]; simp [go_sem]
  have dl : w.heap.size < W.heap.size := World.block_lt_of_cell? W _ d0
  try replace hr := up_of hB hr
  go_upto_region 2 with (first | (go_at_call 31; refine (hn.out _ hr).mono ?_; rintro e W1 ⟨⟨g, sp, cp, mb, rfl, hnt⟩, hb⟩; (try replace hr := up_of hb hr); (try replace hB := up_of hb hB); (try replace d0 := up_of hb d0); (try replace d1 := up_of hb d1); (try replace d2 := up_of hb d2); (try replace dl := up_of hb dl)))
  go_upto_region 5 with (first | (go_at_call 32; refine (ho.out _ _ _ _ _ hnt).mono ?_; rintro e W2 ⟨out, wait, so, co, sw, cw, rfl, hso, hsw, hod, hb⟩; (try replace hr := up_of hb hr); (try replace hB := up_of hb hB); (try replace d0 := up_of hb d0); (try replace d1 := up_of hb d1); (try replace d2 := up_of hb d2); (try replace dl := up_of hb dl); (try replace hnt := up_of hb hnt)))
  have hd := hiff.out out wait hod
  have hl2 := hle.out out wait hod
  replace hd := Lib.hid hd; replace hod := Lib.hid hod
  by_cases hlt : out.length < K.length * P.length
  · have hno : ¬ okN2 K P := fun hk => (hd.out.1 hlt) hk
    have k1 : ((out.length : Nat) : Int) < ((K.length * P.length : Nat) : Int) := by omega
    obtain ⟨NN, hNN⟩ : ∃ q, K.length * P.length = q := ⟨_, rfl⟩
    simp only [hNN] at hz k1
    replace hNN := Lib.hid hNN
    clear hd hod hlt hl2
    go_wp2_with (first | (go_at_call 33; refine (hz.out _ _ _ _ _ hnt).mono ?_; rintro e W1 ⟨rfl, hb⟩; (try replace hr := up_of hb hr); (try replace hB := up_of hb hB); (try replace d0 := up_of hb d0); (try replace d1 := up_of hb d1); (try replace d2 := up_of hb d2); (try replace dl := up_of hb dl); (try replace hnt := up_of hb hnt); (try replace hso := up_of hb hso)))
    refine bodyPost_ret (results_tmp3 rfl _ _ _) rfl ?_
    exact ⟨.inr ⟨hno, rfl⟩, hB⟩
  · have hyes : okN2 K P := by
      refine Classical.byContradiction fun hk => hlt (hd.out.2 hk)
    have hfull : out.length = K.length * P.length := by omega
    have k1 : ¬ ((out.length : Nat) : Int) < ((K.length * P.length : Nat) : Int) := by omega
    obtain ⟨NN, hNN⟩ : ∃ q, K.length * P.length = q := ⟨_, rfl⟩
    simp only [hNN] at hz k1
    replace hNN := Lib.hid hNN; replace hfull := Lib.hid hfull
    clear hd hlt hl2
    go_wp2_with (first | (go_at_call 33; refine (hz.out _ _ _ _ _ hnt).mono ?_; rintro e W1 ⟨rfl, hb⟩; (try replace hr := up_of hb hr); (try replace hB := up_of hb hB); (try replace d0 := up_of hb d0); (try replace d1 := up_of hb d1); (try replace d2 := up_of hb d2); (try replace dl := up_of hb dl); (try replace hnt := up_of hb hnt); (try replace hso := up_of hb hso)))
    refine bodyPost_ret (results_tmp3 rfl _ _ _) rfl ?_
    exact ⟨.inl ⟨hyes, g, sp, cp, mb, so, co, out, wait, rfl, hnt, hso, hod.out, hfull.out⟩, hB⟩
/-- What Levels hands back: an error, or the levels. -/
def LvRet (n : Int) (l : List Iq) (K : List Vv) (e : Ending) (w' : World) : Prop :=
  (recB n l K = false ∧ e = .returned (.tuple #[.slice none 0 0, .int .i64 20])) ∨ (recB n l K = true ∧ ¬ okN2 K (pts n l) ∧ e = .returned (.tuple #[.slice none 0 0, .int .i64 21])) ∨
  (recB n l K = true ∧ okN2 K (pts n l) ∧ ∃ s' c', e = .returned (.tuple #[.slice s' K.length c', .int .i64 0]) ∧ SlSS intE w' s' (rowsN (pts n l).length (lvsL K (pts n l)) K.length))
set_option maxRecDepth 100000 in
set_option maxHeartbeats 1000000 in
theorem Levels_c (n : Int) (s : Option Addr) (cap : Nat) (l : List Iq) (s2 : Option Addr) (cq : Nat) (K : List Vv) (w : World) (hr : RecM w s l s2 cq K) :
    Calls Tryz.prog 47 #[.agg #[.int .i64 n, .slice s l.length cap, .slice s2 K.length cq]] w fun e w' => LvRet n l K e w' ∧ Below w.heap.size w w' := by
  cases hb : recB n l K
  · have hst := fun V (hr : RecM V s l s2 cq K) => straight_bad n s cap l s2 cq K V hr hb
    have hend : ∀ w' : World, LvRet n l K (.returned (.tuple #[.slice none 0 0, .int .i64 20])) w' := fun w' => .inl ⟨hb, rfl⟩
    obtain ⟨R, hR⟩ : ∃ R, LvRet n l K = R := ⟨_, rfl⟩
    simp only [hR] at hend ⊢
    replace hst := Lib.hid hst; replace hend := Lib.hid hend
    clear hb hR
    go_enter Tryz.func47, Tryz.ntmps47
    go_upto_region 1 with (fail)
    refine wp_world fun W HW => ?_
    have hB : Below w.heap.size w W := by rw [HW.out]; (repeat (first | exact Below.refl _ _ | refine Below.alloc ?_ (by simp; try omega) _ | refine Below.setCell ?_ (by simp) _ | refine Below.drew ?_))
    have d0 : W.cell? ⟨w.heap.size, 0, none⟩ = some (.int .i64 n) := by rw [HW.out]; simp [go_sem]
    have d1 : W.cell? ⟨w.heap.size, 1, none⟩ = some (.slice s l.length cap) := by rw [HW.out]; simp [go_sem]
    have d2 : W.cell? ⟨w.heap.size, 2, none⟩ = some (.slice s2 K.length cq) := by rw [HW.out]; simp [go_sem]
    have dl : w.heap.size < W.heap.size := World.block_lt_of_cell? W _ d0
    try replace hr := up_of hB hr
    go_wp2_with (first | (go_at_call 44; refine (hst.out _ hr).mono ?_; rintro e W1 ⟨rfl, hb⟩; (try replace hr := up_of hb hr); (try replace hB := up_of hb hB); (try replace d0 := up_of hb d0); (try replace d1 := up_of hb d1); (try replace d2 := up_of hb d2); (try replace dl := up_of hb dl)))
    go_ret2
    exact ⟨hend.out _, hB⟩
  · have hst := fun V (hr : RecM V s l s2 cq K) => straight_c n s cap l s2 cq K V hr hb
    have ok := netOk hb
    have hend1 : ∀ w' : World, ¬ okN2 K (pts n l) → LvRet n l K (.returned (.tuple #[.slice none 0 0, .int .i64 21])) w' := fun w' h => .inr (.inl ⟨hb, h, rfl⟩)
    have hend2 : ∀ (w' : World) s' c', okN2 K (pts n l) → SlSS intE w' s' (rowsN (pts n l).length (lvsL K (pts n l)) K.length) → LvRet n l K (.returned (.tuple #[.slice s' K.length c', .int .i64 0])) w' := fun w' s' c' h hs => .inr (.inr ⟨hb, h, s', c', rfl, hs⟩)
    obtain ⟨R, hR⟩ : ∃ R, LvRet n l K = R := ⟨_, rfl⟩
    simp only [hR] at hend1 hend2 ⊢
    obtain ⟨P, hP⟩ : ∃ P, pts n l = P := ⟨_, rfl⟩
    simp only [hP] at hst ok hend1 hend2
    clear hP hb hR
    have hlv := fun g sp cp mb so co out wait V (h : Net 126 V g n s cap l s2 cq K sp cp mb P) (h2 : SlS intE V so (toI out)) (h3 : Ordd (useN K P) (K.length * P.length) out wait) (h4 : out.length = K.length * P.length) => (by have := nlevels_c so co out wait V h ok h2 h3 h4; rw [h4] at this; exact this : Calls Tryz.prog 48 #[.pointer (some ⟨g, 0, none⟩), .slice so (K.length * P.length) co] V fun e w' => (∃ b, e = .returned (.slice (some ⟨b, 0, none⟩) (K.length * P.length) (K.length * P.length)) ∧ SlS intE w' (some ⟨b, 0, none⟩) (lvsL K P)) ∧ Below V.heap.size V w')
    have hcu := fun g sp cp mb b V (h : Net 126 V g n s cap l s2 cq K sp cp mb P) (h2 : SlS intE V (some ⟨b, 0, none⟩) (lvsL K P)) => cut_c b (lvsL K P) V h ok h2 (lvsL_len K P)
    obtain ⟨LL, hLL⟩ : ∃ x, lvsL K P = x := ⟨_, rfl⟩
    simp only [hLL] at hlv hcu hend2
    clear hLL
    obtain ⟨RR, hRR⟩ : ∃ x, rowsN P.length LL K.length = x := ⟨_, rfl⟩
    simp only [hRR] at hcu hend2
    clear hRR
    replace hst := Lib.hid hst; replace hlv := Lib.hid hlv; replace hcu := Lib.hid hcu; replace hend1 := Lib.hid hend1; replace hend2 := Lib.hid hend2
    go_enter Tryz.func47, Tryz.ntmps47
    go_upto_region 1 with (fail)
    refine wp_world fun W HW => ?_
    have hB : Below w.heap.size w W := by rw [HW.out]; (repeat (first | exact Below.refl _ _ | refine Below.alloc ?_ (by simp; try omega) _ | refine Below.setCell ?_ (by simp) _ | refine Below.drew ?_))
    have d0 : W.cell? ⟨w.heap.size, 0, none⟩ = some (.int .i64 n) := by rw [HW.out]; simp [go_sem]
    have d1 : W.cell? ⟨w.heap.size, 1, none⟩ = some (.slice s l.length cap) := by rw [HW.out]; simp [go_sem]
    have d2 : W.cell? ⟨w.heap.size, 2, none⟩ = some (.slice s2 K.length cq) := by rw [HW.out]; simp [go_sem]
    have dl : w.heap.size < W.heap.size := World.block_lt_of_cell? W _ d0
    try replace hr := up_of hB hr
    go_upto_region 2 with (first | (go_at_call 44; refine (hst.out _ hr).mono ?_; rintro e W1 ⟨h1, hb⟩; replace hB := up_of hb hB; replace hr := up_of hb hr; rcases h1 with ⟨hyes, g, sp, cp, mb, so, co, out, wait, rfl, hnt, hso, hod, hfull⟩ | ⟨hno, rfl⟩))
    · replace hod := Lib.hid hod; replace hfull := Lib.hid hfull; replace hyes := Lib.hid hyes
      clear hr d0 d1 d2 dl hend1
      go_wp2_with (first | (go_at_call 48; refine (hlv.out _ _ _ _ _ _ _ _ _ hnt hso hod.out hfull.out).mono ?_; rintro e W2 ⟨⟨b, rfl, hsl⟩, hb⟩; (try replace hB := up_of hb hB); (try replace hnt := up_of hb hnt)) | (go_at_call 45; refine (hcu.out _ _ _ _ _ _ hnt hsl).mono ?_; rintro e W1 ⟨⟨s', c', rfl, hss⟩, hb⟩; (try replace hB := up_of hb hB); (try replace hnt := up_of hb hnt)))
      go_ret2
      exact ⟨hend2.out _ _ _ hyes.out hss, hB⟩
    · replace hno := Lib.hid hno
      clear hend2
      go_wp2
      go_ret2
      exact ⟨hend1.out _ hno.out, hB⟩
end Go.Proofs.YtakbpjgnjfigcaaGreat
