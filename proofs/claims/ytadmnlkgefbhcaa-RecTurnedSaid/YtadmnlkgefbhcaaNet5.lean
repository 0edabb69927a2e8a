/- The order of the elements: the program. -/
import Derived.Test.YtadmnlkgefbhcaaNet3
import Derived.Test.YtadmnlkgefbhcaaB7
import Derived.Test.YtadmnlkgefbhcaaLastIn
namespace Go.Proofs.Ytadmnlkgefbhcaa
open Go.RowKit Go.Maps

attribute [local go_sem] Oper.semAt_some

theorem info_intss : (Try.prog.info? 53).map (fun i => (i.zero, i.size, i.bytes)) = some (some (.slice none 0 0), 1, 24) := by kernel_rfl
def nils (k : Nat) : List Value := List.replicate k (.slice none 0 0)
theorem run_make_tab (k : Nat) (hk : k ≤ 100000) (w : World) : (Instr.makeSlice 46 (.int .i64 k) (.int .i64 k)).run Try.prog w = .ok (.slice (some ⟨w.heap.size, 0, none⟩) k k) (w.alloc (.cells (nils k).toArray 53)) := by
  obtain ⟨i, hi, hz, hs, hb⟩ := info_parts info_intss
  have h := run_makeSlice (P := Try.prog) (w := w) 46 53 i _ Try.underlying46 hi hz .i64 .i64 k k (by omega) (by omega) (by rw [hs]; omega) (by rw [hb]; omega) (by omega)
  rw [h, hs]
  have e : madeCells (Value.cells (.slice none 0 0)) ((k : Int).toNat * 1) = (nils k).toArray := by
    apply Array.ext
    · simp [size_madeCells, nils]
    · intro j h1 h2
      simp [madeCells, Value.cells, Nat.mod_one, nils]
  rw [e]
  simp
/-- What order hands back. -/
def OrdRet (us : Uses) (N : Nat) (w : World) (e : Ending) (w' : World) : Prop :=
  ∃ (out : List Nat) (wait : List Int) (so : Option Addr) (co : Nat) (sw : Option Addr) (cw : Nat), e = .returned (.tuple #[.slice so out.length co, .slice sw N cw]) ∧ SlS intE w' so (toI out) ∧ SlS intE w' sw wait ∧ Ordd us N out wait ∧ Below w.heap.size w w'
section
variable {g : Nat} {n : Int} {s : Option Addr} {cap : Nat} {l : List Iq} {s2 : Option Addr} {cq : Nat} {K : List Vv} {sp : Option Addr} {cp mb : Nat} {P : List Pt}
set_option maxRecDepth 100000 in
set_option maxHeartbeats 1000000 in
theorem order_c (w : World) (h : Net 106 w g n s cap l s2 cq K sp cp mb P) (ok : NetOk n K P) :
    Calls Try.prog 57 #[.pointer (some ⟨g, 0, none⟩)] w (OrdRet (useN K P) (K.length * P.length) w) := by
  have hsz := fun V (h : Net 106 V g n s cap l s2 cq K sp cp mb P) => size_c V h ok
  have hNs := ok.size
  have hul := ok.use_len
  have hult := ok.use_lt
  have hused := fun (k : Nat) (hk : k < K.length * P.length) (V : World) (hV : Below w.heap.size w V) (Tw : Nat → Prop) hT => used_c k w V h ok hV hk Tw hT
  obtain ⟨N, hN⟩ : ∃ N, K.length * P.length = N := ⟨_, rfl⟩
  simp only [hN] at hsz hNs hult hused ⊢
  obtain ⟨us, hus⟩ : ∃ f, useN K P = f := ⟨_, rfl⟩
  simp only [hus] at hul hult hused ⊢
  clear hN hus ok
  have hmk := run_make_ints N (by omega)
  have hmt := run_make_tab N (by omega)
  replace hsz := Lib.hid hsz; replace hul := Lib.hid hul; replace hult := Lib.hid hult; replace hused := Lib.hid hused
  refine calls_of_wp_marks Try.func57 rfl ?_
  simp only [Try.ntmps57, List.size_toArray, List.length_cons, List.length_nil, Nat.reduceAdd, Nat.reduceSub, Array.replicate_succ, Array.replicate_zero, List.push_toArray, List.append_toArray, List.nil_append, List.cons_append]
  go_upto_region 2 with (first | (go_at_call 58; refine (hsz.out _ h).mono ?_; rintro e W1 ⟨rfl, hb1⟩; have h1 := Net.up hb1 h))
  refine wp_world fun A1 HA => ?_
  have hA : Below W1.heap.size W1 A1 := by
    rw [HA.out]
    repeat (first | (with_reducible exact Below.refl _ _) | (with_reducible refine Below.drew ?_) | ((with_reducible refine Below.setC ?_ ?_); (focus (first | omega | (simp; done) | (simp; omega)))) | ((with_reducible refine Below.allo ?_ ?_); (focus (first | omega | (simp; done) | (simp; omega)))))
  have hAs : A1.heap.size = W1.heap.size + 2 := by rw [HA.out]; simp
  have w0 : A1.ownsRow W1.heap.size 3 1 (.slice (some ⟨W1.heap.size, 0, none⟩) N N) N (intE.all (List.replicate N 0)) := by
    rw [HA.out]; exact (own_zeros W1 N (by omega)).alloc _
  have w1 : Row A1 (W1.heap.size + 1) 53 #[.slice (some ⟨W1.heap.size, 0, none⟩) N N] := by
    rw [HA.out]
    refine Row.of ?_
    repeat (first | (with_reducible refine RowG.new ?_) | (with_reducible refine RowG.drew ?_) | (with_reducible refine RowG.set ?_) | ((with_reducible refine RowG.other ?_ ?_); (focus (first | omega | (simp; done) | (simp; omega)))) | ((with_reducible refine RowG.new' ?_ ?_); (focus (first | omega | (simp; done) | (simp; omega)))) | (with_reducible refine RowG.alloc ?_))
    rfl
  replace h1 := Net.up hA h1
  have hwA : Below w.heap.size w A1 := hb1.trans (hA.mono hb1.size)
  have hwb := hb1.size
  clear HA
  replace hAs := Lib.hid hAs
  go_upto_region 3 with (first | (go_at_call 58; refine (hsz.out _ h1).mono ?_; rintro e W2 ⟨rfl, hb2⟩; replace h1 := Net.up hb2 h1; replace w0 := up_of hb2 w0; replace w1 := up_of hb2 w1; replace hwA := hwA.trans (hb2.mono hwA.size); have hAW := hb2.size))
  refine wp_world fun B1 HB => ?_
  have hB : Below W2.heap.size W2 B1 := by
    rw [HB.out]
    repeat (first | (with_reducible exact Below.refl _ _) | (with_reducible refine Below.drew ?_) | ((with_reducible refine Below.setC ?_ ?_); (focus (first | omega | (simp; done) | (simp; omega)))) | ((with_reducible refine Below.allo ?_ ?_); (focus (first | omega | (simp; done) | (simp; omega)))))
  have tb : Tbl intE 53 3 B1 W2.heap.size (.slice (some ⟨W2.heap.size, 0, none⟩) N N) (List.replicate N ⟨none, 0, 0⟩) (List.replicate N []) := by
    refine Tbl.made ?_ (Nat.le_refl _) (by omega)
    rw [HB.out]
    exact (heap_alloc_old _ _ (by simp)).trans (heap_alloc_new W2 _)
  have u1 : Row B1 (W2.heap.size + 1) 46 #[.slice (some ⟨W2.heap.size, 0, none⟩) N N] := by
    rw [HB.out]
    refine Row.of ?_
    repeat (first | (with_reducible refine RowG.new ?_) | (with_reducible refine RowG.drew ?_) | (with_reducible refine RowG.set ?_) | ((with_reducible refine RowG.other ?_ ?_); (focus (first | omega | (simp; done) | (simp; omega)))) | ((with_reducible refine RowG.new' ?_ ?_); (focus (first | omega | (simp; done) | (simp; omega)))) | (with_reducible refine RowG.alloc ?_))
    rfl
  replace h1 := Net.up hB h1; replace w0 := up_of hB w0; replace w1 := up_of hB w1; replace hwA := hwA.trans (hB.mono hwA.size)
  clear HB
  obtain ⟨bw, hbw⟩ : ∃ b, W1.heap.size = b := ⟨_, rfl⟩
  obtain ⟨bu, hbu⟩ : ∃ b, W2.heap.size = b := ⟨_, rfl⟩
  have hwbu : w.heap.size ≤ bw ∧ bw + 1 < bu := by have := hAs.out; omega
  simp only [hbw] at w0 w1 ⊢
  simp only [hbu] at tb u1 ⊢
  have hO : OrdM w bw bu N B1.heap.size B1 (List.replicate N 0) (List.replicate N ⟨none, 0, 0⟩) (List.replicate N []) (.slice none 0 0) [] :=
    ⟨hwA, hwbu, w0, w1, tb, u1, fun j hj g e => by simp [Sv.val, Value.ownBlock] at e, World.ownsRow_nil _ _ _ _, fun g e => by simp [Value.ownBlock] at e, fun j hj g e => by simp [Sv.val, Value.ownBlock] at e⟩
  clear tb w0 w1 u1 hwA hB hA hb1 hb2 hAW hwb hAs hbw hbu hmk hmt
  go_wp2_with (first | (go_at_call 58; refine (hsz.out _ h1).mono ?_; rintro e W3 ⟨rfl, hb⟩; replace h1 := Net.up hb h1; replace hO := OrdM.up hb hO))
  replace hO := hO.next
  rw [← wtK_zero us, ← usK_zero us] at hO
  clear h1
  refine wp_loop_marks [6, 7, 20, 21, 22, 23, 24, 25, 43, 44, 45, 46, 47, 48, 49, 50, 51, 52] (fun z ds V => ∃ (k : Nat) (ss : List Sv) (ov : Value), k ≤ N ∧ z 20 = .int .i64 k ∧ z 6 = ov ∧ OrdM w bw bu N V.heap.size V (wtK us N k 0) ss (usK us N k []) ov (toI (free us k)) ∧ Marks w.heap.size ds V) (fun z => N - (intOf (z 20)).toNat) ?_ ?_
  · exact ⟨0, _, _, by omega, rfl, rfl, hO, Marks.nil _ _⟩
  · clear hO
    rintro z ds U ⟨k, ss, ov, hk, z20, z6, hO, hM⟩
    simp only [setMany, List.setIfInBounds_toArray, List.set_cons_zero, List.set_cons_succ]
    simp only [z20, z6]
    by_cases hlt : k < N
    · have hkU := usrs_len (us := us) hul.out k
      have hbuV := hO.u1.lt
      have hwb := hO.wb
      go_upto_region 7 with (fail)
      refine wp_world fun X HX => ?_
      have hX : Below U.heap.size U X := by rw [HX.out]; (repeat (first | exact Below.refl _ _ | refine Below.alloc ?_ (by simp; try omega) _ | refine Below.setCell ?_ (by simp) _ | refine Below.drew ?_))
      have kbB : Row X (U.heap.size) 3 #[.int .i64 k] := (by rw [HX.out]; (repeat (first | (refine blk_new ?_; simp; done) | refine blk_old ?_ _)) : X.heap[U.heap.size]? = some (.cells #[.int .i64 k] 3 (0, 0)))
      have kb0 : X.cell? ⟨U.heap.size, 0, none⟩ = some (.int .i64 k) := by rw [HX.out]; simp [go_sem]
      have kbl : U.heap.size < X.heap.size := World.block_lt_of_cell? X _ kb0
      try replace hO := up_of hX hO
      try replace hM := up_of hX hM
      have hXs : X.heap.size = U.heap.size + 1 := by rw [HX.out]; simp
      have hwX := hO.be
      replace hXs := Lib.hid hXs
      clear HX
      go_wp2_with (first | (go_at_call 85; refine (hused.out k hlt X hwX (fun j => w.heap.size ≤ j ∧ j < U.heap.size) (fun j hj => ⟨hj.1, by have := hXs.out; omega⟩)).mono ?_; rintro e Y ⟨rfl, hit, hb, hYs⟩; replace hYs := Lib.hid hYs; replace hO := OrdM.up hb hO; replace hM := Marks.up hb hM; replace kbB := up_of hb kbB))
      have hYV : Y.heap.size = U.heap.size + 3 := by have := hXs.out; have := hYs.out; omega
      replace hYV := Lib.hid hYV
      have hbe := hO.be
      refine' wp_rangeT rfl (fun _ _ => by simp [go_sem]) hit (fun pre W => ∃ ss', OrdM w bw bu N U.heap.size W (wtK us N k pre.length) ss' (usK us N k pre) ov (toI (free us k)) ∧ Row W U.heap.size 3 #[.int .i64 k] ∧ MarksIn w.heap.size Y.heap.size ds W ∧ Y.heap.size ≤ W.heap.size) (fun _ _ _ => False) ?hI (fun _ _ _ _ h _ => h) (fun s W h => h.choose_spec.2.2.2) (fun _ _ _ h => h.elim) ⟨ss, hO, kbB, hM.lt, Nat.le_refl _⟩ _ ?assign ?body ?done (fun _ _ _ _ _ _ h _ => h.elim)
      case hI =>
        rintro pre A B ⟨ss', h1, h2, h3, h4⟩ hu
        exact ⟨ss', h1.cellsUp hbe.size hu, hu.cells _ _ _ _ h2, h3.below hu.below, Nat.le_trans h4 hu.below.size⟩
      case assign =>
        intro l x W K hK
        simp only [List.setIfInBounds_toArray, List.set_cons_zero, List.set_cons_succ]
        gi_wp2
        exact hK
      case body =>
        rintro l pre x W ⟨ss', hO', kbW, hM', hYW⟩ hpre hW2
        have hxm : x ∈ us k := hpre.subset (by simp)
        have hxN := hult.out k x hxm
        have hpl : pre.length + 1 ≤ (us k).length := by have := hpre.length_le; simpa using this
        have hu3 := hul.out k
        have hcnt : pre.count x ≤ pre.length := List.count_le_length
        have c27 : W.cell? ⟨bw + 1, 0, none⟩ = some (.slice (some ⟨bw, 0, none⟩) N N) := hO'.w1.cell rfl
        have c28 : W.cell? ⟨U.heap.size, 0, none⟩ = some (.int .i64 k) := kbW.cell rfl
        obtain ⟨wc, wf⟩ := hO'.wcell (k := k) (by rw [wtK_len]; exact hlt)
        rw [wtK_at hlt] at wc
        have hsetw := hO'.setw k ((pre.length : Int) + 1)
        rw [wtK_set hlt] at hsetw
        have e1 : IntKind.i64.wrap ((pre.length : Int) + 1) = (pre.length : Int) + 1 := i64_small (by omega)
        have i1 : (0 : Int) ≤ (k : Int) := by omega
        have i2 : (k : Int) < (N : Int) := by omega
        have hWs : U.heap.size + 7 ≤ W.heap.size := by have := hYV.out; omega
        replace hsetw := Lib.hid hsetw; replace hO' := Lib.hid hO'; replace hM' := Lib.hid hM'; replace hpre := Lib.hid hpre; replace kbW := Lib.hid kbW; replace hxm := Lib.hid hxm; replace hpl := Lib.hid hpl; replace hu3 := Lib.hid hu3; replace hcnt := Lib.hid hcnt
        gi_upto_region 10 with (fail)
        refine wpIn_world fun Z HZ => ?_
        have hOZ : OrdM w bw bu N U.heap.size Z (wtK us N k (pre.length + 1)) ss' (usK us N k pre) ov (toI (free us k)) := by rw [HZ.out]; exact hsetw.out
        have kbZ : Row Z U.heap.size 3 #[.int .i64 k] := by
          rw [HZ.out]; exact (Below.heap_setCell _ _ _ _ (by show U.heap.size ≠ bw; omega)).trans kbW.out
        have hKZ : KeepN (fun j => w.heap.size ≤ j ∧ j < U.heap.size) Y.heap.size (Y.heap.size + 2) 2 W Z := by
          rw [HZ.out]
          exact (KeepN.refl W).setC _ ⟨fun _ => ⟨hwb.1, by show bw < U.heap.size; omega⟩, fun h => by have := hYV.out; have h1 : Y.heap.size + 2 ≤ bw := h.1; omega⟩
        have hFZ : KeepsOthers W Z := by rw [HZ.out]; exact KeepsOthers.setCell _ _ _
        have hZs : Z.heap.size = W.heap.size := by rw [HZ.out]; simp [World.setCell]
        clear HZ c27 c28 wc wf
        have hxR : x < (usK us N k pre).length := by rw [usK_len]; exact hxN
        obtain ⟨b', e', hb', f0, hxs, x0, hv⟩ := hOZ.tb.head hxR
        cases e'
        have hrow := hOZ.tb.row x hxR hxs
        rw [hv] at hrow
        have hgex := fun g e => hOZ.ge x hxs g (by rw [hv]; exact e)
        have hset := usK_set (us := us) (N := N) (k := k) (pre := pre) hxN hxR
        have hRl : (usK us N k pre)[x].length ≤ 20000 := by
          rw [usK_at hxN, toI_len, List.length_append, List.length_replicate]
          have := usrs_len (us := us) hul.out k x
          have := hpl.out; have := hu3.out; have := hcnt.out
          omega
        obtain ⟨RL, hRL⟩ : ∃ y, (usK us N k pre)[x] = y := ⟨_, rfl⟩
        rw [hRL] at x0 hv hrow hset hRl
        simp only [hRL] at hgex
        obtain ⟨sa, hsa⟩ : ∃ y, ss'[x].addr = y := ⟨_, rfl⟩
        obtain ⟨sc, hsc⟩ : ∃ y, ss'[x].cap = y := ⟨_, rfl⟩
        simp only [hsa, hsc] at x0 hv hrow hgex
        have b0 : Z.cell? ⟨bu + 1, 0, none⟩ = some (.slice (some ⟨bu, 0, none⟩) N N) := hOZ.u1.cell rfl
        have k0 : Z.cell? ⟨U.heap.size, 0, none⟩ = some (.int .i64 k) := kbZ.cell rfl
        obtain ⟨i0, hi0, hz0, hz1, hz2⟩ := info_parts info_int
        have j1 : (0 : Int) ≤ (x : Int) := by omega
        have j2 : (x : Int) < (N : Int) := by omega
        have hZW : U.heap.size + 7 ≤ Z.heap.size := by omega
        have hgne : ∀ g, (Value.slice sa RL.length sc).ownBlock = some g → g ≠ U.heap.size ∧ g ≠ bu ∧ g ≠ bu + 1 := fun g e => by have := hgex g e; omega
        replace hOZ := Lib.hid hOZ; replace kbZ := Lib.hid kbZ; replace hKZ := Lib.hid hKZ; replace hFZ := Lib.hid hFZ; replace hset := Lib.hid hset; replace hRL := Lib.hid hRL; replace hsa := Lib.hid hsa; replace hsc := Lib.hid hsc; replace hv := Lib.hid hv; replace hgex := Lib.hid hgex; replace hgne := Lib.hid hgne; replace hZs := Lib.hid hZs
        refine wpL.regionIn (m := 10) (S := fun V => V.cell? ⟨bu + 1, 0, none⟩ = some (.slice (some ⟨bu, 0, none⟩) N N) ∧ V.cell? ⟨U.heap.size, 0, none⟩ = some (.int .i64 k) ∧ V.cell? ⟨bu, x, none⟩ = some (.slice sa RL.length sc)) (by kernel_rfl) (by kernel_rfl) ?_ (fun hHeld => ?_)
        (focus ((first | exact ⟨b0, k0, x0⟩ | ((first | (with_reducible exact ⟨b0, k0, x0⟩) | ((try dsimp only); (repeat' apply And.intro) <;> (repeat (first | (with_reducible assumption) | (with_reducible refine cell_set (by simp; try omega) ?_) | (with_reducible refine cell_drew ?_) | (with_reducible refine cell_alloc ?_ _))))))); done))
        refine wpL.take' (i := 0) rfl (by kernel_rfl) (by kernel_rfl) (by kernel_rfl) (by kernel_rfl) (by decide) (by kernel_rfl) (by assumption) ?_
        apply Exists.intro; refine ⟨fun _ _ _ h => (by cases h.1), ?_, ?_⟩
        (focus (first | (refine Or.inl ⟨by rfl, fun V hV => ?_⟩; ((try dsimp only at hV); go_simp; (try (with_reducible rfl)); done)) | exact Or.inr ⟨by rfl, rfl⟩))
        try simp only [Act.put, List.setIfInBounds_toArray, List.set_cons_zero, List.set_cons_succ]
        refine wpL.take' (i := 1) rfl (by kernel_rfl) (by kernel_rfl) (by kernel_rfl) (by kernel_rfl) (by decide) (by kernel_rfl) (by assumption) ?_
        apply Exists.intro; refine ⟨fun _ _ _ h => (by cases h.1), ?_, ?_⟩
        (focus (first | (refine Or.inl ⟨by rfl, fun V hV => ?_⟩; ((try dsimp only at hV); go_simp; (try (with_reducible rfl)); done)) | exact Or.inr ⟨by rfl, rfl⟩))
        try simp only [Act.put, List.setIfInBounds_toArray, List.set_cons_zero, List.set_cons_succ]
        refine wpL.take' (i := 2) rfl (by kernel_rfl) (by kernel_rfl) (by kernel_rfl) (by kernel_rfl) (by decide) (by kernel_rfl) (by assumption) ?_
        apply Exists.intro; refine ⟨fun _ _ _ h => (by cases h.1), ?_, ?_⟩
        (focus (first | (refine Or.inl ⟨by rfl, fun V hV => ?_⟩; ((try dsimp only at hV); go_simp; (try (with_reducible rfl)); done)) | exact Or.inr ⟨by rfl, rfl⟩))
        try simp only [Act.put, List.setIfInBounds_toArray, List.set_cons_zero, List.set_cons_succ]
        refine wpL.take' (i := 3) rfl (by kernel_rfl) (by kernel_rfl) (by kernel_rfl) (by kernel_rfl) (by decide) (by kernel_rfl) (by assumption) ?_
        apply Exists.intro; refine ⟨fun _ _ _ h => (by cases h.1), ?_, ?_⟩
        (focus (first | (refine Or.inl ⟨by rfl, fun V hV => ?_⟩; ((try dsimp only at hV); go_simp; (try (with_reducible rfl)); done)) | exact Or.inr ⟨by rfl, rfl⟩))
        try simp only [Act.put, List.setIfInBounds_toArray, List.set_cons_zero, List.set_cons_succ]
        refine wpL.take' (i := 4) rfl (by kernel_rfl) (by kernel_rfl) (by kernel_rfl) (by kernel_rfl) (by decide) (by kernel_rfl) (by assumption) ?_
        apply Exists.intro; refine ⟨fun _ _ _ h => (by cases h.1), ?_, ?_⟩
        (focus (first | (refine Or.inl ⟨by rfl, fun V hV => ?_⟩; ((try dsimp only at hV); go_simp; (try (with_reducible rfl)); done)) | exact Or.inr ⟨by rfl, rfl⟩))
        try simp only [Act.put, List.setIfInBounds_toArray, List.set_cons_zero, List.set_cons_succ]
        refine wpL.take' (i := 5) rfl (by kernel_rfl) (by kernel_rfl) (by kernel_rfl) (by kernel_rfl) (by decide) (by kernel_rfl) (by assumption) ?_
        apply Exists.intro; refine ⟨fun _ _ _ h => (by cases h.1), ?_, ?_⟩
        (focus (first | (refine Or.inl ⟨by rfl, fun V hV => ?_⟩; ((try dsimp only at hV); go_simp; (try (with_reducible rfl)); done)) | exact Or.inr ⟨by rfl, rfl⟩))
        try simp only [Act.put, List.setIfInBounds_toArray, List.set_cons_zero, List.set_cons_succ]
        refine wpL.take' (i := 6) rfl (by kernel_rfl) (by kernel_rfl) (by kernel_rfl) (by kernel_rfl) (by decide) (by kernel_rfl) (by assumption) ?_
        apply Exists.intro; refine ⟨fun _ _ _ h => (by cases h.1), ?_, ?_⟩
        (focus (first | (refine Or.inl ⟨by rfl, fun V hV => ?_⟩; ((try dsimp only at hV); go_simp; (try (with_reducible rfl)); done)) | exact Or.inr ⟨by rfl, rfl⟩))
        try simp only [Act.put, List.setIfInBounds_toArray, List.set_cons_zero, List.set_cons_succ]
        refine wpL.one (i := 7) (by kernel_rfl) rfl fun K hK => ?_
        rw [if_pos (by rfl)]
        go_simp
        try clear hHeld
        refine hK.out _ _ ?_ (fun hHeld => ?_)
        (focus ((first | exact ⟨b0, k0, x0⟩ | ((first | (with_reducible exact ⟨b0, k0, x0⟩) | ((try dsimp only); (repeat' apply And.intro) <;> (repeat (first | (with_reducible assumption) | (with_reducible refine cell_set (by simp; try omega) ?_) | (with_reducible refine cell_drew ?_) | (with_reducible refine cell_alloc ?_ _))))))); done))
        clear hK K
        try simp only [Act.put, List.setIfInBounds_toArray, List.set_cons_zero, List.set_cons_succ]
        refine wpL.one (i := 8) (by kernel_rfl) rfl fun K hK => ?_
        ((first | (refine step_append_lies _ (by rfl) _ _ 53 (by rfl) bu 3 i0 (.int .i64 0) 1 8 Try.underlying53 hi0 hz0 hz1 hz2 rfl (by decide) _ _ _ (by rfl) (hrow.alloc _) ⟨Z.heap.size, 0, none⟩ 1 1 [.int .i64 k] (by rfl) (by rfl) (news_new _ _ _) (by simp [Value.oneCell']) (by decide) (by unfold maxLen; omega) (by omega) (by first | omega | (simp; omega)) (Z.heap.size + 1) (by simp) ?_; intro gg cap1 w1 hown1 hgrow hat hlt2; replace b0 := cell_appD hgrow b0 (fun g e => (hgne.out g e).2.2); replace k0 := cell_appD hgrow k0 (fun g e => (hgne.out g e).1); replace x0 := cell_appD hgrow x0 (fun g e => (hgne.out g e).2.1); have f1 : w1.frozen? ⟨bu, x, none⟩ = false := (World.frozen?_of_block (w := Z) (a := ⟨bu, x, none⟩) ((hgrow.block bu (by show bu < (Z.alloc _).heap.size; simp; omega) (fun e => (hgne.out bu e.symm).2.1 rfl)).trans (heap_alloc_old Z _ (by show bu < Z.heap.size; omega)))).trans f0)))
        try clear hHeld
        refine hK.out _ _ ?_ (fun hHeld => ?_)
        (focus ((first | exact ⟨b0, k0, x0⟩ | ((first | (with_reducible exact ⟨b0, k0, x0⟩) | ((try dsimp only); (repeat' apply And.intro) <;> (repeat (first | (with_reducible assumption) | (with_reducible refine cell_set (by simp; try omega) ?_) | (with_reducible refine cell_drew ?_) | (with_reducible refine cell_alloc ?_ _))))))); done))
        clear hK K
        try simp only [Act.put, List.setIfInBounds_toArray, List.set_cons_zero, List.set_cons_succ]
        refine wpL.take' (i := 9) rfl (by kernel_rfl) (by kernel_rfl) (by kernel_rfl) (by kernel_rfl) (by decide) (by kernel_rfl) (by assumption) ?_
        apply Exists.intro; refine ⟨fun _ _ _ h => (by cases h.1), ?_, ?_⟩
        (focus (first | (refine Or.inl ⟨by rfl, fun V hV => ?_⟩; ((try dsimp only at hV); go_simp; (try (with_reducible rfl)); done)) | exact Or.inr ⟨by rfl, rfl⟩))
        try simp only [Act.put, List.setIfInBounds_toArray, List.set_cons_zero, List.set_cons_succ]
        refine wpL.last (by kernel_rfl) (by kernel_rfl) rfl fun K hK => ?_
        rw [if_pos (by rfl)]
        go_simp
        refine hK.out _ _ (wpL.fin (by kernel_rfl) ?_ _)
        clear hK K
        try simp only [Act.put, List.setIfInBounds_toArray, List.set_cons_zero, List.set_cons_succ]
        refine ⟨rfl, ?_⟩
        gi_wp2_with fail
        obtain ⟨Z2, hZ2, hZ2s, hgr⟩ : ∃ Z2, Below Z.heap.size Z Z2 ∧ Z2.heap.size = Z.heap.size + 1 ∧ Z2.grownBy w1 (Value.slice sa RL.length sc).ownBlock := ⟨_, ((Below.refl _ Z).drew.alloc (by exact Nat.le_refl _) _), by simp, hgrow⟩
        have hO2 := OrdM.up hZ2 hOZ.out
        have hvx : ss'[x].val.ownBlock = (Value.slice sa RL.length sc).ownBlock := by rw [hv.out]
        have hpu := hO2.pushU hxs (x := ⟨some ⟨gg, 0, none⟩, RL.length + 1, cap1⟩) (L := RL ++ [(k : Int)]) (V' := w1) (by rw [hvx]; exact hgr) (by rw [int_snoc, List.length_append]; exact hown1) (by
          rw [hvx]
          rcases hat with h | h
          · exact .inl h.symm
          · exact .inr ⟨gg, rfl, by omega⟩) (by omega)
        rw [hset.out] at hpu
        have hYW2 := hYV.out
        have hKW : KeepN (fun j => w.heap.size ≤ j ∧ j < U.heap.size) Y.heap.size (Y.heap.size + 2) 2 W (w1.setCell ⟨bu, x, none⟩ (.slice (some ⟨gg, 0, none⟩) (RL.length + 1) cap1)) := by
          refine ((hKZ.out.trans (KeepN.of_below hZ2 (by omega) (by omega))).grown hgr (by omega) (by omega) (fun j e => ?_)).setC _ ⟨fun _ => ⟨by show w.heap.size ≤ bu; omega, by show bu < U.heap.size; omega⟩, fun h => by have h1 : Y.heap.size + 2 ≤ bu := h.1; omega⟩
          have := hgex.out j e
          exact ⟨fun h => ⟨by omega, by omega⟩, by omega⟩
        have hFW : KeepsOthers W (w1.setCell ⟨bu, x, none⟩ (.slice (some ⟨gg, 0, none⟩) (RL.length + 1) cap1)) := by
          refine ((hFZ.out.trans (KeepsOthers.of_below hZ2)).trans (KeepsOthers.of_grownBy hgr fun j o ej hj => ?_)).trans (KeepsOthers.setCell _ _ _)
          have hrw := up_of hZ2 hrow
          rcases hrw.2 with ⟨h, _⟩ | ⟨g', c', cur, h, _, hgb, _⟩
          · rw [h] at ej; simp [Value.ownBlock] at ej
          · rw [h] at ej
            obtain rfl : g' = j := by simpa [Value.ownBlock] using ej
            rw [hgb] at hj; cases hj; rfl
        refine ⟨hFW.from _, hKW, ss'.set x ⟨some ⟨gg, 0, none⟩, RL.length + 1, cap1⟩, ?_, ?_, hM'.out.others hFW, ?_⟩
        · rw [List.length_append]; exact hpu
        · refine (Below.heap_setCell _ _ _ _ (by show U.heap.size ≠ bu; omega)).trans ((hgr.block _ (by omega) (fun e => (hgne.out _ e.symm).1 rfl)).trans (Up.block hZ2 kbZ.out))
        · exact Nat.le_trans hYW hFW.size
      case done =>
        rintro D W hD ⟨ss', hO', kbW, hM', hYW⟩ hK
        rw [wtK_next, usK_next] at hO'
        have hMD := hM'.push hD (Nat.le_trans hbe.size hD) hK
        obtain ⟨wc, wf⟩ := hO'.wcell (k := k) (by rw [wtK_len]; exact hlt)
        have hwk : (wtK us N (k + 1) 0)[k]'(by rw [wtK_len]; exact hlt) = ((us k).length : Int) := by simp [wtK]
        rw [hwk] at wc
        have c43 : W.cell? ⟨bw + 1, 0, none⟩ = some (.slice (some ⟨bw, 0, none⟩) N N) := hO'.w1.cell rfl
        have c44 : W.cell? ⟨U.heap.size, 0, none⟩ = some (.int .i64 k) := kbW.cell rfl
        have hfree := free_succ us k
        have hfl := free_len us k
        have i1 : (0 : Int) ≤ (k : Int) := by omega
        have i2 : (k : Int) < (N : Int) := by omega
        have hWU : U.heap.size + 3 ≤ W.heap.size := by have := hYV.out; omega
        replace hK := Lib.hid hK; replace hO' := Lib.hid hO'; replace hMD := Lib.hid hMD; replace hfree := Lib.hid hfree
        clear hM' hwk
        obtain ⟨uk, huk⟩ : ∃ x, (us k).length = x := ⟨_, rfl⟩
        rw [huk] at wc
        by_cases h0 : uk = 0
        · subst h0
          have hfr := hfree.out
          rw [if_pos huk] at hfr
          have hot := hO'.out.ot
          rw [toI_len] at hot
          obtain ⟨i0, hi0, hz0, hz1, hz2⟩ := info_parts info_int
          replace hfr := Lib.hid hfr; replace huk := Lib.hid huk
          go_upto_region 12 with (fail)
          go_wp2_with (first | (at_builtin; refine wpList_append_lies _ rfl _ _ 53 rfl (bu + 2) 3 i0 (.int .i64 0) 1 8 Try.underlying53 hi0 hz0 hz1 hz2 rfl (by decide) _ _ _ rfl (hot.alloc _) ⟨W.heap.size, 0, none⟩ 1 1 [.int .i64 k] rfl rfl (news_new _ _ _) (by simp [Value.oneCell']) (by decide) (by unfold maxLen; omega) (by omega) (by simp; omega) (W.heap.size + 1) (by simp) ?_; intro gg cap1 w1 hown1 hgrow hat hlt2))
          obtain ⟨Z2, hZ2, hZ2s, hgr⟩ : ∃ Z2, Below W.heap.size W Z2 ∧ Z2.heap.size = W.heap.size + 1 ∧ Z2.grownBy w1 ov.ownBlock := ⟨_, ((Below.refl _ W).alloc (by exact Nat.le_refl _) _), by simp, hgrow⟩
          have hO2 := (OrdM.up hZ2 hO'.out).nextTo hgr.size
          have hpo := hO2.pushO (V' := w1) (nv := .slice (some ⟨gg, 0, none⟩) ((free us k).length + 1) cap1) (out' := toI (free us (k + 1))) hgr (by
            rw [hfr.out, toI_snoc, List.length_append, toI_len, int_snoc]; exact hown1) (by
            rcases hat with h | h
            · exact .inl h.symm
            · exact .inr ⟨gg, rfl, by omega⟩) (fun g _ h => .inl h)
          have hFW : KeepsOthers W w1 := by
            refine (KeepsOthers.of_below hZ2).trans (KeepsOthers.of_grownBy hgr fun j o ej hj => ?_)
            rcases (up_of hZ2 hot).2 with ⟨h, _⟩ | ⟨g', c', cur, h, _, hgb, _⟩
            · rw [h] at ej; simp [Value.ownBlock] at ej
            · rw [h] at ej
              obtain rfl : g' = j := by simpa [Value.ownBlock] using ej
              rw [hgb] at hj; cases hj; rfl
          refine ⟨⟨by kernel_rfl, k + 1, ss', _, by omega, rfl, rfl, hpo, hMD.out.others hFW⟩, ?_⟩
          show N - (intOf (.int .i64 ((k : Int) + 1))).toNat < _
          exact meas hlt
        · have hfr := hfree.out
          rw [if_neg (by omega)] at hfr
          have h0' : ((uk : Int) == 0) = false := by simp; omega
          replace hfr := Lib.hid hfr; replace huk := Lib.hid huk
          clear h0
          go_wp2
          refine ⟨⟨by kernel_rfl, k + 1, ss', _, by omega, rfl, rfl, by rw [hfr.out]; exact hO'.out.next, hMD.out⟩, ?_⟩
          show N - (intOf (.int .i64 ((k : Int) + 1))).toNat < _
          exact meas hlt
    · have hkN : N = k := by omega
      subst hkN
      have hKh := Khn.start (us := us) (N := N) (out := free us N) (wait := wtK us N N 0) rfl (wtK_len _ _ _ _) (fun k hk => wtK_all hk)
      obtain ⟨so, co, e, -⟩ := owns_shape hO.ot
      rw [toI_len] at e
      subst e
      obtain ⟨o0, hfo⟩ : ∃ o, free us N = o := ⟨_, rfl⟩
      obtain ⟨wt0, hwt0⟩ : ∃ o, wtK us N N 0 = o := ⟨_, rfl⟩
      rw [hfo, hwt0] at hKh hO
      rw [hfo]
      clear hfo hwt0 z20 z6 hk hlt
      replace hKh := Lib.hid hKh
      have hUs := hO.be.size
      go_wp2
      go_loopw [6, 9] (fun ov ii V => ∃ (i : Nat) (out : List Nat) (wt : List Int) (so : Option Addr) (co : Nat), ii = .int .i64 i ∧ ov = .slice so out.length co ∧ OrdM w bw bu N V.heap.size V wt ss (usK us N N []) ov (toI out) ∧ Hid (Khn us N i 0 out wt) ∧ Marks w.heap.size ds V) (fun _ ii _ => N - (intOf ii).toNat)
      case atStart => exact ⟨0, o0, wt0, so, co, rfl, rfl, hO, hKh, hM⟩
      case round =>
        clear hO hKh hM hUs
        obtain ⟨i, out, wt, so, co, rfl, rfl, hO, hKh, hM⟩ := hrel
        have hol : out.length ≤ N := nodup_len N out hKh.out.nd hKh.out.lt
        by_cases hi : i < out.length
        · have hiI : i < (toI out).length := by rw [toI_len]; exact hi
          have hot := hO.ot
          rw [toI_len] at hot
          obtain ⟨og, hso, hog1, hog2⟩ := own_ex hot (by omega)
          subst hso
          have o0 := owns_cell hot (intE_at (toI out) hiI)
          rw [toI_at hiI hi] at o0
          have hxN := hKh.out.lt _ (List.getElem_mem hi)
          have hgd : out.getD i N = out[i] := by rw [List.getD_eq_getElem?_getD, List.getElem?_eq_getElem hi]; rfl
          obtain ⟨x, hx⟩ : ∃ x, out[i] = x := ⟨_, rfl⟩
          rw [hx] at o0 hxN hgd
          have hxR : x < (usK us N N []).length := by rw [usK_len]; exact hxN
          obtain ⟨b', e', hb', f0, hxs, x0, hv⟩ := hO.tb.head hxR
          cases e'
          have hRL := usK_all (us := us) (N := N) hxN hxR
          have hRl : (usrs us N x).length ≤ 12000 := by have := usrs_len (us := us) hul.out N x; omega
          rw [hRL, toI_len] at x0 hv
          obtain ⟨sa, hsa⟩ : ∃ y, ss[x].addr = y := ⟨_, rfl⟩
          obtain ⟨sc, hsc⟩ : ∃ y, ss[x].cap = y := ⟨_, rfl⟩
          rw [hsa, hsc] at x0 hv
          have b0 : wr.cell? ⟨bu + 1, 0, none⟩ = some (.slice (some ⟨bu, 0, none⟩) N N) := hO.u1.cell rfl
          obtain ⟨UL, hUL⟩ : ∃ y, usrs us N x = y := ⟨_, rfl⟩
          rw [hUL] at x0 hv hRL hRl
          have hgd2 := hgd
          replace hgd := Lib.hid hgd; replace hx := Lib.hid hx; replace hsa := Lib.hid hsa; replace hsc := Lib.hid hsc; replace hv := Lib.hid hv; replace hRL := Lib.hid hRL; replace hUL := Lib.hid hUL; replace hO := Lib.hid hO; replace hM := Lib.hid hM; replace hot := Lib.hid hot
          clear hgd2
          have g1 : (0 : Int) ≤ (i : Int) := by omega
          have g2 : (i : Int) < (out.length : Int) := by omega
          have g3 : (0 : Int) ≤ (x : Int) := by omega
          have g4 : (x : Int) < (N : Int) := by omega
          go_upto_region 17 with (fail)
          try have ld_b0 := World.block_lt_of_cell? _ _ b0
          try have ld_o0 := World.block_lt_of_cell? _ _ o0
          try have ld_x0 := World.block_lt_of_cell? _ _ x0
          refine region_q (by kernel_rfl) (by kernel_rfl) ?_
          dsimp only [List.toList_toArray]
          repeat (first
           | go_big_quiet_skip
           | (go_big_quiet_want
              first
              | (refine qq_det ?_
                 apply Exists.intro; refine ⟨fun W' hW' => ?_, ?_⟩
                 (· have hk := cellB hW'; go_simp; try (first | rfl | rw [if_pos (by omega)]))
                 simp only [Act.put, List.setIfInBounds_toArray, List.set_cons_zero, List.set_cons_succ]; go_big_quiet_on)))
          refine wpQuiet_nil ?_
          intro W1 hb
          try replace b0 := up_of hb b0
          try replace o0 := up_of hb o0
          try replace x0 := up_of hb x0
          have hO1 := OrdM.up hb hO.out
          have hM1 := Marks.up hb hM.out
          clear b0 o0 x0 hO hM hot
          have hO2 := hO1.next
          clear hO1
          go_wp2
          go_loopw [6, 67] (fun ov tt V => ∃ (t : Nat) (out : List Nat) (wt : List Int) (so : Option Addr) (co : Nat), t ≤ UL.length ∧ tt = .int .i64 t ∧ ov = .slice so out.length co ∧ i < out.length ∧ Hid (out.getD i N = x) ∧ OrdM w bw bu N V.heap.size V wt ss (usK us N N []) ov (toI out) ∧ Hid (Khn us N i t out wt) ∧ Marks w.heap.size ds V) (fun _ tt _ => UL.length - (intOf tt).toNat)
          case atStart => exact ⟨0, out, wt, _, co, by omega, rfl, rfl, hi, hgd, hO2, hKh, hM1⟩
          case round =>
            clear hO2 hKh hM1 hgd hx hi hol hiI g1 g2
            obtain ⟨t, out, wt, so, co, ht, rfl, rfl, hi, hgd, hO, hKh, hM⟩ := hrel
            have hol : out.length ≤ N := nodup_len N out hKh.out.nd hKh.out.lt
            by_cases hlt : t < UL.length
            · have hrow := hO.tb.row x hxR hxs
              have hRL2 := hRL.out
              rw [hv.out, hRL2, toI_len] at hrow
              have htI : t < (toI UL).length := by rw [toI_len]; exact hlt
              obtain ⟨ga, hsa', hg1, hg2⟩ := own_ex hrow (by omega)
              subst hsa'
              have t0 := owns_cell hrow (intE_at (toI UL) htI)
              rw [toI_at htI hlt] at t0
              have hU2 : usrs us N (out.getD i N) = UL := by rw [hgd.out]; exact hUL.out
              have hstep := hKh.out.step hi (t := t) (by rw [hU2]; exact hlt) (k := UL[t]) (by simp only [hU2])
              obtain ⟨k, hk⟩ : ∃ y, UL[t] = y := ⟨_, rfl⟩
              rw [hk] at t0 hstep
              obtain ⟨hkN, hc1, hno, hA, hB⟩ := hstep
              have hwl := hO.wlen
              have hkw : k < wt.length := by omega
              obtain ⟨wc, wf⟩ := hO.wcell hkw
              have hcd : wt.getD k 0 = wt[k] := by rw [List.getD_eq_getElem?_getD, List.getElem?_eq_getElem hkw]; rfl
              have hc3 : wt.getD k 0 ≤ 3 := by
                have h1 := hKh.out.wt k hkN
                have h2 : lftN us (out.take i) k ≤ (us k).length := List.countP_le_length
                have h3 := hul.out k
                omega
              have hset := hO.setw k (wt.getD k 0 - 1)
              obtain ⟨c, hc⟩ : ∃ c, wt.getD k 0 = c := ⟨_, rfl⟩
              rw [hc] at hcd hc1 hA hB hc3 hset
              rw [← hcd] at wc
              have c71 : wr.cell? ⟨bw + 1, 0, none⟩ = some (.slice (some ⟨bw, 0, none⟩) N N) := hO.w1.cell rfl
              have e1 : IntKind.i64.wrap (c - 1) = c - 1 := i64_small (by omega)
              have i1 : (0 : Int) ≤ (k : Int) := by omega
              have i2 : (k : Int) < (N : Int) := by omega
              have i3 : (0 : Int) ≤ (t : Int) := by omega
              have i4 : (t : Int) < (UL.length : Int) := by omega
              have hMZ := Marks.others (KeepsOthers.setCell wr ⟨bw, k, none⟩ (.int .i64 (c - 1))) hM
              replace hA := Lib.hid hA; replace hB := Lib.hid hB; replace hset := Lib.hid hset; replace hk := Lib.hid hk; replace hc := Lib.hid hc; replace hcd := Lib.hid hcd; replace hno := Lib.hid hno; replace hwl := Lib.hid hwl; replace hU2 := Lib.hid hU2; replace hMZ := Lib.hid hMZ
              clear hO hM hrow
              go_upto_region 21 with (fail)
              refine wp_world fun Z HZ => ?_
              have hOZ : OrdM w bw bu N wr.heap.size Z (wt.set k (c - 1)) ss (usK us N N []) (.slice so out.length co) (toI out) := by rw [HZ.out]; exact hset.out
              have hMz : Marks w.heap.size ds Z := by rw [HZ.out]; exact hMZ.out
              clear HZ hset hMZ wc wf c71 t0
              have hkw2 : k < (wt.set k (c - 1)).length := by rw [List.length_set]; exact hkw
              obtain ⟨wc, -⟩ := hOZ.wcell hkw2
              rw [List.getElem_set_self] at wc
              have c71 : Z.cell? ⟨bw + 1, 0, none⟩ = some (.slice (some ⟨bw, 0, none⟩) N N) := hOZ.w1.cell rfl
              have hOZ2 := Lib.hid hOZ.next
              have hZs := hOZ.be.size
              have hot := hOZ.ot
              have hbuZ := hOZ.u1.lt
              rw [toI_len] at hot
              replace hMz := Lib.hid hMz
              clear hOZ hkw2
              by_cases hz : c - 1 = 0
              · have hK2 := hB.out hz
                have hgd' : (out ++ [k]).getD i N = x := by rw [getD_snoc_lt hi]; exact hgd.out
                have hz2 : (c - 1 == 0) = true := by rw [hz]; rfl
                obtain ⟨i0, hi0, hz0, hz1, hz2'⟩ := info_parts info_int
                replace hz := Lib.hid hz; replace hK2 := Lib.hid hK2; replace hgd' := Lib.hid hgd'
                clear hA hB
                go_upto_region 22 with (fail)
                go_wp2_with (first | (at_builtin; refine wpList_append_lies _ rfl _ _ 53 rfl (bu + 2) 3 i0 (.int .i64 0) 1 8 Try.underlying53 hi0 hz0 hz1 hz2' rfl (by decide) _ _ _ rfl (hot.alloc _) ⟨Z.heap.size, 0, none⟩ 1 1 [.int .i64 k] rfl rfl (news_new _ _ _) (by simp [Value.oneCell']) (by decide) (by unfold maxLen; omega) (by omega) (by simp; omega) (Z.heap.size + 1) (by simp) ?_; intro gg cap1 w1 hown1 hgrow hat hlt2))
                obtain ⟨Z2, hZ2, hZ2s, hgr⟩ : ∃ Z2, Below Z.heap.size Z Z2 ∧ Z2.heap.size = Z.heap.size + 1 ∧ Z2.grownBy w1 (Value.slice so out.length co).ownBlock := ⟨_, ((Below.refl _ Z).alloc (by exact Nat.le_refl _) _), by simp, hgrow⟩
                have hO2 := (OrdM.up hZ2 hOZ2.out).nextTo hgr.size
                have hpo := hO2.pushO (V' := w1) (nv := .slice (some ⟨gg, 0, none⟩) (out.length + 1) cap1) (out' := toI (out ++ [k])) hgr (by
                  rw [toI_snoc, List.length_append, toI_len, int_snoc]; exact hown1) (by
                  rcases hat with h | h
                  · exact .inl h.symm
                  · exact .inr ⟨gg, rfl, by omega⟩) (fun g _ h => .inl h)
                have hFW : KeepsOthers Z w1 := by
                  refine (KeepsOthers.of_below hZ2).trans (KeepsOthers.of_grownBy hgr fun j o ej hj => ?_)
                  rcases (up_of hZ2 hot).2 with ⟨h, _⟩ | ⟨g', c', cur, h, _, hgb, _⟩
                  · rw [h] at ej; simp [Value.ownBlock] at ej
                  · rw [h] at ej
                    obtain rfl : g' = j := by simpa [Value.ownBlock] using ej
                    rw [hgb] at hj; cases hj; rfl
                have hll : out.length + 1 = (out ++ [k]).length := by simp
                go_roundw
                case rel => exact ⟨t + 1, out ++ [k], wt.set k (c - 1), some ⟨gg, 0, none⟩, cap1, by omega, rfl, by rw [← hll], by rw [← hll]; omega, hgd', hpo, hK2, hMz.out.others hFW⟩
                case measure => exact meas hlt
              · have hK2 := hA.out hz
                have hz2 : (c - 1 == 0) = false := by simpa using hz
                replace hz := Lib.hid hz; replace hK2 := Lib.hid hK2
                clear hA hB
                go_wp2
                go_roundw
                case rel => exact ⟨t + 1, out, wt.set k (c - 1), so, co, by omega, rfl, rfl, hi, hgd, hOZ2.out, hK2, hMz.out⟩
                case measure => exact meas hlt
            · have hte : t = UL.length := by omega
              have hU2 : usrs us N (out.getD i N) = UL := by rw [hgd.out]; exact hUL.out
              have hnx := hKh.out.next hi (by rw [hU2]; exact hte)
              replace hnx := Lib.hid hnx; replace hU2 := Lib.hid hU2
              have hiN : i < N := by omega
              go_wp2
              go_roundw
              case rel => exact ⟨i + 1, out, wt, so, co, rfl, rfl, hO, hnx, hM⟩
              case measure => exact meas hiN
        · have hie : i = out.length := by have := hKh.out.ile; omega
          subst hie
          have hdn := hKh.out.done
          have b0 : wr.cell? ⟨bw + 1, 0, none⟩ = some (.slice (some ⟨bw, 0, none⟩) N N) := hO.w1.cell rfl
          replace hdn := Lib.hid hdn; replace hO := Lib.hid hO; replace hM := Lib.hid hM
          go_upto_region 24 with (fail)
          try have ld_b0 := World.block_lt_of_cell? _ _ b0
          refine region_q (by kernel_rfl) (by kernel_rfl) ?_
          dsimp only [List.toList_toArray]
          repeat (first
           | go_big_quiet_skip
           | (go_big_quiet_want
              first
              | (refine qq_det ?_
                 apply Exists.intro; refine ⟨fun W' hW' => ?_, ?_⟩
                 (· have hk := cellB hW'; go_simp; try (first | rfl | rw [if_pos (by omega)]))
                 simp only [Act.put, List.setIfInBounds_toArray, List.set_cons_zero, List.set_cons_succ]; go_big_quiet_on)))
          refine wpQuiet_nil ?_
          intro W1 hb
          try replace b0 := up_of hb b0
          have hO1 := OrdM.up hb hO.out
          have hM1 := Marks.up hb hM.out
          clear b0 hO hM
          replace hO1 := Lib.hid hO1; replace hM1 := Lib.hid hM1
          go_wp2
          refine marks_retN hM1.out hO1.out.be.size fun W' hu => ?_
          have hO2 := hO1.out.cellsUp (Nat.le_refl _) hu
          have h1 := hO2.ot
          have h2 := hO2.w0
          have h3 := hO2.wlen
          rw [← h3] at h2
          refine ⟨_, results_tmp2 rfl _ _ _, out, wt, so, co, some ⟨bw, 0, none⟩, N, rfl, ?_, ?_, hdn.out, hO2.be⟩
          · refine SlS.of_own (E := intE) (base := bu + 2) (e := 3) (cap := co) ?_
            rw [toI_len] at h1 ⊢
            exact h1
          · exact SlS.of_own (E := intE) (base := bw) (e := 3) (cap := wt.length) h2
end
end Go.Proofs.Ytadmnlkgefbhcaa
