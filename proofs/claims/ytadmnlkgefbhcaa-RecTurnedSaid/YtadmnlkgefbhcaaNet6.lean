/- The levels of the elements: the program. -/
import Derived.Test.YtadmnlkgefbhcaaNet5
namespace Go.Proofs.Ytadmnlkgefbhcaa
open Go.RowKit Go.Maps

attribute [local go_sem] Oper.semAt_some

/-- A list of numbers of one's own, in a box. -/
structure LstM (w : World) (bl N : Nat) (V : World) (L : List Int) : Prop where
  be : Below w.heap.size w V
  wb : w.heap.size ≤ bl
  l0 : V.ownsRow bl 3 1 (.slice (some ⟨bl, 0, none⟩) N N) N (intE.all L)
  l1 : Row V (bl + 1) 53 #[.slice (some ⟨bl, 0, none⟩) N N]
section
variable {w : World} {bl N : Nat} {V V' : World} {L : List Int}
theorem LstM.cellsUp (h : LstM w bl N V L) {n : Nat} (hn : w.heap.size ≤ n) (hu : CellsUp n V V') : LstM w bl N V' L := ⟨h.be.trans (hu.below.mono hn), h.wb, hu.owns h.l0, hu.cells _ _ _ _ h.l1⟩
theorem LstM.up (hb : Below V.heap.size V V') (h : LstM w bl N V L) : LstM w bl N V' L := ⟨h.be.trans (hb.mono h.be.size), h.wb, up_of hb h.l0, up_of hb h.l1⟩
instance : UpF V V' (LstM w bl N V L) (LstM w bl N V' L) := ⟨fun h c => LstM.up h c⟩
theorem LstM.len (h : LstM w bl N V L) : L.length = N := by
  have h1 := h.l0.1
  rw [Elt.all_len] at h1
  simpa [intE] using h1
theorem LstM.cell (h : LstM w bl N V L) {k : Nat} (hk : k < L.length) : V.cell? ⟨bl, k, none⟩ = some (.int .i64 L[k]) ∧ V.frozen? ⟨bl, k, none⟩ = false :=
  ⟨owns_cell h.l0 (intE_at L hk), World.ownsRow.frozenAt h.l0 k⟩
theorem LstM.set (h : LstM w bl N V L) (k : Nat) (x : Int) : LstM w bl N (V.setCell ⟨bl, k, none⟩ (.int .i64 x)) (L.set k x) := by
  have hst := h.l0.stored k (.int .i64 x)
  rw [intE_set] at hst
  exact ⟨h.be.setCell (by exact h.wb) _, h.wb, hst.1, (Below.heap_setCell _ _ _ _ (by show bl + 1 ≠ bl; omega)).trans h.l1⟩
end
section
variable {g : Nat} {n : Int} {s : Option Addr} {cap : Nat} {l : List Iq} {s2 : Option Addr} {cq : Nat} {K : List Vv} {sp : Option Addr} {cp mb : Nat} {P : List Pt}
set_option maxRecDepth 100000 in
set_option maxHeartbeats 1000000 in
theorem nlevels_c (so : Option Addr) (co : Nat) (out : List Nat) (wait : List Int) (w : World) (h : Net 106 w g n s cap l s2 cq K sp cp mb P) (ok : NetOk n K P) (ho : SlS intE w so (toI out)) (hd : Ordd (useN K P) (K.length * P.length) out wait) (hfull : out.length = K.length * P.length) :
    Calls Try.prog 77 #[.pointer (some ⟨g, 0, none⟩), .slice so out.length co] w fun e w' => (∃ b, e = .returned (.slice (some ⟨b, 0, none⟩) (K.length * P.length) (K.length * P.length)) ∧ SlS intE w' (some ⟨b, 0, none⟩) (lvsL K P)) ∧ Below w.heap.size w w' := by
  have hsz := fun V (h : Net 106 V g n s cap l s2 cq K sp cp mb P) => size_c V h ok
  have hNs := ok.size
  have hul := ok.use_len
  have hult := ok.use_lt
  have hused := fun (k : Nat) (hk : k < K.length * P.length) (V : World) (hV : Below w.heap.size w V) (Tw : Nat → Prop) hT => used_c k w V h ok hV hk Tw hT
  have hend := fun (L : List Int) => lvsL_of (K := K) (P := P) (L := L)
  unfold lvN at hend
  obtain ⟨LL, hLL⟩ : ∃ x, lvsL K P = x := ⟨_, rfl⟩
  simp only [hLL] at hend ⊢
  obtain ⟨N, hN⟩ : ∃ N, K.length * P.length = N := ⟨_, rfl⟩
  simp only [hN] at hsz hNs hult hused hend hd hfull ⊢
  obtain ⟨us, hus⟩ : ∃ f, useN K P = f := ⟨_, rfl⟩
  simp only [hus] at hul hult hused hend hd ⊢
  clear hN hus ok hLL
  have hlv : ∀ j ∈ out, lvl us j ≤ N := fun j hj => by
    obtain ⟨i, hi, rfl⟩ := List.getElem_of_mem hj
    have := hd.lvl_le i hi
    omega
  have hol : out.length ≤ 4000 := by omega
  have hmk := run_make_ints N (by omega)
  replace hsz := Lib.hid hsz; replace hul := Lib.hid hul; replace hult := Lib.hid hult; replace hused := Lib.hid hused; replace hend := Lib.hid hend; replace hd := Lib.hid hd; replace hfull := Lib.hid hfull; replace hlv := Lib.hid hlv
  refine calls_of_wp_marks Try.func77 rfl ?_
  simp only [Try.ntmps77, List.size_toArray, List.length_cons, List.length_nil, Nat.reduceAdd, Nat.reduceSub, Array.replicate_succ, Array.replicate_zero, List.push_toArray, List.append_toArray, List.nil_append, List.cons_append]
  go_upto_region 2 with (first | (go_at_call 58; refine (hsz.out _ h).mono ?_; rintro e W1 ⟨rfl, hb1⟩; have h1 := Net.up hb1 h))
  refine wp_world fun A1 HA => ?_
  have hA : Below W1.heap.size W1 A1 := by
    rw [HA.out]
    repeat (first | (with_reducible exact Below.refl _ _) | (with_reducible refine Below.drew ?_) | ((with_reducible refine Below.setC ?_ ?_); (focus (first | omega | (simp; done) | (simp; omega)))) | ((with_reducible refine Below.allo ?_ ?_); (focus (first | omega | (simp; done) | (simp; omega)))))
  have hL0 : LstM w W1.heap.size N A1 (List.replicate N 0) := by
    refine ⟨hb1.trans (hA.mono hb1.size), hb1.size, ?_, ?_⟩
    · rw [HA.out]; exact (own_zeros W1 N (by omega)).alloc _
    · rw [HA.out]
      refine Row.of ?_
      repeat (first | (with_reducible refine RowG.new ?_) | (with_reducible refine RowG.drew ?_) | (with_reducible refine RowG.set ?_) | ((with_reducible refine RowG.other ?_ ?_); (focus (first | omega | (simp; done) | (simp; omega)))) | ((with_reducible refine RowG.new' ?_ ?_); (focus (first | omega | (simp; done) | (simp; omega)))) | (with_reducible refine RowG.alloc ?_))
      rfl
  clear HA hA
  obtain ⟨bl, hbl⟩ : ∃ b, W1.heap.size = b := ⟨_, rfl⟩
  simp only [hbl] at hL0 ⊢
  clear hmk hbl h1 hb1
  replace ho := Lib.hid ho
  go_wp2
  refine wp_loop_marks [7, 14, 15, 16, 17, 18, 19, 20, 21, 22, 23, 38] (fun z ds V => ∃ (i : Nat) (L : List Int), i ≤ out.length ∧ z 14 = .int .i64 i ∧ LstM w bl N V L ∧ Hid (∀ j ∈ out.take i, L.getD j 0 = ((lvl us j : Nat) : Int)) ∧ Marks w.heap.size ds V) (fun z => out.length - (intOf (z 14)).toNat) ?_ ?_
  · exact ⟨0, _, by omega, rfl, hL0, Lib.hid (by simp), Marks.nil _ _⟩
  · clear hL0
    rintro z ds U ⟨i, L, hi, z14, hL, hin, hM⟩
    simp only [setMany, List.setIfInBounds_toArray, List.set_cons_zero, List.set_cons_succ]
    simp only [z14]
    by_cases hlt : i < out.length
    · have hiI : i < (toI out).length := by rw [toI_len]; exact hlt
      obtain ⟨ob, oo, eo, hob, o0⟩ := (ho.out.up hL.be).int_at hiI
      subst eo
      rw [toI_at hiI hlt] at o0
      have hkN := hd.out.lt _ (List.getElem_mem hlt)
      have hno : out[i] ∉ out.take i := by
        intro hm
        obtain ⟨j, hj, e⟩ := List.getElem_of_mem hm
        rw [List.getElem_take] at e
        rw [List.length_take] at hj
        exact (List.pairwise_iff_getElem.1 (List.nodup_iff_pairwise_ne.1 hd.out.nd) j i (by omega) hlt (by omega)) e
      have hord := hd.out.ord i hlt
      have hgd := hd.out.gd _ (List.getElem_mem hlt)
      have htk : out.take (i + 1) = out.take i ++ [out[i]] := List.take_succ_eq_append_getElem hlt
      obtain ⟨k, hk⟩ : ∃ k, out[i] = k := ⟨_, rfl⟩
      rw [hk] at o0 hkN hno hord hgd htk
      have hblU := hL.l1.lt
      have hwb := hL.wb
      have hLlen := hL.len
      have i1 : (0 : Int) ≤ (i : Int) := by omega
      have i2 : (i : Int) < (out.length : Int) := by omega
      have i3 : (0 : Int) ≤ (k : Int) := by omega
      have i4 : (k : Int) < (N : Int) := by omega
      replace hLlen := Lib.hid hLlen; replace hord := Lib.hid hord; replace hgd := Lib.hid hgd; replace htk := Lib.hid htk; replace hno := Lib.hid hno; replace hk := Lib.hid hk
      go_upto_region 5 with (fail)
      refine wp_world fun X HX => ?_
      have hX : Below U.heap.size U X := by rw [HX.out]; (repeat (first | exact Below.refl _ _ | refine Below.alloc ?_ (by simp; try omega) _ | refine Below.setCell ?_ (by simp) _ | refine Below.drew ?_))
      have kbB : Row X (U.heap.size) 3 #[.int .i64 k] := (by rw [HX.out]; (repeat (first | (refine blk_new ?_; simp; done) | refine blk_old ?_ _)) : X.heap[U.heap.size]? = some (.cells #[.int .i64 k] 3 (0, 0)))
      have kb0 : X.cell? ⟨U.heap.size, 0, none⟩ = some (.int .i64 k) := by rw [HX.out]; simp [go_sem]
      have kbl : U.heap.size < X.heap.size := World.block_lt_of_cell? X _ kb0
      try replace hL := up_of hX hL
      try replace hM := up_of hX hM
      have hXs : X.heap.size = U.heap.size + 1 := by rw [HX.out]; simp
      replace hXs := Lib.hid hXs
      clear HX
      have c18 : X.cell? ⟨bl + 1, 0, none⟩ = some (.slice (some ⟨bl, 0, none⟩) N N) := hL.l1.cell rfl
      obtain ⟨wc, wf⟩ := hL.cell (k := k) (by rw [hLlen.out]; exact hkN)
      have hset := hL.set k 1
      have hMs := Marks.others (KeepsOthers.setCell X ⟨bl, k, none⟩ (.int .i64 1)) hM
      replace hset := Lib.hid hset; replace hMs := Lib.hid hMs
      go_upto_region 6 with (fail)
      refine wp_world fun Z HZ => ?_
      have hLZ : LstM w bl N Z (L.set k 1) := by rw [HZ.out]; exact hset.out
      have hMZ : Marks w.heap.size ds Z := by rw [HZ.out]; exact hMs.out
      have kbZ : Row Z U.heap.size 3 #[.int .i64 k] := by rw [HZ.out]; exact (Below.heap_setCell _ _ _ _ (by show U.heap.size ≠ bl; omega)).trans kbB
      have hZs : Z.heap.size = U.heap.size + 1 := by rw [HZ.out]; have := hXs.out; simpa [World.setCell] using this
      have hin2 : ∀ j ∈ out.take i, (L.set k 1).getD j 0 = ((lvl us j : Nat) : Int) := fun j hj => by
        rw [getD_set (by rw [hLlen.out]; exact hkN), if_neg (fun e => hno.out (by rw [e]; exact hj))]
        exact hin.out j hj
      have hcur : (L.set k 1).getD k 0 = (((([] : List Nat).foldl (fun a u => max a (lvl us u + 1)) 1 : Nat)) : Int) := by
        rw [getD_set (by rw [hLlen.out]; exact hkN), if_pos rfl]; rfl
      have c22 : Z.cell? ⟨U.heap.size, 0, none⟩ = some (.int .i64 k) := kbZ.cell rfl
      replace hZs := Lib.hid hZs; replace hin2 := Lib.hid hin2; replace hcur := Lib.hid hcur
      have hwX := hLZ.be
      clear HZ hset hMs c18 wc wf hL hM kbB kb0 hin
      go_wp2_with (first | (go_at_call 85; refine (hused.out k hkN Z hwX (fun j => w.heap.size ≤ j ∧ j < U.heap.size) (fun j hj => ⟨hj.1, by have := hZs.out; omega⟩)).mono ?_; rintro e Y ⟨rfl, hit, hb, hYs⟩; replace hYs := Lib.hid hYs; replace hLZ := LstM.up hb hLZ; replace hMZ := Marks.up hb hMZ; replace kbZ := up_of hb kbZ))
      have hYV : Y.heap.size = U.heap.size + 3 := by have := hZs.out; have := hYs.out; omega
      replace hYV := Lib.hid hYV
      have hbe := hLZ.be
      refine' wp_rangeT rfl (fun _ _ => by simp [go_sem]) hit (fun pre W => ∃ L', LstM w bl N W L' ∧ Row W U.heap.size 3 #[.int .i64 k] ∧ MarksIn w.heap.size Y.heap.size ds W ∧ Y.heap.size ≤ W.heap.size ∧ (∀ j ∈ out.take i, L'.getD j 0 = ((lvl us j : Nat) : Int)) ∧ L'.getD k 0 = ((pre.foldl (fun a u => max a (lvl us u + 1)) 1 : Nat) : Int)) (fun _ _ _ => False) ?hI (fun _ _ _ _ h _ => h) (fun s W h => h.choose_spec.2.2.2.1) (fun _ _ _ h => h.elim) ⟨_, hLZ, kbZ, hMZ.lt, Nat.le_refl _, hin2.out, hcur.out⟩ _ ?assign ?body ?done (fun _ _ _ _ _ _ h _ => h.elim)
      case hI =>
        rintro pre A B ⟨L', h1, h2, h3, h4, h5⟩ hu
        exact ⟨L', h1.cellsUp hbe.size hu, hu.cells _ _ _ _ h2, h3.below hu.below, Nat.le_trans h4 hu.below.size, h5⟩
      case assign =>
        intro l x W K hK
        simp only [List.setIfInBounds_toArray, List.set_cons_zero, List.set_cons_succ]
        gi_wp2
        exact hK
      case body =>
        rintro l pre x W ⟨L', hL', kbW, hM', hYW, hin', hcur'⟩ hpre hW2
        have hxm : x ∈ us k := hpre.subset (by simp)
        have hxo := hord.out x hxm
        have hxN := hult.out k x hxm
        have hxk : k ≠ x := fun e => hno.out (by rw [e]; exact hxo)
        have hxl := hin' x hxo
        have hxb := hlv.out x (List.mem_of_mem_take hxo)
        have hll := hL'.len
        have hkL : k < L'.length := by omega
        have hxL : x < L'.length := by omega
        obtain ⟨wck, wfk⟩ := hL'.cell hkL
        obtain ⟨wcx, -⟩ := hL'.cell hxL
        have c25 : W.cell? ⟨bl + 1, 0, none⟩ = some (.slice (some ⟨bl, 0, none⟩) N N) := hL'.l1.cell rfl
        have c26 : W.cell? ⟨U.heap.size, 0, none⟩ = some (.int .i64 k) := kbW.cell rfl
        have ek : L'[k] = ((pre.foldl (fun a u => max a (lvl us u + 1)) 1 : Nat) : Int) := by rw [← hcur', List.getD_eq_getElem?_getD, List.getElem?_eq_getElem hkL]; rfl
        have ex : L'[x] = ((lvl us x : Nat) : Int) := by rw [← hxl, List.getD_eq_getElem?_getD, List.getElem?_eq_getElem hxL]; rfl
        rw [ek] at wck
        rw [ex] at wcx
        have hfs : (pre ++ [x]).foldl (fun a u => max a (lvl us u + 1)) 1 = max (pre.foldl (fun a u => max a (lvl us u + 1)) 1) (lvl us x + 1) := by rw [List.foldl_append]; rfl
        obtain ⟨F, hF⟩ : ∃ F, pre.foldl (fun a u => max a (lvl us u + 1)) 1 = F := ⟨_, rfl⟩
        rw [hF] at wck hfs
        obtain ⟨lx, hlx⟩ : ∃ y, lvl us x = y := ⟨_, rfl⟩
        rw [hlx] at wcx hfs hxb
        have hall : ∀ v : Int, v = ((max F (lx + 1) : Nat) : Int) → LstM w bl N (W.setCell ⟨bl, k, none⟩ (.int .i64 v)) (L'.set k v) ∧ (∀ j ∈ out.take i, (L'.set k v).getD j 0 = ((lvl us j : Nat) : Int)) ∧ (L'.set k v).getD k 0 = (((pre ++ [x]).foldl (fun a u => max a (lvl us u + 1)) 1 : Nat) : Int) ∧
            KeepN (fun j => w.heap.size ≤ j ∧ j < U.heap.size) Y.heap.size (Y.heap.size + 2) 2 W (W.setCell ⟨bl, k, none⟩ (.int .i64 v)) ∧ KeepsOthers W (W.setCell ⟨bl, k, none⟩ (.int .i64 v)) ∧ Row (W.setCell ⟨bl, k, none⟩ (.int .i64 v)) U.heap.size 3 #[.int .i64 k] := fun v hv =>
          ⟨hL'.set k v, fun j hj => by
              rw [getD_set hkL, if_neg (fun e => hno.out (by rw [e]; exact hj))]
              exact hin' j hj, by rw [getD_set hkL, if_pos rfl, hfs]; exact hv,
            (KeepN.refl W).setC _ ⟨fun _ => ⟨hwb, by show bl < U.heap.size; omega⟩, fun h => by have := hYV.out; have h1 : Y.heap.size + 2 ≤ bl := h.1; omega⟩, KeepsOthers.setCell _ _ _,
            (Below.heap_setCell _ _ _ _ (by show U.heap.size ≠ bl; omega)).trans kbW⟩
        have e1 : IntKind.i64.wrap ((lx : Int) + 1) = (lx : Int) + 1 := i64_small (by omega)
        have i5 : (0 : Int) ≤ (x : Int) := by omega
        have i6 : (x : Int) < (N : Int) := by omega
        have b0 := c25
        have k0 := c26
        have x0 := wcx
        have y0 := wck
        replace hall := Lib.hid hall; replace hM' := Lib.hid hM'; replace hF := Lib.hid hF
        clear hin' hcur' hpre hxm hxo hxl ek ex hfs hlx hll c25 c26 wcx wck hL' kbW
        gi_upto_region 8 with (fail)
        by_cases hFl : F < lx + 1
        · have hv := Lib.hid (hall.out ((lx : Int) + 1) (by omega))
          have hFl2 : (F : Int) < (lx : Int) + 1 := by omega
          clear hFl hall
          refine wpL.regionIn (m := 13) (S := fun V => V.cell? ⟨bl + 1, 0, none⟩ = some (.slice (some ⟨bl, 0, none⟩) N N) ∧ V.cell? ⟨U.heap.size, 0, none⟩ = some (.int .i64 k) ∧ V.cell? ⟨bl, k, none⟩ = some (.int .i64 F) ∧ V.cell? ⟨bl, x, none⟩ = some (.int .i64 lx)) (by kernel_rfl) (by kernel_rfl) ?_ (fun hHeld => ?_)
          (focus ((first | exact ⟨b0, k0, y0, x0⟩ | ((first | (with_reducible exact ⟨b0, k0, y0, x0⟩) | ((try dsimp only); (repeat' apply And.intro) <;> (repeat (first | (with_reducible assumption) | (with_reducible refine cell_set (by simp; try omega) ?_) | (with_reducible refine cell_drew ?_) | (with_reducible refine cell_alloc ?_ _))))))); done))
          refine wpL.take' (i := 0) rfl (by kernel_rfl) (by kernel_rfl) (by kernel_rfl) (by kernel_rfl) (by decide) (by kernel_rfl) (by assumption) ?_
          apply Exists.intro; refine ⟨fun _ _ _ h => (by cases h.1), ?_, ?_⟩
          (focus (first | (refine Or.inl ⟨by rfl, fun V hV => ?_⟩; ((try dsimp only at hV); go_simp; (try (with_reducible rfl)); done)) | exact Or.inr ⟨by rfl, rfl⟩))
          try simp only [Act.put, List.setIfInBounds_toArray, List.set_cons_zero, List.set_cons_succ]
          refine wpL.take' (i := 1) rfl (by kernel_rfl) (by kernel_rfl) (by kernel_rfl) (by kernel_rfl) (by decide) (by kernel_rfl) (by assumption) ?_
          apply Exists.intro; refine ⟨fun _ _ _ h => (by cases h.1), ?_, ?_⟩
          (focus (first | (refine Or.inl ⟨by rfl, fun V hV => ?_⟩; ((try dsimp only at hV); go_simp; (try (with_reducible rfl)); done)) | exact Or.inr ⟨by rfl, rfl⟩))
          try simp only [Act.put, List.setIfInBounds_toArray, List.set_cons_zero, List.set_cons_succ]
          refine wpL.take' (i := 2) rfl (by kernel_rfl) (by kernel_rfl) (by kernel_rfl) (by kernel_rfl) (by decide) (by kernel_rfl) (by assumption) ?_
          apply Exists.intro; refine ⟨fun _ _ _ h => (by cases h.1), ?_, ?_⟩
          (focus (first | (refine Or.inl ⟨by rfl, fun V hV => ?_⟩; ((try dsimp only at hV); go_simp; (try (with_reducible rfl)); done)) | exact Or.inr ⟨by rfl, rfl⟩))
          try simp only [Act.put, List.setIfInBounds_toArray, List.set_cons_zero, List.set_cons_succ]
          refine wpL.take' (i := 3) rfl (by kernel_rfl) (by kernel_rfl) (by kernel_rfl) (by kernel_rfl) (by decide) (by kernel_rfl) (by assumption) ?_
          apply Exists.intro; refine ⟨fun _ _ _ h => (by cases h.1), ?_, ?_⟩
          (focus (first | (refine Or.inl ⟨by rfl, fun V hV => ?_⟩; ((try dsimp only at hV); go_simp; (try (with_reducible rfl)); done)) | exact Or.inr ⟨by rfl, rfl⟩))
          try simp only [Act.put, List.setIfInBounds_toArray, List.set_cons_zero, List.set_cons_succ]
          refine wpL.take' (i := 4) rfl (by kernel_rfl) (by kernel_rfl) (by kernel_rfl) (by kernel_rfl) (by decide) (by kernel_rfl) (by assumption) ?_
          apply Exists.intro; refine ⟨fun _ _ _ h => (by cases h.1), ?_, ?_⟩
          (focus (first | (refine Or.inl ⟨by rfl, fun V hV => ?_⟩; ((try dsimp only at hV); go_simp; (try (with_reducible rfl)); done)) | exact Or.inr ⟨by rfl, rfl⟩))
          try simp only [Act.put, List.setIfInBounds_toArray, List.set_cons_zero, List.set_cons_succ]
          refine wpL.take' (i := 5) rfl (by kernel_rfl) (by kernel_rfl) (by kernel_rfl) (by kernel_rfl) (by decide) (by kernel_rfl) (by assumption) ?_
          apply Exists.intro; refine ⟨fun _ _ _ h => (by cases h.1), ?_, ?_⟩
          (focus (first | (refine Or.inl ⟨by rfl, fun V hV => ?_⟩; ((try dsimp only at hV); go_simp; (try (with_reducible rfl)); done)) | exact Or.inr ⟨by rfl, rfl⟩))
          try simp only [Act.put, List.setIfInBounds_toArray, List.set_cons_zero, List.set_cons_succ]
          refine wpL.take' (i := 6) rfl (by kernel_rfl) (by kernel_rfl) (by kernel_rfl) (by kernel_rfl) (by decide) (by kernel_rfl) (by assumption) ?_
          apply Exists.intro; refine ⟨fun _ _ _ h => (by cases h.1), ?_, ?_⟩
          (focus (first | (refine Or.inl ⟨by rfl, fun V hV => ?_⟩; ((try dsimp only at hV); go_simp; (try (with_reducible rfl)); done)) | exact Or.inr ⟨by rfl, rfl⟩))
          try simp only [Act.put, List.setIfInBounds_toArray, List.set_cons_zero, List.set_cons_succ]
          refine wpL.take' (i := 7) rfl (by kernel_rfl) (by kernel_rfl) (by kernel_rfl) (by kernel_rfl) (by decide) (by kernel_rfl) (by assumption) ?_
          apply Exists.intro; refine ⟨fun _ _ _ h => (by cases h.1), ?_, ?_⟩
          (focus (first | (refine Or.inl ⟨by rfl, fun V hV => ?_⟩; ((try dsimp only at hV); go_simp; (try (with_reducible rfl)); done)) | exact Or.inr ⟨by rfl, rfl⟩))
          try simp only [Act.put, List.setIfInBounds_toArray, List.set_cons_zero, List.set_cons_succ]
          refine wpL.take' (i := 8) rfl (by kernel_rfl) (by kernel_rfl) (by kernel_rfl) (by kernel_rfl) (by decide) (by kernel_rfl) (by assumption) ?_
          apply Exists.intro; refine ⟨fun _ _ _ h => (by cases h.1), ?_, ?_⟩
          (focus (first | (refine Or.inl ⟨by rfl, fun V hV => ?_⟩; ((try dsimp only at hV); go_simp; (try (with_reducible rfl)); done)) | exact Or.inr ⟨by rfl, rfl⟩))
          try simp only [Act.put, List.setIfInBounds_toArray, List.set_cons_zero, List.set_cons_succ]
          refine wpL.take' (i := 9) rfl (by kernel_rfl) (by kernel_rfl) (by kernel_rfl) (by kernel_rfl) (by decide) (by kernel_rfl) (by assumption) ?_
          apply Exists.intro; refine ⟨fun _ _ _ h => (by cases h.1), ?_, ?_⟩
          (focus (first | (refine Or.inl ⟨by rfl, fun V hV => ?_⟩; ((try dsimp only at hV); go_simp; (try (with_reducible rfl)); done)) | exact Or.inr ⟨by rfl, rfl⟩))
          try simp only [Act.put, List.setIfInBounds_toArray, List.set_cons_zero, List.set_cons_succ]
          refine wpL.take' (i := 10) rfl (by kernel_rfl) (by kernel_rfl) (by kernel_rfl) (by kernel_rfl) (by decide) (by kernel_rfl) (by assumption) ?_
          apply Exists.intro; refine ⟨fun _ _ _ h => (by cases h.1), ?_, ?_⟩
          (focus (first | (refine Or.inl ⟨by rfl, fun V hV => ?_⟩; ((try dsimp only at hV); go_simp; (try (with_reducible rfl)); done)) | exact Or.inr ⟨by rfl, rfl⟩))
          try simp only [Act.put, List.setIfInBounds_toArray, List.set_cons_zero, List.set_cons_succ]
          refine wpL.one (i := 11) (by kernel_rfl) rfl fun K hK => ?_
          ((first | (rw [if_pos (by rfl)]; go_simp)))
          try clear hHeld
          refine hK.out _ _ ?_ (fun hHeld => ?_)
          (focus ((first | exact ⟨b0, k0, y0, x0⟩ | ((first | (with_reducible exact ⟨b0, k0, y0, x0⟩) | ((try dsimp only); (repeat' apply And.intro) <;> (repeat (first | (with_reducible assumption) | (with_reducible refine cell_set (by simp; try omega) ?_) | (with_reducible refine cell_drew ?_) | (with_reducible refine cell_alloc ?_ _))))))); done))
          clear hK K
          try simp only [Act.put, List.setIfInBounds_toArray, List.set_cons_zero, List.set_cons_succ]
          refine wpL.take' (i := 12) rfl (by kernel_rfl) (by kernel_rfl) (by kernel_rfl) (by kernel_rfl) (by decide) (by kernel_rfl) (by assumption) ?_
          apply Exists.intro; refine ⟨fun _ _ _ h => (by cases h.1), ?_, ?_⟩
          (focus (first | (refine Or.inl ⟨by rfl, fun V hV => ?_⟩; ((try dsimp only at hV); go_simp; (try (with_reducible rfl)); done)) | exact Or.inr ⟨by rfl, rfl⟩))
          try simp only [Act.put, List.setIfInBounds_toArray, List.set_cons_zero, List.set_cons_succ]
          refine wpL.last (by kernel_rfl) (by kernel_rfl) rfl fun K hK => ?_
          rw [if_pos (by rfl)]
          go_simp
          refine hK.out _ _ (wpL.fin (by kernel_rfl) ?_ _)
          clear hK K
          try simp only [Act.put, List.setIfInBounds_toArray, List.set_cons_zero, List.set_cons_succ]
          obtain ⟨h1, h2, h3, h4, h5, h6⟩ := hv.out
          have hdr : ∀ X : World, Below X.heap.size X X.drew := fun X => (Below.refl _ X).drew
          refine ⟨rfl, ?_⟩
          gi_wp2_with fail
          exact ⟨(h5.trans (KeepsOthers.of_below (hdr _))).from _, h4.drew, _, LstM.up (hdr _) h1, Up.block (hdr _) h6, hM'.out.others (h5.trans (KeepsOthers.of_below (hdr _))), Nat.le_trans hYW (h5.trans (KeepsOthers.of_below (hdr _))).size, h2, h3⟩
        · have hv := Lib.hid (hall.out (F : Int) (by omega))
          have hFl2 : ¬ (F : Int) < (lx : Int) + 1 := by omega
          clear hFl hall
          refine wpL.regionIn (m := 13) (S := fun V => V.cell? ⟨bl + 1, 0, none⟩ = some (.slice (some ⟨bl, 0, none⟩) N N) ∧ V.cell? ⟨U.heap.size, 0, none⟩ = some (.int .i64 k) ∧ V.cell? ⟨bl, k, none⟩ = some (.int .i64 F) ∧ V.cell? ⟨bl, x, none⟩ = some (.int .i64 lx)) (by kernel_rfl) (by kernel_rfl) ?_ (fun hHeld => ?_)
          (focus ((first | exact ⟨b0, k0, y0, x0⟩ | ((first | (with_reducible exact ⟨b0, k0, y0, x0⟩) | ((try dsimp only); (repeat' apply And.intro) <;> (repeat (first | (with_reducible assumption) | (with_reducible refine cell_set (by simp; try omega) ?_) | (with_reducible refine cell_drew ?_) | (with_reducible refine cell_alloc ?_ _))))))); done))
          refine wpL.take' (i := 0) rfl (by kernel_rfl) (by kernel_rfl) (by kernel_rfl) (by kernel_rfl) (by decide) (by kernel_rfl) (by assumption) ?_
          apply Exists.intro; refine ⟨fun _ _ _ h => (by cases h.1), ?_, ?_⟩
          (focus (first | (refine Or.inl ⟨by rfl, fun V hV => ?_⟩; ((try dsimp only at hV); go_simp; (try (with_reducible rfl)); done)) | exact Or.inr ⟨by rfl, rfl⟩))
          try simp only [Act.put, List.setIfInBounds_toArray, List.set_cons_zero, List.set_cons_succ]
          refine wpL.take' (i := 1) rfl (by kernel_rfl) (by kernel_rfl) (by kernel_rfl) (by kernel_rfl) (by decide) (by kernel_rfl) (by assumption) ?_
          apply Exists.intro; refine ⟨fun _ _ _ h => (by cases h.1), ?_, ?_⟩
          (focus (first | (refine Or.inl ⟨by rfl, fun V hV => ?_⟩; ((try dsimp only at hV); go_simp; (try (with_reducible rfl)); done)) | exact Or.inr ⟨by rfl, rfl⟩))
          try simp only [Act.put, List.setIfInBounds_toArray, List.set_cons_zero, List.set_cons_succ]
          refine wpL.take' (i := 2) rfl (by kernel_rfl) (by kernel_rfl) (by kernel_rfl) (by kernel_rfl) (by decide) (by kernel_rfl) (by assumption) ?_
          apply Exists.intro; refine ⟨fun _ _ _ h => (by cases h.1), ?_, ?_⟩
          (focus (first | (refine Or.inl ⟨by rfl, fun V hV => ?_⟩; ((try dsimp only at hV); go_simp; (try (with_reducible rfl)); done)) | exact Or.inr ⟨by rfl, rfl⟩))
          try simp only [Act.put, List.setIfInBounds_toArray, List.set_cons_zero, List.set_cons_succ]
          refine wpL.take' (i := 3) rfl (by kernel_rfl) (by kernel_rfl) (by kernel_rfl) (by kernel_rfl) (by decide) (by kernel_rfl) (by assumption) ?_
          apply Exists.intro; refine ⟨fun _ _ _ h => (by cases h.1), ?_, ?_⟩
          (focus (first | (refine Or.inl ⟨by rfl, fun V hV => ?_⟩; ((try dsimp only at hV); go_simp; (try (with_reducible rfl)); done)) | exact Or.inr ⟨by rfl, rfl⟩))
          try simp only [Act.put, List.setIfInBounds_toArray, List.set_cons_zero, List.set_cons_succ]
          refine wpL.take' (i := 4) rfl (by kernel_rfl) (by kernel_rfl) (by kernel_rfl) (by kernel_rfl) (by decide) (by kernel_rfl) (by assumption) ?_
          apply Exists.intro; refine ⟨fun _ _ _ h => (by cases h.1), ?_, ?_⟩
          (focus (first | (refine Or.inl ⟨by rfl, fun V hV => ?_⟩; ((try dsimp only at hV); go_simp; (try (with_reducible rfl)); done)) | exact Or.inr ⟨by rfl, rfl⟩))
          try simp only [Act.put, List.setIfInBounds_toArray, List.set_cons_zero, List.set_cons_succ]
          refine wpL.take' (i := 5) rfl (by kernel_rfl) (by kernel_rfl) (by kernel_rfl) (by kernel_rfl) (by decide) (by kernel_rfl) (by assumption) ?_
          apply Exists.intro; refine ⟨fun _ _ _ h => (by cases h.1), ?_, ?_⟩
          (focus (first | (refine Or.inl ⟨by rfl, fun V hV => ?_⟩; ((try dsimp only at hV); go_simp; (try (with_reducible rfl)); done)) | exact Or.inr ⟨by rfl, rfl⟩))
          try simp only [Act.put, List.setIfInBounds_toArray, List.set_cons_zero, List.set_cons_succ]
          refine wpL.take' (i := 6) rfl (by kernel_rfl) (by kernel_rfl) (by kernel_rfl) (by kernel_rfl) (by decide) (by kernel_rfl) (by assumption) ?_
          apply Exists.intro; refine ⟨fun _ _ _ h => (by cases h.1), ?_, ?_⟩
          (focus (first | (refine Or.inl ⟨by rfl, fun V hV => ?_⟩; ((try dsimp only at hV); go_simp; (try (with_reducible rfl)); done)) | exact Or.inr ⟨by rfl, rfl⟩))
          try simp only [Act.put, List.setIfInBounds_toArray, List.set_cons_zero, List.set_cons_succ]
          refine wpL.take' (i := 7) rfl (by kernel_rfl) (by kernel_rfl) (by kernel_rfl) (by kernel_rfl) (by decide) (by kernel_rfl) (by assumption) ?_
          apply Exists.intro; refine ⟨fun _ _ _ h => (by cases h.1), ?_, ?_⟩
          (focus (first | (refine Or.inl ⟨by rfl, fun V hV => ?_⟩; ((try dsimp only at hV); go_simp; (try (with_reducible rfl)); done)) | exact Or.inr ⟨by rfl, rfl⟩))
          try simp only [Act.put, List.setIfInBounds_toArray, List.set_cons_zero, List.set_cons_succ]
          refine wpL.take' (i := 8) rfl (by kernel_rfl) (by kernel_rfl) (by kernel_rfl) (by kernel_rfl) (by decide) (by kernel_rfl) (by assumption) ?_
          apply Exists.intro; refine ⟨fun _ _ _ h => (by cases h.1), ?_, ?_⟩
          (focus (first | (refine Or.inl ⟨by rfl, fun V hV => ?_⟩; ((try dsimp only at hV); go_simp; (try (with_reducible rfl)); done)) | exact Or.inr ⟨by rfl, rfl⟩))
          try simp only [Act.put, List.setIfInBounds_toArray, List.set_cons_zero, List.set_cons_succ]
          refine wpL.take' (i := 9) rfl (by kernel_rfl) (by kernel_rfl) (by kernel_rfl) (by kernel_rfl) (by decide) (by kernel_rfl) (by assumption) ?_
          apply Exists.intro; refine ⟨fun _ _ _ h => (by cases h.1), ?_, ?_⟩
          (focus (first | (refine Or.inl ⟨by rfl, fun V hV => ?_⟩; ((try dsimp only at hV); go_simp; (try (with_reducible rfl)); done)) | exact Or.inr ⟨by rfl, rfl⟩))
          try simp only [Act.put, List.setIfInBounds_toArray, List.set_cons_zero, List.set_cons_succ]
          refine wpL.take' (i := 10) rfl (by kernel_rfl) (by kernel_rfl) (by kernel_rfl) (by kernel_rfl) (by decide) (by kernel_rfl) (by assumption) ?_
          apply Exists.intro; refine ⟨fun _ _ _ h => (by cases h.1), ?_, ?_⟩
          (focus (first | (refine Or.inl ⟨by rfl, fun V hV => ?_⟩; ((try dsimp only at hV); go_simp; (try (with_reducible rfl)); done)) | exact Or.inr ⟨by rfl, rfl⟩))
          try simp only [Act.put, List.setIfInBounds_toArray, List.set_cons_zero, List.set_cons_succ]
          refine wpL.one (i := 11) (by kernel_rfl) rfl fun K hK => ?_
          ((first | (rw [if_pos (by rfl)]; go_simp)))
          try clear hHeld
          refine hK.out _ _ ?_ (fun hHeld => ?_)
          (focus ((first | exact ⟨b0, k0, y0, x0⟩ | ((first | (with_reducible exact ⟨b0, k0, y0, x0⟩) | ((try dsimp only); (repeat' apply And.intro) <;> (repeat (first | (with_reducible assumption) | (with_reducible refine cell_set (by simp; try omega) ?_) | (with_reducible refine cell_drew ?_) | (with_reducible refine cell_alloc ?_ _))))))); done))
          clear hK K
          try simp only [Act.put, List.setIfInBounds_toArray, List.set_cons_zero, List.set_cons_succ]
          refine wpL.take' (i := 12) rfl (by kernel_rfl) (by kernel_rfl) (by kernel_rfl) (by kernel_rfl) (by decide) (by kernel_rfl) (by assumption) ?_
          apply Exists.intro; refine ⟨fun _ _ _ h => (by cases h.1), ?_, ?_⟩
          (focus (first | (refine Or.inl ⟨by rfl, fun V hV => ?_⟩; ((try dsimp only at hV); go_simp; (try (with_reducible rfl)); done)) | exact Or.inr ⟨by rfl, rfl⟩))
          try simp only [Act.put, List.setIfInBounds_toArray, List.set_cons_zero, List.set_cons_succ]
          refine wpL.last (by kernel_rfl) (by kernel_rfl) rfl fun K hK => ?_
          rw [if_pos (by rfl)]
          go_simp
          refine hK.out _ _ (wpL.fin (by kernel_rfl) ?_ _)
          clear hK K
          try simp only [Act.put, List.setIfInBounds_toArray, List.set_cons_zero, List.set_cons_succ]
          obtain ⟨h1, h2, h3, h4, h5, h6⟩ := hv.out
          have hdr : ∀ X : World, Below X.heap.size X X.drew := fun X => (Below.refl _ X).drew
          refine ⟨rfl, ?_⟩
          gi_wp2_with fail
          exact ⟨(h5.trans (KeepsOthers.of_below (hdr _))).from _, h4.drew, _, LstM.up (hdr _) h1, Up.block (hdr _) h6, hM'.out.others (h5.trans (KeepsOthers.of_below (hdr _))), Nat.le_trans hYW (h5.trans (KeepsOthers.of_below (hdr _))).size, h2, h3⟩
      case done =>
        rintro D W hD ⟨L', hL', kbW, hM', hYW, hin', hcur'⟩ hK
        have hMD := hM'.push hD (Nat.le_trans hbe.size hD) hK
        have hin3 : ∀ j ∈ out.take (i + 1), L'.getD j 0 = ((lvl us j : Nat) : Int) := fun j hj => by
          rw [htk.out] at hj
          rcases List.mem_append.1 hj with hj | hj
          · exact hin' j hj
          · simp at hj; subst hj
            rw [hcur', lvl_eq hgd.out]; rfl
        replace hin3 := Lib.hid hin3; replace hL' := Lib.hid hL'; replace hMD := Lib.hid hMD
        clear hin' hcur' hM'
        dsimp only
        go_wp2
        refine ⟨⟨by kernel_rfl, i + 1, L', by omega, rfl, hL'.out, hin3, hMD.out⟩, ?_⟩
        show out.length - (intOf (.int .i64 ((i : Int) + 1))).toNat < _
        exact meas hlt
    · have hie : i = out.length := by omega
      subst hie
      have hlen := hL.len
      have hLL : L = LL := hend.out L hlen fun k hk => hin.out k (by rw [List.take_length]; exact hd.out.full hfull.out k hk)
      subst hLL
      have c39 : U.cell? ⟨bl + 1, 0, none⟩ = some (.slice (some ⟨bl, 0, none⟩) N N) := hL.l1.cell rfl
      replace hL := Lib.hid hL; replace hM := Lib.hid hM; replace hlen := Lib.hid hlen
      clear hin hend
      go_wp2
      refine marks_retN hM.out hL.out.be.size fun W' hu => ?_
      have hL2 := hL.out.cellsUp (Nat.le_refl _) hu
      have h2 := hL2.l0
      have h3 := hL2.len
      refine ⟨_, results_tmp rfl _ _ _, ⟨bl, rfl, ?_⟩, hL2.be⟩
      rw [← h3] at h2
      exact SlS.of_own (E := intE) (base := bl) (e := 3) (cap := L.length) h2
end
end Go.Proofs.Ytadmnlkgefbhcaa
