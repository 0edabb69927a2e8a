/- The values of the elements: the reference. -/
import Derived.Test.YtadmnlkgefbhcaaVal2
import Derived.Test.YtadmnlkgefbhcaaVal3
import Derived.Test.YtadmnlkgefbhcaaRLev
namespace Go.Proofs.Ytadmnlkgefbhcaa
open Go.RowKit Go.Maps

attribute [local go_sem] Oper.semAt_some

/-- The first i elements, by their levels. -/
def lvT (f : Nat → Nat) (i M : Nat) : List (List Int) := (List.range M).map fun q => toI ((List.range i).filter fun k => decide (f k = q))
theorem lvT_len (f : Nat → Nat) (i M : Nat) : (lvT f i M).length = M := by simp [lvT]
theorem lvT_at {f : Nat → Nat} {i M q : Nat} (h : q < (lvT f i M).length) : (lvT f i M)[q] = toI ((List.range i).filter fun k => decide (f k = q)) := by simp [lvT]
theorem lvT_zero (f : Nat → Nat) (M : Nat) : lvT f 0 M = List.replicate M [] := by
  refine List.ext_getElem (by simp [lvT]) fun q h1 h2 => ?_
  simp [lvT, toI]
theorem lvT_set {f : Nat → Nat} {i M : Nat} (h : f i < (lvT f i M).length) : (lvT f i M).set (f i) ((lvT f i M)[f i] ++ [(i : Int)]) = lvT f (i + 1) M := by
  refine List.ext_getElem (by simp [lvT]) fun q h1 h2 => ?_
  rw [List.getElem_set]
  by_cases e : f i = q
  · subst e
    rw [if_pos rfl, lvT_at, lvT_at, List.range_succ, List.filter_append]
    simp [toI]
  · rw [if_neg e, lvT_at, lvT_at, List.range_succ, List.filter_append]
    simp [e, toI]
theorem lvT_row {f : Nat → Nat} {i M q : Nat} (h : q < (lvT f i M).length) : (lvT f i M)[q].length ≤ i := by
  rw [lvT_at, toI_len]
  have := List.length_filter_le (fun k => decide (f k = q)) (List.range i)
  simpa using this
section
variable {w : World} {bl N : Nat} {V V' : World} {L : List Int}
theorem LsV.grown (h : LsV w bl N V L) {o : Option Nat} (hg : V.grownBy V' o) (ho : ∀ g, o = some g → g ≠ bl ∧ w.heap.size ≤ g) : LsV w bl N V' L :=
  ⟨h.be.grown hg h.be.size (fun j e => (ho j e).2), h.wb, own_upto h.l0 fun b e => hg.block b (h.l0.lt b e).2 fun e2 => by
    have h3 := (ho b e2.symm).1
    simp only [Value.ownBlock, Option.some.injEq] at e
    exact h3 e.symm⟩
theorem LsV.other (h : LsV w bl N V L) {b : Nat} (hb : b ≠ bl) (hw : w.heap.size ≤ b) (o : Nat) (x : Value) : LsV w bl N (V.setCell ⟨b, o, none⟩ x) L :=
  ⟨h.be.setCell (by exact hw) _, h.wb, own_set (m := 0) h.l0 (by intro e; simp only [Value.ownBlock, Option.some.injEq] at e; exact hb e.symm) _ _⟩
end
/-- The values and the table of the reference, side by side. -/
structure RvM (w : World) (bt N M : Nat) (ss : List Sv) (T : List (List Int)) (V : World) (L : List Int) : Prop where
  ls : LsV w w.heap.size N V L
  tb : Tbl intE 53 3 V bt (.slice (some ⟨bt, 0, none⟩) M M) ss T
  lt : w.heap.size < bt
section
variable {w : World} {bt N M : Nat} {ss : List Sv} {T : List (List Int)} {V V' : World} {L : List Int}
theorem RvM.up (hb : Below V.heap.size V V') (h : RvM w bt N M ss T V L) : RvM w bt N M ss T V' L := ⟨LsV.up hb h.ls, Tbl.up hb h.tb, h.lt⟩
instance : UpF V V' (RvM w bt N M ss T V L) (RvM w bt N M ss T V' L) := ⟨fun h c => RvM.up h c⟩
theorem RvM.set (h : RvM w bt N M ss T V L) (k : Nat) (x : Int) : RvM w bt N M ss T (V.setCell ⟨w.heap.size, k, none⟩ (.int .i64 x)) (L.set k x) :=
  ⟨h.ls.set k x, h.tb.upto fun b h1 _ => Below.heap_setCell _ _ _ _ (by have := h.lt; show b ≠ w.heap.size; omega), h.lt⟩
/-- A number in a row of the table. -/
theorem RvM.at (h : RvM w bt N M ss T V L) {q : Nat} (hq : q < T.length) : ∃ sa ca, V.cell? ⟨bt, q, none⟩ = some (.slice sa T[q].length ca) ∧ SlS intE V sa T[q] := by
  obtain ⟨b', e', hb', f0, hxs, x0, hv⟩ := h.tb.head hq
  cases e'
  have hrow := h.tb.row _ hq hxs
  rw [hv] at hrow
  exact ⟨_, _, x0, SlS.of_own (E := intE) hrow⟩
end
section
variable {g : Nat} {n : Int} {s : Option Addr} {cap : Nat} {l : List Iq} {s2 : Option Addr} {cq : Nat} {K : List Vv} {sp : Option Addr} {cp mb : Nat} {P : List Pt}
set_option maxRecDepth 100000 in
set_option maxHeartbeats 4000000 in
theorem rvalues_c (b0 : Nat) (w : World) (h : Net 64 w g n s cap l s2 cq K sp cp mb P) (ok : NetOk n K P) (hyes : okN2 K P) (hs : SlS intE w (some ⟨b0, 0, none⟩) (lvsL K P)) :
    Calls Try.prog 61 #[.pointer (some ⟨g, 0, none⟩), .slice (some ⟨b0, 0, none⟩) (K.length * P.length) (K.length * P.length)] w fun e w' => (∃ b, e = .returned (.slice (some ⟨b, 0, none⟩) (K.length * P.length) (K.length * P.length)) ∧ SlS intE w' (some ⟨b, 0, none⟩) (vlsL K P)) ∧ Below w.heap.size w w' := by
  have hNs := ok.size
  have hend := fun (L : List Int) => vlsL_of (K := K) (P := P) (L := L)
  have hlv : ∀ k, k < K.length * P.length → lvl (useN K P) k ≤ K.length * P.length := fun k hk => lvl_bd (fun k _ => ok.use_lt k) hk (hyes k hk)
  obtain ⟨LV, hs, hLVl, hLVa⟩ : ∃ LV : List Int, SlS intE w (some ⟨b0, 0, none⟩) LV ∧ LV.length = K.length * P.length ∧ ∀ i (hi : i < LV.length), LV[i] = ((lvl (useN K P) i : Nat) : Int) := ⟨_, hs, lvsL_len K P, fun i hi => by simp [lvsL, lvN]⟩
  obtain ⟨LL, hLL⟩ : ∃ x, vlsL K P = x := ⟨_, rfl⟩
  simp only [hLL] at hend ⊢
  have helm := fun (k : Nat) (hk : k < K.length * P.length) V (h : Net 64 V g n s cap l s2 cq K sp cp mb P) => (rElement_cs k V h ok hk).mono (R' := fun e w' => e = .returned (.agg #[.int .i64 ((k / P.length : Nat) : Int), .int .i64 (pOf P k).x, .int .i64 (pOf P k).y, .int .i64 (pOf P k).z]) ∧ Below V.heap.size V w') (fun e w' ⟨h1, h2, _⟩ => ⟨h1, h2⟩)
  have hnum := fun (k : Nat) (hk : k < K.length * P.length) V (h : Net 64 V g n s cap l s2 cq K sp cp mb P) => rnum_c k V h ok hk
  have hnd := fun k (hk : k < K.length * P.length) => num_div (K := K.length) (P := P.length) hk
  have hult := ok.use_lt
  have helo := fun (y : Ar) hv hi => elOf_num (y := y) ok hv hi
  have hyes2 : ∀ k, k < K.length * P.length → Gd (useN K P) k := hyes
  obtain ⟨N, hN⟩ : ∃ N, K.length * P.length = N := ⟨_, rfl⟩
  simp only [hN] at hNs hend hlv hLVl helm hnum hnd hult helo hyes2 ⊢
  have hpos : ∀ k, k < N → 1 ≤ lvl (useN K P) k := fun k hk => lvl_pos (hyes2 k hk)
  have huse : ∀ k, k < N → ∀ u ∈ useN K P k, lvl (useN K P) u < lvl (useN K P) k := fun k hk u hu => lvl_use (hyes2 k hk) hu
  obtain ⟨f, hf⟩ : ∃ f, lvl (useN K P) = f := ⟨_, rfl⟩
  simp only [hf] at hlv hLVa hpos huse
  have hmk := run_make_ints N (by omega)
  have hmt := fun (m : Nat) (hm : m ≤ N + 1) => run_make_tab m (by omega)
  replace hend := Lib.hid hend; replace hlv := Lib.hid hlv; replace hLVl := Lib.hid hLVl; replace hLVa := Lib.hid hLVa; replace hf := Lib.hid hf; replace hN := Lib.hid hN; replace ok := Lib.hid ok; replace hmt := Lib.hid hmt; replace helm := Lib.hid helm; replace hnum := Lib.hid hnum; replace hnd := Lib.hid hnd; replace hult := Lib.hid hult; replace helo := Lib.hid helo; replace hyes2 := Lib.hid hyes2; replace hpos := Lib.hid hpos; replace huse := Lib.hid huse
  clear hLL hyes
  go_enter Try.func61, Try.ntmps61
  go_upto_region 2 with (fail)
  refine wp_world fun A1 HA => ?_
  have hL0 : LsV w w.heap.size N A1 (List.replicate N 0) := by
    refine ⟨?_, Nat.le_refl _, ?_⟩
    · rw [HA.out]
      repeat (first | (with_reducible exact Below.refl _ _) | (with_reducible refine Below.drew ?_) | ((with_reducible refine Below.setC ?_ ?_); (focus (first | omega | (simp; done) | (simp; omega)))) | ((with_reducible refine Below.allo ?_ ?_); (focus (first | omega | (simp; done) | (simp; omega)))))
    · rw [HA.out]; exact own_zeros w N (by omega)
  clear HA hmk
  replace hs := Lib.hid hs
  go_wp2
  go_loopw [6, 7] (fun mv ii V => ∃ i m : Nat, i ≤ N ∧ m ≤ N ∧ ii = .int .i64 i ∧ mv = .int .i64 m ∧ LsV w w.heap.size N V (List.replicate N 0) ∧ Hid (∀ j, j < i → f j ≤ m)) (fun _ ii _ => N - (intOf ii).toNat)
  case atStart => exact ⟨0, 0, by omega, by omega, rfl, rfl, hL0, Lib.hid (fun j hj => absurd hj (by omega))⟩
  case round =>
    clear hL0
    obtain ⟨i, m, hi, hm, rfl, rfl, hL, htop⟩ := hrel
    by_cases hlt : i < N
    · obtain ⟨ob, oo, eo, hob, o0⟩ := (hs.out.up hL.be).int_at (i := i) (by rw [hLVl.out]; exact hlt)
      cases eo
      rw [hLVa.out, Nat.zero_add] at o0
      have hfi := hlv.out i hlt
      have i1 : (0 : Int) ≤ (i : Int) := by omega
      have i2 : (i : Int) < (N : Int) := by omega
      obtain ⟨fi, hfi0⟩ : ∃ x, f i = x := ⟨_, rfl⟩
      rw [hfi0] at o0 hfi
      by_cases hml : m < fi
      · have hml2 : (m : Int) < (fi : Int) := by omega
        have htop2 : ∀ j, j < i + 1 → f j ≤ fi := fun j hj => by
          by_cases e : j < i
          · have := htop.out j e; omega
          · obtain rfl : j = i := by omega
            omega
        replace htop2 := Lib.hid htop2; replace hfi0 := Lib.hid hfi0
        go_wp2
        go_roundw
        case rel => exact ⟨i + 1, fi, by omega, by omega, rfl, rfl, hL, htop2⟩
        case measure => exact meas hlt
      · have hml2 : ¬ (m : Int) < (fi : Int) := by omega
        have htop2 : ∀ j, j < i + 1 → f j ≤ m := fun j hj => by
          by_cases e : j < i
          · exact htop.out j e
          · obtain rfl : j = i := by omega
            omega
        replace htop2 := Lib.hid htop2; replace hfi0 := Lib.hid hfi0
        go_wp2
        go_roundw
        case rel => exact ⟨i + 1, m, by omega, by omega, rfl, rfl, hL, htop2⟩
        case measure => exact meas hlt
    · obtain rfl : N = i := by omega
      obtain ⟨M, hM⟩ : ∃ M, m + 1 = M := ⟨_, rfl⟩
      have hmt2 := hmt.out M (by omega)
      have em : IntKind.i64.wrap ((m : Int) + 1) = (M : Int) := by rw [i64_small (by omega)]; omega
      replace hM := Lib.hid hM
      have hLw := hL.l0.lt w.heap.size rfl
      go_upto_region 8 with (fail)
      refine wp_world fun B1 HB => ?_
      have hB : Below wr.heap.size wr B1 := by
        rw [HB.out]
        repeat (first | (with_reducible exact Below.refl _ _) | (with_reducible refine Below.drew ?_) | ((with_reducible refine Below.setC ?_ ?_); (focus (first | omega | (simp; done) | (simp; omega)))) | ((with_reducible refine Below.allo ?_ ?_); (focus (first | omega | (simp; done) | (simp; omega)))))
      have tb : Tbl intE 53 3 B1 wr.heap.size (.slice (some ⟨wr.heap.size, 0, none⟩) M M) (List.replicate M ⟨none, 0, 0⟩) (List.replicate M []) := by
        refine Tbl.made ?_ (Nat.le_refl _) (by have := hM.out; omega)
        rw [HB.out]
        exact heap_alloc_new wr _
      have hLB := LsV.up hB hL
      clear HB hmt2 hL
      obtain ⟨bt, hbt⟩ : ∃ b, wr.heap.size = b := ⟨_, rfl⟩
      simp only [hbt] at tb hLw ⊢
      rw [← lvT_zero f M] at tb
      have htM : ∀ j, j < N → f j < M := fun j hj => by have := htop.out j hj; have := hM.out; omega
      replace htM := Lib.hid htM
      clear hB htop hbt
      go_wp2
      go_loopw [9] (fun ii V => ∃ (i : Nat) (ss : List Sv), i ≤ N ∧ ii = .int .i64 i ∧ LsV w w.heap.size N V (List.replicate N 0) ∧ Tbl intE 53 3 V bt (.slice (some ⟨bt, 0, none⟩) M M) ss (lvT f i M)) (fun ii _ => N - (intOf ii).toNat)
      case atStart => exact ⟨0, _, by omega, rfl, hLB, tb⟩
      case round =>
        clear hLB tb
        obtain ⟨i, ss, hi, rfl, hL, hT⟩ := hrel
        by_cases hlt : i < N
        · obtain ⟨ob, oo, eo, hob, o0⟩ := (hs.out.up hL.be).int_at (i := i) (by rw [hLVl.out]; exact hlt)
          cases eo
          rw [hLVa.out, Nat.zero_add] at o0
          have hfM := htM.out i hlt
          have hxR : f i < (lvT f i M).length := by rw [lvT_len]; exact hfM
          obtain ⟨b', e', hb', f0, hxs, x0, hv⟩ := hT.head hxR
          cases e'
          have hrow := hT.row _ hxR hxs
          rw [hv] at hrow
          have hset := lvT_set hxR
          have hRl := lvT_row hxR
          have hbw : b0 < w.heap.size := by
            rcases hs.out with hs | ⟨b, o, e, hb, -⟩
            · have := hLVl.out; rw [hs] at this; simp at this; omega
            · cases e; exact hb
          obtain ⟨RL, hRL⟩ : ∃ y, (lvT f i M)[f i] = y := ⟨_, rfl⟩
          rw [hRL] at x0 hv hrow hset hRl
          obtain ⟨fi, hfi0⟩ : ∃ x, f i = x := ⟨_, rfl⟩
          simp only [hfi0] at o0 hfM hxs x0 hv hrow hset f0
          have hge : ∀ g, (Value.slice ss[fi].addr RL.length ss[fi].cap).ownBlock = some g → bt ≤ g ∧ g ≠ bt := fun g e => by
            refine ⟨(hrow.lt g e).1, fun e2 => hT.off fi hxs g (by rw [hv]; exact e) (by rw [e2]; rfl)⟩
          obtain ⟨sa, hsa⟩ : ∃ y, ss[fi].addr = y := ⟨_, rfl⟩
          obtain ⟨sc, hsc⟩ : ∃ y, ss[fi].cap = y := ⟨_, rfl⟩
          simp only [hsa, hsc] at x0 hv hrow hge
          obtain ⟨i0, hi0, hz0, hz1, hz2⟩ := info_parts info_int
          have i1 : (0 : Int) ≤ (i : Int) := by omega
          have i2 : (i : Int) < (N : Int) := by omega
          have i3 : (0 : Int) ≤ (fi : Int) := by omega
          have i4 : (fi : Int) < (M : Int) := by omega
          have hRl2 : RL.length ≤ 4000 := by omega
          have hbtw := hb'.2
          replace hset := Lib.hid hset; replace hRL := Lib.hid hRL; replace hfi0 := Lib.hid hfi0; replace hge := Lib.hid hge; replace hsa := Lib.hid hsa; replace hsc := Lib.hid hsc; replace hv := Lib.hid hv; replace hT := Lib.hid hT; replace hL := Lib.hid hL
          clear hRl
          go_upto_region 11 with (fail)
          refine wpL.region (m := 16) (S := fun V => V.cell? ⟨b0, i, none⟩ = some (.int .i64 fi) ∧ V.cell? ⟨bt, fi, none⟩ = some (.slice sa RL.length sc)) (by kernel_rfl) ?_ (fun hHeld => ?_)
          (focus ((first | exact ⟨o0, x0⟩ | ((first | (with_reducible exact ⟨o0, x0⟩) | ((try dsimp only); (repeat' apply And.intro) <;> (repeat (first | (with_reducible assumption) | (with_reducible refine cell_set (by simp; try omega) ?_) | (with_reducible refine cell_drew ?_) | (with_reducible refine cell_alloc ?_ _))))))); done))
          refine wpL.take' (i := 0) rfl (by kernel_rfl) (by kernel_rfl) (by kernel_rfl) (by kernel_rfl) (by decide) (by kernel_rfl) (by assumption) ?_
          apply Exists.intro; refine ⟨fun _ _ _ h => h, Or.inl ⟨by rfl, fun V hV => ?_⟩, ?_⟩
          (focus ((try dsimp only at hV); go_simp; (try (with_reducible rfl)); done))
          try simp only [Act.put, List.setIfInBounds_toArray, List.set_cons_zero, List.set_cons_succ]
          refine wpL.take' (i := 1) rfl (by kernel_rfl) (by kernel_rfl) (by kernel_rfl) (by kernel_rfl) (by decide) (by kernel_rfl) (by assumption) ?_
          apply Exists.intro; refine ⟨fun _ _ _ h => h, Or.inl ⟨by rfl, fun V hV => ?_⟩, ?_⟩
          (focus ((try dsimp only at hV); go_simp; (try (with_reducible rfl)); done))
          try simp only [Act.put, List.setIfInBounds_toArray, List.set_cons_zero, List.set_cons_succ]
          refine wpL.take' (i := 2) rfl (by kernel_rfl) (by kernel_rfl) (by kernel_rfl) (by kernel_rfl) (by decide) (by kernel_rfl) (by assumption) ?_
          apply Exists.intro; refine ⟨fun _ _ _ h => h, Or.inl ⟨by rfl, fun V hV => ?_⟩, ?_⟩
          (focus ((try dsimp only at hV); go_simp; (try (with_reducible rfl)); done))
          try simp only [Act.put, List.setIfInBounds_toArray, List.set_cons_zero, List.set_cons_succ]
          refine wpL.take' (i := 3) rfl (by kernel_rfl) (by kernel_rfl) (by kernel_rfl) (by kernel_rfl) (by decide) (by kernel_rfl) (by assumption) ?_
          apply Exists.intro; refine ⟨fun _ _ _ h => h, Or.inl ⟨by rfl, fun V hV => ?_⟩, ?_⟩
          (focus ((try dsimp only at hV); go_simp; (try (with_reducible rfl)); done))
          try simp only [Act.put, List.setIfInBounds_toArray, List.set_cons_zero, List.set_cons_succ]
          refine wpL.take' (i := 4) rfl (by kernel_rfl) (by kernel_rfl) (by kernel_rfl) (by kernel_rfl) (by decide) (by kernel_rfl) (by assumption) ?_
          apply Exists.intro; refine ⟨fun _ _ _ h => h, Or.inl ⟨by rfl, fun V hV => ?_⟩, ?_⟩
          (focus ((try dsimp only at hV); go_simp; (try (with_reducible rfl)); done))
          try simp only [Act.put, List.setIfInBounds_toArray, List.set_cons_zero, List.set_cons_succ]
          refine wpL.take' (i := 5) rfl (by kernel_rfl) (by kernel_rfl) (by kernel_rfl) (by kernel_rfl) (by decide) (by kernel_rfl) (by assumption) ?_
          apply Exists.intro; refine ⟨fun _ _ _ h => h, Or.inl ⟨by rfl, fun V hV => ?_⟩, ?_⟩
          (focus ((try dsimp only at hV); go_simp; (try (with_reducible rfl)); done))
          try simp only [Act.put, List.setIfInBounds_toArray, List.set_cons_zero, List.set_cons_succ]
          refine wpL.take' (i := 6) rfl (by kernel_rfl) (by kernel_rfl) (by kernel_rfl) (by kernel_rfl) (by decide) (by kernel_rfl) (by assumption) ?_
          apply Exists.intro; refine ⟨fun _ _ _ h => h, Or.inl ⟨by rfl, fun V hV => ?_⟩, ?_⟩
          (focus ((try dsimp only at hV); go_simp; (try (with_reducible rfl)); done))
          try simp only [Act.put, List.setIfInBounds_toArray, List.set_cons_zero, List.set_cons_succ]
          refine wpL.take' (i := 7) rfl (by kernel_rfl) (by kernel_rfl) (by kernel_rfl) (by kernel_rfl) (by decide) (by kernel_rfl) (by assumption) ?_
          apply Exists.intro; refine ⟨fun _ _ _ h => h, Or.inl ⟨by rfl, fun V hV => ?_⟩, ?_⟩
          (focus ((try dsimp only at hV); go_simp; (try (with_reducible rfl)); done))
          try simp only [Act.put, List.setIfInBounds_toArray, List.set_cons_zero, List.set_cons_succ]
          refine wpL.take' (i := 8) rfl (by kernel_rfl) (by kernel_rfl) (by kernel_rfl) (by kernel_rfl) (by decide) (by kernel_rfl) (by assumption) ?_
          apply Exists.intro; refine ⟨fun _ _ _ h => h, Or.inl ⟨by rfl, fun V hV => ?_⟩, ?_⟩
          (focus ((try dsimp only at hV); go_simp; (try (with_reducible rfl)); done))
          try simp only [Act.put, List.setIfInBounds_toArray, List.set_cons_zero, List.set_cons_succ]
          refine wpL.take' (i := 9) rfl (by kernel_rfl) (by kernel_rfl) (by kernel_rfl) (by kernel_rfl) (by decide) (by kernel_rfl) (by assumption) ?_
          apply Exists.intro; refine ⟨fun _ _ _ h => h, Or.inl ⟨by rfl, fun V hV => ?_⟩, ?_⟩
          (focus ((try dsimp only at hV); go_simp; (try (with_reducible rfl)); done))
          try simp only [Act.put, List.setIfInBounds_toArray, List.set_cons_zero, List.set_cons_succ]
          refine wpL.take' (i := 10) rfl (by kernel_rfl) (by kernel_rfl) (by kernel_rfl) (by kernel_rfl) (by decide) (by kernel_rfl) (by assumption) ?_
          apply Exists.intro; refine ⟨fun _ _ _ h => h, Or.inl ⟨by rfl, fun V hV => ?_⟩, ?_⟩
          (focus ((try dsimp only at hV); go_simp; (try (with_reducible rfl)); done))
          try simp only [Act.put, List.setIfInBounds_toArray, List.set_cons_zero, List.set_cons_succ]
          refine wpL.take' (i := 11) rfl (by kernel_rfl) (by kernel_rfl) (by kernel_rfl) (by kernel_rfl) (by decide) (by kernel_rfl) (by assumption) ?_
          apply Exists.intro; refine ⟨fun _ _ _ h => h, Or.inl ⟨by rfl, fun V hV => ?_⟩, ?_⟩
          (focus ((try dsimp only at hV); go_simp; (try (with_reducible rfl)); done))
          try simp only [Act.put, List.setIfInBounds_toArray, List.set_cons_zero, List.set_cons_succ]
          refine wpL.take' (i := 12) rfl (by kernel_rfl) (by kernel_rfl) (by kernel_rfl) (by kernel_rfl) (by decide) (by kernel_rfl) (by assumption) ?_
          apply Exists.intro; refine ⟨fun _ _ _ h => h, Or.inl ⟨by rfl, fun V hV => ?_⟩, ?_⟩
          (focus ((try dsimp only at hV); go_simp; (try (with_reducible rfl)); done))
          try simp only [Act.put, List.setIfInBounds_toArray, List.set_cons_zero, List.set_cons_succ]
          refine wpL.one (i := 13) (by kernel_rfl) rfl fun K hK => ?_
          rw [if_pos (by rfl)]
          go_simp
          try clear hHeld
          refine hK.out _ _ ?_ (fun hHeld => ?_)
          (focus ((first | exact ⟨o0, x0⟩ | ((first | (with_reducible exact ⟨o0, x0⟩) | ((try dsimp only); (repeat' apply And.intro) <;> (repeat (first | (with_reducible assumption) | (with_reducible refine cell_set (by simp; try omega) ?_) | (with_reducible refine cell_drew ?_) | (with_reducible refine cell_alloc ?_ _))))))); done))
          clear hK K
          try simp only [Act.put, List.setIfInBounds_toArray, List.set_cons_zero, List.set_cons_succ]
          refine wpL.one (i := 14) (by kernel_rfl) rfl fun K hK => ?_
          ((first | (refine step_append_lies _ (by rfl) _ _ 53 (by rfl) bt 3 i0 (.int .i64 0) 1 8 Try.underlying53 hi0 hz0 hz1 hz2 rfl (by decide) _ _ _ (by rfl) (hrow.alloc _) ⟨wr.heap.size, 0, none⟩ 1 1 [.int .i64 i] (by rfl) (by rfl) (news_new _ _ _) (by simp [Value.oneCell']) (by decide) (by unfold maxLen; omega) (by omega) (by first | omega | (simp; omega)) (wr.heap.size + 1) (by simp) ?_; intro gg cap1 w1 hown1 hgrow hat hlt2; replace o0 := cell_appD hgrow o0 (fun g e => by have := (hge.out g e).1; omega); replace x0 := cell_appD hgrow x0 (fun g e => (hge.out g e).2); have f1 : w1.frozen? ⟨bt, fi, none⟩ = false := (World.frozen?_of_block (w := wr) (a := ⟨bt, fi, none⟩) ((hgrow.block bt (by show bt < (wr.alloc _).heap.size; simp; omega) (fun e => (hge.out bt e.symm).2 rfl)).trans (heap_alloc_old wr _ (by show bt < wr.heap.size; omega)))).trans f0)))
          try clear hHeld
          refine hK.out _ _ ?_ (fun hHeld => ?_)
          (focus ((first | exact ⟨o0, x0⟩ | ((first | (with_reducible exact ⟨o0, x0⟩) | ((try dsimp only); (repeat' apply And.intro) <;> (repeat (first | (with_reducible assumption) | (with_reducible refine cell_set (by simp; try omega) ?_) | (with_reducible refine cell_drew ?_) | (with_reducible refine cell_alloc ?_ _))))))); done))
          clear hK K
          try simp only [Act.put, List.setIfInBounds_toArray, List.set_cons_zero, List.set_cons_succ]
          refine wpL.take' (i := 15) rfl (by kernel_rfl) (by kernel_rfl) (by kernel_rfl) (by kernel_rfl) (by decide) (by kernel_rfl) (by assumption) ?_
          apply Exists.intro; refine ⟨fun _ _ _ h => h, Or.inl ⟨by rfl, fun V hV => ?_⟩, ?_⟩
          (focus ((try dsimp only at hV); go_simp; (try (with_reducible rfl)); done))
          try simp only [Act.put, List.setIfInBounds_toArray, List.set_cons_zero, List.set_cons_succ]
          refine wpL.last (by kernel_rfl) (by kernel_rfl) rfl fun K hK => ?_
          rw [if_pos (by rfl)]
          go_simp
          refine hK.out _ _ (wpL.fin (by kernel_rfl) ?_ _)
          clear hK K
          try simp only [Act.put, List.setIfInBounds_toArray, List.set_cons_zero, List.set_cons_succ]
          all_goals
            obtain ⟨Z2, hZ2, hZ2s, hgr⟩ : ∃ Z2, Below wr.heap.size wr Z2 ∧ Z2.heap.size = wr.heap.size + 1 ∧ Z2.grownBy w1 (Value.slice sa RL.length sc).ownBlock := by
              refine ⟨_, ?_, ?_, hgrow⟩
              · first | exact ((Below.refl _ wr).drew.alloc (by exact Nat.le_refl _) _) | exact ((Below.refl _ wr).alloc (by exact Nat.le_refl _) _).drew
              · simp
            have hL2 := (LsV.up hZ2 hL.out).grown hgr (fun g e => by have := (hge.out g e).1; omega)
            have hL3 := hL2.other (b := bt) (by omega) (by omega) fi (.slice (some ⟨gg, 0, none⟩) (RL.length + 1) cap1)
            have hvx : ss[fi].val.ownBlock = (Value.slice sa RL.length sc).ownBlock := by rw [hv.out]
            have hT3 := (Tbl.up hZ2 hT.out).app hxs (x := ⟨some ⟨gg, 0, none⟩, RL.length + 1, cap1⟩) (L := RL ++ [(i : Int)]) (V' := w1) (by rw [hvx]; exact hgr) (by rw [int_snoc, List.length_append]; exact hown1) (by
              rw [hvx]
              rcases hat with h | h
              · exact .inl h.symm
              · exact .inr ⟨gg, rfl, by omega⟩)
            rw [hset.out] at hT3
            replace hL3 := Lib.hid hL3; replace hT3 := Lib.hid hT3
            clear hL2
            go_wp2
            go_roundw
            case rel => exact ⟨i + 1, _, by omega, rfl, hL3.out, hT3.out⟩
            case measure => exact meas hlt
        · obtain rfl : N = i := by omega
          have hRv : RvM w bt N M ss (lvT f N M) wr (List.replicate N 0) := ⟨hL, hT, hLw.2⟩
          have hTl := lvT_len f N M
          have hTa := fun q (hq : q < (lvT f N M).length) => lvT_at hq
          obtain ⟨T, hTl, hTa, hRv⟩ : ∃ T : List (List Int), T.length = M ∧ (∀ q (hq : q < T.length), T[q] = toI ((List.range N).filter fun k => decide (f k = q))) ∧ RvM w bt N M ss T wr (List.replicate N 0) := ⟨_, hTl, hTa, hRv⟩
          have hM1 : 1 ≤ M := by have := hM.out; omega
          have hmM : (m : Int) = (M : Int) - 1 := by have := hM.out; omega
          have hnone : ∀ k, k < N → f k < 1 → (List.replicate N (0 : Int)).getD k 0 = vlN K P k := fun k hk hf => by have := hpos.out k hk; omega
          replace hTl := Lib.hid hTl; replace hTa := Lib.hid hTa; replace hnone := Lib.hid hnone; replace hmM := Lib.hid hmM
          clear hL hT
          go_wp2
          go_loopw [10] (fun qq V => ∃ (q : Nat) (L : List Int), 1 ≤ q ∧ q ≤ M ∧ qq = .int .i64 q ∧ RvM w bt N M ss T V L ∧ Hid (∀ k, k < N → f k < q → L.getD k 0 = vlN K P k)) (fun qq _ => M - (intOf qq).toNat)
          case atStart => exact ⟨1, _, by omega, hM1, rfl, hRv, hnone⟩
          case round =>
            clear hRv hnone
            obtain ⟨q, L, hq1, hqM, rfl, hR, hdn⟩ := hrel
            by_cases hlq : q < M
            · have c1 : (q : Int) ≤ (m : Int) := by have := hmM.out; omega
              have hqT : q < T.length := by rw [hTl.out]; exact hlq
              obtain ⟨sa0, ca0, hh0, -⟩ := hR.at hqT
              have hTq := hTa.out q hqT
              have hmem : ∀ k, k ∈ ((List.range N).filter fun k => decide (f k = q)) ↔ k < N ∧ f k = q := fun k => by simp
              obtain ⟨ks, hks⟩ : ∃ ks, ((List.range N).filter fun k => decide (f k = q)) = ks := ⟨_, rfl⟩
              have hksl : ks.length ≤ N := by rw [← hks]; exact Nat.le_trans (List.length_filter_le _ _) (by simp)
              rw [hks] at hTq
              simp only [hks] at hmem
              have hst : ∀ k, k < N → (f k < q ∨ k ∈ ks.take 0) → L.getD k 0 = vlN K P k := fun k hk h => by
                rcases h with h | h
                · exact hdn.out k hk h
                · simp at h
              replace hTq := Lib.hid hTq; replace hmem := Lib.hid hmem; replace hst := Lib.hid hst; replace hks := Lib.hid hks
              clear hh0
              have hBV := Lib.hid hR.ls.be
              go_wp2
              go_loopw [11] (fun xx V => ∃ (x : Nat) (L : List Int), x ≤ ks.length ∧ xx = .int .i64 x ∧ RvM w bt N M ss T V L ∧ Hid (∀ k, k < N → (f k < q ∨ k ∈ ks.take x) → L.getD k 0 = vlN K P k)) (fun xx _ => ks.length - (intOf xx).toNat)
              case atStart => exact ⟨0, _, by omega, rfl, hR, hst⟩
              case round =>
                clear hR hdn hst hBV
                obtain ⟨x, L, hx, rfl, hR, hdn⟩ := hrel
                obtain ⟨sa0, ca0, hh0, hrw⟩ := hR.at hqT
                rw [hTq.out] at hh0 hrw
                have hkl := toI_len ks
                rw [hkl] at hh0
                have qa : (0 : Int) ≤ (q : Int) := by omega
                have qb : (q : Int) < (M : Int) := by omega
                replace hkl := Lib.hid hkl
                by_cases hlx : x < ks.length
                · have hx1 : (x : Int) < (ks.length : Int) := by omega
                  have hx0 : (0 : Int) ≤ (x : Int) := by omega
                  have hxT : x < (toI ks).length := by rw [hkl.out]; exact hlx
                  obtain ⟨rb, ro, er, hrb0, r0⟩ := hrw.int_at hxT
                  cases er
                  rw [toI_at hxT hlx] at r0
                  have hkm := (hmem.out ks[x]).1 (List.getElem_mem hlx)
                  have htk : ks.take (x + 1) = ks.take x ++ [ks[x]] := List.take_succ_eq_append_getElem hlx
                  obtain ⟨k, hk⟩ : ∃ k, ks[x] = k := ⟨_, rfl⟩
                  rw [hk] at r0 hkm htk
                  obtain ⟨hkN, hfk⟩ := hkm
                  obtain ⟨hk1, hk2, hk3⟩ := hnd.out k hkN
                  have hek := fun V h => helm.out k hkN V h
                  have hvk := vlN_eq (hyes2.out k hkN)
                  unfold vlR at hvk
                  rw [vOf_at hk1] at hvk
                  have hpo : (pOf P k).small 20 := by rw [pOf_at hk2]; exact ok.out.pts _ (List.getElem_mem hk2)
                  have husk : useN K P k = K[k / P.length].args.filterMap fun a => argN P a (pOf P k) := by unfold useN; rw [vOf_at hk1]
                  have hdu : ∀ u ∈ useN K P k, L.getD u 0 = vlN K P u ∧ u < N := fun u hu => by
                    have h1 := huse.out k hkN u hu
                    have h2 := hult.out k u hu
                    exact ⟨hdn.out u h2 (.inl (by rw [hfk] at h1; exact h1)), h2⟩
                  obtain ⟨p, hpp⟩ : ∃ p, pOf P k = p := ⟨_, rfl⟩
                  simp only [hpp] at hek hvk hpo husk
                  obtain ⟨v, hv⟩ : ∃ v, k / P.length = v := ⟨_, rfl⟩
                  simp only [hv] at hk1 hek hvk husk
                  have hnw := Net.up (hR.ls.be) h
                  obtain ⟨n0, n1, n2, n3, n4⟩ := hnw.cells
                  obtain ⟨vb, vo, sa, ca, es, hvb, t0, t1, t2, t3, t4, t5, t6, hsa, hal, -, -⟩ := hnw.rc.vars.at hk1
                  have hops := ok.out.op _ (List.getElem_mem hk1)
                  have hsh := ok.out.shift _ (List.getElem_mem hk1)
                  have hva := ok.out.var _ (List.getElem_mem hk1)
                  have ha3 := ok.out.args _ (List.getElem_mem hk1)
                  obtain ⟨X, hX⟩ : ∃ x, K[v] = x := ⟨_, rfl⟩
                  have harg : ∀ (j : Nat) (hj : j < X.args.length) V, Net 64 V g n s cap l s2 cq K sp cp mb P → Calls Try.prog 35 #[.pointer (some ⟨g, 0, none⟩), .agg #[.int .i64 v, .int .i64 p.x, .int .i64 p.y, .int .i64 p.z], .int .i64 j] V fun e w' => e = .returned (.agg #[.int .i64 X.args[j].v, .int .i64 (ptP p X.args[j].p).x, .int .i64 (ptP p X.args[j].p).y, .int .i64 (ptP p X.args[j].p).z]) ∧ Below V.heap.size V w' := by
                    subst hX; exact fun j hj V h => rArg_c v j p V h ok.out hk1 hj hpo
                  rw [hX] at hvk husk t0 t1 t2 t3 t4 t5 t6 hsa hal hops hsh hva ha3
                  have hus : ∀ j (hj : j < X.args.length) u, argN P X.args[j] p = some u → L.getD u 0 = vlN K P u ∧ u < N := fun j hj u e => hdu u (by rw [husk]; exact List.mem_filterMap.2 ⟨_, List.getElem_mem hj, e⟩)
                  obtain ⟨AV, hvk, hVb, hAl, hAj⟩ : ∃ AV : List Int, vlN K P k = appl X.op AV ∧ Vb AV ∧ AV.length = X.args.length ∧ ∀ j (hj : j < X.args.length) (hj' : j < AV.length), AV[j] = argV K P (vlN K P) p X.args[j] := by
                    refine ⟨_, hvk, ?_, by simp, fun j hj hj' => List.getElem_map ..⟩
                    intro y hy
                    obtain ⟨a, ha, rfl⟩ := List.mem_map.1 hy
                    unfold argV
                    cases e : argN P a p with
                    | none => exact frst_bd _ _
                    | some u => exact vlN_bd (hyes2.out _ (hdu u (by rw [husk]; exact List.mem_filterMap.2 ⟨a, ha, e⟩)).2)
                  have hap := fun V sr cr (hs : SlS intE V sr AV) => Apply_c X.op sr cr AV V hs hVb hops.2 (by rw [hAl]; exact hops.1)
                  obtain ⟨VK, hVK⟩ : ∃ x, vlN K P k = x := ⟨_, rfl⟩
                  rw [hVK] at hvk
                  simp only [← hvk] at hap
                  obtain ⟨px, py, pz⟩ := p
                  clear hvk husk hdu
                  have i3 : (0 : Int) ≤ (k : Int) := by omega
                  have i4 : (k : Int) < (N : Int) := by omega
                  have i5 : (0 : Int) ≤ (v : Int) := by omega
                  have i6 : (v : Int) < (K.length : Int) := by omega
                  have hLlen := hR.ls.len
                  replace hLlen := Lib.hid hLlen; replace htk := Lib.hid htk; replace hk := Lib.hid hk; replace hAl := Lib.hid hAl; replace hAj := Lib.hid hAj; replace hus := Lib.hid hus; replace hap := Lib.hid hap; replace harg := Lib.hid harg; replace hek := Lib.hid hek; replace hVK := Lib.hid hVK; replace hX := Lib.hid hX; replace hpp := Lib.hid hpp; replace hv := Lib.hid hv; replace hk3 := Lib.hid hk3; replace hVb := Lib.hid hVb; replace hops := Lib.hid hops; replace hsh := Lib.hid hsh; replace hva := Lib.hid hva; replace ha3 := Lib.hid ha3; replace hpo := Lib.hid hpo; replace hk2 := Lib.hid hk2; replace hkN := Lib.hid hkN; replace hfk := Lib.hid hfk
                  cases es
                  clear hrw
                  go_upto_region 18 with (fail)
                  go_upto_region 19 with (first | (go_at_call 104; refine (hek.out _ hnw).mono ?_; rintro e W2 ⟨rfl, hb⟩; (try replace hR := up_of hb hR); (try replace hnw := up_of hb hnw); (try replace n0 := up_of hb n0); (try replace n2 := up_of hb n2); (try replace t0 := up_of hb t0); (try replace t1 := up_of hb t1); (try replace t2 := up_of hb t2); (try replace hsa := up_of hb hsa); (try replace hh0 := up_of hb hh0); (try replace r0 := up_of hb r0)))
                  refine wp_world fun X1 HX1 => ?_
                  have hX1 : Below W2.heap.size W2 X1 := by rw [HX1.out]; (repeat (first | exact Below.refl _ _ | refine Below.alloc ?_ (by simp; try omega) _ | refine Below.setCell ?_ (by simp) _ | refine Below.drew ?_))
                  have e0 : X1.cell? ⟨W2.heap.size, 0, none⟩ = some (.int .i64 v) := by rw [HX1.out]; simp [go_sem]
                  have e1 : X1.cell? ⟨W2.heap.size, 1, none⟩ = some (.int .i64 px) := by rw [HX1.out]; simp [go_sem]
                  have e2 : X1.cell? ⟨W2.heap.size, 2, none⟩ = some (.int .i64 py) := by rw [HX1.out]; simp [go_sem]
                  have e3 : X1.cell? ⟨W2.heap.size, 3, none⟩ = some (.int .i64 pz) := by rw [HX1.out]; simp [go_sem]
                  have el : W2.heap.size < X1.heap.size := World.block_lt_of_cell? X1 _ e0
                  try replace hR := up_of hX1 hR
                  try replace hnw := up_of hX1 hnw
                  try replace n0 := up_of hX1 n0
                  try replace n2 := up_of hX1 n2
                  try replace t0 := up_of hX1 t0
                  try replace t1 := up_of hX1 t1
                  try replace t2 := up_of hX1 t2
                  try replace hsa := up_of hX1 hsa
                  try replace hh0 := up_of hX1 hh0
                  try replace r0 := up_of hX1 r0
                  have hYn : X1.ownsRow X1.heap.size 3 1 (.slice none 0 0) 0 (intE.all []) := World.ownsRow_nil _ _ _ _
                  have hgY : g < X1.heap.size := World.block_lt_of_cell? _ _ n2
                  have hvbY : vb < X1.heap.size := World.block_lt_of_cell? _ _ t0
                  go_wp2
                  go_loopw [13, 14] (fun row jj V => ∃ (j : Nat) (r : List Int), j ≤ X.args.length ∧ jj = .int .i64 j ∧ Hid (r = AV.take j) ∧ V.ownsRow X1.heap.size 3 1 row r.length (intE.all r) ∧ Below X1.heap.size X1 V) (fun _ jj _ => X.args.length - (intOf jj).toNat)
                  case atStart => exact ⟨0, [], by omega, rfl, Lib.hid (by simp), hYn, Below.refl _ _⟩
                  case round =>
                    clear hYn
                    obtain ⟨j, r, hj, rfl, hrr, hown, hBY⟩ := hrel
                    have hBYs := hBY.size
                    try replace hR := up_of hBY hR
                    try replace hnw := up_of hBY hnw
                    try replace n0 := up_of hBY n0
                    try replace n2 := up_of hBY n2
                    try replace t0 := up_of hBY t0
                    try replace t1 := up_of hBY t1
                    try replace t2 := up_of hBY t2
                    try replace hsa := up_of hBY hsa
                    try replace hh0 := up_of hBY hh0
                    try replace r0 := up_of hBY r0
                    try replace hX1 := up_of hBY hX1
                    try replace e0 := up_of hBY e0
                    try replace e1 := up_of hBY e1
                    try replace e2 := up_of hBY e2
                    try replace e3 := up_of hBY e3
                    try replace el := up_of hBY el
                    by_cases hlj : j < X.args.length
                    · have hjA : j < AV.length := by have := hAl.out; omega
                      have hcj := hAj.out j hlj hjA
                      have hrn : r ++ [AV[j]] = AV.take (j + 1) := by rw [hrr.out, List.take_succ_eq_append_getElem hjA]
                      have hrl : r.length = j := by rw [hrr.out, List.length_take]; omega
                      have hsm := hsh.out _ (List.getElem_mem hlj)
                      have hav := hva.out _ (List.getElem_mem hlj)
                      have huj := hus.out j hlj
                      have hA := fun V h => harg.out j hlj V h
                      obtain ⟨a, ha⟩ : ∃ x, X.args[j] = x := ⟨_, rfl⟩
                      simp only [ha] at hA
                      rw [ha] at hcj hsm hav huj
                      have haN : argN P a ⟨px, py, pz⟩ = (pix P (ptP ⟨px, py, pz⟩ a.p)).map fun i => a.v.toNat * P.length + i := rfl
                      have hq := ptP_small hpo.out hsm
                      have hI := fun V (h : Net 64 V g n s cap l (some ⟨vb, vo, none⟩) cq K sp cp mb P) => rIs_c ⟨a.v, ptP ⟨px, py, pz⟩ a.p⟩ V h ok.out (small_i64 hq (by omega))
                      have heo := helo.out ⟨a.v, ptP ⟨px, py, pz⟩ a.p⟩ hav
                      simp only [hav, Bool.and_true] at hI
                      unfold argV at hcj
                      rw [haN] at hcj huj
                      obtain ⟨av, hav2⟩ : ∃ m : Nat, a.v = m := ⟨a.v.toNat, by have := bw_iff.1 hav; omega⟩
                      have hav3 : av < K.length := by have := bw_iff.1 hav; have := ok.out.vars; omega
                      obtain ⟨⟨rx, ry, rz⟩, hrp⟩ : ∃ x, ptP ⟨px, py, pz⟩ a.p = x := ⟨_, rfl⟩
                      simp only [hrp] at hA hI heo hcj huj hq
                      simp only [hav2, Int.toNat_natCast] at hA hI heo hcj huj
                      obtain ⟨cj, hcj0⟩ : ∃ x, AV[j] = x := ⟨_, rfl⟩
                      rw [hcj0] at hcj hrn
                      have hr3 : r.length ≤ 3 := by have := ha3.out; omega
                      have j1 : (0 : Int) ≤ (j : Int) := by omega
                      have j2 : (j : Int) < (X.args.length : Int) := by omega
                      have a1' : (0 : Int) ≤ (av : Int) := by omega
                      have a2' : (av : Int) < (K.length : Int) := by omega
                      have hrb : ∀ g, u13.ownBlock = some g → X1.heap.size ≤ g ∧ g < wr.heap.size := fun g e => hown.lt g e
                      obtain ⟨i0, hi0, hz0, hz1, hz2⟩ := info_parts info_int
                      replace hrn := Lib.hid hrn; replace hrl := Lib.hid hrl; replace hcj0 := Lib.hid hcj0; replace ha := Lib.hid ha; replace hav2 := Lib.hid hav2; replace hrp := Lib.hid hrp; replace hrb := Lib.hid hrb; replace hA := Lib.hid hA
                      clear haN hsm hav hrr
                      cases hpx : pix P ⟨rx, ry, rz⟩ with
                      | some m9 =>
                        simp only [hpx, Option.map_some] at hcj huj
                        have hin1 : isIn P ⟨(av : Int), ⟨rx, ry, rz⟩⟩ = true := by unfold isIn; rw [hpx]; rfl
                        simp only [hin1] at hI
                        obtain ⟨he1, he2⟩ := heo hin1
                        have hen : elNum P ⟨(av : Int), ⟨rx, ry, rz⟩⟩ = av * P.length + m9 := by unfold elNum; simp only [hpx, Int.toNat_natCast, Option.getD_some]
                        rw [hen] at he1 he2
                        obtain ⟨hu1, hu2⟩ := huj _ rfl
                        have hnm := fun V h => hnum.out _ he2 V h
                        simp only [he1] at hnm
                        obtain ⟨u, hu0⟩ : ∃ u, av * P.length + m9 = u := ⟨_, rfl⟩
                        simp only [hu0] at hnm hcj hu1 hu2
                        have huL : u < L.length := by rw [hLlen.out]; exact hu2
                        have hLu : L[u] = cj := by
                          rw [hcj, ← hu1, List.getD_eq_getElem?_getD, List.getElem?_eq_getElem huL]; rfl
                        have u1 : (0 : Int) ≤ (u : Int) := by omega
                        have u2 : (u : Int) < (N : Int) := by omega
                        replace hI := Lib.hid hI; replace hnm := Lib.hid hnm; replace hLu := Lib.hid hLu; replace hu0 := Lib.hid hu0; replace hpx := Lib.hid hpx
                        clear hcj huj hu1 hu2 hin1 he1 he2 hen heo
                        go_upto_region 21 with (fail)
                        try have ld_n0 := World.block_lt_of_cell? _ _ n0
                        try have ld_t0 := World.block_lt_of_cell? _ _ t0
                        try have ld_hh0 := World.block_lt_of_cell? _ _ hh0
                        try have ld_r0 := World.block_lt_of_cell? _ _ r0
                        try have ld_e0 := World.block_lt_of_cell? _ _ e0
                        refine region_q (by kernel_rfl) (by kernel_rfl) ?_
                        dsimp only [List.toList_toArray]
                        repeat (first
                         | go_big_quiet_skip
                         | (go_big_quiet_want
                            first
                            | (refine qq_det ?_
                               apply Exists.intro; refine ⟨fun W' hW' => ?_, ?_⟩
                               (· have hk := cellB hW'; go_simp; try (first | rfl | rw [if_pos (by omega)]))
                               simp only [Act.put, List.setIfInBounds_toArray, List.set_cons_zero, List.set_cons_succ]; go_big_quiet_on)))
                        refine wpQuiet_nil ?_
                        intro V1 hb
                        try replace hR := up_of hb hR
                        try replace hnw := up_of hb hnw
                        try replace n0 := up_of hb n0
                        try replace n2 := up_of hb n2
                        try replace t0 := up_of hb t0
                        try replace t1 := up_of hb t1
                        try replace t2 := up_of hb t2
                        try replace hsa := up_of hb hsa
                        try replace hh0 := up_of hb hh0
                        try replace r0 := up_of hb r0
                        try replace hX1 := up_of hb hX1
                        try replace e0 := up_of hb e0
                        try replace e1 := up_of hb e1
                        try replace e2 := up_of hb e2
                        try replace e3 := up_of hb e3
                        try replace el := up_of hb el
                        try replace hown := up_of hb hown
                        try replace hBY := up_of hb hBY
                        go_upto_region 24 with (first | (go_at_call 35; refine (hA.out _ hnw).mono ?_; rintro e V2 ⟨rfl, hb⟩; (try replace hR := up_of hb hR); (try replace hnw := up_of hb hnw); (try replace n0 := up_of hb n0); (try replace n2 := up_of hb n2); (try replace t0 := up_of hb t0); (try replace t1 := up_of hb t1); (try replace t2 := up_of hb t2); (try replace hsa := up_of hb hsa); (try replace hh0 := up_of hb hh0); (try replace r0 := up_of hb r0); (try replace hX1 := up_of hb hX1); (try replace e0 := up_of hb e0); (try replace e1 := up_of hb e1); (try replace e2 := up_of hb e2); (try replace e3 := up_of hb e3); (try replace el := up_of hb el); (try replace hown := up_of hb hown); (try replace hBY := up_of hb hBY)))
                        refine wp_world fun X2 HX2 => ?_
                        have hX2 : Below V2.heap.size V2 X2 := by rw [HX2.out]; (repeat (first | exact Below.refl _ _ | refine Below.alloc ?_ (by simp; try omega) _ | refine Below.setCell ?_ (by simp) _ | refine Below.drew ?_))
                        have a0 : X2.cell? ⟨V2.heap.size, 0, none⟩ = some (.int .i64 av) := by rw [HX2.out]; simp [go_sem]
                        have a1 : X2.cell? ⟨V2.heap.size, 1, none⟩ = some (.int .i64 rx) := by rw [HX2.out]; simp [go_sem]
                        have a2 : X2.cell? ⟨V2.heap.size, 2, none⟩ = some (.int .i64 ry) := by rw [HX2.out]; simp [go_sem]
                        have a3 : X2.cell? ⟨V2.heap.size, 3, none⟩ = some (.int .i64 rz) := by rw [HX2.out]; simp [go_sem]
                        have al : V2.heap.size < X2.heap.size := World.block_lt_of_cell? X2 _ a0
                        try replace hR := up_of hX2 hR
                        try replace hnw := up_of hX2 hnw
                        try replace n0 := up_of hX2 n0
                        try replace n2 := up_of hX2 n2
                        try replace t0 := up_of hX2 t0
                        try replace t1 := up_of hX2 t1
                        try replace t2 := up_of hX2 t2
                        try replace hsa := up_of hX2 hsa
                        try replace hh0 := up_of hX2 hh0
                        try replace r0 := up_of hX2 r0
                        try replace hX1 := up_of hX2 hX1
                        try replace e0 := up_of hX2 e0
                        try replace e1 := up_of hX2 e1
                        try replace e2 := up_of hX2 e2
                        try replace e3 := up_of hX2 e3
                        try replace el := up_of hX2 el
                        try replace hown := up_of hX2 hown
                        try replace hBY := up_of hX2 hBY
                        go_upto_region 25 with (first | (go_at_call 36; refine (hI.out _ hnw).mono ?_; rintro e V3 ⟨rfl, hb⟩; (try replace hR := up_of hb hR); (try replace hnw := up_of hb hnw); (try replace n0 := up_of hb n0); (try replace n2 := up_of hb n2); (try replace t0 := up_of hb t0); (try replace t1 := up_of hb t1); (try replace t2 := up_of hb t2); (try replace hsa := up_of hb hsa); (try replace hh0 := up_of hb hh0); (try replace r0 := up_of hb r0); (try replace hX1 := up_of hb hX1); (try replace e0 := up_of hb e0); (try replace e1 := up_of hb e1); (try replace e2 := up_of hb e2); (try replace e3 := up_of hb e3); (try replace el := up_of hb el); (try replace hown := up_of hb hown); (try replace hBY := up_of hb hBY); (try replace hX2 := up_of hb hX2); (try replace a0 := up_of hb a0); (try replace a1 := up_of hb a1); (try replace a2 := up_of hb a2); (try replace a3 := up_of hb a3); (try replace al := up_of hb al)))
                        go_wp2_with (first | (go_at_call 62; refine (hnm.out _ hnw).mono ?_; rintro e V4 ⟨rfl, hb⟩; (try replace hR := up_of hb hR); (try replace hnw := up_of hb hnw); (try replace n0 := up_of hb n0); (try replace n2 := up_of hb n2); (try replace t0 := up_of hb t0); (try replace t1 := up_of hb t1); (try replace t2 := up_of hb t2); (try replace hsa := up_of hb hsa); (try replace hh0 := up_of hb hh0); (try replace r0 := up_of hb r0); (try replace hX1 := up_of hb hX1); (try replace e0 := up_of hb e0); (try replace e1 := up_of hb e1); (try replace e2 := up_of hb e2); (try replace e3 := up_of hb e3); (try replace el := up_of hb el); (try replace hown := up_of hb hown); (try replace hBY := up_of hb hBY); (try replace hX2 := up_of hb hX2); (try replace a0 := up_of hb a0); (try replace a1 := up_of hb a1); (try replace a2 := up_of hb a2); (try replace a3 := up_of hb a3); (try replace al := up_of hb al); obtain ⟨wcu, -⟩ := hR.ls.cell huL; rw [hLu.out] at wcu; have hBYs2 := hBY.size) | (at_builtin; refine wpList_append_own_at _ rfl _ _ 53 rfl X1.heap.size 3 i0 _ 1 8 Try.underlying53 hi0 hz0 hz1 hz2 rfl (by decide) _ _ _ rfl (hown.alloc _) ⟨V4.heap.size, 0, none⟩ 1 1 [.int .i64 cj] rfl rfl (news_new _ _ _) (by simp [Value.oneCell']) (by unfold maxLen; omega) (by omega) (by simp; omega) ?_; intro v1 w1 hown1 hgrow hnil hat1))
                        have hB1 : Below X1.heap.size X1 w1 := (hBY.alloc hBYs2 _).grown hgrow (by simp; omega) (fun j e => (hown.lt j e).1)
                        go_roundw
                        case rel => exact ⟨j + 1, r ++ [cj], by omega, rfl, hrn, by rw [int_snoc, List.length_append]; exact hown1, hB1⟩
                        case measure => exact meas hlj
                      | none =>
                        simp only [hpx, Option.map_none] at hcj
                        have hin1 : isIn P ⟨(av : Int), ⟨rx, ry, rz⟩⟩ = false := by unfold isIn; rw [hpx]; rfl
                        simp only [hin1] at hI
                        obtain ⟨vb2, vo2, sa2, ca2, es2, -, y0, y1, y2, y3, y4, y5, y6, -, -, -, -⟩ := hnw.rc.vars.at hav3
                        cases es2
                        have hini := ok.out.init _ (List.getElem_mem hav3)
                        have hvat : vat K av = K[av] := by unfold vat; rw [List.getD_eq_getElem?_getD, List.getElem?_eq_getElem hav3]; rfl
                        rw [hvat] at hcj
                        obtain ⟨XX, hXX⟩ : ∃ x, K[av] = x := ⟨_, rfl⟩
                        rw [hXX] at hcj hini y0 y1 y2 y3 y4 y5 y6
                        have hfi := fun V => rfirst_c XX sa2 XX.args.length ca2 ⟨rx, ry, rz⟩ V hini ⟨by have := hq.1; omega, by have := hq.2.1; omega, by have := hq.2.2; omega⟩
                        simp only [← hcj] at hfi
                        replace hI := Lib.hid hI; replace hfi := Lib.hid hfi; replace hXX := Lib.hid hXX; replace hpx := Lib.hid hpx
                        clear hcj huj hvat hini hin1 heo
                        go_upto_region 21 with (fail)
                        try have ld_n0 := World.block_lt_of_cell? _ _ n0
                        try have ld_t0 := World.block_lt_of_cell? _ _ t0
                        try have ld_hh0 := World.block_lt_of_cell? _ _ hh0
                        try have ld_r0 := World.block_lt_of_cell? _ _ r0
                        try have ld_e0 := World.block_lt_of_cell? _ _ e0
                        try have ld_a0 := World.block_lt_of_cell? _ _ a0
                        try have ld_y0 := World.block_lt_of_cell? _ _ y0
                        refine region_q (by kernel_rfl) (by kernel_rfl) ?_
                        dsimp only [List.toList_toArray]
                        repeat (first
                         | go_big_quiet_skip
                         | (go_big_quiet_want
                            first
                            | (refine qq_det ?_
                               apply Exists.intro; refine ⟨fun W' hW' => ?_, ?_⟩
                               (· have hk := cellB hW'; go_simp; try (first | rfl | rw [if_pos (by omega)]))
                               simp only [Act.put, List.setIfInBounds_toArray, List.set_cons_zero, List.set_cons_succ]; go_big_quiet_on)))
                        refine wpQuiet_nil ?_
                        intro V1 hb
                        try replace hR := up_of hb hR
                        try replace hnw := up_of hb hnw
                        try replace n0 := up_of hb n0
                        try replace n2 := up_of hb n2
                        try replace t0 := up_of hb t0
                        try replace t1 := up_of hb t1
                        try replace t2 := up_of hb t2
                        try replace hsa := up_of hb hsa
                        try replace hh0 := up_of hb hh0
                        try replace r0 := up_of hb r0
                        try replace hX1 := up_of hb hX1
                        try replace e0 := up_of hb e0
                        try replace e1 := up_of hb e1
                        try replace e2 := up_of hb e2
                        try replace e3 := up_of hb e3
                        try replace el := up_of hb el
                        try replace hown := up_of hb hown
                        try replace hBY := up_of hb hBY
                        try replace hX2 := up_of hb hX2
                        try replace a0 := up_of hb a0
                        try replace a1 := up_of hb a1
                        try replace a2 := up_of hb a2
                        try replace a3 := up_of hb a3
                        try replace al := up_of hb al
                        try replace y0 := up_of hb y0
                        try replace y1 := up_of hb y1
                        try replace y2 := up_of hb y2
                        try replace y3 := up_of hb y3
                        try replace y4 := up_of hb y4
                        try replace y5 := up_of hb y5
                        try replace y6 := up_of hb y6
                        have hV1s := hb.size
                        go_upto_region 24 with (first | (go_at_call 35; refine (hA.out _ hnw).mono ?_; rintro e V2 ⟨rfl, hb⟩; (try replace hR := up_of hb hR); (try replace hnw := up_of hb hnw); (try replace n0 := up_of hb n0); (try replace n2 := up_of hb n2); (try replace t0 := up_of hb t0); (try replace t1 := up_of hb t1); (try replace t2 := up_of hb t2); (try replace hsa := up_of hb hsa); (try replace hh0 := up_of hb hh0); (try replace r0 := up_of hb r0); (try replace hX1 := up_of hb hX1); (try replace e0 := up_of hb e0); (try replace e1 := up_of hb e1); (try replace e2 := up_of hb e2); (try replace e3 := up_of hb e3); (try replace el := up_of hb el); (try replace hown := up_of hb hown); (try replace hBY := up_of hb hBY); (try replace hX2 := up_of hb hX2); (try replace a0 := up_of hb a0); (try replace a1 := up_of hb a1); (try replace a2 := up_of hb a2); (try replace a3 := up_of hb a3); (try replace al := up_of hb al); (try replace y0 := up_of hb y0); (try replace y1 := up_of hb y1); (try replace y2 := up_of hb y2); (try replace y3 := up_of hb y3); (try replace y4 := up_of hb y4); (try replace y5 := up_of hb y5); (try replace y6 := up_of hb y6)))
                        have hV2s := hb.size
                        refine wp_world fun X2 HX2 => ?_
                        have hX2 : Below V2.heap.size V2 X2 := by rw [HX2.out]; (repeat (first | exact Below.refl _ _ | refine Below.alloc ?_ (by simp; try omega) _ | refine Below.setCell ?_ (by simp) _ | refine Below.drew ?_))
                        have a0 : X2.cell? ⟨V2.heap.size, 0, none⟩ = some (.int .i64 av) := by rw [HX2.out]; simp [go_sem]
                        have a1 : X2.cell? ⟨V2.heap.size, 1, none⟩ = some (.int .i64 rx) := by rw [HX2.out]; simp [go_sem]
                        have a2 : X2.cell? ⟨V2.heap.size, 2, none⟩ = some (.int .i64 ry) := by rw [HX2.out]; simp [go_sem]
                        have a3 : X2.cell? ⟨V2.heap.size, 3, none⟩ = some (.int .i64 rz) := by rw [HX2.out]; simp [go_sem]
                        have al : V2.heap.size < X2.heap.size := World.block_lt_of_cell? X2 _ a0
                        try replace hR := up_of hX2 hR
                        try replace hnw := up_of hX2 hnw
                        try replace n0 := up_of hX2 n0
                        try replace n2 := up_of hX2 n2
                        try replace t0 := up_of hX2 t0
                        try replace t1 := up_of hX2 t1
                        try replace t2 := up_of hX2 t2
                        try replace hsa := up_of hX2 hsa
                        try replace hh0 := up_of hX2 hh0
                        try replace r0 := up_of hX2 r0
                        try replace hX1 := up_of hX2 hX1
                        try replace e0 := up_of hX2 e0
                        try replace e1 := up_of hX2 e1
                        try replace e2 := up_of hX2 e2
                        try replace e3 := up_of hX2 e3
                        try replace el := up_of hX2 el
                        try replace hown := up_of hX2 hown
                        try replace hBY := up_of hX2 hBY
                        try replace hX2 := up_of hX2 hX2
                        try replace a0 := up_of hX2 a0
                        try replace a1 := up_of hX2 a1
                        try replace a2 := up_of hX2 a2
                        try replace a3 := up_of hX2 a3
                        try replace al := up_of hX2 al
                        try replace y0 := up_of hX2 y0
                        try replace y1 := up_of hX2 y1
                        try replace y2 := up_of hX2 y2
                        try replace y3 := up_of hX2 y3
                        try replace y4 := up_of hX2 y4
                        try replace y5 := up_of hX2 y5
                        try replace y6 := up_of hX2 y6
                        go_upto_region 26 with (first | (go_at_call 36; refine (hI.out _ hnw).mono ?_; rintro e V3 ⟨rfl, hb⟩; (try replace hR := up_of hb hR); (try replace hnw := up_of hb hnw); (try replace n0 := up_of hb n0); (try replace n2 := up_of hb n2); (try replace t0 := up_of hb t0); (try replace t1 := up_of hb t1); (try replace t2 := up_of hb t2); (try replace hsa := up_of hb hsa); (try replace hh0 := up_of hb hh0); (try replace r0 := up_of hb r0); (try replace hX1 := up_of hb hX1); (try replace e0 := up_of hb e0); (try replace e1 := up_of hb e1); (try replace e2 := up_of hb e2); (try replace e3 := up_of hb e3); (try replace el := up_of hb el); (try replace hown := up_of hb hown); (try replace hBY := up_of hb hBY); (try replace hX2 := up_of hb hX2); (try replace a0 := up_of hb a0); (try replace a1 := up_of hb a1); (try replace a2 := up_of hb a2); (try replace a3 := up_of hb a3); (try replace al := up_of hb al); (try replace y0 := up_of hb y0); (try replace y1 := up_of hb y1); (try replace y2 := up_of hb y2); (try replace y3 := up_of hb y3); (try replace y4 := up_of hb y4); (try replace y5 := up_of hb y5); (try replace y6 := up_of hb y6)))
                        go_region_held3 (fun V => V.cell? ⟨g, 2, none⟩ = some (.slice (some ⟨vb, vo, none⟩) K.length cq) ∧ V.cell? ⟨V2.heap.size, 0, none⟩ = some (.int .i64 av) ∧ V.cell? ⟨V2.heap.size, 1, none⟩ = some (.int .i64 rx) ∧ V.cell? ⟨V2.heap.size, 2, none⟩ = some (.int .i64 ry) ∧ V.cell? ⟨V2.heap.size, 3, none⟩ = some (.int .i64 rz) ∧ V.cell? ⟨vb, vo + av * 7, none⟩ = some (.string XX.name) ∧ V.cell? ⟨vb, vo + av * 7 + 1, none⟩ = some (.int .i64 XX.op) ∧ V.cell? ⟨vb, vo + av * 7 + 2, none⟩ = some (.slice sa2 XX.args.length ca2) ∧ V.cell? ⟨vb, vo + av * 7 + 3, none⟩ = some (.int .i64 XX.i0) ∧ V.cell? ⟨vb, vo + av * 7 + 4, none⟩ = some (.int .i64 XX.i1) ∧ V.cell? ⟨vb, vo + av * 7 + 5, none⟩ = some (.int .i64 XX.i2) ∧ V.cell? ⟨vb, vo + av * 7 + 6, none⟩ = some (.int .i64 XX.i3)) ((first | (with_reducible exact ⟨n2, a0, a1, a2, a3, y0, y1, y2, y3, y4, y5, y6⟩) | ((try dsimp only); (repeat' apply And.intro) <;> (repeat (first | (with_reducible assumption) | (with_reducible refine cell_set (by simp; try omega) ?_) | (with_reducible refine cell_drew ?_) | (with_reducible refine cell_alloc ?_ _)))))) ((first | (go_at_call 69; refine calls_below (W0 := V3) ?_ fun hpre => ?_; (repeat (first | exact Below.refl _ _ | refine Below.alloc ?_ (by simp; try omega) _ | refine Below.drew ?_)); refine (hfi.out _).mono ?_; rintro e N1 ⟨rfl, hb1⟩; have hb := Up.trans hpre hb1; clear hpre; (first | have hs_N1 := below_alloc_lt hb1 | have hs_N1 := below_alloc_lt (drewB hb1) | skip); have el_N1 := el; have al_N1 := al; (try replace hR := up_of hb hR); (try replace hnw := up_of hb hnw); (try replace n0 := up_of hb n0); (try replace n2 := up_of hb n2); (try replace t0 := up_of hb t0); (try replace t1 := up_of hb t1); (try replace t2 := up_of hb t2); (try replace hsa := up_of hb hsa); (try replace hh0 := up_of hb hh0); (try replace r0 := up_of hb r0); (try replace hX1 := up_of hb hX1); (try replace e0 := up_of hb e0); (try replace e1 := up_of hb e1); (try replace e2 := up_of hb e2); (try replace e3 := up_of hb e3); (try replace el := up_of hb el); (try replace hown := up_of hb hown); (try replace hBY := up_of hb hBY); (try replace hX2 := up_of hb hX2); (try replace a0 := up_of hb a0); (try replace a1 := up_of hb a1); (try replace a2 := up_of hb a2); (try replace a3 := up_of hb a3); (try replace al := up_of hb al); (try replace y0 := up_of hb y0); (try replace y1 := up_of hb y1); (try replace y2 := up_of hb y2); (try replace y3 := up_of hb y3); (try replace y4 := up_of hb y4); (try replace y5 := up_of hb y5); (try replace y6 := up_of hb y6); (first | have nB := new_up hb1 | have nB := new_up (drewB hb1) | (try replace nB := up_of hb nB))) | (refine step_append_lies _ (by rfl) _ _ 53 (by rfl) X1.heap.size 3 i0 (.int .i64 0) 1 8 Try.underlying53 hi0 hz0 hz1 hz2 rfl (by decide) _ _ _ (by rfl) (hown.alloc _) ⟨N1.heap.size, 0, none⟩ 1 1 [.int .i64 cj] (by rfl) (by rfl) (news_new _ _ _) (by simp [Value.oneCell']) (by decide) (by unfold maxLen; omega) (by omega) (by have := hBY.size; first | omega | (simp; omega)) (N1.heap.size + 1) (by simp) ?_; intro gg cap1 w1 hown1 hgrow hat hlt2; have hB1 := (hBY.alloc hBY.size _).grown hgrow (by have := hBY.size; first | omega | (simp; omega)) (fun g e => (hrb.out g e).1); replace n2 := cell_app hgrow n2 (fun g e => by have := hrb.out g e; omega); replace a0 := cell_app hgrow a0 (fun g e => by have := hrb.out g e; omega); replace a1 := cell_app hgrow a1 (fun g e => by have := hrb.out g e; omega); replace a2 := cell_app hgrow a2 (fun g e => by have := hrb.out g e; omega); replace a3 := cell_app hgrow a3 (fun g e => by have := hrb.out g e; omega); replace y0 := cell_app hgrow y0 (fun g e => by have := hrb.out g e; omega); replace y1 := cell_app hgrow y1 (fun g e => by have := hrb.out g e; omega); replace y2 := cell_app hgrow y2 (fun g e => by have := hrb.out g e; omega); replace y3 := cell_app hgrow y3 (fun g e => by have := hrb.out g e; omega); replace y4 := cell_app hgrow y4 (fun g e => by have := hrb.out g e; omega); replace y5 := cell_app hgrow y5 (fun g e => by have := hrb.out g e; omega); replace y6 := cell_app hgrow y6 (fun g e => by have := hrb.out g e; omega))))
                        go_wp2
                        go_roundw
                        case rel => exact ⟨j + 1, r ++ [cj], by omega, rfl, hrn, by rw [int_snoc, List.length_append]; exact hown1, hB1⟩
                        case measure => exact meas hlj
                    · obtain rfl : j = X.args.length := by omega
                      have hr2 : r = AV := by rw [hrr.out, ← hAl.out, List.take_length]
                      subst hr2
                      obtain ⟨sr, cr, er, -⟩ := owns_shape hown
                      subst er
                      have hsl := SlS.of_own (E := intE) hown
                      have hkL : k < L.length := by rw [hLlen.out]; exact hkN.out
                      obtain ⟨wck, wfk⟩ := hR.ls.cell hkL
                      replace hrr := Lib.hid hrr
                      clear hAj hAl hVb
                      go_upto_region 21 with (fail)
                      try have ld_n0 := World.block_lt_of_cell? _ _ n0
                      try have ld_t0 := World.block_lt_of_cell? _ _ t0
                      try have ld_hh0 := World.block_lt_of_cell? _ _ hh0
                      try have ld_r0 := World.block_lt_of_cell? _ _ r0
                      try have ld_e0 := World.block_lt_of_cell? _ _ e0
                      try have ld_a0 := World.block_lt_of_cell? _ _ a0
                      try have ld_y0 := World.block_lt_of_cell? _ _ y0
                      refine region_q (by kernel_rfl) (by kernel_rfl) ?_
                      dsimp only [List.toList_toArray]
                      repeat (first
                       | go_big_quiet_skip
                       | (go_big_quiet_want
                          first
                          | (refine qq_det ?_
                             apply Exists.intro; refine ⟨fun W' hW' => ?_, ?_⟩
                             (· have hk := cellB hW'; go_simp; try (first | rfl | rw [if_pos (by omega)]))
                             simp only [Act.put, List.setIfInBounds_toArray, List.set_cons_zero, List.set_cons_succ]; go_big_quiet_on)))
                      refine wpQuiet_nil ?_
                      intro V1 hb
                      try replace hR := up_of hb hR
                      try replace hnw := up_of hb hnw
                      try replace n0 := up_of hb n0
                      try replace n2 := up_of hb n2
                      try replace t0 := up_of hb t0
                      try replace t1 := up_of hb t1
                      try replace t2 := up_of hb t2
                      try replace hsa := up_of hb hsa
                      try replace hh0 := up_of hb hh0
                      try replace r0 := up_of hb r0
                      try replace hX1 := up_of hb hX1
                      try replace e0 := up_of hb e0
                      try replace e1 := up_of hb e1
                      try replace e2 := up_of hb e2
                      try replace e3 := up_of hb e3
                      try replace el := up_of hb el
                      try replace hown := up_of hb hown
                      try replace hBY := up_of hb hBY
                      try replace hX2 := up_of hb hX2
                      try replace a0 := up_of hb a0
                      try replace a1 := up_of hb a1
                      try replace a2 := up_of hb a2
                      try replace a3 := up_of hb a3
                      try replace al := up_of hb al
                      try replace y0 := up_of hb y0
                      try replace y1 := up_of hb y1
                      try replace y2 := up_of hb y2
                      try replace y3 := up_of hb y3
                      try replace y4 := up_of hb y4
                      try replace y5 := up_of hb y5
                      try replace y6 := up_of hb y6
                      try replace hsl := up_of hb hsl
                      go_upto_region 27 with (fail)
                      obtain ⟨wck, wfk⟩ := hR.ls.cell hkL
                      have hwlt := (hR.ls.l0.lt w.heap.size rfl).2
                      clear hek harg hnw hus ha3 hva hsh hpo hops
                      clear helm hnum hnd hult helo hpos huse hmt htM hlv hLVl hLVa
                      refine wpL.region (m := 21) (S := fun V => V.cell? ⟨bt, q, none⟩ = some (.slice (some ⟨rb, ro, none⟩) ks.length ca0) ∧ V.cell? ⟨rb, ro + x, none⟩ = some (.int .i64 k) ∧ V.cell? ⟨g, 2, none⟩ = some (.slice (some ⟨vb, vo, none⟩) K.length cq) ∧ V.cell? ⟨W2.heap.size, 0, none⟩ = some (.int .i64 v) ∧ V.cell? ⟨vb, vo + v * 7 + 1, none⟩ = some (.int .i64 X.op)) (by kernel_rfl) ?_ (fun hHeld => ?_)
                      (focus ((first | exact ⟨hh0, r0, n2, e0, t1⟩ | ((first | (with_reducible exact ⟨hh0, r0, n2, e0, t1⟩) | ((try dsimp only); (repeat' apply And.intro) <;> (repeat (first | (with_reducible assumption) | (with_reducible refine cell_set (by simp; try omega) ?_) | (with_reducible refine cell_drew ?_) | (with_reducible refine cell_alloc ?_ _))))))); done))
                      refine wpL.take' (i := 0) rfl (by kernel_rfl) (by kernel_rfl) (by kernel_rfl) (by kernel_rfl) (by decide) (by kernel_rfl) (by assumption) ?_
                      apply Exists.intro; refine ⟨fun _ _ _ h => h, Or.inl ⟨by rfl, fun V hV => ?_⟩, ?_⟩
                      (focus ((try dsimp only at hV); go_simp; (try (with_reducible rfl)); done))
                      try simp only [Act.put, List.setIfInBounds_toArray, List.set_cons_zero, List.set_cons_succ]
                      refine wpL.take' (i := 1) rfl (by kernel_rfl) (by kernel_rfl) (by kernel_rfl) (by kernel_rfl) (by decide) (by kernel_rfl) (by assumption) ?_
                      apply Exists.intro; refine ⟨fun _ _ _ h => h, Or.inl ⟨by rfl, fun V hV => ?_⟩, ?_⟩
                      (focus ((try dsimp only at hV); go_simp; (try (with_reducible rfl)); done))
                      try simp only [Act.put, List.setIfInBounds_toArray, List.set_cons_zero, List.set_cons_succ]
                      refine wpL.take' (i := 2) rfl (by kernel_rfl) (by kernel_rfl) (by kernel_rfl) (by kernel_rfl) (by decide) (by kernel_rfl) (by assumption) ?_
                      apply Exists.intro; refine ⟨fun _ _ _ h => h, Or.inl ⟨by rfl, fun V hV => ?_⟩, ?_⟩
                      (focus ((try dsimp only at hV); go_simp; (try (with_reducible rfl)); done))
                      try simp only [Act.put, List.setIfInBounds_toArray, List.set_cons_zero, List.set_cons_succ]
                      refine wpL.take' (i := 3) rfl (by kernel_rfl) (by kernel_rfl) (by kernel_rfl) (by kernel_rfl) (by decide) (by kernel_rfl) (by assumption) ?_
                      apply Exists.intro; refine ⟨fun _ _ _ h => h, Or.inl ⟨by rfl, fun V hV => ?_⟩, ?_⟩
                      (focus ((try dsimp only at hV); go_simp; (try (with_reducible rfl)); done))
                      try simp only [Act.put, List.setIfInBounds_toArray, List.set_cons_zero, List.set_cons_succ]
                      refine wpL.take' (i := 4) rfl (by kernel_rfl) (by kernel_rfl) (by kernel_rfl) (by kernel_rfl) (by decide) (by kernel_rfl) (by assumption) ?_
                      apply Exists.intro; refine ⟨fun _ _ _ h => h, Or.inl ⟨by rfl, fun V hV => ?_⟩, ?_⟩
                      (focus ((try dsimp only at hV); go_simp; (try (with_reducible rfl)); done))
                      try simp only [Act.put, List.setIfInBounds_toArray, List.set_cons_zero, List.set_cons_succ]
                      refine wpL.take' (i := 5) rfl (by kernel_rfl) (by kernel_rfl) (by kernel_rfl) (by kernel_rfl) (by decide) (by kernel_rfl) (by assumption) ?_
                      apply Exists.intro; refine ⟨fun _ _ _ h => h, Or.inl ⟨by rfl, fun V hV => ?_⟩, ?_⟩
                      (focus ((try dsimp only at hV); go_simp; (try (with_reducible rfl)); done))
                      try simp only [Act.put, List.setIfInBounds_toArray, List.set_cons_zero, List.set_cons_succ]
                      refine wpL.take' (i := 6) rfl (by kernel_rfl) (by kernel_rfl) (by kernel_rfl) (by kernel_rfl) (by decide) (by kernel_rfl) (by assumption) ?_
                      apply Exists.intro; refine ⟨fun _ _ _ h => h, Or.inl ⟨by rfl, fun V hV => ?_⟩, ?_⟩
                      (focus ((try dsimp only at hV); go_simp; (try (with_reducible rfl)); done))
                      try simp only [Act.put, List.setIfInBounds_toArray, List.set_cons_zero, List.set_cons_succ]
                      refine wpL.take' (i := 7) rfl (by kernel_rfl) (by kernel_rfl) (by kernel_rfl) (by kernel_rfl) (by decide) (by kernel_rfl) (by assumption) ?_
                      apply Exists.intro; refine ⟨fun _ _ _ h => h, Or.inl ⟨by rfl, fun V hV => ?_⟩, ?_⟩
                      (focus ((try dsimp only at hV); go_simp; (try (with_reducible rfl)); done))
                      try simp only [Act.put, List.setIfInBounds_toArray, List.set_cons_zero, List.set_cons_succ]
                      refine wpL.take' (i := 8) rfl (by kernel_rfl) (by kernel_rfl) (by kernel_rfl) (by kernel_rfl) (by decide) (by kernel_rfl) (by assumption) ?_
                      apply Exists.intro; refine ⟨fun _ _ _ h => h, Or.inl ⟨by rfl, fun V hV => ?_⟩, ?_⟩
                      (focus ((try dsimp only at hV); go_simp; (try (with_reducible rfl)); done))
                      try simp only [Act.put, List.setIfInBounds_toArray, List.set_cons_zero, List.set_cons_succ]
                      refine wpL.take' (i := 9) rfl (by kernel_rfl) (by kernel_rfl) (by kernel_rfl) (by kernel_rfl) (by decide) (by kernel_rfl) (by assumption) ?_
                      apply Exists.intro; refine ⟨fun _ _ _ h => h, Or.inl ⟨by rfl, fun V hV => ?_⟩, ?_⟩
                      (focus ((try dsimp only at hV); go_simp; (try (with_reducible rfl)); done))
                      try simp only [Act.put, List.setIfInBounds_toArray, List.set_cons_zero, List.set_cons_succ]
                      refine wpL.take' (i := 10) rfl (by kernel_rfl) (by kernel_rfl) (by kernel_rfl) (by kernel_rfl) (by decide) (by kernel_rfl) (by assumption) ?_
                      apply Exists.intro; refine ⟨fun _ _ _ h => h, Or.inl ⟨by rfl, fun V hV => ?_⟩, ?_⟩
                      (focus ((try dsimp only at hV); go_simp; (try (with_reducible rfl)); done))
                      try simp only [Act.put, List.setIfInBounds_toArray, List.set_cons_zero, List.set_cons_succ]
                      refine wpL.take' (i := 11) rfl (by kernel_rfl) (by kernel_rfl) (by kernel_rfl) (by kernel_rfl) (by decide) (by kernel_rfl) (by assumption) ?_
                      apply Exists.intro; refine ⟨fun _ _ _ h => h, Or.inl ⟨by rfl, fun V hV => ?_⟩, ?_⟩
                      (focus ((try dsimp only at hV); go_simp; (try (with_reducible rfl)); done))
                      try simp only [Act.put, List.setIfInBounds_toArray, List.set_cons_zero, List.set_cons_succ]
                      refine wpL.take' (i := 12) rfl (by kernel_rfl) (by kernel_rfl) (by kernel_rfl) (by kernel_rfl) (by decide) (by kernel_rfl) (by assumption) ?_
                      apply Exists.intro; refine ⟨fun _ _ _ h => h, Or.inl ⟨by rfl, fun V hV => ?_⟩, ?_⟩
                      (focus ((try dsimp only at hV); go_simp; (try (with_reducible rfl)); done))
                      try simp only [Act.put, List.setIfInBounds_toArray, List.set_cons_zero, List.set_cons_succ]
                      refine wpL.take' (i := 13) rfl (by kernel_rfl) (by kernel_rfl) (by kernel_rfl) (by kernel_rfl) (by decide) (by kernel_rfl) (by assumption) ?_
                      apply Exists.intro; refine ⟨fun _ _ _ h => h, Or.inl ⟨by rfl, fun V hV => ?_⟩, ?_⟩
                      (focus ((try dsimp only at hV); go_simp; (try (with_reducible rfl)); done))
                      try simp only [Act.put, List.setIfInBounds_toArray, List.set_cons_zero, List.set_cons_succ]
                      refine wpL.take' (i := 14) rfl (by kernel_rfl) (by kernel_rfl) (by kernel_rfl) (by kernel_rfl) (by decide) (by kernel_rfl) (by assumption) ?_
                      apply Exists.intro; refine ⟨fun _ _ _ h => h, Or.inl ⟨by rfl, fun V hV => ?_⟩, ?_⟩
                      (focus ((try dsimp only at hV); go_simp; (try (with_reducible rfl)); done))
                      try simp only [Act.put, List.setIfInBounds_toArray, List.set_cons_zero, List.set_cons_succ]
                      refine wpL.take' (i := 15) rfl (by kernel_rfl) (by kernel_rfl) (by kernel_rfl) (by kernel_rfl) (by decide) (by kernel_rfl) (by assumption) ?_
                      apply Exists.intro; refine ⟨fun _ _ _ h => h, Or.inl ⟨by rfl, fun V hV => ?_⟩, ?_⟩
                      (focus ((try dsimp only at hV); go_simp; (try (with_reducible rfl)); done))
                      try simp only [Act.put, List.setIfInBounds_toArray, List.set_cons_zero, List.set_cons_succ]
                      refine wpL.take' (i := 16) rfl (by kernel_rfl) (by kernel_rfl) (by kernel_rfl) (by kernel_rfl) (by decide) (by kernel_rfl) (by assumption) ?_
                      apply Exists.intro; refine ⟨fun _ _ _ h => h, Or.inl ⟨by rfl, fun V hV => ?_⟩, ?_⟩
                      (focus ((try dsimp only at hV); go_simp; (try (with_reducible rfl)); done))
                      try simp only [Act.put, List.setIfInBounds_toArray, List.set_cons_zero, List.set_cons_succ]
                      refine wpL.take' (i := 17) rfl (by kernel_rfl) (by kernel_rfl) (by kernel_rfl) (by kernel_rfl) (by decide) (by kernel_rfl) (by assumption) ?_
                      apply Exists.intro; refine ⟨fun _ _ _ h => h, Or.inl ⟨by rfl, fun V hV => ?_⟩, ?_⟩
                      (focus ((try dsimp only at hV); go_simp; (try (with_reducible rfl)); done))
                      try simp only [Act.put, List.setIfInBounds_toArray, List.set_cons_zero, List.set_cons_succ]
                      refine wpL.take' (i := 18) rfl (by kernel_rfl) (by kernel_rfl) (by kernel_rfl) (by kernel_rfl) (by decide) (by kernel_rfl) (by assumption) ?_
                      apply Exists.intro; refine ⟨fun _ _ _ h => h, Or.inl ⟨by rfl, fun V hV => ?_⟩, ?_⟩
                      (focus ((try dsimp only at hV); go_simp; (try (with_reducible rfl)); done))
                      try simp only [Act.put, List.setIfInBounds_toArray, List.set_cons_zero, List.set_cons_succ]
                      refine wpL.one (i := 19) (by kernel_rfl) rfl fun K hK => ?_
                      rw [if_pos (by rfl)]
                      go_simp
                      ((first | (go_at_call 37; refine calls_below (W0 := V1) ?_ fun hpre => ?_; (repeat (first | exact Below.refl _ _ | refine Below.alloc ?_ (by simp; try omega) _ | refine Below.drew ?_)); refine (hap.out _ _ _ (up_of hpre hsl)).mono ?_; rintro e N2 ⟨rfl, hb1⟩; have hb := Up.trans hpre hb1; clear hpre; (first | have hs_N2 := below_alloc_lt hb1 | have hs_N2 := below_alloc_lt (drewB hb1) | skip); (try replace hR := up_of hb hR); (try replace hh0 := up_of hb hh0); (try replace r0 := up_of hb r0); (try replace n2 := up_of hb n2); (try replace e0 := up_of hb e0); (try replace t1 := up_of hb t1); (try replace hsl := up_of hb hsl); (first | have nB := new_up hb1 | have nB := new_up (drewB hb1) | (try replace nB := up_of hb nB)); (obtain ⟨wck, wfk⟩ := hR.ls.cell hkL))))
                      try clear hHeld
                      refine hK.out _ _ ?_ (fun hHeld => ?_)
                      (focus ((first | exact ⟨hh0, r0, n2, e0, t1⟩ | ((first | (with_reducible exact ⟨hh0, r0, n2, e0, t1⟩) | ((try dsimp only); (repeat' apply And.intro) <;> (repeat (first | (with_reducible assumption) | (with_reducible refine cell_set (by simp; try omega) ?_) | (with_reducible refine cell_drew ?_) | (with_reducible refine cell_alloc ?_ _))))))); done))
                      clear hK K
                      try simp only [Act.put, List.setIfInBounds_toArray, List.set_cons_zero, List.set_cons_succ]
                      refine wpL.take' (i := 20) rfl (by kernel_rfl) (by kernel_rfl) (by kernel_rfl) (by kernel_rfl) (by decide) (by kernel_rfl) (by assumption) ?_
                      apply Exists.intro; refine ⟨fun _ _ _ h => h, Or.inl ⟨by rfl, fun V hV => ?_⟩, ?_⟩
                      (focus ((try dsimp only at hV); go_simp; (try (with_reducible rfl)); done))
                      try simp only [Act.put, List.setIfInBounds_toArray, List.set_cons_zero, List.set_cons_succ]
                      refine wpL.last (by kernel_rfl) (by kernel_rfl) rfl fun K hK => ?_
                      rw [if_pos (by rfl)]
                      go_simp
                      refine hK.out _ _ (wpL.fin (by kernel_rfl) ?_ _)
                      clear hK K
                      try simp only [Act.put, List.setIfInBounds_toArray, List.set_cons_zero, List.set_cons_succ]
                      have hdn2 : ∀ k', k' < N → (f k' < q ∨ k' ∈ ks.take (x + 1)) → (L.set k (appl X.op r)).getD k' 0 = vlN K P k' := fun k' hk' h => by
                        rw [getD_set hkL]
                        by_cases e : k = k'
                        · rw [if_pos e, ← e, hVK.out, hvk]
                        · rw [if_neg e]
                          refine hdn.out k' hk' ?_
                          rcases h with h | h
                          · exact .inl h
                          · rw [htk.out] at h
                            rcases List.mem_append.1 h with h | h
                            · exact .inr h
                            · simp at h; exact absurd h.symm e
                      have hR2 := hR.set k (appl X.op r)
                      replace hdn2 := Lib.hid hdn2; replace hR2 := Lib.hid hR2; replace hvk := Lib.hid hvk
                      clear hR hdn hown hsl hap hBY hb hb1 hX1
                      go_wp2
                      go_roundw
                      case rel => exact ⟨x + 1, _, by omega, rfl, hR2.out, hdn2.out⟩
                      case measure => exact meas hlx
                · obtain rfl : x = ks.length := by omega
                  have hdn2 : ∀ k, k < N → f k < q + 1 → L.getD k 0 = vlN K P k := fun k hk h => by
                    refine hdn.out k hk ?_
                    by_cases e : f k < q
                    · exact .inl e
                    · rw [List.take_length]; exact .inr ((hmem.out k).2 ⟨hk, by omega⟩)
                  replace hdn2 := Lib.hid hdn2
                  clear hdn hrw
                  go_wp2
                  go_roundw
                  case rel => exact ⟨q + 1, L, by omega, by omega, rfl, hR, hdn2⟩
                  case measure => exact meas hlq
            · obtain rfl : q = M := by omega
              have c1 : ¬ (q : Int) ≤ (m : Int) := by have := hmM.out; omega
              have hlen := hR.ls.len
              have hLL : L = LL := hend.out L hlen fun k hk => hdn.out k hk (htM.out k hk)
              subst hLL
              have hsl : SlS intE wr (some ⟨w.heap.size, 0, none⟩) L := by
                have h2 := hR.ls.l0
                rw [← hlen] at h2
                exact SlS.of_own (E := intE) (base := w.heap.size) (e := 3) (cap := L.length) h2
              have hbe := hR.ls.be
              replace hsl := Lib.hid hsl; replace hlen := Lib.hid hlen; replace hbe := Lib.hid hbe
              clear hdn hend hR
              go_wp2
              go_ret
              exact ⟨⟨_, rfl, hsl.out⟩, hbe.out⟩
end
end Go.Proofs.Ytadmnlkgefbhcaa
