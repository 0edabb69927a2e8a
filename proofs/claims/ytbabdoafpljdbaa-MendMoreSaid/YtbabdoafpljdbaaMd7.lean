/- The cells from which a column can go on: the program. -/
import Derived.Test.YtbabdoafpljdbaaMd6
import Derived.Stop.RegionWithIn
import Derived.Sort.CutIn
import Derived.Test.YtbabdoafpljdbaaLastIn
namespace Go.Proofs.Ytbabdoafpljdbaa
open Go.RowKit

attribute [local go_sem] Oper.semAt_some

theorem bkL_next {ss : List Sv} {pre : List (Nat × Sv)} {x : Nat × Sv} (h : pre ++ [x] <+: bkL ss) : ∃ m, ∃ (hm : m < ss.length), pre.length = ss.length - (m + 1) ∧ x = (m, ss[m]) := by
  have hl := h.length_le
  rw [List.length_append, bkL_len] at hl
  simp only [List.length_cons, List.length_nil] at hl
  have hm : ss.length - (pre.length + 1) < ss.length := by omega
  refine ⟨ss.length - (pre.length + 1), hm, by omega, ?_⟩
  have h1 := bkL_at hm
  obtain ⟨t, ht⟩ := h
  have h2 : (bkL ss)[pre.length]? = some x := by rw [← ht]; simp
  have e : ss.length - 1 - (ss.length - (pre.length + 1)) = pre.length := by omega
  simp only [e] at h1
  rw [List.getElem?_eq_getElem (by rw [bkL_len]; omega), h1] at h2
  exact (Option.some.inj h2).symm
/-- A statement that is the last of its sequence, with what follows under a name. -/
theorem wpIn_named {F : Fence} {n : Nat} {P : Program} {c : Code} {Q : Exit → Act → World → Prop} {a : Act} {w : World} (h : ∀ K : Act → World → Prop, Hid (∀ a w, Q .normal a w → K a w) → Hid (∀ a w, K a w → Q .normal a w) → c.wpIn F n P (Exit.then K Q) a w) : c.wpIn F n P Q a w := by
  refine wpIn_mono (h (fun a w => Q .normal a w) (fun _ _ h => h) (fun _ _ h => h)) ?_
  intro e a' w' hq
  cases e with
  | normal => exact hq
  | exit id => exact hq
  | goto l => exact hq
  | ret => exact hq
  | panic ch => exact hq
  | outgrown => exact hq
set_option maxRecDepth 100000 in
set_option maxHeartbeats 4000000 in
theorem ends_c (s : Option Addr) (cap : Nat) (R : List (List Bool)) (r wd : Nat) (w : World) (h : SlSS boolE w s R) (hl : 1 ≤ R.length ∧ R.length ≤ 8) (hw : ∀ row ∈ R, row.length = wd) (hwd : wd ≤ 12) (hr : r ≤ 3) :
    Calls Try.prog 75 #[.slice s R.length cap, .int .i64 r] w (TblRet (endL r R) w) := by
  obtain ⟨SS, h1, h2, h3⟩ := h
  obtain ⟨kb, ko, hs, hkb, -⟩ := h1.at (i := 0) (by omega)
  have hel := endL_len (r : Int) R
  have hE0 : endSt (r : Int) R 0 = List.replicate SS.length [] := by rw [endSt_zero, h2]
  have hEa : endSt (r : Int) R SS.length = endL r R := by rw [h2, endSt_all]
  have hfin : ∀ (g : Nat) ss' W, EndI w s cap SS.length r W ss' (endL r R) → ∃ s c ss, Value.slice (some ⟨w.heap.size + 2, 0, none⟩) SS.length SS.length = .slice s (endL (r : Int) R).length c ∧ Tbl boolE 75 4 W w.heap.size (.slice s (endL (r : Int) R).length c) ss (endL r R) := fun g ss' W hE => by
    rw [hel, ← h2]
    exact ⟨_, _, ss', rfl, hE.tb.mono (by omega)⟩
  have hlen := h2
  have hln1 : 1 ≤ SS.length ∧ SS.length ≤ 8 := by omega
  rw [← h2]
  refine calls_of_wp_marks Try.func75 rfl ?_
  simp only [Try.ntmps75, List.size_toArray, List.length_cons, List.length_nil, Nat.reduceAdd, Nat.reduceSub, Array.replicate_succ, Array.replicate_zero, List.push_toArray, List.append_toArray, List.nil_append, List.cons_append]
  have hmk : (Instr.makeSlice 63 (.int .i64 SS.length) (.int .i64 SS.length)).run Try.prog ((w.alloc (.cells #[.slice s SS.length cap] 63)).alloc (.cells #[.int .i64 r] 3)) = .ok (.slice (some ⟨w.heap.size + 2, 0, none⟩) SS.length SS.length) (((w.alloc (.cells #[.slice s SS.length cap] 63)).alloc (.cells #[.int .i64 r] 3)).alloc (.cells (List.replicate SS.length (Value.slice none 0 0)).toArray 75)) := by
    have := run_make_rows SS.length (by omega) ((w.alloc (.cells #[.slice s SS.length cap] 63)).alloc (.cells #[.int .i64 r] 3))
    simpa using this
  replace hfin := Lib.hid hfin; replace hE0 := Lib.hid hE0; replace hEa := Lib.hid hEa; replace hel := Lib.hid hel; replace hlen := Lib.hid hlen; replace h1 := Lib.hid h1; replace h2 := Lib.hid h2; replace h3 := Lib.hid h3; replace hs := Lib.hid hs
  go_upto_region 2 with (fail)
  refine wp_world fun X HX => ?_
  have hX : Below w.heap.size w X := by
    rw [HX.out]
    repeat (first | (with_reducible exact Below.refl _ _) | (with_reducible refine Below.drew ?_) | ((with_reducible refine Below.setC ?_ ?_); (focus (first | omega | (simp; done) | (simp; omega)))) | ((with_reducible refine Below.allo ?_ ?_); (focus (first | omega | (simp; done) | (simp; omega)))))
  have hXs : X.heap.size = w.heap.size + 4 := by rw [HX.out]; simp [World.setCell]
  have x0 : Row X w.heap.size 63 #[.slice s SS.length cap] := by
    rw [HX.out]
    refine Row.of ?_
    repeat (first | (with_reducible refine RowG.new ?_) | (with_reducible refine RowG.drew ?_) | (with_reducible refine RowG.set ?_) | ((with_reducible refine RowG.other ?_ ?_); (focus (first | omega | (simp; done) | (simp; omega)))) | ((with_reducible refine RowG.new' ?_ ?_); (focus (first | omega | (simp; done) | (simp; omega)))) | (with_reducible refine RowG.alloc ?_))
    rfl
  have x1 : Row X (w.heap.size + 1) 3 #[.int .i64 r] := by
    rw [HX.out]
    refine Row.of ?_
    repeat (first | (with_reducible refine RowG.new ?_) | (with_reducible refine RowG.drew ?_) | (with_reducible refine RowG.set ?_) | ((with_reducible refine RowG.other ?_ ?_); (focus (first | omega | (simp; done) | (simp; omega)))) | ((with_reducible refine RowG.new' ?_ ?_); (focus (first | omega | (simp; done) | (simp; omega)))) | (with_reducible refine RowG.alloc ?_))
    rfl
  have x2 : Row X (w.heap.size + 2) 75 (List.replicate SS.length (Value.slice none 0 0)).toArray := by
    rw [HX.out]
    refine Row.of ?_
    repeat (first | (with_reducible refine RowG.new ?_) | (with_reducible refine RowG.drew ?_) | (with_reducible refine RowG.set ?_) | ((with_reducible refine RowG.other ?_ ?_); (focus (first | omega | (simp; done) | (simp; omega)))) | ((with_reducible refine RowG.new' ?_ ?_); (focus (first | omega | (simp; done) | (simp; omega)))) | (with_reducible refine RowG.alloc ?_))
    rfl
  have x3 : Row X (w.heap.size + 3) 63 #[.slice (some ⟨w.heap.size + 2, 0, none⟩) SS.length SS.length] := by
    rw [HX.out]
    refine Row.of ?_
    repeat (first | (with_reducible refine RowG.new ?_) | (with_reducible refine RowG.drew ?_) | (with_reducible refine RowG.set ?_) | ((with_reducible refine RowG.other ?_ ?_); (focus (first | omega | (simp; done) | (simp; omega)))) | ((with_reducible refine RowG.new' ?_ ?_); (focus (first | omega | (simp; done) | (simp; omega)))) | (with_reducible refine RowG.alloc ?_))
    rfl
  clear HX hmk
  have hback := Lib.hid (backward_c s SS.length cap X)
  have c0 : X.cell? ⟨w.heap.size, 0, none⟩ = some (.slice s SS.length cap) := x0.cell rfl
  have c3 : X.cell? ⟨w.heap.size + 3, 0, none⟩ = some (.slice (some ⟨w.heap.size + 2, 0, none⟩) SS.length SS.length) := x3.cell rfl
  have bV : Below X.heap.size X (X.alloc (.cells #[.slice s SS.length cap] 63)) := (Below.refl _ X).alloc (Nat.le_refl _) _
  have hVs : (X.alloc (.cells #[.slice s SS.length cap] 63)).heap.size = w.heap.size + 5 := by simp; omega
  have v4 : (X.alloc (.cells #[.slice s SS.length cap] 63)).cell? ⟨w.heap.size + 4, 0, none⟩ = some (.slice s SS.length cap) := by rw [← hXs]; simp [go_sem]
  have hE : EndI w s cap SS.length r (X.alloc (.cells #[.slice s SS.length cap] 63)) (List.replicate SS.length ⟨none, 0, 0⟩) (endSt r R 0) := by
    rw [hE0.out]
    exact ⟨Tbl.made (Up.block bV x2) (Nat.le_refl _) (by omega), fun j hj g e => by simp [Sv.val, Value.ownBlock] at e, hX.trans (bV.mono (by omega)), Up.block bV x0, Up.block bV x1, Up.block bV x3, by omega⟩
  have hXV := hX.trans (bV.mono (by omega))
  obtain ⟨V, hV⟩ : ∃ V, X.alloc (.cells #[.slice s SS.length cap] 63) = V := ⟨_, rfl⟩
  rw [hV] at hVs v4 hE hXV
  rw [hV] at hback
  have hseq := back_iter (w.heap.size + 4) s cap SS V v4 (h1.out.up hXV) (by omega) (fun k => k = w.heap.size + 4 ∨ k = kb) (fun k hk => by omega) (.inl rfl) (fun k o e => by have := hs.out; rw [this] at e; cases e; exact .inr rfl)
  rw [← hXs] at hseq
  replace hE := Lib.hid hE
  clear x0 x1 x2 x3 bV v4 hV
  go_wp2_with (go_at_call 81; refine hback.out.mono ?_; rintro e V' ⟨rfl, rfl⟩)
  rw [hXs] at hseq
  clear c0 c3 hback
  refine' wp_rangeP rfl (fun _ _ => by simp [go_sem]) (S := fun k => k = w.heap.size + 4 ∨ k = kb) (fun k hk => by omega) hseq (fun _ => rfl) (fun pre W => ∃ ss', EndI w s cap SS.length r W ss' (endSt r R pre.length)) ?hI (fun pre W hp => by obtain ⟨ss', hp⟩ := hp; have := hp.sz; omega) ⟨_, hE.out⟩ _ ?assign ?body ?done
  case hI =>
    rintro pre A B ⟨ss', hp⟩ hu
    rw [hVs] at hu
    exact ⟨ss', hp.cellsUp hu⟩
  case assign =>
    intro l x W K hK
    simp only [encB, List.zip_toArray, List.zip_cons_cons, List.zip_nil_right, List.foldl_toArray, List.foldl_cons, List.foldl_nil, List.setIfInBounds_toArray, List.set_cons_zero, List.set_cons_succ]
    gi_wp2
    exact hK
  case body =>
    rintro l pre x W ⟨ss', hE⟩ hpre
    obtain ⟨m, hm, hk, rfl⟩ := bkL_next hpre
    clear hpre
    have hk2 : (pre ++ [(m, SS[m])]).length = R.length - m := by rw [List.length_append, hk]; have := hlen.out; simp; omega
    have hmR : m < R.length := by have := hlen.out; omega
    have eI : SS.length - (m + 1) = R.length - (m + 1) := by rw [hlen.out]
    rw [hk, eI] at hE
    clear eI
    obtain ⟨z1, z2, z3, -⟩ := h3.out m hmR hm
    have hrl := hw R[m] (List.getElem_mem hmR)
    have hput := endPX_put (r : Int) R hmR
    have hlast := fun e => endSt_last (r : Int) R (m := m) e
    have hmore := fun e => endSt_more (r : Int) R (m := m) e
    have hset := fun (x : Nat) (hx : x < R[m].length) => endPX_set (r : Int) R (m := m) (x := x) hmR hx
    have hprow := fun x => endPX_row (r : Int) R (m := m) x hmR
    have hplen := fun x => endPX_len (r : Int) R (m := m) x hmR
    have hpnext := fun x e => endPX_next (r : Int) R (m := m) x e
    have hnlen := fun e => endNext_len (r : Int) hw (m := m) e
    have hmix := fun (x : Nat) (hx : x < R[m].length) => mixE_at (r : Int) R[m] ((endL (r : Int) (R.drop (m + 1))).headD []) (x := x) hx
    have hmixl := fun (x : Nat) (hx : x ≤ R[m].length) => mixE_len (r : Int) R[m] ((endL (r : Int) (R.drop (m + 1))).headD []) (x := x) hx
    obtain ⟨⟨sa, sl, sc⟩, hsv⟩ : ∃ y, SS[m] = y := ⟨_, rfl⟩
    rw [hsv] at z1 z2 z3 hk2
    simp only [hsv]
    simp only at z1 z2 z3
    obtain ⟨row, hrow⟩ : ∃ y, R[m] = y := ⟨_, rfl⟩
    simp only [hrow] at z1 z2 hrl hput hset hprow hmix hmixl hmore
    subst z1
    have hWd : Below W.heap.size W W.drew := (Below.refl _ W).drew
    have hED := EndI.up hWd hE
    have hcl := bool_clone sa sc row W.drew (z2.up hED.be) z3 (by omega)
    have hiP : m < (endSt (r : Int) R (R.length - (m + 1))).length := by rw [endSt_len _ _ (by omega)]; exact hmR
    have c3 : W.cell? ⟨w.heap.size + 1 + 1 + 1, 0, none⟩ = some (.slice (some ⟨w.heap.size + 2, 0, none⟩) SS.length SS.length) := hE.b3.cell rfl
    have hnw : ∀ j (hj : j < ss'.length) g, ss'[j].val.ownBlock = some g → g < W.drew.heap.size := fun j hj g e => (hED.tb.lt hj e).2
    have hWs := hE.sz
    have i1 : (0 : Int) ≤ (m : Int) := by omega
    have i2 : (m : Int) < (SS.length : Int) := by omega
    have hrl12 : row.length ≤ 12 := by omega
    replace hrl := Lib.hid hrl
    replace hE := Lib.hid hE; replace hED := Lib.hid hED; replace hcl := Lib.hid hcl; replace hput := Lib.hid hput; replace hlast := Lib.hid hlast; replace hmore := Lib.hid hmore; replace hset := Lib.hid hset; replace hprow := Lib.hid hprow; replace hplen := Lib.hid hplen; replace hpnext := Lib.hid hpnext; replace hnlen := Lib.hid hnlen; replace hmix := Lib.hid hmix; replace hmixl := Lib.hid hmixl; replace hsv := Lib.hid hsv; replace hrow := Lib.hid hrow; replace hk2 := Lib.hid hk2; replace hnw := Lib.hid hnw; replace hk := Lib.hid hk; replace hw := Lib.hid hw
    clear z2 z3 hWd
    gi_wp2_with fail
    gi_cut [] from 18 (fun wx => (∃ ss2, EndI w s cap SS.length r wx ss2 (endPX r R m 0)) ∧ KeepsOthers W wx ∧ KeepUp (fun k => k = w.heap.size + 4 ∨ k = kb) W wx)
    case first =>
      gi_region_with (gi_at_call 71; refine (cir hcl.out).mono ?_; rintro e N1 ⟨s1, c1, rfl, hown, hb1⟩; have hE1 := up_of hb1 hED.out; obtain ⟨b', e', _, fz, hs', hc', _⟩ := hE1.tb.head (i := m) hiP; cases e'; have c3' : N1.cell? ⟨w.heap.size + 1 + 1 + 1, 0, none⟩ = some (.slice (some ⟨w.heap.size + 2, 0, none⟩) SS.length SS.length) := hE1.b3.cell rfl)
      all_goals
        gi_wp2_with fail
        gi_meet
        have hp := hE1.put (i := m) hiP hown (by simp; omega) hnw.out
        rw [hput.out] at hp
        have hdw : Below W.heap.size W N1 := ((Below.refl _ W).drew).trans hb1
        exact ⟨⟨_, hp⟩, (KeepsOthers.of_below hdw).trans (KeepsOthers.setCell _ _ _), (KeepUp.of_below hdw (fun k hk => by omega)).trans (KeepUp.setCell _ _ (fun k hk => by show k ≠ w.heap.size + 2; omega))⟩
    case rest =>
      obtain ⟨⟨ss2, hE2⟩, hKO, hKU⟩ := hcut
      clear hE hED hcl hiP c3 hnw
      have hcs := hE2.sz
      have b0 : wc.cell? ⟨w.heap.size, 0, none⟩ = some (.slice s SS.length cap) := hE2.b0.cell rfl
      have w1 : IntKind.i64.wrap ((SS.length : Int) - 1) = (SS.length : Int) - 1 := i64_small (by omega)
      by_cases hmH : m + 1 = SS.length
      · have hq : ((m : Int) == (SS.length : Int) - 1) = true := by rw [beq_iff_eq]; omega
        have hz : endPX r R m 0 = endSt r R (R.length - m) := hlast.out (by rw [← hlen.out]; exact hmH)
        rw [hz, ← hk2.out] at hE2
        replace hE2 := Lib.hid hE2; replace hmH := Lib.hid hmH
        clear hz
        gi_wp2
        exact ⟨hKO.from _, hKU, ss2, hE2.out⟩
      · have hq : ((m : Int) == (SS.length : Int) - 1) = false := by rw [beq_eq_false_iff_ne]; omega
        have hm1 : m + 1 < R.length := by have := hlen.out; omega
        have ho := hnlen.out hm1
        have hpn := fun x => hpnext.out x hm1
        obtain ⟨o, hoE⟩ : ∃ o, (endL (r : Int) (R.drop (m + 1))).headD [] = o := ⟨_, rfl⟩
        simp only [hoE] at ho hpn hset hprow hmix hmixl
        replace hoE := Lib.hid hoE; replace ho := Lib.hid ho; replace hpn := Lib.hid hpn; replace hmH := Lib.hid hmH
        replace hE2 := Lib.hid hE2
        gi_wp2
        gi_loopw [30] (fun ii V => ∃ (x : Nat) (ss3 : List Sv), x ≤ row.length ∧ ii = .int .i64 x ∧ EndI w s cap SS.length r V ss3 (endPX r R m x) ∧ KeepsOthers W V ∧ KeepUp (fun k => k = w.heap.size + 4 ∨ k = kb) W V) (fun ii _ => row.length - (intOf ii).toNat)
        case atStart => exact ⟨0, ss2, by omega, rfl, hE2.out, hKO, hKU⟩
        case round =>
          clear hE2 hKO hKU b0
          obtain ⟨x, ss3, hx, rfl, hE, hKO, hKU⟩ := hrel
          by_cases hlx : x < row.length
          · have b1 : wr.cell? ⟨w.heap.size + 1, 0, none⟩ = some (.int .i64 r) := hE.b1.cell rfl
            have b3 : wr.cell? ⟨w.heap.size + 1 + 1 + 1, 0, none⟩ = some (.slice (some ⟨w.heap.size + 2, 0, none⟩) SS.length SS.length) := hE.b3.cell rfl
            have w2 : IntKind.i64.wrap (-(r : Int)) = -(r : Int) := i64_small (by omega)
            have w3 : IntKind.i64.wrap ((row.length : Int) - 1) = (row.length : Int) - 1 := i64_small (by omega)
            have w4 : IntKind.i64.wrap ((m : Int) + 1) = (m : Int) + 1 := i64_small (by omega)
            have i3 : (0 : Int) ≤ (m : Int) + 1 := by omega
            have i4 : (m : Int) + 1 < (SS.length : Int) := by have := hlen.out; omega
            have i5 : (0 : Int) ≤ (x : Int) := by omega
            have i6 : (x : Int) < (row.length : Int) := by omega
            have hE3 := Lib.hid hE
            clear hE
            gi_wp2
            gi_loop [9, 10] (fun ok d => ∃ n : Nat, n ≤ 2 * r + 1 ∧ d = .int .i64 ((n : Int) - r) ∧ ok = .bool (okN o r x n)) (fun _ d => ((r : Int) + 1 - intOf d).toNat)
            case atStart => exact ⟨0, by omega, by congr 1; omega, rfl⟩
            case round =>
              obtain ⟨n, hn, rfl, rfl⟩ := hrel
              by_cases hln : n < 2 * r + 1
              · have hok := okN_succ o r x n
                have j1 : (n : Int) - (r : Int) ≤ (r : Int) := by omega
                have w5 : IntKind.i64.wrap ((n : Int) - (r : Int) + 1) = (n : Int) + 1 - (r : Int) := by rw [i64_small (by omega)]; omega
                obtain ⟨B, hB⟩ : ∃ B, okN o r x n = B := ⟨_, rfl⟩
                rw [hB] at hok ⊢
                replace hB := Lib.hid hB
                cases B
                · by_cases hb : 0 ≤ (x : Int) + ((n : Int) - r) ∧ (x : Int) + ((n : Int) - r) ≤ (row.length : Int) - 1
                  · obtain ⟨j, hj⟩ : ∃ j : Nat, (j : Int) = (x : Int) + ((n : Int) - r) := ⟨((x : Int) + ((n : Int) - r)).toNat, by omega⟩
                    have w6 : IntKind.i64.wrap ((x : Int) + ((n : Int) - (r : Int))) = (j : Int) := by rw [i64_small (by omega)]; omega
                    have hbw : bw 0 (j : Int) ((row.length : Int) - 1) = true := by rw [bw_iff]; omega
                    have hjo : j < o.length := by have := ho.out; have := hrl.out; omega
                    have hjP : j < ((endPX (r : Int) R m x)[m + 1]'(by rw [hplen.out]; exact hm1)).length := by rw [hpn.out]; exact hjo
                    obtain ⟨gi, ci, _, q0, q1, _, _⟩ := hE3.out.cell (i := m + 1) (j := j) (by rw [hplen.out]; exact hm1) hjP
                    simp only [hpn.out] at q0 q1
                    have hv : okN o r x (n + 1) = o[j] := by
                      rw [hok, Bool.false_or, show (x : Int) - r + n = (j : Int) by omega]
                      simp [List.getElem?_eq_getElem hjo]
                    have i7 : (0 : Int) ≤ (j : Int) := by omega
                    have i8 : (j : Int) < (o.length : Int) := by omega
                    obtain ⟨Z, hZ⟩ : ∃ Z, o[j] = Z := ⟨_, rfl⟩
                    rw [hZ] at q1 hv
                    replace hv := Lib.hid hv; replace hZ := Lib.hid hZ; replace hj := Lib.hid hj
                    clear hok hb hjP
                    gi_wp2_with (first | (gi_at_call 53; refine (cir (between_c _ _ _ _)).mono ?_; rintro e w' ⟨rfl, rfl⟩))
                    go_round
                    case rel => exact ⟨n + 1, by omega, by first | rfl | go_num, by rw [hv.out]⟩
                    case measure => simp [intOf] <;> omega
                  · have hbw : bw 0 ((x : Int) + ((n : Int) - r)) ((row.length : Int) - 1) = false := by
                      rw [Bool.eq_false_iff]; intro h; exact hb (bw_iff.1 h)
                    have w6 : IntKind.i64.wrap ((x : Int) + ((n : Int) - (r : Int))) = (x : Int) + ((n : Int) - (r : Int)) := i64_small (by omega)
                    have hv : okN o r x (n + 1) = false := by
                      rw [hok, Bool.false_or]
                      by_cases hz : 0 ≤ (x : Int) - r + n
                      · have : o.length ≤ ((x : Int) - r + n).toNat := by have := ho.out; have := hrl.out; omega
                        simp [List.getElem?_eq_none this]
                      · simp [hz]
                    replace hv := Lib.hid hv
                    clear hok hb
                    gi_wp2_with (first | (gi_at_call 53; refine (cir (between_c _ _ _ _)).mono ?_; rintro e w' ⟨rfl, rfl⟩))
                    go_round
                    case rel => exact ⟨n + 1, by omega, by first | rfl | go_num, by rw [hv.out]⟩
                    case measure => simp [intOf] <;> omega
                · have hv : okN o r x (n + 1) = true := by rw [hok]; rfl
                  replace hv := Lib.hid hv
                  clear hok
                  gi_wp2
                  go_round
                  case rel => exact ⟨n + 1, by omega, by first | rfl | go_num, by rw [hv.out]⟩
                  case measure => simp [intOf] <;> omega
              · obtain rfl : n = 2 * r + 1 := by omega
                have j1 : ¬ ((2 * r + 1 : Nat) : Int) - (r : Int) ≤ (r : Int) := by omega
                have j2 : ¬ 2 * (r : Int) + 1 - (r : Int) ≤ (r : Int) := by omega
                have hws3 := hE3.out.sz
                have hWd : Below wr.heap.size wr wr.drew := (Below.refl _ wr).drew
                have hED := EndI.up hWd hE3.out
                have hmP : m < (endPX (r : Int) R m x).length := by rw [hplen.out]; exact hmR
                have hxP : x < ((endPX (r : Int) R m x)[m]'hmP).length := by rw [hprow.out, hmixl.out x hx]; exact hlx
                obtain ⟨gi, ci, hgi, q0, q1, qf, _⟩ := hE3.out.cell (i := m) (j := x) hmP hxP
                obtain ⟨gi3, ci3, _, p0, _, _, pset⟩ := hED.cell (i := m) (j := x) hmP hxP
                have hgg : gi3 = gi := by
                  have : wr.drew.cell? ⟨w.heap.size + 2, m, none⟩ = wr.cell? ⟨w.heap.size + 2, m, none⟩ := rfl
                  rw [this, q0] at p0
                  simp at p0
                  exact p0.1.symm
                rw [hgg] at pset
                have hml := hmixl.out x hx
                have hma := hmix.out x hlx
                have hse := hset.out x hlx
                have hnat : (2 * (r : Int) + 1).toNat = 2 * r + 1 := by omega
                rw [hnat] at hse
                simp only [hprow.out] at q0 q1 pset
                simp only [hml] at q0
                simp only [hma] at q1
                have hps := pset (row[x] && okN o r x (2 * r + 1))
                rw [hse] at hps
                obtain ⟨bx, hbx⟩ : ∃ b, row[x] = b := ⟨_, rfl⟩
                obtain ⟨OK, hOK⟩ : ∃ b, okN o r x (2 * r + 1) = b := ⟨_, rfl⟩
                rw [hbx] at q1 hps
                rw [hOK] at hps ⊢
                have hko : KeepsOthers W (wr.drew.setCell ⟨gi, x, none⟩ (.bool (bx && OK))) := (hKO.trans (KeepsOthers.drew _)).trans (KeepsOthers.setCell _ _ _)
                have hku : KeepUp (fun k => k = w.heap.size + 4 ∨ k = kb) W (wr.drew.setCell ⟨gi, x, none⟩ (.bool (bx && OK))) := (hKU.trans (KeepUp.of_below hWd (fun k hk => by omega))).trans (KeepUp.setCell _ _ (fun k hk => by show k ≠ gi; omega))
                replace hps := Lib.hid hps; replace hko := Lib.hid hko; replace hku := Lib.hid hku; replace hbx := Lib.hid hbx; replace hOK := Lib.hid hOK
                clear pset p0 hED hWd hse hml hma hnat hgg
                have hfr : wr.drew.frozen? ⟨gi, x, none⟩ = false := qf
                clear hbx hOK
                cases bx
                · simp only [Bool.false_and, Bool.true_and] at hps hko hku
                  gi_wp2_with fail
                  refine wpL.regionIn (m := 16) (S := fun V => V.cell? ⟨w.heap.size + 1 + 1 + 1, 0, none⟩ = some (.slice (some ⟨w.heap.size + 2, 0, none⟩) SS.length SS.length) ∧ V.cell? ⟨w.heap.size + 2, m, none⟩ = some (.slice (some ⟨gi, 0, none⟩) row.length ci) ∧ V.cell? ⟨gi, x, none⟩ = some (.bool false)) (by kernel_rfl) (by kernel_rfl) ?_ (fun hHeld => ?_)
                  (focus ((first | exact ⟨b3, q0, q1⟩ | ((first | (with_reducible exact ⟨b3, q0, q1⟩) | ((try dsimp only); (repeat' apply And.intro) <;> (repeat (first | (with_reducible assumption) | (with_reducible refine cell_set (by simp; try omega) ?_) | (with_reducible refine cell_drew ?_) | (with_reducible refine cell_alloc ?_ _))))))); done))
                  refine wpL.take' (i := 0) rfl (by kernel_rfl) (by kernel_rfl) (by kernel_rfl) (by kernel_rfl) (by decide) (by kernel_rfl) (by assumption) ?_
                  apply Exists.intro; refine ⟨fun _ _ _ h => (by cases h.1), ?_, ?_⟩
                  (focus (first | (refine Or.inl ⟨by rfl, fun V hV => ?_⟩; ((try dsimp only at hV); go_simp; (try (with_reducible rfl)); done)) | exact Or.inr ⟨by rfl, rfl⟩))
                  try simp only [Act.put, List.setIfInBounds_toArray, List.set_cons_zero, List.set_cons_succ]
                  refine wpL.take' (i := 1) rfl (by kernel_rfl) (by kernel_rfl) (by kernel_rfl) (by kernel_rfl) (by decide) (by kernel_rfl) (by assumption) ?_
                  apply Exists.intro; refine ⟨fun _ _ _ h => (by cases h.1), ?_, ?_⟩
                  (focus (first | (refine Or.inl ⟨by rfl, fun V hV => ?_⟩; ((try dsimp only at hV); go_simp; (try (with_reducible rfl)); done)) | exact Or.inr ⟨by rfl, rfl⟩))
                  try simp only [Act.put, List.setIfInBounds_toArray, List.set_cons_zero, List.set_cons_succ]
                  refine wpL.take' (i := 2) rfl (by kernel_rfl) (by kernel_rfl) (by kernel_rfl) (by kernel_rfl) (by decide) (by kernel_rfl) (by assumption) ?_
                  apply Exists.intro; refine ⟨fun _ _ _ h => (by cases h.1), ?_, ?_⟩
                  (focus (first | (refine Or.inl ⟨by rfl, fun V hV => ?_⟩; ((try dsimp only at hV); go_simp; (try (with_reducible rfl)); done)) | exact Or.inr ⟨by rfl, rfl⟩))
                  try simp only [Act.put, List.setIfInBounds_toArray, List.set_cons_zero, List.set_cons_succ]
                  refine wpL.take' (i := 3) rfl (by kernel_rfl) (by kernel_rfl) (by kernel_rfl) (by kernel_rfl) (by decide) (by kernel_rfl) (by assumption) ?_
                  apply Exists.intro; refine ⟨fun _ _ _ h => (by cases h.1), ?_, ?_⟩
                  (focus (first | (refine Or.inl ⟨by rfl, fun V hV => ?_⟩; ((try dsimp only at hV); go_simp; (try (with_reducible rfl)); done)) | exact Or.inr ⟨by rfl, rfl⟩))
                  try simp only [Act.put, List.setIfInBounds_toArray, List.set_cons_zero, List.set_cons_succ]
                  refine wpL.take' (i := 4) rfl (by kernel_rfl) (by kernel_rfl) (by kernel_rfl) (by kernel_rfl) (by decide) (by kernel_rfl) (by assumption) ?_
                  apply Exists.intro; refine ⟨fun _ _ _ h => (by cases h.1), ?_, ?_⟩
                  (focus (first | (refine Or.inl ⟨by rfl, fun V hV => ?_⟩; ((try dsimp only at hV); go_simp; (try (with_reducible rfl)); done)) | exact Or.inr ⟨by rfl, rfl⟩))
                  try simp only [Act.put, List.setIfInBounds_toArray, List.set_cons_zero, List.set_cons_succ]
                  refine wpL.take' (i := 5) rfl (by kernel_rfl) (by kernel_rfl) (by kernel_rfl) (by kernel_rfl) (by decide) (by kernel_rfl) (by assumption) ?_
                  apply Exists.intro; refine ⟨fun _ _ _ h => (by cases h.1), ?_, ?_⟩
                  (focus (first | (refine Or.inl ⟨by rfl, fun V hV => ?_⟩; ((try dsimp only at hV); go_simp; (try (with_reducible rfl)); done)) | exact Or.inr ⟨by rfl, rfl⟩))
                  try simp only [Act.put, List.setIfInBounds_toArray, List.set_cons_zero, List.set_cons_succ]
                  refine wpL.take' (i := 6) rfl (by kernel_rfl) (by kernel_rfl) (by kernel_rfl) (by kernel_rfl) (by decide) (by kernel_rfl) (by assumption) ?_
                  apply Exists.intro; refine ⟨fun _ _ _ h => (by cases h.1), ?_, ?_⟩
                  (focus (first | (refine Or.inl ⟨by rfl, fun V hV => ?_⟩; ((try dsimp only at hV); go_simp; (try (with_reducible rfl)); done)) | exact Or.inr ⟨by rfl, rfl⟩))
                  try simp only [Act.put, List.setIfInBounds_toArray, List.set_cons_zero, List.set_cons_succ]
                  refine wpL.take' (i := 7) rfl (by kernel_rfl) (by kernel_rfl) (by kernel_rfl) (by kernel_rfl) (by decide) (by kernel_rfl) (by assumption) ?_
                  apply Exists.intro; refine ⟨fun _ _ _ h => (by cases h.1), ?_, ?_⟩
                  (focus (first | (refine Or.inl ⟨by rfl, fun V hV => ?_⟩; ((try dsimp only at hV); go_simp; (try (with_reducible rfl)); done)) | exact Or.inr ⟨by rfl, rfl⟩))
                  try simp only [Act.put, List.setIfInBounds_toArray, List.set_cons_zero, List.set_cons_succ]
                  refine wpL.take' (i := 8) rfl (by kernel_rfl) (by kernel_rfl) (by kernel_rfl) (by kernel_rfl) (by decide) (by kernel_rfl) (by assumption) ?_
                  apply Exists.intro; refine ⟨fun _ _ _ h => (by cases h.1), ?_, ?_⟩
                  (focus (first | (refine Or.inl ⟨by rfl, fun V hV => ?_⟩; ((try dsimp only at hV); go_simp; (try (with_reducible rfl)); done)) | exact Or.inr ⟨by rfl, rfl⟩))
                  try simp only [Act.put, List.setIfInBounds_toArray, List.set_cons_zero, List.set_cons_succ]
                  refine wpL.take' (i := 9) rfl (by kernel_rfl) (by kernel_rfl) (by kernel_rfl) (by kernel_rfl) (by decide) (by kernel_rfl) (by assumption) ?_
                  apply Exists.intro; refine ⟨fun _ _ _ h => (by cases h.1), ?_, ?_⟩
                  (focus (first | (refine Or.inl ⟨by rfl, fun V hV => ?_⟩; ((try dsimp only at hV); go_simp; (try (with_reducible rfl)); done)) | exact Or.inr ⟨by rfl, rfl⟩))
                  try simp only [Act.put, List.setIfInBounds_toArray, List.set_cons_zero, List.set_cons_succ]
                  refine wpL.take' (i := 10) rfl (by kernel_rfl) (by kernel_rfl) (by kernel_rfl) (by kernel_rfl) (by decide) (by kernel_rfl) (by assumption) ?_
                  apply Exists.intro; refine ⟨fun _ _ _ h => (by cases h.1), ?_, ?_⟩
                  (focus (first | (refine Or.inl ⟨by rfl, fun V hV => ?_⟩; ((try dsimp only at hV); go_simp; (try (with_reducible rfl)); done)) | exact Or.inr ⟨by rfl, rfl⟩))
                  try simp only [Act.put, List.setIfInBounds_toArray, List.set_cons_zero, List.set_cons_succ]
                  refine wpL.take' (i := 11) rfl (by kernel_rfl) (by kernel_rfl) (by kernel_rfl) (by kernel_rfl) (by decide) (by kernel_rfl) (by assumption) ?_
                  apply Exists.intro; refine ⟨fun _ _ _ h => (by cases h.1), ?_, ?_⟩
                  (focus (first | (refine Or.inl ⟨by rfl, fun V hV => ?_⟩; ((try dsimp only at hV); go_simp; (try (with_reducible rfl)); done)) | exact Or.inr ⟨by rfl, rfl⟩))
                  try simp only [Act.put, List.setIfInBounds_toArray, List.set_cons_zero, List.set_cons_succ]
                  refine wpL.take' (i := 12) rfl (by kernel_rfl) (by kernel_rfl) (by kernel_rfl) (by kernel_rfl) (by decide) (by kernel_rfl) (by assumption) ?_
                  apply Exists.intro; refine ⟨fun _ _ _ h => (by cases h.1), ?_, ?_⟩
                  (focus (first | (refine Or.inl ⟨by rfl, fun V hV => ?_⟩; ((try dsimp only at hV); go_simp; (try (with_reducible rfl)); done)) | exact Or.inr ⟨by rfl, rfl⟩))
                  try simp only [Act.put, List.setIfInBounds_toArray, List.set_cons_zero, List.set_cons_succ]
                  refine wpL.take' (i := 13) rfl (by kernel_rfl) (by kernel_rfl) (by kernel_rfl) (by kernel_rfl) (by decide) (by kernel_rfl) (by assumption) ?_
                  apply Exists.intro; refine ⟨fun _ _ _ h => (by cases h.1), ?_, ?_⟩
                  (focus (first | (refine Or.inl ⟨by rfl, fun V hV => ?_⟩; ((try dsimp only at hV); go_simp; (try (with_reducible rfl)); done)) | exact Or.inr ⟨by rfl, rfl⟩))
                  try simp only [Act.put, List.setIfInBounds_toArray, List.set_cons_zero, List.set_cons_succ]
                  refine wpL.take' (i := 14) rfl (by kernel_rfl) (by kernel_rfl) (by kernel_rfl) (by kernel_rfl) (by decide) (by kernel_rfl) (by assumption) ?_
                  apply Exists.intro; refine ⟨fun _ _ _ h => (by cases h.1), ?_, ?_⟩
                  (focus (first | (refine Or.inl ⟨by rfl, fun V hV => ?_⟩; ((try dsimp only at hV); go_simp; (try (with_reducible rfl)); done)) | exact Or.inr ⟨by rfl, rfl⟩))
                  try simp only [Act.put, List.setIfInBounds_toArray, List.set_cons_zero, List.set_cons_succ]
                  refine wpL.take' (i := 15) rfl (by kernel_rfl) (by kernel_rfl) (by kernel_rfl) (by kernel_rfl) (by decide) (by kernel_rfl) (by assumption) ?_
                  apply Exists.intro; refine ⟨fun _ _ _ h => (by cases h.1), ?_, ?_⟩
                  (focus (first | (refine Or.inl ⟨by rfl, fun V hV => ?_⟩; ((try dsimp only at hV); go_simp; (try (with_reducible rfl)); done)) | exact Or.inr ⟨by rfl, rfl⟩))
                  try simp only [Act.put, List.setIfInBounds_toArray, List.set_cons_zero, List.set_cons_succ]
                  refine wpL.last (by kernel_rfl) (by kernel_rfl) rfl fun K hK => ?_
                  rw [if_pos (by rfl)]
                  go_simp
                  refine hK.out _ _ (wpL.fin (by kernel_rfl) ?_ _)
                  clear hK K
                  try simp only [Act.put, List.setIfInBounds_toArray, List.set_cons_zero, List.set_cons_succ]
                  refine ⟨rfl, ?_⟩
                  gi_wp2
                  go_roundw
                  case rel => exact ⟨x + 1, ss3, by omega, by go_num, hps.out, hko.out, hku.out⟩
                  case measure => exact meas hlx
                · simp only [Bool.false_and, Bool.true_and] at hps hko hku
                  gi_wp2_with fail
                  refine wpL.regionIn (m := 16) (S := fun V => V.cell? ⟨w.heap.size + 1 + 1 + 1, 0, none⟩ = some (.slice (some ⟨w.heap.size + 2, 0, none⟩) SS.length SS.length) ∧ V.cell? ⟨w.heap.size + 2, m, none⟩ = some (.slice (some ⟨gi, 0, none⟩) row.length ci) ∧ V.cell? ⟨gi, x, none⟩ = some (.bool true)) (by kernel_rfl) (by kernel_rfl) ?_ (fun hHeld => ?_)
                  (focus ((first | exact ⟨b3, q0, q1⟩ | ((first | (with_reducible exact ⟨b3, q0, q1⟩) | ((try dsimp only); (repeat' apply And.intro) <;> (repeat (first | (with_reducible assumption) | (with_reducible refine cell_set (by simp; try omega) ?_) | (with_reducible refine cell_drew ?_) | (with_reducible refine cell_alloc ?_ _))))))); done))
                  refine wpL.take' (i := 0) rfl (by kernel_rfl) (by kernel_rfl) (by kernel_rfl) (by kernel_rfl) (by decide) (by kernel_rfl) (by assumption) ?_
                  apply Exists.intro; refine ⟨fun _ _ _ h => (by cases h.1), ?_, ?_⟩
                  (focus (first | (refine Or.inl ⟨by rfl, fun V hV => ?_⟩; ((try dsimp only at hV); go_simp; (try (with_reducible rfl)); done)) | exact Or.inr ⟨by rfl, rfl⟩))
                  try simp only [Act.put, List.setIfInBounds_toArray, List.set_cons_zero, List.set_cons_succ]
                  refine wpL.take' (i := 1) rfl (by kernel_rfl) (by kernel_rfl) (by kernel_rfl) (by kernel_rfl) (by decide) (by kernel_rfl) (by assumption) ?_
                  apply Exists.intro; refine ⟨fun _ _ _ h => (by cases h.1), ?_, ?_⟩
                  (focus (first | (refine Or.inl ⟨by rfl, fun V hV => ?_⟩; ((try dsimp only at hV); go_simp; (try (with_reducible rfl)); done)) | exact Or.inr ⟨by rfl, rfl⟩))
                  try simp only [Act.put, List.setIfInBounds_toArray, List.set_cons_zero, List.set_cons_succ]
                  refine wpL.take' (i := 2) rfl (by kernel_rfl) (by kernel_rfl) (by kernel_rfl) (by kernel_rfl) (by decide) (by kernel_rfl) (by assumption) ?_
                  apply Exists.intro; refine ⟨fun _ _ _ h => (by cases h.1), ?_, ?_⟩
                  (focus (first | (refine Or.inl ⟨by rfl, fun V hV => ?_⟩; ((try dsimp only at hV); go_simp; (try (with_reducible rfl)); done)) | exact Or.inr ⟨by rfl, rfl⟩))
                  try simp only [Act.put, List.setIfInBounds_toArray, List.set_cons_zero, List.set_cons_succ]
                  refine wpL.take' (i := 3) rfl (by kernel_rfl) (by kernel_rfl) (by kernel_rfl) (by kernel_rfl) (by decide) (by kernel_rfl) (by assumption) ?_
                  apply Exists.intro; refine ⟨fun _ _ _ h => (by cases h.1), ?_, ?_⟩
                  (focus (first | (refine Or.inl ⟨by rfl, fun V hV => ?_⟩; ((try dsimp only at hV); go_simp; (try (with_reducible rfl)); done)) | exact Or.inr ⟨by rfl, rfl⟩))
                  try simp only [Act.put, List.setIfInBounds_toArray, List.set_cons_zero, List.set_cons_succ]
                  refine wpL.take' (i := 4) rfl (by kernel_rfl) (by kernel_rfl) (by kernel_rfl) (by kernel_rfl) (by decide) (by kernel_rfl) (by assumption) ?_
                  apply Exists.intro; refine ⟨fun _ _ _ h => (by cases h.1), ?_, ?_⟩
                  (focus (first | (refine Or.inl ⟨by rfl, fun V hV => ?_⟩; ((try dsimp only at hV); go_simp; (try (with_reducible rfl)); done)) | exact Or.inr ⟨by rfl, rfl⟩))
                  try simp only [Act.put, List.setIfInBounds_toArray, List.set_cons_zero, List.set_cons_succ]
                  refine wpL.take' (i := 5) rfl (by kernel_rfl) (by kernel_rfl) (by kernel_rfl) (by kernel_rfl) (by decide) (by kernel_rfl) (by assumption) ?_
                  apply Exists.intro; refine ⟨fun _ _ _ h => (by cases h.1), ?_, ?_⟩
                  (focus (first | (refine Or.inl ⟨by rfl, fun V hV => ?_⟩; ((try dsimp only at hV); go_simp; (try (with_reducible rfl)); done)) | exact Or.inr ⟨by rfl, rfl⟩))
                  try simp only [Act.put, List.setIfInBounds_toArray, List.set_cons_zero, List.set_cons_succ]
                  refine wpL.take' (i := 6) rfl (by kernel_rfl) (by kernel_rfl) (by kernel_rfl) (by kernel_rfl) (by decide) (by kernel_rfl) (by assumption) ?_
                  apply Exists.intro; refine ⟨fun _ _ _ h => (by cases h.1), ?_, ?_⟩
                  (focus (first | (refine Or.inl ⟨by rfl, fun V hV => ?_⟩; ((try dsimp only at hV); go_simp; (try (with_reducible rfl)); done)) | exact Or.inr ⟨by rfl, rfl⟩))
                  try simp only [Act.put, List.setIfInBounds_toArray, List.set_cons_zero, List.set_cons_succ]
                  refine wpL.take' (i := 7) rfl (by kernel_rfl) (by kernel_rfl) (by kernel_rfl) (by kernel_rfl) (by decide) (by kernel_rfl) (by assumption) ?_
                  apply Exists.intro; refine ⟨fun _ _ _ h => (by cases h.1), ?_, ?_⟩
                  (focus (first | (refine Or.inl ⟨by rfl, fun V hV => ?_⟩; ((try dsimp only at hV); go_simp; (try (with_reducible rfl)); done)) | exact Or.inr ⟨by rfl, rfl⟩))
                  try simp only [Act.put, List.setIfInBounds_toArray, List.set_cons_zero, List.set_cons_succ]
                  refine wpL.take' (i := 8) rfl (by kernel_rfl) (by kernel_rfl) (by kernel_rfl) (by kernel_rfl) (by decide) (by kernel_rfl) (by assumption) ?_
                  apply Exists.intro; refine ⟨fun _ _ _ h => (by cases h.1), ?_, ?_⟩
                  (focus (first | (refine Or.inl ⟨by rfl, fun V hV => ?_⟩; ((try dsimp only at hV); go_simp; (try (with_reducible rfl)); done)) | exact Or.inr ⟨by rfl, rfl⟩))
                  try simp only [Act.put, List.setIfInBounds_toArray, List.set_cons_zero, List.set_cons_succ]
                  refine wpL.take' (i := 9) rfl (by kernel_rfl) (by kernel_rfl) (by kernel_rfl) (by kernel_rfl) (by decide) (by kernel_rfl) (by assumption) ?_
                  apply Exists.intro; refine ⟨fun _ _ _ h => (by cases h.1), ?_, ?_⟩
                  (focus (first | (refine Or.inl ⟨by rfl, fun V hV => ?_⟩; ((try dsimp only at hV); go_simp; (try (with_reducible rfl)); done)) | exact Or.inr ⟨by rfl, rfl⟩))
                  try simp only [Act.put, List.setIfInBounds_toArray, List.set_cons_zero, List.set_cons_succ]
                  refine wpL.take' (i := 10) rfl (by kernel_rfl) (by kernel_rfl) (by kernel_rfl) (by kernel_rfl) (by decide) (by kernel_rfl) (by assumption) ?_
                  apply Exists.intro; refine ⟨fun _ _ _ h => (by cases h.1), ?_, ?_⟩
                  (focus (first | (refine Or.inl ⟨by rfl, fun V hV => ?_⟩; ((try dsimp only at hV); go_simp; (try (with_reducible rfl)); done)) | exact Or.inr ⟨by rfl, rfl⟩))
                  try simp only [Act.put, List.setIfInBounds_toArray, List.set_cons_zero, List.set_cons_succ]
                  refine wpL.take' (i := 11) rfl (by kernel_rfl) (by kernel_rfl) (by kernel_rfl) (by kernel_rfl) (by decide) (by kernel_rfl) (by assumption) ?_
                  apply Exists.intro; refine ⟨fun _ _ _ h => (by cases h.1), ?_, ?_⟩
                  (focus (first | (refine Or.inl ⟨by rfl, fun V hV => ?_⟩; ((try dsimp only at hV); go_simp; (try (with_reducible rfl)); done)) | exact Or.inr ⟨by rfl, rfl⟩))
                  try simp only [Act.put, List.setIfInBounds_toArray, List.set_cons_zero, List.set_cons_succ]
                  refine wpL.take' (i := 12) rfl (by kernel_rfl) (by kernel_rfl) (by kernel_rfl) (by kernel_rfl) (by decide) (by kernel_rfl) (by assumption) ?_
                  apply Exists.intro; refine ⟨fun _ _ _ h => (by cases h.1), ?_, ?_⟩
                  (focus (first | (refine Or.inl ⟨by rfl, fun V hV => ?_⟩; ((try dsimp only at hV); go_simp; (try (with_reducible rfl)); done)) | exact Or.inr ⟨by rfl, rfl⟩))
                  try simp only [Act.put, List.setIfInBounds_toArray, List.set_cons_zero, List.set_cons_succ]
                  refine wpL.take' (i := 13) rfl (by kernel_rfl) (by kernel_rfl) (by kernel_rfl) (by kernel_rfl) (by decide) (by kernel_rfl) (by assumption) ?_
                  apply Exists.intro; refine ⟨fun _ _ _ h => (by cases h.1), ?_, ?_⟩
                  (focus (first | (refine Or.inl ⟨by rfl, fun V hV => ?_⟩; ((try dsimp only at hV); go_simp; (try (with_reducible rfl)); done)) | exact Or.inr ⟨by rfl, rfl⟩))
                  try simp only [Act.put, List.setIfInBounds_toArray, List.set_cons_zero, List.set_cons_succ]
                  refine wpL.take' (i := 14) rfl (by kernel_rfl) (by kernel_rfl) (by kernel_rfl) (by kernel_rfl) (by decide) (by kernel_rfl) (by assumption) ?_
                  apply Exists.intro; refine ⟨fun _ _ _ h => (by cases h.1), ?_, ?_⟩
                  (focus (first | (refine Or.inl ⟨by rfl, fun V hV => ?_⟩; ((try dsimp only at hV); go_simp; (try (with_reducible rfl)); done)) | exact Or.inr ⟨by rfl, rfl⟩))
                  try simp only [Act.put, List.setIfInBounds_toArray, List.set_cons_zero, List.set_cons_succ]
                  refine wpL.take' (i := 15) rfl (by kernel_rfl) (by kernel_rfl) (by kernel_rfl) (by kernel_rfl) (by decide) (by kernel_rfl) (by assumption) ?_
                  apply Exists.intro; refine ⟨fun _ _ _ h => (by cases h.1), ?_, ?_⟩
                  (focus (first | (refine Or.inl ⟨by rfl, fun V hV => ?_⟩; ((try dsimp only at hV); go_simp; (try (with_reducible rfl)); done)) | exact Or.inr ⟨by rfl, rfl⟩))
                  try simp only [Act.put, List.setIfInBounds_toArray, List.set_cons_zero, List.set_cons_succ]
                  refine wpL.last (by kernel_rfl) (by kernel_rfl) rfl fun K hK => ?_
                  rw [if_pos (by rfl)]
                  go_simp
                  refine hK.out _ _ (wpL.fin (by kernel_rfl) ?_ _)
                  clear hK K
                  try simp only [Act.put, List.setIfInBounds_toArray, List.set_cons_zero, List.set_cons_succ]
                  refine ⟨rfl, ?_⟩
                  gi_wp2
                  go_roundw
                  case rel => exact ⟨x + 1, ss3, by omega, by go_num, hps.out, hko.out, hku.out⟩
                  case measure => exact meas hlx
          · obtain rfl : x = row.length := by omega
            have hz : endPX r R m row.length = endSt r R (R.length - m) := hmore.out hm1
            rw [hz, ← hk2.out] at hE
            replace hE := Lib.hid hE
            clear hz
            gi_wp2
            exact ⟨hKO.from _, hKU, ss3, hE.out⟩
  case done =>
    rintro D W hD ⟨ss', hE⟩ hK
    have e1 : (bkL SS).length = SS.length := bkL_len SS
    rw [e1, hEa.out] at hE
    have c3 : W.cell? ⟨w.heap.size + 1 + 1 + 1, 0, none⟩ = some (.slice (some ⟨w.heap.size + 2, 0, none⟩) SS.length SS.length) := hE.b3.cell rfl
    have hWs := hE.sz
    have hu := marks_up (n := w.heap.size + 5) hWs (by omega) hK
    have hE2 := hE.cellsUp hu
    obtain ⟨s', c', ss2, e2, htb⟩ := hfin.out 0 ss' _ hE2
    have hbe := hE2.be
    rw [hVs] at hD
    replace htb := Lib.hid htb; replace e2 := Lib.hid e2; replace hbe := Lib.hid hbe
    clear hE hE2 e1
    go_wp2
    refine marks_ret hK (results_tmp rfl _ _ _) ⟨s', c', ss2, by rw [← e2.out]; rfl, htb.out, hbe.out⟩
end Go.Proofs.Ytbabdoafpljdbaa
