/- Which lists are chains: the program. -/
import Derived.Test.YtakbpjgnjfigcaaGreatB11
import Derived.Test.YtakbpjgnjfigcaaGreatUses
import Derived.Test.YtakbpjgnjfigcaaGreatB7
namespace Go.Proofs.YtakbpjgnjfigcaaGreat
open Go.RowKit Go.Maps

/-- Whether element i of a list is one, and uses the one ahead of it. -/
def stepB (K : List Vv) (P : List Pt) (L : List Ar) (i : Nat) : Bool := isEl K P (L.getD i default).v (L.getD i default).p && (i == 0 || (useN K P (elNum P (L.getD i default))).contains (elNum P (L.getD (i - 1) default)))
def chB (K : List Vv) (P : List Pt) (L : List Ar) : Bool := (List.range L.length).all (stepB K P L)
theorem chB_no {K : List Vv} {P : List Pt} {L : List Ar} {i : Nat} (hi : i < L.length) (h : stepB K P L i = false) : chB K P L = false := by
  unfold chB
  rw [List.all_eq_false]
  exact ⟨i, List.mem_range.2 hi, by rw [h]; simp⟩
theorem chB_yes {K : List Vv} {P : List Pt} {L : List Ar} (h : ∀ i, i < L.length → stepB K P L i = true) : chB K P L = true := by
  unfold chB
  rw [List.all_eq_true]
  exact fun i hi => h i (List.mem_range.1 hi)
theorem getD_el {L : List Ar} {i : Nat} (h : i < L.length) : L.getD i default = L[i] := by rw [List.getD_eq_getElem?_getD, List.getElem?_eq_getElem h]; rfl
section
variable {g : Nat} {n : Int} {s : Option Addr} {cap : Nat} {l : List Iq} {s2 : Option Addr} {cq : Nat} {K : List Vv} {sp : Option Addr} {cp mb : Nat} {P : List Pt}
set_option maxRecDepth 100000 in
set_option maxHeartbeats 2000000 in
theorem nchain_c (sl : Option Addr) (cl : Nat) (L : List Ar) (w : World) (h : Net 126 w g n s cap l s2 cq K sp cp mb P) (ok : NetOk n K P) (hs : SlS arE w sl L) (hl : L.length ≤ 5000) (hI : ∀ y ∈ L, y.p.I64) :
    Calls Tryz.prog 52 #[.pointer (some ⟨g, 0, none⟩), .slice sl L.length cl] w fun e w' => ((chB K P L = true ∧ ∃ v, e = .returned (.tuple #[v, .bool true]) ∧ w'.ownsRow w.heap.size 3 1 v L.length (intE.all (toI (L.map (elNum P))))) ∨ (chB K P L = false ∧ e = .returned (.tuple #[.slice none 0 0, .bool false]))) ∧ Below w.heap.size w w' := by
  have hfd := fun (y : Ar) (hy : y.p.I64) V (h : Net 126 V g n s cap l s2 cq K sp cp mb P) => find_c y V h ok hy
  have hus := fun k u (hk : k < K.length * P.length) V (h : Net 126 V g n s cap l s2 cq K sp cp mb P) => uses_c k u V h ok hk
  have hyes := fun (h : ∀ i, i < L.length → stepB K P L i = true) => chB_yes h
  have hno := fun i (hi : i < L.length) (h : stepB K P L i = false) => chB_no hi h
  have hst : ∀ i (hi : i < L.length), stepB K P L i = (isEl K P L[i].v L[i].p && (i == 0 || (useN K P (elNum P L[i])).contains (elNum P (L.getD (i - 1) default)))) := fun i hi => by unfold stepB; rw [getD_el hi]
  obtain ⟨CB, hCB⟩ : ∃ x, chB K P L = x := ⟨_, rfl⟩
  simp only [hCB] at hyes hno ⊢
  obtain ⟨M, hM⟩ : ∃ x, toI (L.map (elNum P)) = x := ⟨_, rfl⟩
  have hMl : M.length = L.length := by rw [← hM, toI_len]; simp
  have hMi : ∀ i (hi : i < L.length) (h : i < M.length), M[i] = ((elNum P L[i] : Nat) : Int) := fun i hi h => by subst hM; rw [toI_at h (by simpa using hi)]; simp
  rw [hM]
  clear hCB hM ok
  have hs0 := Lib.hid hs
  have h0 := Lib.hid h
  replace hfd := Lib.hid hfd; replace hus := Lib.hid hus; replace hyes := Lib.hid hyes; replace hno := Lib.hid hno; replace hst := Lib.hid hst; replace hMl := Lib.hid hMl; replace hMi := Lib.hid hMi; replace hI := Lib.hid hI
  obtain ⟨A, hA⟩ : ∃ A, A = w := ⟨_, rfl⟩
  have hYn : A.ownsRow A.heap.size 3 1 (.slice none 0 0) 0 (intE.all []) := World.ownsRow_nil _ _ _ _
  rw [hA] at hYn
  clear hA hs h
  go_enter Tryz.func52, Tryz.ntmps52
  go_wp2
  go_loopw [6, 13] (fun out ii V => ∃ (i : Nat) (r : List Int), i ≤ L.length ∧ ii = .int .i64 i ∧ Hid (r = M.take i) ∧ V.ownsRow w.heap.size 3 1 out r.length (intE.all r) ∧ Hid (∀ j, j < i → stepB K P L j = true) ∧ Below w.heap.size w V) (fun _ ii _ => L.length - (intOf ii).toNat)
  case atStart => exact ⟨0, [], by omega, rfl, Lib.hid (by simp), hYn, Lib.hid (fun j h => absurd h (by omega)), Below.refl _ _⟩
  case round =>
    clear hYn
    obtain ⟨i, r, hi, rfl, hr, hown, hok, hB⟩ := hrel
    have hBs := hB.size
    have hnt := up_of hB h0.out
    have hsl := up_of hB hs0.out
    by_cases hlt : i < L.length
    · obtain ⟨ba, oa, ea, hba, z0, z1, z2, z3⟩ := hsl.ar_at hlt
      obtain ⟨ba2, oa2, ea2, -⟩ := hs0.out.ar_at hlt
      cases ea2; cases ea
      have hiM : i < M.length := by rw [hMl.out]; exact hlt
      have hMi2 := hMi.out i hlt hiM
      have hrn : r ++ [M[i]] = M.take (i + 1) := by rw [hr.out, List.take_succ_eq_append_getElem hiM]
      have hrl : r.length = i := by rw [hr.out, List.length_take]; omega
      have hsti := hst.out i hlt
      have hyI := hI.out _ (List.getElem_mem hlt)
      have hno2 := fun h => hno.out i hlt h
      obtain ⟨mi, hmi⟩ : ∃ x, M[i] = x := ⟨_, rfl⟩
      rw [hmi] at hMi2 hrn
      obtain ⟨y, hy⟩ : ∃ x, L[i] = x := ⟨_, rfl⟩
      rw [hy] at z0 z1 z2 z3 hsti hMi2 hyI
      have hF := fun V h => hfd.out y hyI V h
      have hrb : ∀ j (hj : j < i) (h : j < r.length), r[j] = ((elNum P (L.getD j default) : Nat) : Int) := fun j hj h => by
        have hjL : j < L.length := by omega
        have := hMi.out j hjL (by rw [hMl.out]; exact hjL)
        rw [getD_el hjL, ← this]
        have e := hr.out
        subst e
        rw [List.getElem_take]
      obtain ⟨EB, hEB⟩ : ∃ x, isEl K P y.v y.p = x := ⟨_, rfl⟩
      simp only [hEB] at hF hsti
      obtain ⟨FN, hFN⟩ : ∃ x, elNum P y = x := ⟨_, rfl⟩
      simp only [hFN] at hF hsti hMi2
      obtain ⟨QQ, hQQ⟩ : ∃ x, (elOf P FN = y) = x := ⟨_, rfl⟩
      simp only [hQQ] at hF
      have i1 : (0 : Int) ≤ (i : Int) := by omega
      have i2 : (i : Int) < (L.length : Int) := by omega
      replace hF := Lib.hid hF; replace hsti := Lib.hid hsti; replace hMi2 := Lib.hid hMi2; replace hrn := Lib.hid hrn; replace hrl := Lib.hid hrl; replace hrb := Lib.hid hrb; replace hno2 := Lib.hid hno2; replace hmi := Lib.hid hmi; replace hy := Lib.hid hy; replace hEB := Lib.hid hEB; replace hFN := Lib.hid hFN; replace hQQ := Lib.hid hQQ
      clear hyI hr
      obtain ⟨yv, ⟨yx, yy, yz⟩⟩ := y
      simp only at z0 z1 z2 z3
      go_upto_region 5 with (fail)
      refine wp_world fun Y1 HY1 => ?_
      have hY1 : Below wr.heap.size wr Y1 := by rw [HY1.out]; (repeat (first | exact Below.refl _ _ | refine Below.alloc ?_ (by simp; try omega) _ | refine Below.setCell ?_ (by simp) _ | refine Below.drew ?_))
      have e0 : Y1.cell? ⟨wr.heap.size, 0, none⟩ = some (.int .i64 yv) := by rw [HY1.out]; simp [go_sem]
      have e1 : Y1.cell? ⟨wr.heap.size, 1, none⟩ = some (.int .i64 yx) := by rw [HY1.out]; simp [go_sem]
      have e2 : Y1.cell? ⟨wr.heap.size, 2, none⟩ = some (.int .i64 yy) := by rw [HY1.out]; simp [go_sem]
      have e3 : Y1.cell? ⟨wr.heap.size, 3, none⟩ = some (.int .i64 yz) := by rw [HY1.out]; simp [go_sem]
      have el : wr.heap.size < Y1.heap.size := World.block_lt_of_cell? Y1 _ e0
      try replace hnt := up_of hY1 hnt
      try replace hB := up_of hY1 hB
      try replace hown := up_of hY1 hown
      cases EB
      · have hfin := hno2.out (by rw [hsti.out]; rfl)
        replace hfin := Lib.hid hfin
        clear hsti hno hyes hno2
        go_wp2_with (first | (go_at_call 92; refine (hF.out _ hnt).mono ?_; rintro e W2 ⟨⟨z0', rfl, -⟩, hb⟩; (try replace hnt := up_of hb hnt); (try replace hB := up_of hb hB); (try replace hown := up_of hb hown); (try replace hY1 := up_of hb hY1); (try replace e0 := up_of hb e0); (try replace e1 := up_of hb e1); (try replace e2 := up_of hb e2); (try replace e3 := up_of hb e3); (try replace el := up_of hb el)))
        refine bodyPost_ret (results_tmp2 rfl _ _ _) rfl ?_
        exact ⟨.inr ⟨hfin.out, rfl⟩, hB⟩
      · go_upto_region 6 with (first | (go_at_call 92; refine (hF.out _ hnt).mono ?_; rintro e W2 ⟨⟨z0', rfl, hfn⟩, hb⟩; (try replace hnt := up_of hb hnt); (try replace hB := up_of hb hB); (try replace hown := up_of hb hown); (try replace hY1 := up_of hb hY1); (try replace e0 := up_of hb e0); (try replace e1 := up_of hb e1); (try replace e2 := up_of hb e2); (try replace e3 := up_of hb e3); (try replace el := up_of hb el)))
        obtain ⟨rfl, hFlt, -⟩ := hfn (by trivial)
        have hU := fun u V h => hus.out FN u hFlt V h
        replace hU := Lib.hid hU
        clear hfn
        obtain ⟨i0, hi0, hz0, hz1, hz2⟩ := info_parts info_int
        have hr5 : r.length ≤ 4999 := by rw [hrl.out]; omega
        by_cases hi0' : i = 0
        · have hi0'' : ¬ (0 : Int) < (i : Int) := by omega
          have hok2 : ∀ j, j < i + 1 → stepB K P L j = true := fun j hj => by
            have : j = i := by omega
            rw [this, hsti.out, hi0']; rfl
          replace hok2 := Lib.hid hok2
          replace hi0' := Lib.hid hi0'
          clear hok hsti
          have hBs2 := hB.size
          go_wp2_with (first | (at_builtin; refine wpList_append_own_at _ rfl _ _ 31 rfl w.heap.size 3 i0 _ 1 8 Tryz.underlying31 hi0 hz0 hz1 hz2 rfl (by decide) _ _ _ rfl (hown.alloc _) ⟨W2.heap.size, 0, none⟩ 1 1 [.int .i64 FN] rfl rfl (news_new _ _ _) (by simp [Value.oneCell']) (by unfold maxLen; omega) (by omega) (by simp; omega) ?_; intro v1 w1 hown1 hgrow hnil hat1))
          have hB1 : Below w.heap.size w w1 := (hB.alloc hBs2 _).grown hgrow (by simp; omega) (fun j e => (hown.lt j e).1)
          go_roundw
          case rel => exact ⟨i + 1, r ++ [mi], by omega, rfl, hrn, by rw [int_snoc, List.length_append, hMi2.out]; exact hown1, hok2, hB1⟩
          case measure => exact meas hlt
        · have hi0'' : (0 : Int) < (i : Int) := by omega
          have hir : i - 1 < r.length := by rw [hrl.out]; omega
          have hrv := hrb.out (i - 1) (by omega) hir
          obtain ⟨u, hu⟩ : ∃ u, elNum P (L.getD (i - 1) default) = u := ⟨_, rfl⟩
          rw [hu] at hrv
          have hsti2 := hsti.out
          rw [hu] at hsti2
          obtain ⟨so, co, eo, -⟩ := owns_shape hown
          obtain ⟨bo, oo, eo2, hbo, r0⟩ := (SlS.of_own (E := intE) (eo ▸ hown)).int_at hir
          subst eo
          cases eo2
          rw [hrv] at r0
          obtain ⟨p, hp⟩ : ∃ p, i - 1 = p := ⟨_, rfl⟩
          have hpi : (i : Int) - 1 = (p : Int) := by omega
          rw [hp] at r0
          have p1 : (0 : Int) ≤ (p : Int) := by omega
          have p2 : (p : Int) < (r.length : Int) := by omega
          have e0 : ((i : Nat) == 0) = false := by simpa using hi0'
          rw [e0, Bool.true_and, Bool.false_or] at hsti2
          have hU2 := fun V h => hU.out u V h
          obtain ⟨UB, hUB⟩ : ∃ x, (useN K P FN).contains u = x := ⟨_, rfl⟩
          rw [hUB] at hsti2
          simp only [hUB] at hU2
          have hpw : IntKind.i64.wrap ((i : Int) - 1) = (p : Int) := by rw [i64_small (by omega)]; exact hpi
          replace hi0' := Lib.hid hi0'; replace hp := Lib.hid hp; replace hu := Lib.hid hu; replace hrv := Lib.hid hrv; replace hUB := Lib.hid hUB; replace hU2 := Lib.hid hU2; replace hsti2 := Lib.hid hsti2
          clear hsti hU e0
          cases UB
          · have hfin := hno2.out hsti2.out
            replace hfin := Lib.hid hfin
            clear hno hyes hno2 hok
            go_wp2_with (first | (go_at_call 93; refine (hU2.out _ hnt).mono ?_; rintro e W3 ⟨rfl, hb⟩; (try replace hnt := up_of hb hnt); (try replace hB := up_of hb hB); (try replace hown := up_of hb hown); (try replace hY1 := up_of hb hY1); (try replace e0 := up_of hb e0); (try replace e1 := up_of hb e1); (try replace e2 := up_of hb e2); (try replace e3 := up_of hb e3); (try replace el := up_of hb el); (try replace r0 := up_of hb r0)))
            refine bodyPost_ret (results_tmp2 rfl _ _ _) rfl ?_
            exact ⟨.inr ⟨hfin.out, rfl⟩, hB⟩
          · have hok2 : ∀ j, j < i + 1 → stepB K P L j = true := fun j hj => by
              by_cases e : j < i
              · exact hok.out j e
              · have : j = i := by omega
                rw [this]; exact hsti2.out
            replace hok2 := Lib.hid hok2
            clear hok
            go_upto_region 8 with (first | (go_at_call 93; refine (hU2.out _ hnt).mono ?_; rintro e W3 ⟨rfl, hb⟩; (try replace hnt := up_of hb hnt); (try replace hB := up_of hb hB); (try replace hown := up_of hb hown); (try replace hY1 := up_of hb hY1); (try replace e0 := up_of hb e0); (try replace e1 := up_of hb e1); (try replace e2 := up_of hb e2); (try replace e3 := up_of hb e3); (try replace el := up_of hb el); (try replace r0 := up_of hb r0)))
            have hBs2 := hB.size
            go_wp2_with (first | (at_builtin; refine wpList_append_own_at _ rfl _ _ 31 rfl w.heap.size 3 i0 _ 1 8 Tryz.underlying31 hi0 hz0 hz1 hz2 rfl (by decide) _ _ _ rfl (hown.alloc _) ⟨W3.heap.size, 0, none⟩ 1 1 [.int .i64 FN] rfl rfl (news_new _ _ _) (by simp [Value.oneCell']) (by unfold maxLen; omega) (by omega) (by simp; omega) ?_; intro v1 w1 hown1 hgrow hnil hat1))
            have hB1 : Below w.heap.size w w1 := (hB.alloc hBs2 _).grown hgrow (by simp; omega) (fun j e => (hown.lt j e).1)
            go_roundw
            case rel => exact ⟨i + 1, r ++ [mi], by omega, rfl, hrn, by rw [int_snoc, List.length_append, hMi2.out]; exact hown1, hok2, hB1⟩
            case measure => exact meas hlt
    · obtain rfl : i = L.length := by omega
      have hrM : r = M := by rw [hr.out, ← hMl.out, List.take_length]
      subst hrM
      have hfin := hyes.out hok.out
      have hMl2 := hMl.out
      replace hfin := Lib.hid hfin
      have hown2 := Lib.hid (hMl2 ▸ hown)
      replace hMl2 := Lib.hid hMl2
      clear hok hr hown hno hyes
      go_wp2
      refine bodyPost_ret (results_tmp2 rfl _ _ _) rfl ?_
      exact ⟨.inl ⟨hfin.out, _, rfl, hown2.out⟩, hB⟩
end
end Go.Proofs.YtakbpjgnjfigcaaGreat
