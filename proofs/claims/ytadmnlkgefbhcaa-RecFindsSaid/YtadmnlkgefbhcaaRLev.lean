/- The levels of all elements: the reference. -/
import Derived.Test.YtadmnlkgefbhcaaVis
import Derived.Test.YtadmnlkgefbhcaaB7
namespace Go.Proofs.Ytadmnlkgefbhcaa
open Go.RowKit Go.Maps

section
variable {g : Nat} {n : Int} {s : Option Addr} {cap : Nat} {l : List Iq} {s2 : Option Addr} {cq : Nat} {K : List Vv} {sp : Option Addr} {cp mb : Nat} {P : List Pt}
set_option maxRecDepth 100000 in
set_option maxHeartbeats 2000000 in
theorem rlevels_c (w : World) (h : Net 64 w g n s cap l s2 cq K sp cp mb P) (ok : NetOk n K P) :
    Calls Try.prog 60 #[.pointer (some ⟨g, 0, none⟩)] w fun e w' => ((okN2 K P ∧ ∃ b, e = .returned (.tuple #[.slice (some ⟨b, 0, none⟩) (K.length * P.length) (K.length * P.length), .bool true]) ∧ SlS intE w' (some ⟨b, 0, none⟩) (lvsL K P)) ∨ (¬ okN2 K P ∧ e = .returned (.tuple #[.slice none 0 0, .bool false]))) ∧ Below w.heap.size w w' := by
  have hsz := fun V (h : Net 64 V g n s cap l s2 cq K sp cp mb P) => rSize_c V h ok
  have helm := fun (k : Nat) (hk : k < K.length * P.length) V (hV : Below w.heap.size w V) => (rElement_cs k V (Net.up hV h) ok hk).mono (R' := fun e w' => e = .returned (elA (elOf P k)) ∧ Below V.heap.size V w') (fun e w' ⟨h1, h2, _⟩ => ⟨h1, h2⟩)
  have hvis := fun bl hbl fuel => visit_c w bl h ok hbl fuel
  have hend := fun (L : List Int) => lvsL_of (K := K) (P := P) (L := L)
  have hNs := ok.size
  have hokd : okN2 K P ↔ ∀ k, k < K.length * P.length → Gd (useN K P) k := Iff.rfl
  unfold lvN at hend
  obtain ⟨LL, hLL⟩ : ∃ x, lvsL K P = x := ⟨_, rfl⟩
  obtain ⟨OK, hOK⟩ : ∃ x, okN2 K P = x := ⟨_, rfl⟩
  simp only [hLL] at hend ⊢
  simp only [hOK] at hokd ⊢
  obtain ⟨us, hus⟩ : ∃ x, useN K P = x := ⟨_, rfl⟩
  obtain ⟨N, hN⟩ : ∃ x, K.length * P.length = x := ⟨_, rfl⟩
  simp only [hus, hN] at hsz helm hvis hend hNs hokd ⊢
  clear hus hN hLL hOK
  have hmk := run_make_ints N (by omega)
  replace hsz := Lib.hid hsz; replace helm := Lib.hid helm; replace hvis := Lib.hid hvis; replace hend := Lib.hid hend; replace hokd := Lib.hid hokd; replace ok := Lib.hid ok
  go_enter Try.func60, Try.ntmps60
  go_upto_region 2 with (first | (go_at_call 102; refine (hsz.out _ h).mono ?_; rintro e W1 ⟨rfl, hb1⟩))
  refine wp_world fun B HB => ?_
  have hwB : Below w.heap.size w B := by
    rw [HB.out]
    have := hb1.size
    repeat (first | (with_reducible exact hb1) | (with_reducible refine Below.drew ?_) | ((with_reducible refine Below.setC ?_ ?_); (focus (first | omega | (simp; done) | (simp; omega)))) | ((with_reducible refine Below.allo ?_ ?_); (focus (first | omega | (simp; done) | (simp; omega)))))
  have hoB : B.ownsRow W1.heap.size 3 1 (.slice (some ⟨W1.heap.size, 0, none⟩) N N) N (intE.all (List.replicate N 0)) := by
    rw [HB.out]; exact own_zeros W1 N (by omega)
  have hbl := hb1.size
  clear HB
  obtain ⟨bl, hble⟩ : ∃ b, W1.heap.size = b := ⟨_, rfl⟩
  simp only [hble] at hoB hbl ⊢
  have hS0 : Srch us N (List.replicate N 0) := ⟨by simp, fun k hk => .inl (by rw [List.getD_eq_getElem?_getD]; simp [hk])⟩
  have hneg : ∀ k : Nat, (List.replicate N (0 : Int)).getD k 0 ≠ -1 := fun k => by
    rw [List.getD_eq_getElem?_getD, List.getElem?_replicate]
    split <;> simp
  have hv2 := fun fuel => hvis.out bl hbl fuel
  replace hv2 := Lib.hid hv2; replace hS0 := Lib.hid hS0; replace hneg := Lib.hid hneg
  clear hvis hble hmk hb1
  go_wp2
  go_loopw [5] (fun ii V => ∃ (i : Nat) (M : List Int), i ≤ N ∧ ii = .int .i64 i ∧ V.ownsRow bl 3 1 (.slice (some ⟨bl, 0, none⟩) N N) N (intE.all M) ∧ Srch us N M ∧ Hid (∀ k, M.getD k 0 ≠ -1) ∧ Hid (∀ k, k < i → Gd us k ∧ M.getD k 0 = ((lvl us k : Nat) : Int)) ∧ Below w.heap.size w V) (fun ii _ => N - (intOf ii).toNat)
  case atStart => exact ⟨0, _, by omega, rfl, hoB, hS0.out, hneg, Lib.hid (fun k hk => absurd hk (by omega)), hwB⟩
  case round =>
    clear hoB hS0 hneg hwB
    obtain ⟨i, M, hi, rfl, hoM, hSM, hng, hdn, hwV⟩ := hrel
    by_cases hlt : i < N
    · have he := fun V hV => helm.out i hlt V hV
      obtain ⟨⟨ev, ⟨ex, ey, ez⟩⟩, hel⟩ : ∃ y, elOf P i = y := ⟨_, rfl⟩
      have hvi := fun V hA ho => hv2.out (zros M + 1) i M V hA ho hSM hlt (fun j hj => absurd hj (hng.out j)) (by omega)
      simp only [hel] at he hvi
      unfold elA at he hvi
      simp only at he hvi
      replace he := Lib.hid he; replace hvi := Lib.hid hvi; replace hel := Lib.hid hel; replace hSM := Lib.hid hSM
      go_wp2_with (first | (go_at_call 104; refine (he.out _ hwV).mono ?_; rintro e V1 ⟨rfl, hb⟩; replace hwV := Up.to hwV hb hwV.size; replace hoM := up_of hb hoM))
      refine (hvi.out _ hwV hoM).mono ?_
      rintro e V2 ⟨M', hoM', hCM', (⟨rfl, hSM', hWM', hgu, hlu⟩ | ⟨rfl, hbad⟩)⟩
      · have hw2 : Below w.heap.size w V2 := hCM'.below (fun k hk => by omega) hwV.size hwV
        have hng2 : ∀ k, M'.getD k 0 ≠ -1 := fun k hk => hng.out k (hWM'.way k hk)
        have hdn2 : ∀ k, k < i + 1 → Gd us k ∧ M'.getD k 0 = ((lvl us k : Nat) : Int) := fun k hk => by
          by_cases e : k < i
          · obtain ⟨h1, h2⟩ := hdn.out k e
            have h3 := lvl_pos h1
            exact ⟨h1, by rw [hWM'.old k (by rw [h2]; omega)]; exact h2⟩
          · obtain rfl : k = i := by omega
            exact ⟨hgu, hlu⟩
        replace hng2 := Lib.hid hng2; replace hdn2 := Lib.hid hdn2; replace hSM' := Lib.hid hSM'; replace hoM' := Lib.hid hoM'; replace hw2 := Lib.hid hw2
        clear hCM' hWM' hgu hlu hoM hwV hdn hng
        go_wp2
        go_roundw
        case rel => exact ⟨i + 1, M', by omega, rfl, hoM'.out, hSM'.out, hng2, hdn2, hw2.out⟩
        case measure => exact meas hlt
      · have hw2 : Below w.heap.size w V2 := hCM'.below (fun k hk => by omega) hwV.size hwV
        have hno : ¬ OK := fun h => by
          obtain ⟨j, hj, hg⟩ := hbad
          exact hg ((hokd.out.1 h) j hj)
        replace hno := Lib.hid hno; replace hw2 := Lib.hid hw2
        clear hCM' hbad hoM hwV hoM' hdn hng
        go_wp2
        go_ret2
        exact ⟨.inr ⟨hno.out, rfl⟩, hw2.out⟩
    · have hie : i = N := by omega
      subst hie
      have hyes : OK := hokd.out.2 fun k hk => (hdn.out k hk).1
      have hML : M = LL := hend.out M hSM.len fun k hk => (hdn.out k hk).2
      subst hML
      have hlen := hSM.len
      have hsl : SlS intE wr (some ⟨bl, 0, none⟩) M := by
        rw [← hlen] at hoM
        exact SlS.of_own (E := intE) (base := bl) (e := 3) (cap := M.length) hoM
      replace hsl := Lib.hid hsl; replace hyes := Lib.hid hyes; replace hlen := Lib.hid hlen; replace hwV := Lib.hid hwV
      clear hoM hSM hend hdn hng
      go_wp2
      go_ret2
      exact ⟨.inl ⟨hyes.out, bl, rfl, hsl.out⟩, hwV.out⟩
end
end Go.Proofs.Ytadmnlkgefbhcaa
