/- A list for each variable: the reference. -/
import Derived.Test.YtadmnlkgefbhcaaRLev
import Derived.Test.YtadmnlkgefbhcaaB12
namespace Go.Proofs.Ytadmnlkgefbhcaa
open Go.RowKit Go.Maps

section
variable {g : Nat} {n : Int} {s : Option Addr} {cap : Nat} {l : List Iq} {s2 : Option Addr} {cq : Nat} {K : List Vv} {sp : Option Addr} {cp mb : Nat} {P : List Pt}
set_option maxRecDepth 100000 in
set_option maxHeartbeats 1000000 in
theorem by_c (b : Nat) (L : List Int) (w : World) (h : Net 64 w g n s cap l s2 cq K sp cp mb P) (ok : NetOk n K P) (hs : SlS intE w (some ⟨b, 0, none⟩) L) (hL : L.length = K.length * P.length) :
    Calls Try.prog 78 #[.pointer (some ⟨g, 0, none⟩), .slice (some ⟨b, 0, none⟩) (K.length * P.length) (K.length * P.length)] w fun e w' => (∃ s' c', e = .returned (.slice s' K.length c') ∧ SlSS intE w' s' (rowsN P.length L K.length)) ∧ Below w.heap.size w w' := by
  have hNs := ok.size
  have hkl := ok.vars
  have hpl := ok.len
  obtain ⟨n0, n1, n2, n3, n4⟩ := h.cells
  have hgw : g < w.heap.size := World.block_lt_of_cell? w ⟨g, 0, none⟩ n0
  have hs0 := Lib.hid hs
  replace hL := Lib.hid hL
  obtain ⟨NN, hNN⟩ : ∃ q, K.length * P.length = q := ⟨_, rfl⟩
  simp only [hNN] at hNs ⊢
  replace hNN := Lib.hid hNN
  clear h ok hs
  go_enter Try.func78, Try.ntmps78
  obtain ⟨W, hWe⟩ : ∃ W, w = W := ⟨w, rfl⟩
  subst hWe
  have hown0 : w.ownsRow w.heap.size 53 1 (.slice none 0 0) 0 (svE.all []) := World.ownsRow_nil _ _ _ _
  obtain ⟨i0, hi0, hz0, hz1, hz2⟩ := info_parts info_intss
  obtain ⟨W, hWe⟩ : ∃ W, W = w := ⟨w, rfl⟩
  rw [← hWe] at hown0
  go_wp2
  go_loopw [5, 6] (fun ov ii V => ∃ (v : Nat) (ss : List Sv), v ≤ K.length ∧ ii = .int .i64 v ∧ V.ownsRow W.heap.size 53 1 ov v (svE.all ss) ∧ Hid (ss = (List.range v).map fun i => (⟨if NN = i * P.length then some ⟨b, 0, none⟩ else some ⟨b, i * P.length, none⟩, P.length, NN - i * P.length⟩ : Sv)) ∧ Below W.heap.size W V) (fun _ ii _ => K.length - (intOf ii).toNat)
  case atStart => exact ⟨0, [], by omega, rfl, by rw [← hWe]; exact hown0, Lib.hid (by simp), by rw [← hWe]; exact Below.refl _ _⟩
  case round =>
    clear hown0
    obtain ⟨v, ss, hv, rfl, hown, hss, hBV⟩ := hrel
    have hBw : Below w.heap.size w wr := by rw [hWe] at hBV; exact hBV
    have n3' := Up.cell hBw n3
    have n2' := Up.cell hBw n2
    have hWs : W.heap.size = w.heap.size := by rw [hWe]
    have hVs := hBV.size
    by_cases hlt : v < K.length
    · have hmul : (v + 1) * P.length ≤ K.length * P.length := Nat.mul_le_mul_right _ (by omega)
      have hsm : (v + 1) * P.length = v * P.length + P.length := Nat.succ_mul _ _
      rw [hNN.out] at hmul
      have e1 : (v : Int) * (P.length : Int) = ((v * P.length : Nat) : Int) := (Int.natCast_mul _ _).symm
      obtain ⟨B, hBe⟩ : ∃ a, (v + 1) * P.length = a := ⟨_, rfl⟩
      have e2 : ((v : Int) + 1) * (P.length : Int) = (B : Int) := by rw [← hBe, Int.natCast_mul]; rfl
      rw [hBe] at hmul hsm
      obtain ⟨A, hA⟩ : ∃ a, v * P.length = a := ⟨_, rfl⟩
      rw [hA] at e1 hsm
      have w1 : IntKind.i64.wrap ((v : Int) * (P.length : Int)) = (A : Int) := by rw [e1]; exact i64_small (by omega)
      have w2 : IntKind.i64.wrap (((v : Int) + 1) * (P.length : Int)) = (B : Int) := by rw [e2]; exact i64_small (by omega)
      have w4 : IntKind.i64.wrap ((v : Int) + 1) = (v : Int) + 1 := i64_small (by omega)
      have j1 : (A : Int) ≤ (B : Int) := by omega
      have j2 : (B : Int) ≤ (NN : Int) := by omega
      have j3 : A ≤ B := by omega
      have j4 : B ≤ NN := hmul
      have j5 : (0 : Int) ≤ (A : Int) := by omega
      have hBA : B - A = P.length := by omega
      replace e1 := Lib.hid e1; replace e2 := Lib.hid e2; replace hsm := Lib.hid hsm; replace hA := Lib.hid hA; replace hBe := Lib.hid hBe; replace hWe' := Lib.hid hWe; replace hWs := Lib.hid hWs; replace hBA := Lib.hid hBA
      by_cases hNA : NN = A
      · have hp0 : P.length = 0 := by have := hBA.out; omega
        have hz1' : B - A = 0 := by omega
        replace hp0 := Lib.hid hp0; replace hz1' := Lib.hid hz1'
        subst hNA
        go_upto_region 5 with (fail)
        go_region_held3 (fun V => V.cell? ⟨g, 3, none⟩ = some (.slice sp P.length cp)) ((first | (with_reducible exact ⟨n3'⟩) | ((try dsimp only); (repeat' apply And.intro) <;> (repeat (first | (with_reducible assumption) | (with_reducible refine cell_set (by simp; try omega) ?_) | (with_reducible refine cell_drew ?_) | (with_reducible refine cell_alloc ?_ _)))))) ((first | (refine step_append_lies _ (by rfl) _ _ 46 (by rfl) W.heap.size 53 i0 _ 1 24 Try.underlying46 hi0 hz0 hz1 hz2 rfl (by decide) _ _ _ (by rfl) (hown.alloc _) ⟨wr.heap.size, 0, none⟩ 1 1 [.slice (some ⟨b, 0, none⟩) (0) (0)] (by rfl) (by rfl) (news_new _ _ _) (by simp [Value.oneCell']) (by decide) (by unfold maxLen; omega) (by omega) (by first | omega | (simp; omega)) (wr.heap.size + 1) (by simp) ?_; intro gg cap1 w1 hown1 hgrow hat hlt2; replace n3' := cell_appD hgrow n3' (fun g' e => by have := (hown.lt g' e).1; have := hWs.out; omega))))
        all_goals
          have hB1 : Below W.heap.size W w1 := ((hBV.alloc hVs _).drew).grown hgrow (by simp; omega) (fun j e => (hown.lt j e).1)
          have hnx : ss ++ [(⟨some ⟨b, 0, none⟩, 0, 0⟩ : Sv)] = (List.range (v + 1)).map fun i => (⟨if NN = i * P.length then some ⟨b, 0, none⟩ else some ⟨b, i * P.length, none⟩, P.length, NN - i * P.length⟩ : Sv) := by
            rw [List.range_succ, List.map_append, ← hss.out]
            congr 1
            simp only [List.map_cons, List.map_nil]
            rw [hA.out]
            rw [if_pos rfl, hp0.out, Nat.sub_self]
          replace hnx := Lib.hid hnx; replace hB1 := Lib.hid hB1; replace hown1 := Lib.hid hown1
          clear hgrow hat hlt2
          go_wp2
          go_roundw
          case rel => exact ⟨v + 1, _, by omega, rfl, by rw [svE_snoc]; exact hown1.out, hnx, hB1.out⟩
          case measure => exact meas hlt

      · have hNA' := Lib.hid hNA
        go_upto_region 5 with (fail)
        go_region_held3 (fun V => V.cell? ⟨g, 3, none⟩ = some (.slice sp P.length cp)) ((first | (with_reducible exact ⟨n3'⟩) | ((try dsimp only); (repeat' apply And.intro) <;> (repeat (first | (with_reducible assumption) | (with_reducible refine cell_set (by simp; try omega) ?_) | (with_reducible refine cell_drew ?_) | (with_reducible refine cell_alloc ?_ _)))))) ((first | (refine step_append_lies _ (by rfl) _ _ 46 (by rfl) W.heap.size 53 i0 _ 1 24 Try.underlying46 hi0 hz0 hz1 hz2 rfl (by decide) _ _ _ (by rfl) (hown.alloc _) ⟨wr.heap.size, 0, none⟩ 1 1 [.slice (some ⟨b, A, none⟩) (B - A) (NN - A)] (by rfl) (by rfl) (news_new _ _ _) (by simp [Value.oneCell']) (by decide) (by unfold maxLen; omega) (by omega) (by first | omega | (simp; omega)) (wr.heap.size + 1) (by simp) ?_; intro gg cap1 w1 hown1 hgrow hat hlt2; replace n3' := cell_appD hgrow n3' (fun g' e => by have := (hown.lt g' e).1; have := hWs.out; omega))))
        all_goals
          have hB1 : Below W.heap.size W w1 := ((hBV.alloc hVs _).drew).grown hgrow (by simp; omega) (fun j e => (hown.lt j e).1)
          have hnx : ss ++ [(⟨some ⟨b, A, none⟩, B - A, NN - A⟩ : Sv)] = (List.range (v + 1)).map fun i => (⟨if NN = i * P.length then some ⟨b, 0, none⟩ else some ⟨b, i * P.length, none⟩, P.length, NN - i * P.length⟩ : Sv) := by
            rw [List.range_succ, List.map_append, ← hss.out]
            congr 1
            simp only [List.map_cons, List.map_nil]
            rw [hA.out]
            rw [if_neg hNA'.out, hBA.out]
          replace hnx := Lib.hid hnx; replace hB1 := Lib.hid hB1; replace hown1 := Lib.hid hown1
          clear hgrow hat hlt2
          go_wp2
          go_roundw
          case rel => exact ⟨v + 1, _, by omega, rfl, by rw [svE_snoc]; exact hown1.out, hnx, hB1.out⟩
          case measure => exact meas hlt

    · have hve : v = K.length := by omega
      subst hve
      obtain ⟨so, co, e, -⟩ := owns_shape hown
      subst e
      have hsl := SlS.of_own (E := svE) (l := ss) (base := W.heap.size) (e := 53) (s := so) (cap := co) (w := wr) (by
        have : ss.length = K.length := by rw [hss.out]; simp
        rw [this]; exact hown)
      have hview : SlSS intE wr so (rowsN P.length L K.length) := by
        refine ⟨ss, hsl, by rw [hss.out, rowsN_len]; simp, fun i h1 h2 => ?_⟩
        have hi : i < K.length := by rw [rowsN_len] at h1; exact h1
        have hat : ss[i] = (⟨if NN = i * P.length then some ⟨b, 0, none⟩ else some ⟨b, i * P.length, none⟩, P.length, NN - i * P.length⟩ : Sv) := by simp [hss.out]
        rw [hat, rowsN_at hi h1]
        have hpl2 := part_len hL.out hi
        have hmul : (i + 1) * P.length ≤ K.length * P.length := Nat.mul_le_mul_right _ (by omega)
        have hsm : (i + 1) * P.length = i * P.length + P.length := Nat.succ_mul _ _
        rw [hNN.out] at hmul
        have hpt := (hs0.out.up hBw).part (i * P.length) P.length
        rw [Nat.zero_add] at hpt
        refine ⟨hpl2.symm, ?_, ?_, ?_⟩
        · show SlS intE wr (if NN = i * P.length then some ⟨b, 0, none⟩ else some ⟨b, i * P.length, none⟩) _
          by_cases hNA : NN = i * P.length
          · have : (L.drop (i * P.length)).take P.length = [] := List.length_eq_zero_iff.1 (by omega)
            rw [this]; exact SlS.nil
          · rw [if_neg hNA]; exact hpt
        · show (if NN = i * P.length then (some ⟨b, 0, none⟩ : Option Addr) else some ⟨b, i * P.length, none⟩) = none → _
          split <;> simp
        · rw [hpl2]; show P.length ≤ NN - i * P.length; omega
      replace hview := Lib.hid hview; replace hBw := Lib.hid hBw
      clear hsl hown hss hs0 hBV hWe hWs
      go_wp2
      go_ret
      exact ⟨⟨so, co, rfl, hview.out⟩, hBw.out⟩
end
end Go.Proofs.Ytadmnlkgefbhcaa
