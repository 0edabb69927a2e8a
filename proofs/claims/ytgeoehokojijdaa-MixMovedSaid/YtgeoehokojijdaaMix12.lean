/- The good starts that come first: the program's Starts, and the reference's. -/
import Derived.Test.YtgeoehokojijdaaMix11
namespace Go.Proofs.Ytgeoehokojijdaa
open Go.RowKit

def startsE (k : List (List Clm)) (p : Int) : Int := if vldB k then (if bw 1 p 20 then (if (firstG k p.toNat).isSome then 0 else 5) else 2) else 90
def startsR (k : List (List Clm)) (p : Int) : List Int := if vldB k && bw 1 p 20 then startsL k p.toNat else []
/-- A new list of numbers and an error, out of a call. -/
def IntsErr (L : List Int) (er : Int) (w : World) (e : Ending) (w' : World) : Prop :=
  (∃ s cap, e = .returned (.tuple #[.slice s L.length cap, .int .i64 er]) ∧ w'.ownsRow w.heap.size 3 1 (.slice s L.length cap) L.length (intE.all L)) ∧ Below w.heap.size w w'
theorem IntsErr.nil {w w' : World} {er : Int} (hB : Below w.heap.size w w') : IntsErr [] er w (.returned (.tuple #[.slice none 0 0, .int .i64 er])) w' := ⟨⟨none, 0, rfl, World.ownsRow_nil _ _ _ _⟩, hB⟩
set_option maxRecDepth 100000 in
set_option maxHeartbeats 400000 in
theorem Starts_c (s : Option Addr) (cap : Nat) (k : List (List Clm)) (p : Int) (w : World) (h : Ker w s cap k) :
    Calls Try.prog 23 #[.slice s k.length cap, .int .i64 p] w (IntsErr (startsR k p) (startsE k p) w) := by
  have H := Lib.hid (checked_c s cap k p w h)
  have hkl := h.len
  by_cases h1 : chkE k p = 0
  case neg =>
    have e1 : startsE k p = chkE k p := by
      unfold chkE at h1 ⊢; unfold startsE
      (repeat' split) <;> simp_all
    have e2 : startsR k p = [] := by
      unfold chkE at h1; unfold startsR
      (repeat' split) <;> simp_all
    rw [e1, e2]
    obtain ⟨E, hE⟩ : ∃ E, chkE k p = E := ⟨_, rfl⟩
    rw [hE] at H h1 ⊢
    have h1' : (E != 0) = true := by simpa using h1
    clear h e1 e2 hE h1
    go_enter Try.func23, Try.ntmps23
    go_wp2_with (go_at_call 49; refine H.out.mono ?_; rintro e W1 ⟨rfl, hb⟩)
    go_ret2
    exact IntsErr.nil hb
  have hv : vldB k = true ∧ bw 1 p 20 = true := by
    unfold chkE at h1
    (repeat' split at h1) <;> simp_all
  have hp := bw_iff.1 hv.2
  obtain ⟨p, rfl⟩ : ∃ q : Nat, p = q := ⟨p.toNat, by omega⟩
  have e1 : startsE k p = if (firstG k p).isSome then 0 else 5 := by simp [startsE, hv]
  have e2 : startsR k p = startsL k p := by simp [startsR, hv]
  rw [e1, e2]
  rw [h1] at H
  have G := fun W (h : Ker W s cap k) => starts_c s cap k p W h hv.1 (by omega)
  have hnil : (firstG k p).isSome = false → startsL k p = [] := fun h => by
    cases hf : firstG k p with
    | none => simp [startsL, hf]
    | some i => rw [hf] at h; cases h
  replace h := Lib.hid h; replace G := Lib.hid G; replace hnil := Lib.hid hnil
  clear e1 e2 h1 hv hp
  cases h3 : (firstG k p).isSome
  · have G := G.out
    rw [h3, hnil.out h3] at G
    rw [hnil.out h3]
    replace G := Lib.hid G
    clear hnil h3
    go_enter Try.func23, Try.ntmps23
    go_wp2_with (first | (go_at_call 49; refine H.out.mono ?_; rintro e W1 ⟨rfl, hb⟩) | (go_at_call 48; refine (G.out _ (up_of hb h).out).mono ?_; rintro e W2 ⟨⟨s2, c2, rfl, hown⟩, hb2⟩))
    go_ret2
    exact IntsErr.nil (hb.trans (hb2.mono hb.size))
  · have G := G.out
    rw [h3] at G
    replace G := Lib.hid G
    clear hnil h3
    go_enter Try.func23, Try.ntmps23
    go_wp2_with (first | (go_at_call 49; refine H.out.mono ?_; rintro e W1 ⟨rfl, hb⟩) | (go_at_call 48; refine (G.out _ (up_of hb h).out).mono ?_; rintro e W2 ⟨⟨s2, c2, rfl, hown⟩, hb2⟩))
    go_ret2
    exact ⟨⟨s2, c2, rfl, owns_mono hown hb.size⟩, hb.trans (hb2.mono hb.size)⟩

/-! ### The reference's -/
def fillD (p K n c : Nat) : List Int := List.replicate (K - c) 0 ++ digs p c (n % p ^ c)
theorem fillD_len (p K n c : Nat) (h : c ≤ K) : (fillD p K n c).length = K := by simp [fillD, digs_len]; omega
theorem fillD_zero (p K n : Nat) : fillD p K n 0 = List.replicate K 0 := by simp [fillD, digs]
theorem fillD_end (p K n : Nat) (h : n < p ^ K) : fillD p K n K = digs p K n := by simp [fillD, Nat.mod_eq_of_lt h]
theorem fillD_step (p K n c : Nat) (hp : 0 < p) (h : c < K) : (fillD p K n c).set (K - 1 - c) ((n / p ^ c % p : Nat) : Int) = fillD p K n (c + 1) := by
  unfold fillD
  have e := digs_take p hp (c + 1) c (n % p ^ (c + 1)) (by omega)
  have e1 : n % p ^ (c + 1) / p ^ c = n / p ^ c % p := by rw [Nat.pow_succ, Nat.mod_mul_right_div_self]
  have e2 : n % p ^ (c + 1) % p ^ c = n % p ^ c := by rw [Nat.pow_succ, Nat.mod_mul_right_mod]
  rw [e, e1, e2, show c + 1 - c = 1 by omega]
  obtain ⟨m, hm⟩ : ∃ m, K - c = m + 1 := ⟨K - c - 1, by omega⟩
  rw [hm, show K - (c + 1) = m by omega, show K - 1 - c = m by omega, List.replicate_succ', List.append_assoc, List.set_append_right _ _ (by simp)]
  simp [digs]
theorem owns_row {W : World} {b base : Nat} {l : List Int} (h : Row W b 3 (intsA l)) (hb : base ≤ b) (hl : l.length ≤ 1000000) :
    W.ownsRow base 3 1 (.slice (some ⟨b, 0, none⟩) l.length l.length) l.length (intE.all l) := by
  refine ⟨by rw [intE.all_len]; rfl, .inr ⟨b, l.length, intsA l, rfl, hb, h, Nat.le_refl _, by unfold maxLen; omega, by simp [intsA], ?_⟩⟩
  rw [intE_all]; simp [intsA, List.take_of_length_le]
theorem askE_digs {k : List (List Clm)} {p : Nat} (hv : vldB k = true) (hp : 1 ≤ p ∧ p ≤ 20) (i : Nat) : askE k p (digs p k.length i) = 0 := by
  have h1 : bw 1 (p : Int) 20 = true := by rw [bw_iff]; omega
  have h2 : timB k p (digs p k.length i) = true := by
    simp only [timB, digs_len, decide_true, Bool.true_and, List.all_eq_true, bw_iff]
    intro x hx
    have := digs_mem (p := p) (by omega) _ _ x hx
    omega
  simp [askE, hv, h1, h2]
set_option maxRecDepth 100000 in
set_option maxHeartbeats 2000000 in
theorem rStarts_c (s : Option Addr) (cap : Nat) (k : List (List Clm)) (p : Int) (w : World) (h : Ker w s cap k) :
    Calls Try.prog 24 #[.slice s k.length cap, .int .i64 p] w (IntsErr (startsR k p) (startsE k p) w) := by
  have H := Lib.hid (rValid_c s cap k w h)
  have hkl := h.len
  cases h1 : vldB k
  · rw [show startsE k p = 90 by simp [startsE, h1], show startsR k p = [] by simp [startsR, h1]]
    rw [h1] at H
    clear h
    go_enter Try.func24, Try.ntmps24
    go_wp2_with (go_at_call 27; refine H.out.mono ?_; rintro e W1 ⟨rfl, hb⟩)
    go_ret2
    exact IntsErr.nil hb
  rw [h1] at H
  cases h2 : bw 1 p 20
  · rw [show startsE k p = 2 by simp [startsE, h1, h2], show startsR k p = [] by simp [startsR, h2]]
    clear h
    go_enter Try.func24, Try.ntmps24
    go_wp2_with (first | (go_at_call 50; refine (isPeriod_c _ _).mono ?_; rintro e w' ⟨rfl, rfl⟩) | (go_at_call 27; refine H.out.mono ?_; rintro e W1 ⟨rfl, hb⟩))
    go_ret2
    exact IntsErr.nil hb
  have hp := bw_iff.1 h2
  obtain ⟨p, rfl⟩ : ∃ q : Nat, p = q := ⟨p.toNat, by omega⟩
  have hpn : 1 ≤ p ∧ p ≤ 20 := by omega
  have e1 : startsE k p = if (firstG k p).isSome then 0 else 5 := by simp [startsE, h1, h2]
  have e2 : startsR k p = startsL k p := by simp [startsR, h1, h2]
  rw [e1, e2]
  clear e1 e2
  have hk3 := vldB_k h1
  have hG : ∀ W b i, Ker W s cap k → Row W b 3 (intsA (digs p k.length i)) → Calls Try.prog 35 #[.slice s k.length cap, .int .i64 p, .slice (some ⟨b, 0, none⟩) k.length k.length] W fun e w' => e = .returned (.tuple #[.bool (goodB k p (digs p k.length i)), .int .i64 0]) ∧ Below W.heap.size W w' := fun W b i h hr => by
    have := rGood_c s cap k p (some ⟨b, 0, none⟩) k.length (digs p k.length i) W h ⟨intsA_sl hr, by rw [digs_len]; omega⟩
    rw [askE_digs h1 hpn, digs_len, show rgB k p (digs p k.length i) = goodB k p (digs p k.length i) by simp [rgB, askE_digs h1 hpn]] at this
    exact this
  have hsm : ∀ i, i < p ^ k.length → goodB k p (digs p k.length i) = true → (∀ j, j < i → goodB k p (digs p k.length j) = false) → startsL k p = digs p k.length i ∧ (if (firstG k p).isSome then (0 : Int) else 5) = 0 := fun i hi h1 h2 => by
    have := firstG_some hi h1 h2
    simp [startsL, this]
  have hnn : (∀ j, j < p ^ k.length → goodB k p (digs p k.length j) = false) → startsL k p = [] ∧ (if (firstG k p).isSome then (0 : Int) else 5) = 5 := fun h2 => by
    have := firstG_none h2
    simp [startsL, this]
  obtain ⟨SL, hSL⟩ : ∃ SL, startsL k p = SL := ⟨_, rfl⟩
  obtain ⟨SB, hSB⟩ : ∃ SB, (if (firstG k p).isSome then (0 : Int) else 5) = SB := ⟨_, rfl⟩
  rw [hSL, hSB] at hsm hnn ⊢
  clear hSL hSB h1
  have hpw : ∀ i, i ≤ k.length → p ^ i ≤ 8000 := fun i hi => pow_small hpn.2 (by omega)
  have hmul : ∀ i, i + 1 ≤ k.length → IntKind.i64.wrap (((p ^ i : Nat) : Int) * (p : Int)) = ((p ^ (i + 1) : Nat) : Int) := fun i hi => by
    have e : ((p ^ i : Nat) : Int) * (p : Int) = ((p ^ (i + 1) : Nat) : Int) := by rw [Nat.pow_succ]; simp
    have := hpw (i + 1) hi
    rw [e, i64_small (by omega)]
  have hfs := fun n c (hc : c < k.length) => fillD_step p k.length n c (by omega) hc
  have hfl := fun n c (hc : c ≤ k.length) => fillD_len p k.length n c hc
  have hfe := fun n (hn : n < p ^ k.length) => fillD_end p k.length n hn
  have hfz := fun n => fillD_zero p k.length n
  have hmk := fun w => run_make_ints k.length (by omega) w
  have hqq : ∀ n c : Nat, ((n / p ^ c : Nat) : Int) % (p : Int) = ((n / p ^ c % p : Nat) : Int) ∧ ((n / p ^ c : Nat) : Int) / (p : Int) = ((n / p ^ (c + 1) : Nat) : Int) := fun n c => by
    refine ⟨by simp, ?_⟩
    rw [Nat.pow_succ, ← Nat.div_div_eq_div_mul]; simp
  have hdl := fun i => digs_len p k.length i
  obtain ⟨K, hK⟩ : ∃ K, k.length = K := ⟨_, rfl⟩
  have h0 := Lib.hid h
  have hp0 : p ^ 0 = 1 := rfl
  obtain ⟨pw, hpwE⟩ : ∃ f : Nat → Nat, (fun i => p ^ i) = f := ⟨_, rfl⟩
  have hpe : ∀ i, p ^ i = pw i := fun i => by rw [← hpwE]
  simp only [hpe] at hsm hnn hpw hmul hfe hqq hp0
  have hb0 : (1 : Int) = ((pw 0 : Nat) : Int) := by omega
  replace h := Lib.hid h; replace hsm := Lib.hid hsm; replace hnn := Lib.hid hnn; replace hpw := Lib.hid hpw; replace hmul := Lib.hid hmul; replace hfs := Lib.hid hfs; replace hfl := Lib.hid hfl; replace hfe := Lib.hid hfe; replace hfz := Lib.hid hfz
  replace hqq := Lib.hid hqq; replace hb0 := Lib.hid hb0; replace hG := Lib.hid hG; replace hpwE := Lib.hid hpwE; replace hpe := Lib.hid hpe; replace hdl := Lib.hid hdl
  clear hp0 hK K
  go_enter Try.func24, Try.ntmps24
  go_wp2_with (first | (go_at_call 50; refine (isPeriod_c _ _).mono ?_; rintro e w' ⟨rfl, rfl⟩) | (go_at_call 27; refine H.out.mono ?_; rintro e W1 ⟨rfl, hb⟩))
  clear H h2
  go_loopw [6, 21] (fun v i V => ∃ n : Nat, n ≤ k.length ∧ i = .int .i64 n ∧ v = .int .i64 (pw n : Nat) ∧ Below w.heap.size w V) (fun _ i _ => k.length - (intOf i).toNat)
  case atStart => exact ⟨0, by omega, rfl, by rw [← hb0.out], hb⟩
  case round =>
    clear hb
    obtain ⟨n, hn, rfl, rfl, hB⟩ := hrel
    by_cases hlt : n < k.length
    · have e1 := hmul.out n hlt
      have e2 := hpw.out n hn
      have e3 := hpw.out (n + 1) hlt
      obtain ⟨A, hA⟩ : ∃ A, pw n = A := ⟨_, rfl⟩
      obtain ⟨B, hBe⟩ : ∃ B, pw (n + 1) = B := ⟨_, rfl⟩
      rw [hA, hBe] at e1
      rw [hA] at e2 ⊢
      rw [hBe] at e3
      replace hA := Lib.hid hA; replace hBe := Lib.hid hBe
      go_wp2
      go_roundw
      case rel => exact ⟨n + 1, by omega, by go_num, by rw [hBe.out], hB⟩
      case measure => simp [intOf]; omega
    · obtain rfl : n = k.length := by omega
      have hN := hpw.out k.length (Nat.le_refl _)
      obtain ⟨N, hNe⟩ : ∃ N, pw k.length = N := ⟨_, rfl⟩
      rw [hNe] at hN ⊢
      have hsm2 := hsm.out; have hnn2 := hnn.out; have hfe2 := hfe.out
      rw [hNe] at hsm2 hnn2 hfe2
      replace hsm := Lib.hid hsm2; replace hnn := Lib.hid hnn2; replace hfe := Lib.hid hfe2; replace hNe := Lib.hid hNe
      clear hsm2 hnn2 hfe2
      go_wp2
      go_loopw [28] (fun i V => ∃ n : Nat, n ≤ N ∧ i = .int .i64 n ∧ Below w.heap.size w V ∧ Hid (∀ j, j < n → goodB k p (digs p k.length j) = false)) (fun i _ => N - (intOf i).toNat)
      case atStart => exact ⟨0, by omega, rfl, hB, fun j h => absurd h (by omega)⟩
      case round =>
        clear hB
        obtain ⟨n, hn, rfl, hB, hno⟩ := hrel
        by_cases hlt : n < N
        · have hw1 := i64_small (n := (k.length : Int) - 1) (by omega)
          obtain ⟨wo, rfl⟩ : ∃ wo : World, wo = wr := ⟨_, rfl⟩
          have hBs := hB.size
          go_upto_region 14 with (fail)
          refine wp_world fun X HX => ?_
          have hX : Below w.heap.size w X := by
            rw [HX.out]
            repeat (first | (with_reducible exact hB) | (with_reducible refine Below.drew ?_) | ((with_reducible refine Below.setC ?_ ?_); (focus (first | omega | (simp; done) | (simp; omega)))) | ((with_reducible refine Below.allo ?_ ?_); (focus (first | omega | (simp; done) | (simp; omega)))))
          have hrow : Row X wo.heap.size 3 (intsA (fillD p k.length n 0)) := by
            rw [HX.out, hfz.out]
            exact Row.new _ _ _
          have hz0 : (n : Int) = ((n / pw 0 : Nat) : Int) := by rw [← hpe.out 0]; simp
          replace hz0 := Lib.hid hz0
          clear hB
          go_wp2
          go_loopw [9, 10] (fun l i V => ∃ (c : Nat) (q : Int), c ≤ k.length ∧ l = .int .i64 (n / pw c : Nat) ∧ i = .int .i64 q ∧ q = (k.length : Int) - 1 - c ∧ Row V wo.heap.size 3 (intsA (fillD p k.length n c)) ∧ Below w.heap.size w V) (fun _ i _ => (intOf i + 1).toNat)
          case atStart => exact ⟨0, _, by omega, by rw [← hz0.out], rfl, by omega, hrow, hX⟩
          case round =>
            clear hrow hX
            obtain ⟨c, q, hc, rfl, rfl, hq, hrow, hX⟩ := hrel
            have hrl := hrow.lt
            by_cases hcn : c < k.length
            · obtain ⟨m, rfl⟩ : ∃ m : Nat, q = m := ⟨q.toNat, by omega⟩
              have hm : k.length - 1 - c = m := by omega
              have hst := hfs.out n c hcn
              rw [hpe.out, hm] at hst
              obtain ⟨q1, q2⟩ := hqq.out n c
              have hml : m < (fillD p k.length n c).length := by rw [hfl.out n c hc]; omega
              have hat := hrow.cell (intsA_at hml)
              have hfr := hrow.frozen m
              obtain ⟨L, hL⟩ : ∃ L, n / pw c = L := ⟨_, rfl⟩
              obtain ⟨L2, hL2⟩ : ∃ L, n / pw (c + 1) = L := ⟨_, rfl⟩
              rw [hL2] at q2
              rw [hL] at q1 q2 hst ⊢
              obtain ⟨R, hRe⟩ : ∃ R, L % p = R := ⟨_, rfl⟩
              rw [hRe] at q1 hst
              obtain ⟨F, hF⟩ : ∃ F, fillD p k.length n c = F := ⟨_, rfl⟩
              simp only [hF] at hat
              rw [hF] at hrow hst
              obtain ⟨u, hu⟩ : ∃ u, F[m]'(by rw [← hF]; exact hml) = u := ⟨_, rfl⟩
              rw [hu] at hat
              have hLn : L ≤ n := by rw [← hL]; exact Nat.div_le_self _ _
              have hLn2 : L2 ≤ n := by rw [← hL2]; exact Nat.div_le_self _ _
              have hRn : R < p := by rw [← hRe]; exact Nat.mod_lt _ (by omega)
              replace hL := Lib.hid hL; replace hL2 := Lib.hid hL2; replace hRe := Lib.hid hRe; replace hF := Lib.hid hF; replace hu := Lib.hid hu; replace hst := Lib.hid hst; replace hm := Lib.hid hm
              clear hq
              have i1 : (0 : Int) ≤ (m : Int) := by omega
              have i2 : (m : Int) < (k.length : Int) := by have := hm.out; omega
              have hp0 : ¬ (p : Int) = 0 := by omega
              go_wp2
              go_roundw
              case rel =>
                refine ⟨c + 1, _, by omega, by rw [hL2.out], rfl, by have := hm.out; omega, ?_, ?_⟩
                · rw [← hst.out, ← intsA_set]; exact hrow.set _ _
                · repeat (first | (with_reducible exact hX) | (with_reducible refine Below.drew ?_) | ((with_reducible refine Below.setC ?_ ?_); (focus (first | omega | (simp; done) | (simp; omega)))) | ((with_reducible refine Below.allo ?_ ?_); (focus (first | omega | (simp; done) | (simp; omega)))))
              case measure => (simp [intOf]) <;> omega
            · obtain rfl : c = k.length := by omega
              obtain rfl : q = -1 := by omega
              clear hq
              rw [hfe.out n hlt] at hrow
              have hgc := Lib.hid (hG.out _ _ n (up_of hX h0.out) hrow)
              have how := Lib.hid (owns_row hrow (base := w.heap.size) hBs (by rw [hdl.out]; omega))
              clear hrow
              cases hg : goodB k p (digs p k.length n)
              · rw [hg] at hgc
                have hno2 := Lib.hid (fun j (hj : j < n + 1) => show goodB k p (digs p k.length j) = false by
                  rcases Nat.lt_succ_iff_lt_or_eq.1 hj with h | rfl
                  · exact hno.out j h
                  · exact hg)
                clear how hg
                go_wp2_with (go_at_call 35; refine hgc.out.mono ?_; rintro e W2 ⟨rfl, hb2⟩)
                go_roundw
                case rel => exact ⟨n + 1, by omega, by go_num, hX.trans (hb2.mono hX.size), hno2⟩
                case measure => exact meas hlt
              · rw [hg] at hgc
                obtain ⟨hz1, rfl⟩ := hsm.out n hlt hg hno.out
                subst hz1
                replace how := Lib.hid how.out
                clear hg
                go_wp2_with (go_at_call 35; refine hgc.out.mono ?_; rintro e W2 ⟨rfl, hb2⟩)
                go_ret2
                have h5 := Up.owns hb2 how.out
                rw [hdl.out] at h5
                exact ⟨⟨some ⟨wo.heap.size, 0, none⟩, k.length, by rw [hdl.out]; rfl, by rw [hdl.out]; exact h5⟩, hX.trans (hb2.mono hX.size)⟩
        · obtain rfl : n = N := by omega
          obtain ⟨rfl, rfl⟩ := hnn.out hno.out
          go_wp2
          go_ret2
          exact IntsErr.nil hB
end Go.Proofs.Ytgeoehokojijdaa
