/- Good starts (the reference), lists that are the same, kernels with too much, claims of a cell. -/
import Derived.Test.YtgeoehokojijdaaMix4
namespace Go.Proofs.Ytgeoehokojijdaa
open Go.RowKit

def rgB (k : List (List Clm)) (p : Int) (st : List Int) : Bool := decide (askE k p st = 0) && goodB k p st
theorem askE_vals (k : List (List Clm)) (p : Int) (st : List Int) : askE k p st = 0 ∨ askE k p st = 2 ∨ askE k p st = 90 := by
  unfold askE; (repeat' split) <;> simp
set_option maxRecDepth 100000 in
theorem rGood_c (s : Option Addr) (cap : Nat) (k : List (List Clm)) (p : Int) (t : Option Addr) (ct : Nat) (st : List Int) (w : World) (h : Ker w s cap k) (g : Ints w t st) :
    Calls Try.prog 35 #[.slice s k.length cap, .int .i64 p, .slice t st.length ct] w fun e w' => e = .returned (.tuple #[.bool (rgB k p st), .int .i64 (askE k p st)]) ∧ Below w.heap.size w w' := by
  have H := Lib.hid (rClash_c s cap k p t ct st w h g)
  have hv := askE_vals k p st
  have hy : ∀ a0 a1 b0 b1 er, ClashPost k p st a0 a1 b0 b1 er → (er = 5 ∧ rgB k p st = true ∧ askE k p st = 0) ∨ (er = 0 ∧ rgB k p st = false ∧ askE k p st = 0) ∨ (er = 2 ∧ rgB k p st = false ∧ askE k p st = 2) ∨ (er = 90 ∧ rgB k p st = false ∧ askE k p st = 90) := by
    rintro a0 a1 b0 b1 er (⟨h1, h2, _⟩ | ⟨h1, h2, h3, _⟩ | ⟨h1, h2, i, m, j, n, h3, h4, _⟩)
    · have : rgB k p st = false := by simp [rgB, h1]
      rcases hv with hv | hv | hv
      · exact absurd hv h1
      · exact .inr (.inr (.inl ⟨by rw [h2, hv], this, hv⟩))
      · exact .inr (.inr (.inr ⟨by rw [h2, hv], this, hv⟩))
    · have := (good_iff (askE_ok h1).2.2.1 (k := k) (p := p)).2 h2
      exact .inl ⟨h3, by simp [rgB, h1, this], h1⟩
    · have : goodB k p st = false := by
        cases hg : goodB k p st
        · rfl
        · exact absurd h4 ((good_iff (askE_ok h1).2.2.1).1 hg i m j n)
      exact .inr (.inl ⟨h2, by simp [rgB, this], h1⟩)
  replace hy := Lib.hid hy
  clear h g hv
  obtain ⟨R, hR⟩ : ∃ R, rgB k p st = R := ⟨_, rfl⟩
  obtain ⟨E, hE⟩ : ∃ E, askE k p st = E := ⟨_, rfl⟩
  rw [hR, hE] at hy ⊢
  clear hR hE
  go_enter Try.func35, Try.ntmps35
  go_upto_region 2 with (go_at_call 38; refine H.out.mono ?_; rintro e W1 ⟨⟨a0, a1, b0, b1, er, rfl, hpost⟩, hb⟩)
  have hc := hy.out _ _ _ _ _ hpost
  have hb2 : ∀ o1 o2, Below w.heap.size w ((W1.alloc o1).alloc o2) := fun o1 o2 => hb.trans ((((Below.refl _ W1).alloc (Nat.le_refl _) o1).alloc (by simp) o2).mono hb.size)
  replace hb2 := Lib.hid hb2
  clear hpost hy H
  rcases hc with ⟨rfl, rfl, rfl⟩ | ⟨rfl, rfl, rfl⟩ | ⟨rfl, rfl, rfl⟩ | ⟨rfl, rfl, rfl⟩
  all_goals
    go_wp2
    go_ret2
    exact ⟨rfl, hb2.out _ _⟩

set_option maxRecDepth 100000 in
theorem SameInts_eq (s1 s2 : Option Addr) (c1 c2 : Nat) (l : List Int) (w : World) (h1 : SlS intE w s1 l) (h2 : SlS intE w s2 l) (hl : l.length ≤ 9223372036854775807) :
    Calls Try.prog 22 #[.slice s1 l.length c1, .slice s2 l.length c2] w fun e w' => e = .returned (.bool true) ∧ Below w.heap.size w w' := by
  have hb : ((l.length : Int) != l.length) = false := by simp
  replace h1 := Lib.hid h1; replace h2 := Lib.hid h2
  go_enter Try.func22, Try.ntmps22
  go_wp2
  go_loopw [13] (fun i wr => ∃ k : Nat, k ≤ l.length ∧ i = .int .i64 k ∧ Below w.heap.size w wr) (fun i _ => l.length - (intOf i).toNat)
  case atStart => exact ⟨0, by omega, rfl, Below.refl _ _⟩
  case round =>
    obtain ⟨k, hk, rfl, hR⟩ := hrel
    by_cases hlt : k < l.length
    · obtain ⟨b1, o1, rfl, hb1, p0⟩ := (up_of hR h1).out.int_at hlt
      obtain ⟨b2, o2, rfl, hb2, q0⟩ := (up_of hR h2).out.int_at hlt
      have g1 : (0 : Int) ≤ (k : Int) := by omega
      have g2 : (k : Int) < (l.length : Int) := by omega
      have he : (l[k] != l[k]) = false := by simp
      go_upto_region 6 with (fail)
      try have ld_p0 := World.block_lt_of_cell? _ _ p0
      try have ld_q0 := World.block_lt_of_cell? _ _ q0
      refine region_q (by kernel_rfl) (by kernel_rfl) ?_
      dsimp only [List.toList_toArray]
      repeat (first
       | go_big_quiet_skip
       | (go_big_quiet_want
          first
          | (refine qq_det ?_
             apply Exists.intro; refine ⟨fun W' hW' => ?_, ?_⟩
             (· have hk := cellB hW'; go_simp; try (first | rfl | rw [if_pos (by omega)]))
             simp only [Act.put, List.setIfInBounds_toArray, List.set_cons_zero, List.set_cons_succ]; go_big_quiet_on)))
      refine wpQuiet_nil ?_
      intro W1 hb
      try replace hR := up_of hb hR
      try replace p0 := up_of hb p0
      try replace q0 := up_of hb q0
      go_wp2
      go_roundw
      case rel => exact ⟨k + 1, by omega, rfl, hR⟩
      case measure => exact meas hlt
    · obtain rfl : k = l.length := by omega
      go_wp2
      go_ret
      exact ⟨rfl, hR⟩

def longB (k : List (List Clm)) : Bool := (k.any fun l => decide (60 < l.length)) || decide (20 < k.length)
set_option maxRecDepth 100000 in
theorem Long_c (s : Option Addr) (cap : Nat) (k : List (List Clm)) (w : World) (h : Ker w s cap k) :
    Calls Try.prog 16 #[.slice s k.length cap] w fun e w' => e = .returned (.bool (longB k)) ∧ w = w' := by
  have hl := h.len
  replace h := Lib.hid h
  go_enter Try.func16, Try.ntmps16
  go_wp2
  go_loop [7] (fun i => ∃ n : Nat, n ≤ k.length ∧ i = .int .i64 n ∧ Hid (∀ j (hj : j < k.length), j < n → ¬ 60 < k[j].length)) (fun i => k.length - (intOf i).toNat)
  case atStart => exact ⟨0, by omega, rfl, fun j _ h => absurd h (by omega)⟩
  case round =>
    obtain ⟨n, hn, rfl, hno⟩ := hrel
    by_cases hlt : n < k.length
    · obtain ⟨b, off, sa, sc, rfl, hb, h0, hsl, -, -⟩ := h.out.ss.at hlt
      have hl2 := h.out.lens _ (List.getElem_mem hlt)
      clear hsl
      by_cases hp : (60 : Int) < (k[n].length : Int)
      · have hz : true = longB k := by
          have : (k.any fun l => decide (60 < l.length)) = true := by rw [List.any_eq_true]; exact ⟨_, List.getElem_mem hlt, by simp; omega⟩
          simp [longB, this]
        replace hz := Lib.hid hz
        go_wp2
        go_ret
        exact ⟨ret_bool hz.out, rfl⟩
      · have hno2 := Lib.hid (fun j (hj : j < k.length) (h : j < n + 1) => show ¬ 60 < k[j].length by
          rcases Nat.lt_succ_iff_lt_or_eq.1 h with h | rfl
          · exact hno.out j hj h
          · omega)
        go_wp2
        go_round
        case rel => exact ⟨n + 1, by omega, by go_num, hno2⟩
        case measure => simp [intOf]; omega
    · obtain rfl : n = k.length := by omega
      have hz : decide (20 < k.length) = longB k := by
        have : (k.any fun l => decide (60 < l.length)) = false := by
          rw [List.any_eq_false]; intro x hx; obtain ⟨j, hj, rfl⟩ := List.getElem_of_mem hx; simpa using hno.out j hj hj
        simp [longB, this]
      replace hz := Lib.hid hz
      go_wp2
      go_ret
      exact ⟨ret_bool (by rw [← hz.out]; simp; omega), rfl⟩

theorem flat_take {k : List (List Clm)} {n : Nat} (hn : n < k.length) : (k.take (n + 1)).flatten = (k.take n).flatten ++ k[n] := by
  rw [List.take_succ_eq_append_getElem hn, List.flatten_append]; simp
theorem flat_take_le (k : List (List Clm)) (n : Nat) : (k.take n).flatten.length ≤ k.flatten.length := by
  conv => rhs; rw [← List.take_append_drop n k, List.flatten_append, List.length_append]
  omega
set_option maxRecDepth 100000 in
set_option maxHeartbeats 400000 in
theorem claims_c (s : Option Addr) (cap : Nat) (k : List (List Clm)) (c : Int) (w : World) (h : Ker w s cap k) (hf : k.flatten.length ≤ 1000000) :
    Calls Try.prog 47 #[.slice s k.length cap, .int .i64 c] w fun e w' => e = .returned (.int .i64 (cntC k.flatten c)) ∧ Below w.heap.size w w' := by
  have hl := h.len
  have hst := fun n (hn : n < k.length) => flat_take hn
  have hle := fun n => Nat.le_trans (flat_take_le k n) hf
  have hend : (k.take k.length).flatten = k.flatten := by rw [List.take_length]
  replace h := Lib.hid h; replace hst := Lib.hid hst; replace hle := Lib.hid hle; replace hend := Lib.hid hend
  go_enter Try.func47, Try.ntmps47
  go_wp2
  go_loopw [5, 12] (fun v i V => ∃ n : Nat, n ≤ k.length ∧ i = .int .i64 n ∧ v = .int .i64 (cntC (k.take n).flatten c) ∧ Below w.heap.size w V) (fun _ i _ => k.length - (intOf i).toNat)
  case atStart => exact ⟨0, by omega, rfl, rfl, Below.refl _ _⟩
  case round =>
    obtain ⟨n, hn, rfl, rfl, hB⟩ := hrel
    by_cases hlt : n < k.length
    · obtain ⟨b, off, sa, sc, rfl, hb, h0, hsl, -, -⟩ := (up_of hB h).out.ss.at hlt
      have hl2 := h.out.lens _ (List.getElem_mem hlt)
      have e1 := hst.out n hlt
      have e2 := hle.out (n + 1)
      rw [e1, List.length_append] at e2
      have e3 : cntC (k.take n).flatten c = cntC ((k.take n).flatten ++ k[n].take 0) c := by simp
      replace e1 := Lib.hid e1
      obtain ⟨F, hF⟩ : ∃ F, (k.take n).flatten = F := ⟨_, rfl⟩
      rw [hF] at e1 e2 e3
      rw [hF]
      replace hF := Lib.hid hF; replace e3 := Lib.hid e3; replace hsl := Lib.hid hsl
      go_wp2
      go_loopw [5, 18] (fun v i V => ∃ m : Nat, m ≤ k[n].length ∧ i = .int .i64 m ∧ v = .int .i64 (cntC (F ++ k[n].take m) c) ∧ Below wr.heap.size wr V) (fun _ i _ => k[n].length - (intOf i).toNat)
      case atStart => exact ⟨0, by omega, rfl, by rw [← e3.out], Below.refl _ _⟩
      case round =>
        obtain ⟨m, hm, rfl, rfl, hR⟩ := hrel
        have hcl := cntC_le (F ++ k[n].take m) c
        rw [List.length_append, List.length_take] at hcl
        by_cases hlm : m < k[n].length
        · obtain ⟨bx, ox, rfl, hbx, x0, x1⟩ := (up_of hR hsl).out.clm_at hlm
          have e4 : F ++ k[n].take (m + 1) = (F ++ k[n].take m) ++ [k[n][m]] := by rw [List.take_succ_eq_append_getElem hlm, List.append_assoc]
          have e5 := cntC_snoc (F ++ k[n].take m) k[n][m] c
          rw [← e4] at e5
          replace e4 := Lib.hid e4
          obtain ⟨x, hx⟩ : ∃ x, k[n][m] = x := ⟨_, rfl⟩
          rw [hx] at e5 x0 x1
          replace hx := Lib.hid hx
          obtain ⟨C, hC⟩ : ∃ C, cntC (F ++ k[n].take m) c = C := ⟨_, rfl⟩
          rw [hC] at e5 hcl
          rw [hC]
          replace hC := Lib.hid hC
          replace e5 := Lib.hid e5
          have i4 : (0 : Int) ≤ (m : Int) := by omega
          have i5 : (m : Int) < (k[n].length : Int) := by omega
          have hcb : C ≤ 1000000 := by omega
          clear hcl
          cases hx1 : (x.cell == c)
          · have hx2 : ¬ x.cell = c := by simpa using hx1
            have e6 := Lib.hid (e5.out.trans (if_neg hx2))
            clear hx2
            go_wp2
            go_roundw
            case rel => exact ⟨m + 1, by omega, by go_num, by rw [e6.out], by first | exact hR | exact hR.alloc hR.size _⟩
            case measure => simp [intOf]; omega
          · have hx2 : x.cell = c := by simpa using hx1
            have e6 := Lib.hid (e5.out.trans (if_pos hx2))
            replace hx2 := Lib.hid hx2
            go_wp2
            go_roundw
            case rel => exact ⟨m + 1, by omega, by go_num, by rw [e6.out]; go_num, by first | exact hR | exact hR.alloc hR.size _⟩
            case measure => simp [intOf]; omega
        · obtain rfl : m = k[n].length := by omega
          have e7 : F ++ k[n].take k[n].length = (k.take (n + 1)).flatten := by rw [List.take_length, e1.out]
          rw [e7]
          clear e7
          go_wp2
          go_roundw
          case rel => exact ⟨n + 1, by omega, by go_num, rfl, hB.trans (hR.mono hB.size)⟩
          case measure => simp [intOf]; omega
    · obtain rfl : n = k.length := by omega
      rw [hend.out]
      go_wp2
      go_ret
      exact ⟨rfl, hB⟩
end Go.Proofs.Ytgeoehokojijdaa
