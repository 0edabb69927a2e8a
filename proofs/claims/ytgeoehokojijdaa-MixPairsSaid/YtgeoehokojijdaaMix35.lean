/- The walk of MixPairs. -/
import Derived.Test.YtgeoehokojijdaaMix34
import Derived.Test.YtgeoehokojijdaaMix25
namespace Go.Proofs.Ytgeoehokojijdaa
open Go.RowKit

set_option maxRecDepth 100000 in
theorem has_c (s : Option Addr) (cap : Nat) (l : List Int) (n : Int) (w : World) (h : SlS intE w s l) (hl : l.length ≤ 9223372036854775807) :
    Calls Try.prog 39 #[.slice s l.length cap, .int .i64 n] w fun e w' => e = .returned (.bool (decide (n ∈ l))) ∧ Below w.heap.size w w' := by
  obtain ⟨B, hB⟩ : ∃ B, decide (n ∈ l) = B := ⟨_, rfl⟩
  rw [hB]
  replace h := Lib.hid h; replace hB := Lib.hid hB
  have h0 : Hid (n ∉ l.take 0) := Lib.hid (by simp)
  go_enter Try.func39, Try.ntmps39
  go_wp2
  go_loopw [9] (fun i V => ∃ u : Nat, u ≤ l.length ∧ i = .int .i64 u ∧ Below w.heap.size w V ∧ Hid (n ∉ l.take u)) (fun i _ => l.length - (intOf i).toNat)
  case atStart => exact ⟨0, by omega, rfl, Below.refl _ _, h0⟩
  case round =>
    clear h0
    obtain ⟨u, hu, rfl, hR, hno⟩ := hrel
    by_cases hlt : u < l.length
    · obtain ⟨b, o, rfl, hb, p0⟩ := (up_of hR h).out.int_at hlt
      have hmem : l[u] ∈ l := List.getElem_mem hlt
      have htk : l.take (u + 1) = l.take u ++ [l[u]] := List.take_succ_eq_append_getElem hlt
      obtain ⟨x, hx⟩ : ∃ x, l[u] = x := ⟨_, rfl⟩
      rw [hx] at p0 hmem htk
      replace hx := Lib.hid hx
      have i1 : (0 : Int) ≤ (u : Int) := by omega
      have i2 : (u : Int) < (l.length : Int) := by omega
      by_cases hxn : x = n
      · subst hxn
        have hT : B = true := by rw [← hB.out, decide_eq_true_iff]; exact hmem
        subst hT
        clear hmem htk hno
        go_wp2
        go_ret
        exact ⟨rfl, hR⟩
      · have hne : (x == n) = false := by simpa using hxn
        have hno2 : Hid (n ∉ l.take (u + 1)) := Lib.hid (by rw [htk]; simp; exact ⟨hno.out, fun e => hxn e.symm⟩)
        clear hmem htk hno hxn
        go_wp2
        go_roundw
        case rel => exact ⟨u + 1, by omega, by go_num, hR, hno2⟩
        case measure => exact meas hlt
    · obtain rfl : u = l.length := by omega
      have hT : B = false := by rw [← hB.out, decide_eq_false_iff_not]; have := hno.out; rwa [List.take_length] at this
      subst hT
      clear hno
      go_wp2
      go_ret
      exact ⟨rfl, hR⟩
def inB (k : List (List Clm)) (p : Nat) (st : List Int) (b a : Nat) : Bool := wantTo k p st b && aloneB k p b && (List.range a).all fun c => pairB k p st c b
theorem inB_zero (k : List (List Clm)) (p : Nat) (st : List Int) (b : Nat) : inB k p st b 0 = (wantTo k p st b && aloneB k p b) := by simp [inB]
theorem inB_succ (k : List (List Clm)) (p : Nat) (st : List Int) (b a : Nat) : inB k p st b (a + 1) = (inB k p st b a && pairB k p st a b) := by
  unfold inB; rw [List.range_succ, List.all_append]; simp [Bool.and_assoc]
theorem wantTo_succ (k : List (List Clm)) (p : Nat) (st : List Int) (b : Nat) : wantTo k p st (b + 1) = inB k p st b b := by
  unfold inB wantTo; rw [List.range_succ, List.all_append]; simp [Bool.and_assoc]
theorem later_take (p : Int) (st : List Int) {u : Nat} (hu : u < st.length) : later p (st.take (u + 1)) = later p (st.take u) ++ [(st[u] + 1) % p] := by
  unfold later; rw [List.take_succ_eq_append_getElem hu, List.map_append]; rfl
set_option maxRecDepth 100000 in
set_option maxHeartbeats 1000000 in
theorem MixPairs_c (s : Option Addr) (cap : Nat) (k : List (List Clm)) (p : Int) (t : Option Addr) (ct : Nat) (st : List Int) (w : World) (h : Ker w s cap k) (g : Ints w t st) :
    Calls Try.prog 12 #[.slice s k.length cap, .int .i64 p, .slice t st.length ct] w fun e w' => e = .returned (.bool true) ∧ Below w.heap.size w w' := by
  have hkl := h.len
  have hsl := g.len
  have hlo := fun W (h : Ker W s cap k) => Long_c s cap k W h
  cases h1 : longB k
  case true =>
    rw [h1] at hlo
    replace hlo := Lib.hid hlo
    clear h1
    go_enter Try.func12, Try.ntmps12
    go_wp2_with (first | (go_at_call 16; refine (hlo.out _ h).mono ?_; rintro e w' ⟨rfl, rfl⟩) | (go_at_call 17; refine (Awake_c _).mono ?_; rintro e W1 ⟨rfl, hb⟩; (try replace h := up_of hb h)))
    go_ret
    exact ⟨rfl, hb⟩
  rw [h1] at hlo
  replace hlo := Lib.hid hlo
  clear h1
  by_cases h40 : 40 < st.length
  · have h41 : (40 : Int) < (st.length : Int) := by omega
    go_enter Try.func12, Try.ntmps12
    go_wp2_with (first | (go_at_call 16; refine (hlo.out _ h).mono ?_; rintro e w' ⟨rfl, rfl⟩) | (go_at_call 17; refine (Awake_c _).mono ?_; rintro e W1 ⟨rfl, hb⟩; (try replace h := up_of hb h)))
    go_ret
    exact ⟨rfl, hb⟩
  have h41 : ¬ (40 : Int) < (st.length : Int) := by omega
  have c1 := fun W (h : Ker W s cap k) (g : Ints W t st) => Good_c s cap k p t ct st W h g
  by_cases hE : askE k p st = 0
  case neg =>
    rw [show rgB k p st = false by simp [rgB, hE]] at c1
    obtain ⟨E, hEe⟩ : ∃ E, askE k p st = E := ⟨_, rfl⟩
    rw [hEe] at c1 hE
    have hE1 : (E != 0) = true := by simpa using hE
    replace c1 := Lib.hid c1
    clear hEe hE
    go_enter Try.func12, Try.ntmps12
    go_upto_region 4 with (first | (go_at_call 16; refine (hlo.out _ h).mono ?_; rintro e w' ⟨rfl, rfl⟩) | (go_at_call 34; refine (c1.out _ h g).mono ?_; rintro e A1 ⟨rfl, hb⟩; (try replace h := up_of hb h); (try replace g := up_of hb g)))
    have hB := hb
    clear hb
    go_wp2_with (first | (go_at_call 17; refine (Awake_c _).mono ?_; rintro e W1 ⟨rfl, hb⟩; (try replace h := up_of hb h); (try replace g := up_of hb g); (try replace hB := up_of hb hB)))
    go_ret
    exact ⟨rfl, hB⟩
  obtain ⟨hvl, hp, hst, hsr⟩ := askE_ok hE
  rw [hE, show rgB k p st = goodB k p st by simp [rgB, hE]] at c1
  obtain ⟨p, rfl⟩ : ∃ n : Nat, p = n := ⟨p.toNat, by omega⟩
  have hpb : bw 1 (p : Int) 20 = true := by rw [bw_iff]; exact hp
  have hck : chkE k p = 0 := by simp [chkE, hvl, hpb]
  have hbb : ∀ b : Nat, b < k.length → bw 0 (b : Int) (k.length - 1) = true := fun b hb => by rw [bw_iff]; omega
  have hk3 := vldB_k hvl
  have c2 : ∀ b : Nat, b < k.length → ∀ W, Ker W s cap k → Calls Try.prog 30 #[.slice s k.length cap, .int .i64 b, .int .i64 p] W fun e w' => e = .returned (.tuple #[.bool (aloneB k p b), .int .i64 0]) ∧ Below W.heap.size W w' := fun b hb W h => by
    have h1 := Alone_c s cap k b p W h (by omega)
    have e0 : alE k b p = 0 := by simp [alE, hck, hbb b hb]
    rw [show alV k b p = aloneB k p b by simp [alV, e0, aloneB], e0] at h1
    exact h1
  have c3 : ∀ a b : Nat, a < b → b < k.length → ∀ W, Ker W s cap k → Calls Try.prog 32 #[.slice s k.length cap, .int .i64 a, .int .i64 b, .int .i64 p] W (IntsErr (forbL (k.getD a []) (k.getD b []) p) 0 W) := fun a b hab hb W h => by
    have h1 := Forbidden_c s cap k a b p W h
    have hne : ¬ (a : Int) = (b : Int) := by omega
    have e0 : fbE k a b p = 0 := by simp [fbE, hck, hbb b hb, hbb a (by omega), hne]
    rw [show fbL k a b p = forbL (k.getD a []) (k.getD b []) p by simp [fbL, e0], e0] at h1
    exact h1
  have hLT : ∀ n ∈ later p st, 0 ≤ n ∧ n < (p : Int) := fun n hn => by
    obtain ⟨x, _, rfl⟩ := List.mem_map.1 hn
    exact ⟨Int.emod_nonneg _ (by omega), Int.emod_lt_of_pos _ (by omega)⟩
  have hLl : (later p st).length = st.length := by simp [later]
  have c4 : ∀ W s4 c4, Ker W s cap k → Ints W s4 (later p st) → Calls Try.prog 34 #[.slice s k.length cap, .int .i64 p, .slice s4 (later p st).length c4] W fun e w' => e = .returned (.tuple #[.bool (goodB k p st), .int .i64 0]) ∧ Below W.heap.size W w' := fun W s4 c4 h g => by
    have h1 := Good_c s cap k p s4 c4 (later p st) W h g
    have hask : askE k (p : Int) (later p st) = 0 := by
      have ht : timB k (p : Int) (later p st) = true := by
        simp only [timB, Bool.and_eq_true, decide_eq_true_iff, List.all_eq_true]
        exact ⟨by rw [hLl]; exact hst, fun n hn => by rw [bw_iff]; have := hLT n hn; omega⟩
      simp [askE, hvl, hpb, ht]
    rw [hask, show rgB k (p : Int) (later p st) = goodB k (p : Int) st by simp [rgB, hask, later_good hst]] at h1
    exact h1
  have hwi := want_iff (k := k) (p := p) (st := st) (by omega) hst
  obtain ⟨GB, hGB⟩ : ∃ x, goodB k (p : Int) st = x := ⟨_, rfl⟩
  simp only [hGB] at c1 c4 hwi
  have hfl : ∀ a b : Nat, (forbL (k.getD a []) (k.getD b []) p).length ≤ 9223372036854775807 := fun a b => by have := forb_len (k.getD a []) (k.getD b []) p; omega
  have hw0 : wantTo k p st 0 = true := rfl
  have hlt0 : later p (st.take 0) = [] := rfl
  have hltn := fun u hu => later_take (p : Int) st (u := u) hu
  have hp2 : (1 : Int) ≤ (p : Int) ∧ (p : Int) ≤ 20 := hp
  have hp0 : ¬ (p : Int) = 0 := by omega
  have hp1 : ¬ p = 0 := by omega
  have hst40 : st.length ≤ 40 := by omega
  replace c1 := Lib.hid c1; replace c2 := Lib.hid c2; replace c3 := Lib.hid c3; replace c4 := Lib.hid c4; replace hst := Lib.hid hst; replace hsr := Lib.hid hsr; replace hwi := Lib.hid hwi; replace hfl := Lib.hid hfl; replace hw0 := Lib.hid hw0; replace hlt0 := Lib.hid hlt0; replace hltn := Lib.hid hltn; replace hLl := Lib.hid hLl; replace hGB := Lib.hid hGB
  clear hE hvl hp hpb hck hbb hLT
  go_enter Try.func12, Try.ntmps12
  go_upto_region 4 with (first | (go_at_call 16; refine (hlo.out _ h).mono ?_; rintro e w' ⟨rfl, rfl⟩) | (go_at_call 34; refine (c1.out _ h g).mono ?_; rintro e A1 ⟨rfl, hb⟩; (try replace h := up_of hb h); (try replace g := up_of hb g)))
  have hB := hb
  clear hb
  have hw1 : Hid (true = wantTo k p st 0) := Lib.hid hw0.out.symm
  go_wp2
  go_loopw [9, 45] (fun v ii V => ∃ b : Nat, b ≤ k.length ∧ ii = .int .i64 b ∧ v = .bool (wantTo k p st b) ∧ Below A1.heap.size A1 V) (fun _ ii _ => k.length - (intOf ii).toNat)
  case atStart => exact ⟨0, by omega, rfl, by rw [← hw1.out], Below.refl _ _⟩
  case round =>
    clear hw1
    obtain ⟨b, hbl, rfl, rfl, hR⟩ := hrel
    by_cases hlt : b < k.length
    · have hAl := c2.out b hlt _ (up_of hR h)
      have hin0 := inB_zero k p st b
      have hwts := wantTo_succ k p st b
      obtain ⟨WT, hWT⟩ : ∃ x, wantTo k p st b = x := ⟨_, rfl⟩
      obtain ⟨AL, hAL⟩ : ∃ x, aloneB k p b = x := ⟨_, rfl⟩
      rw [hAL] at hAl hin0
      rw [hWT] at hin0 ⊢
      replace hAl := Lib.hid hAl; replace hWT := Lib.hid hWT; replace hAL := Lib.hid hAL; replace hwts := Lib.hid hwts
      have hRs := hR.size
      cases WT
      all_goals
        simp only [Bool.false_and, Bool.true_and] at hin0
        replace hin0 := Lib.hid hin0
        go_upto_region 14 with (go_at_call 30; refine hAl.out.mono ?_; rintro e A2 ⟨rfl, hb2⟩)
        have hR2 := hR.trans (hb2.mono hRs)
        clear hAl
        go_wp2
        go_loopw [9, 62] (fun v ii V => ∃ a : Nat, a ≤ b ∧ ii = .int .i64 a ∧ v = .bool (inB k p st b a) ∧ Below A1.heap.size A1 V) (fun _ ii _ => b - (intOf ii).toNat)
        case atStart => exact ⟨0, by omega, rfl, by rw [hin0.out], hR2⟩
        case round =>
          clear hR hR2 hin0 hRs
          obtain ⟨a, hal, rfl, rfl, hR⟩ := hrel
          by_cases hab : a < b
          · have hFo := c3.out a b hab hlt _ (up_of hR h)
            have hins := inB_succ k p st b a
            have hpd : pairB k p st a b = !decide ((st.getD b 0 - st.getD a 0 + p) % (p : Int) ∈ forbL (k.getD a []) (k.getD b []) p) := rfl
            have hflab := hfl.out a b
            obtain ⟨LF, hLF⟩ : ∃ x, forbL (k.getD a []) (k.getD b []) p = x := ⟨_, rfl⟩
            rw [hLF] at hFo hpd hflab
            have ha2 : a < st.length := by have := hst.out; omega
            have hb2 : b < st.length := by have := hst.out; omega
            have hg1 := up_of hR g
            obtain ⟨b1, o1, rfl, hbb1, p0⟩ := hg1.sl.int_at hb2
            obtain ⟨b2, o2, eb, -, q0⟩ := hg1.sl.int_at ha2
            cases eb
            have hsb := hsr.out _ (List.getElem_mem hb2)
            have hsa := hsr.out _ (List.getElem_mem ha2)
            rw [show st.getD b 0 = st[b] by rw [List.getD_eq_getElem?_getD, List.getElem?_eq_getElem hb2]; rfl, show st.getD a 0 = st[a] by rw [List.getD_eq_getElem?_getD, List.getElem?_eq_getElem ha2]; rfl] at hpd
            obtain ⟨x, hx⟩ : ∃ x, st[b] = x := ⟨_, rfl⟩
            obtain ⟨y, hy⟩ : ∃ x, st[a] = x := ⟨_, rfl⟩
            rw [hx] at p0 hsb hpd
            rw [hy] at q0 hsa hpd
            obtain ⟨D, hD⟩ : ∃ D, (x - y + (p : Int)) % (p : Int) = D := ⟨_, rfl⟩
            rw [hD] at hpd
            have v1 := i64_small (n := x - y) (by omega)
            have v2 := i64_small (n := x - y + (p : Int)) (by omega)
            have v3 : (x - y + (p : Int)).tmod (p : Int) = D := by rw [Int.tmod_eq_emod_of_nonneg (by omega)]; exact hD
            have hHas := fun W s3 c3 (h : SlS intE W s3 LF) => has_c s3 c3 LF D W h hflab
            obtain ⟨HV, hHV⟩ : ∃ x, decide (D ∈ LF) = x := ⟨_, rfl⟩
            obtain ⟨IB, hIB⟩ : ∃ x, inB k p st b a = x := ⟨_, rfl⟩
            simp only [hHV] at hHas hpd
            rw [hIB, hpd] at hins
            rw [hIB]
            have j1 : (0 : Int) ≤ (a : Int) := by omega
            have j2 : (a : Int) < (st.length : Int) := by omega
            have j3 : (0 : Int) ≤ (b : Int) := by omega
            have j4 : (b : Int) < (st.length : Int) := by omega
            replace hHas := Lib.hid hHas; replace hHV := Lib.hid hHV; replace hIB := Lib.hid hIB; replace hins := Lib.hid hins; replace hLF := Lib.hid hLF; replace hx := Lib.hid hx; replace hy := Lib.hid hy; replace hD := Lib.hid hD; replace hFo := Lib.hid hFo
            clear hpd hg1
            go_upto_region 20 with (first | (go_at_call 32; refine (hFo.out).mono ?_; rintro e A3 ⟨⟨s3, k3, rfl, hown⟩, hb⟩; (try replace hR := up_of hb hR); (try replace p0 := up_of hb p0); (try replace q0 := up_of hb q0)))
            have i3 := SlS.of_own (E := intE) hown
            clear hb hown
            cases IB
            · try have ld_p0 := World.block_lt_of_cell? _ _ p0
              try have ld_q0 := World.block_lt_of_cell? _ _ q0
              refine region_q (by kernel_rfl) (by kernel_rfl) ?_
              dsimp only [List.toList_toArray]
              repeat (first
               | go_big_quiet_skip
               | (go_big_quiet_want
                  first
                  | (refine qq_det ?_
                     apply Exists.intro; refine ⟨fun W' hW' => ?_, ?_⟩
                     (· have hk := cellB hW'; go_simp; try (first | rfl | rw [if_pos (by omega)]))
                     simp only [Act.put, List.setIfInBounds_toArray, List.set_cons_zero, List.set_cons_succ]; go_big_quiet_on)))
              refine wpQuiet_nil ?_
              intro W1 hb
              try replace hR := up_of hb hR
              try replace p0 := up_of hb p0
              try replace q0 := up_of hb q0
              try replace i3 := up_of hb i3
              go_wp2
              go_roundw
              case rel => exact ⟨a + 1, by omega, by go_num, by rw [hins.out]; rfl, hR⟩
              case measure => exact meas hab
            · try have ld_p0 := World.block_lt_of_cell? _ _ p0
              try have ld_q0 := World.block_lt_of_cell? _ _ q0
              refine region_q (by kernel_rfl) (by kernel_rfl) ?_
              dsimp only [List.toList_toArray]
              repeat (first
               | go_big_quiet_skip
               | (go_big_quiet_want
                  first
                  | (refine qq_det ?_
                     apply Exists.intro; refine ⟨fun W' hW' => ?_, ?_⟩
                     (· have hk := cellB hW'; go_simp; try (first | rfl | rw [if_pos (by omega)]))
                     simp only [Act.put, List.setIfInBounds_toArray, List.set_cons_zero, List.set_cons_succ]; go_big_quiet_on)
                  | (refine qq_call ?_
                     apply Exists.intro; apply Exists.intro; refine ⟨fun W' hW' => ?_, ?_⟩
                     (· have hk := cellB hW'; go_simp; exact ⟨rfl, rfl⟩)
                     apply Exists.intro; refine ⟨fun W' hW' => ?_, ?_⟩
                     (· first | (go_at_call 39; exact qc hW' (hHas.out _ _ _ (up_of hW' i3))))
                     simp only [Act.put, List.setIfInBounds_toArray, List.set_cons_zero, List.set_cons_succ]; go_big_quiet_on)))
              refine wpQuiet_nil ?_
              intro W1 hb
              try replace hR := up_of hb hR
              try replace p0 := up_of hb p0
              try replace q0 := up_of hb q0
              try replace i3 := up_of hb i3
              go_wp2
              go_roundw
              case rel => exact ⟨a + 1, by omega, by go_num, by rw [hins.out]; simp, hR⟩
              case measure => exact meas hab
          · obtain rfl : a = b := by omega
            rw [← hwts.out]
            go_wp2
            go_roundw
            case rel => exact ⟨a + 1, by omega, by go_num, rfl, hR⟩
            case measure => exact meas hlt
    · obtain rfl : b = k.length := by omega
      rw [hwi.out]
      have hRs := hR.size
      go_wp2
      go_loopw [16, 98] (fun v ii V => ∃ u : Nat, u ≤ st.length ∧ ii = .int .i64 u ∧ V.ownsRow A1.heap.size 3 1 v (later p (st.take u)).length (intE.all (later p (st.take u))) ∧ Below A1.heap.size A1 V) (fun _ ii _ => st.length - (intOf ii).toNat)
      case atStart => exact ⟨0, by omega, rfl, World.ownsRow_nil _ _ _ _, hR⟩
      case round =>
        clear hR hRs
        obtain ⟨u, hu, rfl, hown, hR⟩ := hrel
        by_cases hlt2 : u < st.length
        · have hlu : (later (p : Int) (st.take u)).length = u := by simp [later]; omega
          have e1 := hltn.out u hlt2
          obtain ⟨b1, o1, rfl, hbb1, p0⟩ := (up_of hR g).sl.int_at hlt2
          have hsb := hsr.out _ (List.getElem_mem hlt2)
          obtain ⟨x, hx⟩ : ∃ x, st[u] = x := ⟨_, rfl⟩
          rw [hx] at p0 hsb e1
          obtain ⟨R, hR0⟩ : ∃ R, (x + 1) % (p : Int) = R := ⟨_, rfl⟩
          rw [hR0] at e1
          have v1 := i64_small (n := x + 1) (by omega)
          have v2 : (x + 1).tmod (p : Int) = R := by rw [Int.tmod_eq_emod_of_nonneg (by omega)]; exact hR0
          obtain ⟨F, hF⟩ : ∃ F, later (p : Int) (st.take u) = F := ⟨_, rfl⟩
          rw [hF] at hown e1 hlu
          have hFb : F.length ≤ 40 := by omega
          have hRs := hR.size
          have j1 : (0 : Int) ≤ (u : Int) := by omega
          have j2 : (u : Int) < (st.length : Int) := by omega
          replace hF := Lib.hid hF; replace e1 := Lib.hid e1; replace hx := Lib.hid hx; replace hR0 := Lib.hid hR0
          clear hlu
          go_wp2_with (first | (at_builtin; obtain ⟨i0, hi, hz0, hz1, hz2⟩ := info_parts info_int; refine wpList_append_own _ rfl _ _ 28 rfl A1.heap.size 3 i0 (.int .i64 0) 1 8 Try.underlying28 hi hz0 hz1 hz2 rfl (by decide) _ _ _ rfl (hown.alloc _) ⟨wr.heap.size, 0, none⟩ 1 1 [.int .i64 R] rfl rfl (news_new _ _ _) (by simp [Value.oneCell']) (by unfold maxLen; omega) (by omega) (by simp; omega) ?_; intro v1 w1 hown1 hgrow hnil))
          go_roundw
          case rel => exact ⟨u + 1, by omega, by go_num, by rw [e1.out, Elt.all_append, Elt.all_single, List.length_append]; exact hown1, Up.grown hR hRs hown hgrow⟩
          case measure => exact meas hlt2
        · obtain rfl : u = st.length := by omega
          rw [List.take_length] at hown
          obtain ⟨s4, k4, rfl, -⟩ := owns_shape hown
          have i4 : Ints _ s4 (later (p : Int) st) := ⟨SlS.of_own (E := intE) hown, by rw [hLl.out]; omega⟩
          have hGo := c4.out _ s4 k4 (up_of hR h) i4
          have hBf := hB.trans (hR.mono hB.size)
          replace hGo := Lib.hid hGo
          clear i4 hown
          cases GB
          all_goals
            go_wp2_with (first | (go_at_call 34; refine (hGo.out).mono ?_; rintro e W1 ⟨rfl, hb⟩; (try replace hBf := up_of hb hBf)) | (go_at_call 17; refine (Awake_c _).mono ?_; rintro e W1 ⟨rfl, hb⟩; (try replace hBf := up_of hb hBf)))
            go_ret
            exact ⟨rfl, hBf⟩
end Go.Proofs.Ytgeoehokojijdaa
