/- Bounds: the program and the reference. -/
import Derived.Test.YtgeoehokojijdaaMix6
import Derived.Laws.Rows
import Derived.Laws.Tables
namespace Go.Proofs.Ytgeoehokojijdaa
open Go.RowKit

theorem vld_flat {k : List (List Clm)} (h : vldB k = true) : k.flatten.length ≤ 60 := by
  have h3 := vldB_k h
  have hl := fun l (hl : l ∈ k) => (vldB_l h hl).2.2
  have : ∀ (m : List (List Clm)), (∀ l ∈ m, l.length ≤ 20) → m.flatten.length ≤ 20 * m.length := fun m => by
    induction m with
    | nil => intro _; simp
    | cons x m ih =>
      intro hm
      have h1 := hm x (by simp)
      have h2 := ih fun y hy => hm y (by simp [hy])
      simp only [List.flatten_cons, List.length_append, List.length_cons]; omega
  have := this k hl
  omega
def bndE (k : List (List Clm)) : Int := if vldB k then 0 else 90
def bndV (k : List (List Clm)) : Int := if vldB k then (bndN k : Nat) else 0

set_option maxRecDepth 100000 in
set_option maxHeartbeats 400000 in
theorem rBound_c (s : Option Addr) (cap : Nat) (k : List (List Clm)) (w : World) (h : Ker w s cap k) :
    Calls Try.prog 19 #[.slice s k.length cap] w fun e w' => e = .returned (.tuple #[.int .i64 (bndV k), .int .i64 (bndE k)]) ∧ Below w.heap.size w w' := by
  have hl := h.len
  have H := Lib.hid (rValid_c s cap k w h)
  cases h1 : vldB k
  · rw [show bndV k = 0 by simp [bndV, h1], show bndE k = 90 by simp [bndE, h1]]
    rw [h1] at H
    clear h
    go_enter Try.func19, Try.ntmps19
    go_wp2_with (go_at_call 27; refine H.out.mono ?_; rintro e W1 ⟨rfl, hb⟩)
    go_ret2
    exact ⟨rfl, hb⟩
  rw [show bndV k = (maxTo (fun c => cntC k.flatten c) 16 : Nat) by simp [bndV, h1, bndN], show bndE k = 0 by simp [bndE, h1]]
  rw [h1] at H
  have hf := vld_flat h1
  have hC := fun W (h : Ker W s cap k) (c : Int) => claims_c s cap k c W h (by omega)
  have hmx : ∀ n, maxTo (fun c => cntC k.flatten c) n ≤ 60 := fun n => maxTo_of fun c _ => Nat.le_trans (cntC_le _ _) hf
  have hcx : ∀ c, cntC k.flatten c ≤ 60 := fun c => Nat.le_trans (cntC_le _ _) hf
  have hsx : ∀ n, maxTo (fun c => cntC k.flatten c) (n + 1) = max (maxTo (fun c => cntC k.flatten c) n) (cntC k.flatten n) := fun _ => rfl
  have hz0 : maxTo (fun c => cntC k.flatten c) 0 = 0 := rfl
  obtain ⟨g, hg⟩ : ∃ g : Nat → Nat, (fun n => maxTo (fun c => cntC k.flatten c) n) = g := ⟨_, rfl⟩
  have hg2 : ∀ n, maxTo (fun c => cntC k.flatten c) n = g n := fun n => by rw [← hg]
  simp only [hg2] at hmx hsx hz0 ⊢
  replace h := Lib.hid h; replace hC := Lib.hid hC; replace hmx := Lib.hid hmx; replace hcx := Lib.hid hcx; replace hsx := Lib.hid hsx
  have hz0' : (0 : Int) = (g 0 : Nat) := by omega
  replace hz0 := Lib.hid hz0; replace hz0' := Lib.hid hz0'
  clear hg hg2 h1 hf
  go_enter Try.func19, Try.ntmps19
  go_wp2_with (go_at_call 27; refine H.out.mono ?_; rintro e W1 ⟨rfl, hb⟩)
  go_loopw [4, 9] (fun v i V => ∃ n : Nat, n ≤ 16 ∧ i = .int .i64 n ∧ v = .int .i64 (g n : Nat) ∧ Below w.heap.size w V) (fun _ i _ => 16 - (intOf i).toNat)
  case atStart => exact ⟨0, by omega, rfl, by rw [← hz0'.out], hb⟩
  case round =>
    clear hb H
    obtain ⟨n, hn, rfl, rfl, hB⟩ := hrel
    by_cases hlt : n < 16
    · have e1 := hsx.out n
      have e2 := hmx.out n
      have e3 := hcx.out n
      obtain ⟨C, hCe⟩ : ∃ C, cntC k.flatten n = C := ⟨_, rfl⟩
      have hcl := hC.out _ (up_of hB h).out n
      rw [hCe] at e1 e3 hcl
      obtain ⟨G, hG⟩ : ∃ G, g n = G := ⟨_, rfl⟩
      rw [hG] at e1 e2 ⊢
      have e4 : (if G < C then (C : Int) else (G : Int)) = ((g (n + 1) : Nat) : Int) := by rw [e1]; split <;> omega
      replace e4 := Lib.hid e4
      replace hCe := Lib.hid hCe; replace hG := Lib.hid hG; replace e1 := Lib.hid e1; replace hcl := Lib.hid hcl
      go_wp2_with (go_at_call 47; refine hcl.out.mono ?_; rintro e W1 ⟨rfl, hb⟩)
      go_roundw
      case rel => exact ⟨n + 1, by omega, by go_num, congrArg (Value.int .i64) e4.out, hB.trans (hb.mono hB.size)⟩
      case measure => simp [intOf]; omega
    · obtain rfl : n = 16 := by omega
      go_wp2
      go_ret2
      exact ⟨rfl, hB⟩

set_option maxRecDepth 100000 in
theorem Max_c (s : Option Addr) (cap n : Nat) (f : Nat → Nat) (w : World) (hn : 1 ≤ n ∧ n ≤ 100) (hs : SlS intE w s ((List.range n).map fun c => ((f c : Nat) : Int))) (hf : ∀ i, f i ≤ 1000000) :
    Calls Try.prog 46 #[.slice s n cap] w fun e w' => e = .returned (.int .i64 (maxTo f n)) ∧ w = w' := by
  have hc : ∀ i, i < n → ∃ b off, s = some ⟨b, off, none⟩ ∧ w.cell? ⟨b, off + i, none⟩ = some (.int .i64 ((f i : Nat) : Int)) := fun i hi => by
    obtain ⟨b, off, e, hb, h⟩ := hs.int_at (i := i) (by simpa using hi)
    refine ⟨b, off, e, ?_⟩
    simpa using h
  have hm : ∀ i, maxTo f i ≤ 1000000 := fun i => maxTo_of fun c _ => hf c
  have hsx : ∀ n, maxTo f (n + 1) = max (maxTo f n) (f n) := fun _ => rfl
  have h01 : maxTo f 1 = f 0 := by simp [maxTo]
  obtain ⟨b, off, rfl, h0⟩ := hc 0 (by omega)
  have hc2 : ∀ i, i < n → w.cell? ⟨b, off + i, none⟩ = some (.int .i64 ((f i : Nat) : Int)) := fun i hi => by
    obtain ⟨b2, off2, e, h⟩ := hc i hi
    cases e; exact h
  obtain ⟨g, hg⟩ : ∃ g : Nat → Nat, (fun n => maxTo f n) = g := ⟨_, rfl⟩
  have hg2 : ∀ n, maxTo f n = g n := fun n => by rw [← hg]
  simp only [hg2] at hm hsx h01 ⊢
  rw [← h01] at h0
  simp only [Nat.add_zero] at h0
  replace hc2 := Lib.hid hc2; replace hm := Lib.hid hm; replace hsx := Lib.hid hsx; replace h01 := Lib.hid h01; replace hf := Lib.hid hf
  clear hc hs hg hg2
  have h1 : ¬ (n : Int) < 1 := by omega
  go_enter Try.func46, Try.ntmps46
  go_wp2
  go_loop [3, 4] (fun v i => ∃ j : Nat, 1 ≤ j ∧ j ≤ n ∧ i = .int .i64 j ∧ v = .int .i64 (g j : Nat)) (fun _ i => n - (intOf i).toNat)
  case atStart => exact ⟨1, by omega, by omega, rfl, rfl⟩
  case round =>
    clear h0
    obtain ⟨j, hj1, hj, rfl, rfl⟩ := hrel
    by_cases hlt : j < n
    · have e1 := hsx.out j
      have e2 := hm.out j
      have e3 := hf.out j
      have e0 := hc2.out j hlt
      obtain ⟨C, hCe⟩ : ∃ C, f j = C := ⟨_, rfl⟩
      rw [hCe] at e1 e3 e0
      obtain ⟨G, hG⟩ : ∃ G, g j = G := ⟨_, rfl⟩
      rw [hG] at e1 e2 ⊢
      have e4 : (if G < C then (C : Int) else (G : Int)) = ((g (j + 1) : Nat) : Int) := by rw [e1]; split <;> omega
      replace e4 := Lib.hid e4
      replace hCe := Lib.hid hCe; replace hG := Lib.hid hG; replace e1 := Lib.hid e1
      have i4 : (0 : Int) ≤ (j : Int) := by omega
      have i5 : (j : Int) < (n : Int) := by omega
      go_wp2
      go_round
      case rel => exact ⟨j + 1, by omega, by omega, by go_num, congrArg (Value.int .i64) e4.out⟩
      case measure => simp [intOf]; omega
    · obtain rfl : j = n := by omega
      go_wp2
      go_ret
      exact ⟨rfl, rfl⟩

theorem info_clm : (Try.prog.info? 65).map (fun i => (i.zero, i.size, i.bytes)) = some (some (.agg #[.int .i64 0, .int .i64 0]), 2, 16) := by kernel_rfl
set_option maxRecDepth 100000 in
set_option maxHeartbeats 400000 in
theorem clm_clone (s : Option Addr) (cap : Nat) (l : List Clm) (w : World) (hs : SlS clmE w s l) (hc : s = none → cap = 0) (hl : l.length ≤ 1099511627776) :
    Calls Try.prog 63 #[.slice s l.length cap] w (RetS clmE 65 l w) := by
  have hml : l.length ≤ maxLen := by unfold maxLen; omega
  have hin := hs
  cases s with
  | none =>
    obtain rfl := hs.none_nil
    obtain rfl := hc rfl
    clear hs hin hml hc
    have hq : ∀ w : World, (binOp .eql 40 (.slice none 0 0) (.slice none 0 0)).run Try.prog w = .ok (.bool true) w := fun w => Lib.run_eql_slice_nil w 40 65 _ _ _ _ _ Try.underlying40
    go_enter Try.func63, Try.ntmps63
    go_wp2
    go_ret
    exact ⟨none, 0, rfl, World.ownsRow_nil _ _ _ _, Below.refl _ _⟩
  | some a =>
    have hs2 := Lib.hid (up_of ((Below.refl w.heap.size w).alloc (Nat.le_refl _) (.cells #[] 65)) hs)
    replace hs := Lib.hid hs
    clear hin hc
    have hq : ∀ w : World, (binOp .eql 40 (.slice (some a) l.length cap) (.slice none 0 0)).run Try.prog w = .ok (.bool false) w := fun w => Lib.run_eql_slice_nil w 40 65 _ _ _ _ _ Try.underlying40
    go_enter Try.func63, Try.ntmps63
    obtain ⟨i0, hi, hz0, hz1, hz2⟩ := info_parts info_clm
    go_wp2_with (first | (at_builtin; refine wpList_append_own _ rfl _ _ 40 rfl w.heap.size 65 i0 (.agg #[.int .i64 0, .int .i64 0]) 2 16 Try.underlying40 hi hz0 hz1 hz2 rfl (by decide) _ _ _ rfl (owns_built w 65 2) a l.length cap (Elt.all clmE l) rfl (Elt.all_len _ _) (SlS.news hs2.out) (Elt.all_one _ _) (by unfold maxLen; omega) (by omega) (by simp) ?_; intro v1 w1 hown1 hgrow hnil))
    simp only [Nat.zero_add, List.nil_append] at hown1
    obtain ⟨s', c', rfl, _⟩ := owns_shape hown1
    go_wp2
    go_ret
    exact ⟨s', c', rfl, hown1, ((Below.refl _ w).alloc (Nat.le_refl _) _).grown hgrow (by simp) (fun k hk => by cases hk; exact Nat.le_refl _)⟩

set_option maxRecDepth 100000 in
set_option maxHeartbeats 1000000 in
theorem clm_grow (n : Nat) (w : World) (hl : n ≤ 1099511627776) :
    Calls Try.prog 74 #[.slice none 0 0, .int .i64 n] w fun e w' => (∃ s cap, e = .returned (.slice s 0 cap) ∧ w'.ownsRow w.heap.size 65 2 (.slice s 0 cap) 0 []) ∧ Below w.heap.size w w' := by
  by_cases h0 : n = 0
  · subst h0
    go_enter Try.func74, Try.ntmps74
    go_wp2
    go_ret
    exact ⟨⟨none, 0, rfl, World.ownsRow_nil _ _ _ _⟩, Below.refl _ _⟩
  · obtain ⟨i0, hi, hz0, hz1, hz2⟩ := info_parts info_clm
    have hrz : ∀ ty, (Builtin.append_ #[40, 3] ty #[.slice none 0 0, .int .i64 n]).run Try.prog w = .ok (.slice (some ⟨w.heap.size, 0, none⟩) n (grownCap w n 0 65))
        (w.drew.alloc (.cells (([] : List Value).toArray ++ Builtin.zeroCells (Value.cells (.agg #[.int .i64 0, .int .i64 0])) n ++ Builtin.zeroCells (Value.cells (.agg #[.int .i64 0, .int .i64 0])) (grownCap w n 0 65 - n)) 65)) := fun ty => by
      have h := Lib.run_append_grow_zeros w 40 3 ty 65 i0 (.agg #[.int .i64 0, .int .i64 0]) .i64 .i64 Try.underlying40 (by kernel_rfl) hi hz0 none 0 0 [] (run_firstCells_none w.drew i0.size 0 0 0) n (by omega) (by rw [hz1]; decide) (by omega) (by omega)
        (by rw [hz2]; omega) (by rw [hz2, Nat.zero_add]; exact growslice_fits (by omega) (by omega))
      rw [Nat.zero_add] at h
      exact h
    have hGn : n ≤ grownCap w n 0 65 := grownCap_ge w _ _ _
    have hcur : (([] : List Value).toArray ++ Builtin.zeroCells (Value.cells (.agg #[.int .i64 0, .int .i64 0])) n ++ Builtin.zeroCells (Value.cells (.agg #[.int .i64 0, .int .i64 0])) (grownCap w n 0 65 - n)).size = grownCap w n 0 65 * 2 := by
      simp only [Array.size_append, size_zeroCells]
      have : (Value.cells (.agg #[.int .i64 0, .int .i64 0])).size = 2 := rfl
      rw [this]
      simp
      rw [← Nat.add_mul]; congr 1; omega
    have hG63 := grownCap_le_maxLen w n 0 65 (by unfold maxLen; omega)
    obtain ⟨cur, hc⟩ : ∃ cur, cur = (([] : List Value).toArray ++ Builtin.zeroCells (Value.cells (.agg #[.int .i64 0, .int .i64 0])) n ++ Builtin.zeroCells (Value.cells (.agg #[.int .i64 0, .int .i64 0])) (grownCap w n 0 65 - n)) := ⟨_, rfl⟩
    rw [← hc] at hrz hcur
    obtain ⟨G, hG⟩ : ∃ G, G = grownCap w n 0 65 := ⟨_, rfl⟩
    rw [← hG] at hrz hGn hcur hG63
    have hown := Lib.hid (owns_grown w.drew 65 2 G cur hcur hG63)
    have hG64 : G ≤ 9223372036854775807 := by unfold maxLen at hG63; omega
    clear hc hG hcur hG63
    have hn0 : (0 : Int) < (n : Int) := by omega
    go_enter Try.func74, Try.ntmps74
    go_wp2_with (at_builtin; refine Lib.wpList_append_run _ rfl _ _ _ _ rfl _ _ rfl rfl _ _ (hrz _) ?_)
    go_ret
    exact ⟨⟨_, G, rfl, hown.out⟩, ((Below.refl _ w).drew).alloc (Nat.le_refl _) _⟩

set_option maxRecDepth 100000 in
set_option maxHeartbeats 1000000 in
theorem clm_concat (s0 : Option Addr) (c0 : Nat) (ss : List Sv) (ls : List (List Clm)) (w : World) (hss : SlS svE w s0 ss) (hlen : ss.length = ls.length)
    (hin : ∀ i (hi : i < ls.length) (hj : i < ss.length), ss[i].len = ls[i].length ∧ SlS clmE w ss[i].addr ls[i] ∧ (ss[i].addr = none → ss[i].cap = 0))
    (hm : ss.length ≤ 1099511627776) (hl : ls.flatten.length ≤ 1099511627776) :
    Calls Try.prog 66 #[.slice s0 ss.length c0] w (RetS clmE 65 ls.flatten w) := by
  have hsum : ∀ k, (catTo ls k).length ≤ ls.flatten.length := catTo_le ls
  have hsucc : ∀ k (hk : k < ls.length), catTo ls (k + 1) = catTo ls k ++ ls[k] := fun k hk => catTo_succ hk
  have hall := catTo_all (k := ss.length) hlen
  rw [← hall] at hsum hl ⊢
  replace hss := Lib.hid hss; replace hin := Lib.hid hin; replace hsum := Lib.hid hsum; replace hsucc := Lib.hid hsucc; clear hall
  have hlen' := Lib.hid hlen
  clear hlen
  go_enter Try.func66, Try.ntmps66
  go_wp2
  go_loop [3, 11] (fun t i => ∃ k : Nat, k ≤ ss.length ∧ i = .int .i64 k ∧ t = .int .i64 (catTo ls k).length) (fun _ i => ss.length - (intOf i).toNat)
  case atStart => exact ⟨0, by omega, rfl, rfl⟩
  case round =>
    obtain ⟨k, hk, rfl, rfl⟩ := hrel
    by_cases hlt : k < ss.length
    · obtain ⟨b, off, rfl, hb, hc⟩ := hss.out.at hlt
      obtain ⟨z1, -, -⟩ := hin.out k (by have := hlen'.out; omega) hlt
      have e0 := hc 0 _ rfl
      have b1 := hsum.out (k + 1)
      have e1 := hsucc.out k (by have := hlen'.out; omega)
      have b2 : (catTo ls k).length + (ss[k]'hlt).len = (catTo ls (k + 1)).length := by rw [e1, List.length_append, z1]
      replace b2 := Lib.hid b2
      have b3 : (catTo ls k).length + (ss[k]'hlt).len ≤ 1099511627776 := by rw [b2.out]; omega
      simp only [svE, Nat.mul_one, Nat.add_zero] at e0
      have g1 : (0 : Int) ≤ (k : Int) := by omega
      have g2 : (k : Int) < (ss.length : Int) := by omega
      clear hc z1 b1 e1
      go_wp2
      go_round
      case rel => exact ⟨k + 1, by omega, by go_num, by rw [← b2.out]; go_num⟩
      case measure => simp [intOf]; omega
    · obtain rfl : k = ss.length := by omega
      go_wp2_with (go_at_call 74; refine (clm_grow _ _ hl).mono ?_; rintro e W1 ⟨⟨s1, c1, rfl, hown⟩, hB⟩)
      go_loopw [6, 27] (fun v i wr => ∃ k : Nat, k ≤ ss.length ∧ i = .int .i64 k ∧ wr.ownsRow w.heap.size 65 2 v (catTo ls k).length (Elt.all clmE (catTo ls k)) ∧ Below w.heap.size w wr) (fun _ i _ => ss.length - (intOf i).toNat)
      case atStart => exact ⟨0, by omega, rfl, hown, hB⟩
      case round =>
        clear hown hB
        obtain ⟨k, hk, rfl, hown, hB⟩ := hrel
        by_cases hlt : k < ss.length
        · obtain ⟨b, off, rfl, hb, hc⟩ := (up_of hB hss).out.at hlt
          obtain ⟨z1, z2, z3⟩ := hin.out k (by have := hlen'.out; omega) hlt
          have e0 := hc 0 _ rfl
          have b1 := hsum.out (k + 1)
          have e1 := hsucc.out k (by have := hlen'.out; omega)
          have b2 : (catTo ls k).length + (ss[k]'hlt).len = (catTo ls (k + 1)).length := by rw [e1, List.length_append, z1]
          replace b2 := Lib.hid b2
          have b3 : (catTo ls k).length + (ss[k]'hlt).len ≤ 1099511627776 := by rw [b2.out]; omega
          simp only [svE, Nat.mul_one, Nat.add_zero] at e0
          have g1 : (0 : Int) ≤ (k : Int) := by omega
          have g2 : (k : Int) < (ss.length : Int) := by omega
          have hws := hB.size
          replace z2 := up_of hB z2
          obtain ⟨i0, hi, hz0, hz1, hz2⟩ := info_parts info_clm
          obtain ⟨⟨sa, sl, sc⟩, hsv⟩ : ∃ x, ss[k]'hlt = x := ⟨_, rfl⟩
          rw [hsv] at e0 b2 b3 z2 z3 z1
          simp only at e0 b2 b3 z2 z3 z1
          clear hsv hc b1
          replace e1 := Lib.hid e1
          cases sa with
          | none =>
            have hn0 := z2.none_nil
            obtain rfl := z3 rfl
            have hsl : sl = 0 := by rw [z1, hn0]; rfl
            subst hsl
            have e2 : catTo ls (k + 1) = catTo ls k := by rw [e1.out, hn0, List.append_nil]
            replace e2 := Lib.hid e2
            clear z1 z2 z3 hn0
            go_wp2_with (at_builtin; refine wpList_append_own_none rfl _ _ 40 rfl w.heap.size 65 i0 2 Try.underlying40 hi _ _ _ rfl hown rfl ?_)
            go_roundw
            case rel => exact ⟨k + 1, by omega, by go_num, by rw [e2.out]; exact hown, hB⟩
            case measure => simp [intOf]; omega
          | some sa =>
            have z1' := Lib.hid z1
            replace z2 := Lib.hid z2
            clear z1 z3
            go_wp2_with (at_builtin; refine wpList_append_own _ rfl _ _ 40 rfl w.heap.size 65 i0 (.agg #[.int .i64 0, .int .i64 0]) 2 16 Try.underlying40 hi hz0 hz1 hz2 rfl (by decide) _ _ _ rfl hown sa sl sc (Elt.all clmE (ls[k]'(by have := hlen'.out; omega))) rfl (by rw [Elt.all_len, z1'.out]; rfl) (SlS.news z2.out) (Elt.all_one _ _) (by unfold maxLen; omega) (by omega) hws ?_; intro v1 w1 hown1 hgrow hnil)
            go_roundw
            case rel => exact ⟨k + 1, by omega, by go_num, by rw [e1.out, Elt.all_append, List.length_append, ← z1'.out]; exact hown1, hB.grown hgrow hws (fun j e => (hown.lt j e).1)⟩
            case measure => simp [intOf]; omega
        · obtain rfl : k = ss.length := by omega
          obtain ⟨s', c', rfl, _⟩ := owns_shape hown
          go_wp2
          go_ret
          exact ⟨s', c', rfl, hown, hB⟩

theorem concat_c (s : Option Addr) (cap : Nat) (k : List (List Clm)) (w : World) (h : SlSS clmE w s k) (hk : k.length ≤ 1099511627776) (hf : k.flatten.length ≤ 1099511627776) :
    Calls Try.prog 66 #[.slice s k.length cap] w (RetS clmE 65 k.flatten w) := by
  obtain ⟨ss, h1, h2, h3⟩ := h
  have := clm_concat s cap ss k w h1 h2 (fun i hi hj => ⟨(h3 i hi hj).1, (h3 i hi hj).2.1, (h3 i hi hj).2.2.1⟩) (by omega) hf
  rwa [h2] at this
end Go.Proofs.Ytgeoehokojijdaa
