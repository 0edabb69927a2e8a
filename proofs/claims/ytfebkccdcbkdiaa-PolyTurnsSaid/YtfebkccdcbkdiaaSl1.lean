/- slices.Clone, Grow, Concat of inequalities. -/
import Derived.Test.YtfebkccdcbkdiaaRep
namespace Go.Proofs.Ytfebkccdcbkdiaa
open Go.RowKit

theorem info_iq : (Try.prog.info? 64).map (fun i => (i.zero, i.size, i.bytes)) = some (some (.agg #[.int .i64 0, .int .i64 0, .int .i64 0, .int .i64 0]), 4, 32) := by kernel_rfl
set_option maxRecDepth 100000 in
set_option maxHeartbeats 400000 in
theorem iq_clone (s : Option Addr) (cap : Nat) (l : List Iq) (w : World) (hs : SlS iqE w s l) (hc : s = none → cap = 0) (hl : l.length ≤ 1099511627776) :
    Calls Try.prog 59 #[.slice s l.length cap] w (RetS iqE 64 l w) := by
  have hml : l.length ≤ maxLen := by unfold maxLen; omega
  have hin := hs
  cases s with
  | none =>
    obtain rfl := hs.none_nil
    obtain rfl := hc rfl
    clear hs hin hml hc
    have hq : ∀ w : World, (binOp .eql 22 (.slice none 0 0) (.slice none 0 0)).run Try.prog w = .ok (.bool true) w := fun w => Lib.run_eql_slice_nil w 22 64 _ _ _ _ _ Try.underlying22
    go_enter Try.func59, Try.ntmps59
    go_wp2
    go_ret
    exact ⟨none, 0, rfl, World.ownsRow_nil _ _ _ _, Below.refl _ _⟩
  | some a =>
    have hs2 := Lib.hid (up_of ((Below.refl w.heap.size w).alloc (Nat.le_refl _) (.cells #[] 64)) hs)
    replace hs := Lib.hid hs
    clear hin hc
    have hq : ∀ w : World, (binOp .eql 22 (.slice (some a) l.length cap) (.slice none 0 0)).run Try.prog w = .ok (.bool false) w := fun w => Lib.run_eql_slice_nil w 22 64 _ _ _ _ _ Try.underlying22
    go_enter Try.func59, Try.ntmps59
    obtain ⟨i0, hi, hz0, hz1, hz2⟩ := info_parts info_iq
    go_wp2_with (first | (at_builtin; refine wpList_append_own _ rfl _ _ 22 rfl w.heap.size 64 i0 (.agg #[.int .i64 0, .int .i64 0, .int .i64 0, .int .i64 0]) 4 32 Try.underlying22 hi hz0 hz1 hz2 rfl (by decide) _ _ _ rfl (owns_built w 64 4) a l.length cap (Elt.all iqE l) rfl (Elt.all_len _ _) (SlS.news hs2.out) (Elt.all_one _ _) (by unfold maxLen; omega) (by omega) (by simp) ?_; intro v1 w1 hown1 hgrow hnil))
    simp only [Nat.zero_add, List.nil_append] at hown1
    obtain ⟨s', c', rfl, _⟩ := owns_shape hown1
    go_wp2
    go_ret
    exact ⟨s', c', rfl, hown1, ((Below.refl _ w).alloc (Nat.le_refl _) _).grown hgrow (by simp) (fun k hk => by cases hk; exact Nat.le_refl _)⟩

set_option maxRecDepth 100000 in
set_option maxHeartbeats 1000000 in
theorem iq_grow (n : Nat) (w : World) (hl : n ≤ 1099511627776) :
    Calls Try.prog 78 #[.slice none 0 0, .int .i64 n] w fun e w' => (∃ s cap, e = .returned (.slice s 0 cap) ∧ w'.ownsRow w.heap.size 64 4 (.slice s 0 cap) 0 []) ∧ Below w.heap.size w w' := by
  by_cases h0 : n = 0
  · subst h0
    go_enter Try.func78, Try.ntmps78
    go_wp2
    go_ret
    exact ⟨⟨none, 0, rfl, World.ownsRow_nil _ _ _ _⟩, Below.refl _ _⟩
  · obtain ⟨i0, hi, hz0, hz1, hz2⟩ := info_parts info_iq
    have hrz : ∀ ty, (Builtin.append_ #[22, 3] ty #[.slice none 0 0, .int .i64 n]).run Try.prog w = .ok (.slice (some ⟨w.heap.size, 0, none⟩) n (grownCap w n 0 64))
        (w.drew.alloc (.cells (([] : List Value).toArray ++ Builtin.zeroCells (Value.cells (.agg #[.int .i64 0, .int .i64 0, .int .i64 0, .int .i64 0])) n ++ Builtin.zeroCells (Value.cells (.agg #[.int .i64 0, .int .i64 0, .int .i64 0, .int .i64 0])) (grownCap w n 0 64 - n)) 64)) := fun ty => by
      have h := Lib.run_append_grow_zeros w 22 3 ty 64 i0 (.agg #[.int .i64 0, .int .i64 0, .int .i64 0, .int .i64 0]) .i64 .i64 Try.underlying22 (by kernel_rfl) hi hz0 none 0 0 [] (run_firstCells_none w.drew i0.size 0 0 0) n (by omega) (by rw [hz1]; decide) (by omega) (by omega)
        (by rw [hz2]; omega) (by rw [hz2, Nat.zero_add]; exact growslice_fits (by omega) (by omega))
      rw [Nat.zero_add] at h
      exact h
    have hGn : n ≤ grownCap w n 0 64 := grownCap_ge w _ _ _
    have hcur : (([] : List Value).toArray ++ Builtin.zeroCells (Value.cells (.agg #[.int .i64 0, .int .i64 0, .int .i64 0, .int .i64 0])) n ++ Builtin.zeroCells (Value.cells (.agg #[.int .i64 0, .int .i64 0, .int .i64 0, .int .i64 0])) (grownCap w n 0 64 - n)).size = grownCap w n 0 64 * 4 := by
      simp only [Array.size_append, size_zeroCells]
      have : (Value.cells (.agg #[.int .i64 0, .int .i64 0, .int .i64 0, .int .i64 0])).size = 4 := rfl
      rw [this]
      simp
      rw [← Nat.add_mul]; congr 1; omega
    have hG63 := grownCap_le_maxLen w n 0 64 (by unfold maxLen; omega)
    obtain ⟨cur, hc⟩ : ∃ cur, cur = (([] : List Value).toArray ++ Builtin.zeroCells (Value.cells (.agg #[.int .i64 0, .int .i64 0, .int .i64 0, .int .i64 0])) n ++ Builtin.zeroCells (Value.cells (.agg #[.int .i64 0, .int .i64 0, .int .i64 0, .int .i64 0])) (grownCap w n 0 64 - n)) := ⟨_, rfl⟩
    rw [← hc] at hrz hcur
    obtain ⟨G, hG⟩ : ∃ G, G = grownCap w n 0 64 := ⟨_, rfl⟩
    rw [← hG] at hrz hGn hcur hG63
    have hown := Lib.hid (owns_grown w.drew 64 4 G cur hcur hG63)
    have hG64 : G ≤ 9223372036854775807 := by unfold maxLen at hG63; omega
    clear hc hG hcur hG63
    have hn0 : (0 : Int) < (n : Int) := by omega
    go_enter Try.func78, Try.ntmps78
    go_wp2_with (at_builtin; refine Lib.wpList_append_run _ rfl _ _ _ _ rfl _ _ rfl rfl _ _ (hrz _) ?_)
    go_ret
    exact ⟨⟨_, G, rfl, hown.out⟩, ((Below.refl _ w).drew).alloc (Nat.le_refl _) _⟩

set_option maxRecDepth 100000 in
set_option maxHeartbeats 1000000 in
theorem iq_concat (s0 : Option Addr) (c0 : Nat) (ss : List Sv) (ls : List (List Iq)) (w : World) (hss : SlS svE w s0 ss) (hlen : ss.length = ls.length)
    (hin : ∀ i (hi : i < ls.length) (hj : i < ss.length), ss[i].len = ls[i].length ∧ SlS iqE w ss[i].addr ls[i] ∧ (ss[i].addr = none → ss[i].cap = 0))
    (hm : ss.length ≤ 1099511627776) (hl : ls.flatten.length ≤ 1099511627776) :
    Calls Try.prog 60 #[.slice s0 ss.length c0] w (RetS iqE 64 ls.flatten w) := by
  have hsum : ∀ k, (catTo ls k).length ≤ ls.flatten.length := catTo_le ls
  have hsucc : ∀ k (hk : k < ls.length), catTo ls (k + 1) = catTo ls k ++ ls[k] := fun k hk => catTo_succ hk
  have hall := catTo_all (k := ss.length) hlen
  rw [← hall] at hsum hl ⊢
  replace hss := Lib.hid hss; replace hin := Lib.hid hin; replace hsum := Lib.hid hsum; replace hsucc := Lib.hid hsucc; clear hall
  have hlen' := Lib.hid hlen
  clear hlen
  go_enter Try.func60, Try.ntmps60
  go_wp2
  go_loop [3, 11] (fun t i => ∃ k : Nat, k ≤ ss.length ∧ i = .int .i64 k ∧ t = .int .i64 (catTo ls k).length) (fun _ i => ss.length - (intOf i).toNat)
  case atStart => exact ⟨0, by omega, rfl, rfl⟩
  case round =>
    obtain ⟨k, hk, rfl, rfl⟩ := hrel
    by_cases hlt : k < ss.length
    · obtain ⟨b, off, rfl, hb, hc⟩ := hss.out.at hlt
      obtain ⟨z1, -, -⟩ := hin.out k (by have := hlen'.out; omega) hlt
      have e0 := hc 0 _ rfl
      have b1 := hsum.out (k + 1)
      have e1 := hsucc.out k (by have := hlen'.out; omega)
      have b2 : (catTo ls k).length + (ss[k]'hlt).len = (catTo ls (k + 1)).length := by rw [e1, List.length_append, z1]
      replace b2 := Lib.hid b2
      have b3 : (catTo ls k).length + (ss[k]'hlt).len ≤ 1099511627776 := by rw [b2.out]; omega
      simp only [svE, Nat.mul_one, Nat.add_zero] at e0
      have g1 : (0 : Int) ≤ (k : Int) := by omega
      have g2 : (k : Int) < (ss.length : Int) := by omega
      clear hc z1 b1 e1
      go_wp2
      go_round
      case rel => exact ⟨k + 1, by omega, by go_num, by rw [← b2.out]; go_num⟩
      case measure => simp [intOf]; omega
    · obtain rfl : k = ss.length := by omega
      go_wp2_with (go_at_call 78; refine (iq_grow _ _ hl).mono ?_; rintro e W1 ⟨⟨s1, c1, rfl, hown⟩, hB⟩)
      go_loopw [6, 27] (fun v i wr => ∃ k : Nat, k ≤ ss.length ∧ i = .int .i64 k ∧ wr.ownsRow w.heap.size 64 4 v (catTo ls k).length (Elt.all iqE (catTo ls k)) ∧ Below w.heap.size w wr) (fun _ i _ => ss.length - (intOf i).toNat)
      case atStart => exact ⟨0, by omega, rfl, hown, hB⟩
      case round =>
        clear hown hB
        obtain ⟨k, hk, rfl, hown, hB⟩ := hrel
        by_cases hlt : k < ss.length
        · obtain ⟨b, off, rfl, hb, hc⟩ := (up_of hB hss).out.at hlt
          obtain ⟨z1, z2, z3⟩ := hin.out k (by have := hlen'.out; omega) hlt
          have e0 := hc 0 _ rfl
          have b1 := hsum.out (k + 1)
          have e1 := hsucc.out k (by have := hlen'.out; omega)
          have b2 : (catTo ls k).length + (ss[k]'hlt).len = (catTo ls (k + 1)).length := by rw [e1, List.length_append, z1]
          replace b2 := Lib.hid b2
          have b3 : (catTo ls k).length + (ss[k]'hlt).len ≤ 1099511627776 := by rw [b2.out]; omega
          simp only [svE, Nat.mul_one, Nat.add_zero] at e0
          have g1 : (0 : Int) ≤ (k : Int) := by omega
          have g2 : (k : Int) < (ss.length : Int) := by omega
          have hws := hB.size
          replace z2 := up_of hB z2
          obtain ⟨i0, hi, hz0, hz1, hz2⟩ := info_parts info_iq
          obtain ⟨⟨sa, sl, sc⟩, hsv⟩ : ∃ x, ss[k]'hlt = x := ⟨_, rfl⟩
          rw [hsv] at e0 b2 b3 z2 z3 z1
          simp only at e0 b2 b3 z2 z3 z1
          clear hsv hc b1
          replace e1 := Lib.hid e1
          cases sa with
          | none =>
            have hn0 := z2.none_nil
            obtain rfl := z3 rfl
            have hsl : sl = 0 := by rw [z1, hn0]; rfl
            subst hsl
            have e2 : catTo ls (k + 1) = catTo ls k := by rw [e1.out, hn0, List.append_nil]
            replace e2 := Lib.hid e2
            clear z1 z2 z3 hn0
            go_wp2_with (at_builtin; refine wpList_append_own_none rfl _ _ 22 rfl w.heap.size 64 i0 4 Try.underlying22 hi _ _ _ rfl hown rfl ?_)
            go_roundw
            case rel => exact ⟨k + 1, by omega, by go_num, by rw [e2.out]; exact hown, hB⟩
            case measure => simp [intOf]; omega
          | some sa =>
            have z1' := Lib.hid z1
            replace z2 := Lib.hid z2
            clear z1 z3
            go_wp2_with (at_builtin; refine wpList_append_own _ rfl _ _ 22 rfl w.heap.size 64 i0 (.agg #[.int .i64 0, .int .i64 0, .int .i64 0, .int .i64 0]) 4 32 Try.underlying22 hi hz0 hz1 hz2 rfl (by decide) _ _ _ rfl hown sa sl sc (Elt.all iqE (ls[k]'(by have := hlen'.out; omega))) rfl (by rw [Elt.all_len, z1'.out]; rfl) (SlS.news z2.out) (Elt.all_one _ _) (by unfold maxLen; omega) (by omega) hws ?_; intro v1 w1 hown1 hgrow hnil)
            go_roundw
            case rel => exact ⟨k + 1, by omega, by go_num, by rw [e1.out, Elt.all_append, List.length_append, ← z1'.out]; exact hown1, hB.grown hgrow hws (fun j e => (hown.lt j e).1)⟩
            case measure => simp [intOf]; omega
        · obtain rfl : k = ss.length := by omega
          obtain ⟨s', c', rfl, _⟩ := owns_shape hown
          go_wp2
          go_ret
          exact ⟨s', c', rfl, hown, hB⟩

end Go.Proofs.Ytfebkccdcbkdiaa
