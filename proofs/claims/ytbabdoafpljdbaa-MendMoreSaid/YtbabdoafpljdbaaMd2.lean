/- Library functions on rows: Clone, Repeat. (The laying of math/bits.Mul in plain words by the kit's lay-plain.mjs.) -/
import Derived.Test.YtbabdoafpljdbaaMd1
import Derived.Shelf.Bits.Mul64
import Derived.Ground.NamesProg
import Derived.Ground.Names2Prog
import Derived.Laws.CopyOwn
import Derived.Deep.RegionLaw
namespace Go.Proofs
open Go.Shelf
def Ytbabdoafpljdbaa.laysMul_ren : Go.Shelf.Ren := ⟨fun | 212 => 87 | 263 => 91 | 264 => 92 | n => n, fun | 46 => 111 | 51 => 117 | 146 => 118 | 53 => 120 | 148 => 121 | n => n, fun | n => n⟩
theorem Ytbabdoafpljdbaa.laysMul : Go.Proofs.Lays.n212 Try.prog Ytbabdoafpljdbaa.laysMul_ren := {
  mixed := by kernel_rfl
  f212 := Try.func87.trans (congrArg some (by kernel_rfl))
  f263 := Try.func91.trans (congrArg some (by kernel_rfl))
  f264 := Try.func92.trans (congrArg some (by kernel_rfl))
  t46 := Try.underlying111
  a46 := Try.isAgg111
  z46 := Try.sizeOf111
  v46 := Try.zeroValue111
  t51 := Try.underlying117
  a51 := Try.isAgg117
  z51 := Try.sizeOf117
  v51 := Try.zeroValue117
  t53 := Try.underlying120
  a53 := Try.isAgg120
  z53 := Try.sizeOf120
  v53 := Try.zeroValue120
  t146 := Try.underlying118
  a146 := Try.isAgg118
  z146 := Try.sizeOf118
  v146 := Try.zeroValue118
  t148 := Try.underlying121
  a148 := Try.isAgg121
  z148 := Try.sizeOf121
  v148 := Try.zeroValue121 }
end Go.Proofs
namespace Go.Proofs.Ytbabdoafpljdbaa
open Go.RowKit

theorem info_bool : (Try.prog.info? 4).map (fun i => (i.zero, i.size, i.bytes)) = some (some (.bool false), 1, 1) := by kernel_rfl
theorem info_row : (Try.prog.info? 75).map (fun i => (i.zero, i.size, i.bytes)) = some (some (.slice none 0 0), 1, 24) := by kernel_rfl
theorem info_int : (Try.prog.info? 3).map (fun i => (i.zero, i.size, i.bytes)) = some (some (.int .i64 0), 1, 8) := by kernel_rfl
theorem info_cel : (Try.prog.info? 26).map (fun i => (i.zero, i.size, i.bytes)) = some (some (.agg #[.int .i64 0, .int .i64 0]), 2, 16) := by kernel_rfl
set_option maxRecDepth 100000 in
set_option maxHeartbeats 400000 in
theorem bool_clone (s : Option Addr) (cap : Nat) (l : List Bool) (w : World) (hs : SlS boolE w s l) (hc : s = none → cap = 0) (hl : l.length ≤ 1099511627776) :
    Calls Try.prog 71 #[.slice s l.length cap] w (RetS boolE 4 l w) := by
  have hml : l.length ≤ maxLen := by unfold maxLen; omega
  have hin := hs
  cases s with
  | none =>
    obtain rfl := hs.none_nil
    obtain rfl := hc rfl
    clear hs hin hml hc
    have hq : ∀ w : World, (binOp .eql 75 (.slice none 0 0) (.slice none 0 0)).run Try.prog w = .ok (.bool true) w := fun w => Lib.run_eql_slice_nil w 75 4 _ _ _ _ _ Try.underlying75
    go_enter Try.func71, Try.ntmps71
    go_wp2
    go_ret
    exact ⟨none, 0, rfl, World.ownsRow_nil _ _ _ _, Below.refl _ _⟩
  | some a =>
    have hs2 := Lib.hid (up_of ((Below.refl w.heap.size w).alloc (Nat.le_refl _) (.cells #[] 4)) hs)
    replace hs := Lib.hid hs
    clear hin hc
    have hq : ∀ w : World, (binOp .eql 75 (.slice (some a) l.length cap) (.slice none 0 0)).run Try.prog w = .ok (.bool false) w := fun w => Lib.run_eql_slice_nil w 75 4 _ _ _ _ _ Try.underlying75
    go_enter Try.func71, Try.ntmps71
    obtain ⟨i0, hi, hz0, hz1, hz2⟩ := info_parts info_bool
    go_wp2_with (first | (at_builtin; refine wpList_append_own _ rfl _ _ 75 rfl w.heap.size 4 i0 (.bool false) 1 1 Try.underlying75 hi hz0 hz1 hz2 rfl (by decide) _ _ _ rfl (owns_built w 4 1) a l.length cap (Elt.all boolE l) rfl (Elt.all_len _ _) (SlS.news hs2.out) (Elt.all_one _ _) (by unfold maxLen; omega) (by omega) (by simp) ?_; intro v1 w1 hown1 hgrow hnil))
    simp only [Nat.zero_add, List.nil_append] at hown1
    obtain ⟨s', c', rfl, _⟩ := owns_shape hown1
    go_wp2
    go_ret
    exact ⟨s', c', rfl, hown1, ((Below.refl _ w).alloc (Nat.le_refl _) _).grown hgrow (by simp) (fun k hk => by cases hk; exact Nat.le_refl _)⟩

set_option maxRecDepth 100000 in
set_option maxHeartbeats 400000 in
theorem row_clone (s : Option Addr) (cap : Nat) (l : List Sv) (w : World) (hs : SlS svE w s l) (hc : s = none → cap = 0) (hl : l.length ≤ 1099511627776) :
    Calls Try.prog 88 #[.slice s l.length cap] w (RetS svE 75 l w) := by
  have hml : l.length ≤ maxLen := by unfold maxLen; omega
  have hin := hs
  cases s with
  | none =>
    obtain rfl := hs.none_nil
    obtain rfl := hc rfl
    clear hs hin hml hc
    have hq : ∀ w : World, (binOp .eql 63 (.slice none 0 0) (.slice none 0 0)).run Try.prog w = .ok (.bool true) w := fun w => Lib.run_eql_slice_nil w 63 75 _ _ _ _ _ Try.underlying63
    go_enter Try.func88, Try.ntmps88
    go_wp2
    go_ret
    exact ⟨none, 0, rfl, World.ownsRow_nil _ _ _ _, Below.refl _ _⟩
  | some a =>
    have hs2 := Lib.hid (up_of ((Below.refl w.heap.size w).alloc (Nat.le_refl _) (.cells #[] 75)) hs)
    replace hs := Lib.hid hs
    clear hin hc
    have hq : ∀ w : World, (binOp .eql 63 (.slice (some a) l.length cap) (.slice none 0 0)).run Try.prog w = .ok (.bool false) w := fun w => Lib.run_eql_slice_nil w 63 75 _ _ _ _ _ Try.underlying63
    go_enter Try.func88, Try.ntmps88
    obtain ⟨i0, hi, hz0, hz1, hz2⟩ := info_parts info_row
    go_wp2_with (first | (at_builtin; refine wpList_append_own _ rfl _ _ 63 rfl w.heap.size 75 i0 (.slice none 0 0) 1 24 Try.underlying63 hi hz0 hz1 hz2 rfl (by decide) _ _ _ rfl (owns_built w 75 1) a l.length cap (Elt.all svE l) rfl (Elt.all_len _ _) (SlS.news hs2.out) (Elt.all_one _ _) (by unfold maxLen; omega) (by omega) (by simp) ?_; intro v1 w1 hown1 hgrow hnil))
    simp only [Nat.zero_add, List.nil_append] at hown1
    obtain ⟨s', c', rfl, _⟩ := owns_shape hown1
    go_wp2
    go_ret
    exact ⟨s', c', rfl, hown1, ((Below.refl _ w).alloc (Nat.le_refl _) _).grown hgrow (by simp) (fun k hk => by cases hk; exact Nat.le_refl _)⟩

set_option maxRecDepth 100000 in
set_option maxHeartbeats 400000 in
theorem cel_clone (s : Option Addr) (cap : Nat) (l : List Cel) (w : World) (hs : SlS celE w s l) (hc : s = none → cap = 0) (hl : l.length ≤ 1099511627776) :
    Calls Try.prog 47 #[.slice s l.length cap] w (RetS celE 26 l w) := by
  have hml : l.length ≤ maxLen := by unfold maxLen; omega
  have hin := hs
  cases s with
  | none =>
    obtain rfl := hs.none_nil
    obtain rfl := hc rfl
    clear hs hin hml hc
    have hq : ∀ w : World, (binOp .eql 22 (.slice none 0 0) (.slice none 0 0)).run Try.prog w = .ok (.bool true) w := fun w => Lib.run_eql_slice_nil w 22 26 _ _ _ _ _ Try.underlying22
    go_enter Try.func47, Try.ntmps47
    go_wp2
    go_ret
    exact ⟨none, 0, rfl, World.ownsRow_nil _ _ _ _, Below.refl _ _⟩
  | some a =>
    have hs2 := Lib.hid (up_of ((Below.refl w.heap.size w).alloc (Nat.le_refl _) (.cells #[] 26)) hs)
    replace hs := Lib.hid hs
    clear hin hc
    have hq : ∀ w : World, (binOp .eql 22 (.slice (some a) l.length cap) (.slice none 0 0)).run Try.prog w = .ok (.bool false) w := fun w => Lib.run_eql_slice_nil w 22 26 _ _ _ _ _ Try.underlying22
    go_enter Try.func47, Try.ntmps47
    obtain ⟨i0, hi, hz0, hz1, hz2⟩ := info_parts info_cel
    go_wp2_with (first | (at_builtin; refine wpList_append_own _ rfl _ _ 22 rfl w.heap.size 26 i0 (.agg #[.int .i64 0, .int .i64 0]) 2 16 Try.underlying22 hi hz0 hz1 hz2 rfl (by decide) _ _ _ rfl (owns_built w 26 2) a l.length cap (Elt.all celE l) rfl (Elt.all_len _ _) (SlS.news hs2.out) (Elt.all_one _ _) (by unfold maxLen; omega) (by omega) (by simp) ?_; intro v1 w1 hown1 hgrow hnil))
    simp only [Nat.zero_add, List.nil_append] at hown1
    obtain ⟨s', c', rfl, _⟩ := owns_shape hown1
    go_wp2
    go_ret
    exact ⟨s', c', rfl, hown1, ((Below.refl _ w).alloc (Nat.le_refl _) _).grown hgrow (by simp) (fun k hk => by cases hk; exact Nat.le_refl _)⟩

theorem mul_c (n : Nat) (hn : n ≤ 1000) (w : World) : Calls Try.prog 87 #[.int .u64 1, .int .u64 n] w fun e w' => e = .returned (.tuple #[.int .u64 0, .int .u64 n]) ∧ w = w' := by
  refine (Any.bits_Mul Ytbabdoafpljdbaa.laysMul 1 n (by omega) (by omega) w).mono ?_
  rintro e w' ⟨he, hw⟩
  refine ⟨?_, hw.symm⟩
  rw [he]
  have e1 : 1 * n / 18446744073709551616 = 0 := by omega
  have e2 : 1 * n % 18446744073709551616 = n := by omega
  rw [e1, e2]; rfl
/-- The first u of n are true. -/
def tf (n u : Nat) : List Value := List.replicate u (.bool true) ++ List.replicate (n - u) (.bool false)
theorem tf_len {n u : Nat} (h : u ≤ n) : (tf n u).length = n := by simp [tf]; omega
theorem tf_splice {n u m : Nat} (h : u + m ≤ n) : splice (tf n u) u (List.replicate m (.bool true)) = tf n (u + m) := by
  unfold splice tf
  rw [List.take_append_of_le_length (by simp), List.take_of_length_le (by simp), List.length_replicate, List.drop_append, List.drop_of_length_le (by simp)]
  simp only [List.nil_append, List.length_replicate, List.drop_replicate, ← List.append_assoc]
  rw [List.replicate_append_replicate]
  congr 2
  omega
theorem run_make_bools (n : Nat) (hn : n ≤ 1000000) (w : World) : (Instr.makeSlice 75 (.int .i64 n) (.int .i64 n)).run Try.prog w = .ok (.slice (some ⟨w.heap.size, 0, none⟩) n n) (w.alloc (.cells (tf n 0).toArray 4)) := by
  obtain ⟨i, hi, hz, hs, hb⟩ := info_parts info_bool
  have h := run_makeSlice (P := Try.prog) (w := w) 75 4 i _ Try.underlying75 hi hz .i64 .i64 n n (by omega) (by omega) (by rw [hs]; omega) (by rw [hb]; omega) (by omega)
  rw [h, hs]
  have e : madeCells (Value.cells (.bool false)) ((n : Int).toNat * 1) = (tf n 0).toArray := by
    apply Array.ext
    · simp [size_madeCells, tf]
    · intro j h1 h2
      simp [madeCells, tf, Value.cells, Nat.mod_one]
  rw [e]
  simp
theorem tf_all (n : Nat) : tf n n = boolE.all (List.replicate n true) := by
  unfold tf
  rw [Nat.sub_self, List.replicate_zero, List.append_nil]
  induction n with
  | zero => rfl
  | succ n ih => rw [List.replicate_succ, List.replicate_succ, ih]; rfl
theorem tf_cell {n u : Nat} {W : World} {g : Nat} (h : W.heap[g]? = some (.cells (tf n u).toArray 4 (0, 0))) {m : Nat} (hm : m ≤ u) : ∀ j v, (List.replicate m (Value.bool true))[j]? = some v → W.cell? ((⟨g, 0, none⟩ : Addr).add j) = some v := fun j v hv => by
  rw [add_eq, Nat.zero_add]
  have hj : j < m := by have := (List.getElem?_eq_some_iff.1 hv).1; simpa using this
  rw [List.getElem?_replicate, if_pos hj] at hv
  rw [cell_of_row W g j _ _ (0, 0) h]
  simp only [List.getElem?_toArray, tf]
  rw [List.getElem?_append_left (by simp; omega), List.getElem?_replicate, if_pos (by omega)]
  exact hv
set_option maxRecDepth 100000 in
set_option maxHeartbeats 1000000 in
theorem repeat_c (b n : Nat) (w : World) (hc : w.cell? ⟨b, 0, none⟩ = some (.bool true)) (hn : 1 ≤ n ∧ n ≤ 12) :
    Calls Try.prog 79 #[.slice (some ⟨b, 0, none⟩) 1 1, .int .i64 n] w (RetS boolE 4 (List.replicate n true) w) := by
  have hb0 := World.block_lt_of_cell? w _ hc
  have hmk := run_make_bools n (by omega) w
  have hmul := mul_c n (by omega) w
  have hu : IntKind.u64.wrap (n : Int) = n := by
    have : (n : Int) < 18446744073709551616 := by omega
    simp [IntKind.wrap, IntKind.bits]; omega
  have hi : IntKind.i64.wrap (n : Int) = n := i64_small (by omega)
  have n0 : ¬ (n : Int) < 0 := by omega
  have n1 : ¬ (9223372036854775807 : Int) < (n : Int) := by omega
  replace hmul := Lib.hid hmul
  go_enter Try.func79, Try.ntmps79
  go_upto_region 7 with (go_at_call 87; refine hmul.out.mono ?_; rintro e w' ⟨rfl, rfl⟩)
  have hg0 : (w.alloc (.cells (tf n 0).toArray 4)).heap[w.heap.size]? = some (.cells (tf n 0).toArray 4 (0, 0)) := heap_alloc_new w _
  have hB0 : Below w.heap.size w (w.alloc (.cells (tf n 0).toArray 4)) := (Below.refl _ w).alloc (Nat.le_refl _) _
  have hc1 : (w.alloc (.cells (tf n 0).toArray 4)).cell? ⟨b, 0, none⟩ = some (.bool true) := Up.cell hB0 hc
  have hl0 := tf_len (n := n) (u := 0) (by omega)
  have hsp := tf_splice (n := n) (u := 0) (m := 1) (by omega)
  rw [Nat.zero_add] at hsp
  replace hg0 := Lib.hid hg0; replace hB0 := Lib.hid hB0; replace hc1 := Lib.hid hc1
  obtain ⟨T0, hT0⟩ : ∃ x, tf n 0 = x := ⟨_, rfl⟩
  obtain ⟨X0, hX0⟩ : ∃ x, w.alloc (.cells (tf n 0).toArray 4) = x := ⟨_, rfl⟩
  rw [hX0] at hg0 hB0 hc1 ⊢
  rw [hT0] at hg0 hl0 hsp
  replace hX0 := Lib.hid hX0; replace hT0 := Lib.hid hT0; replace hsp := Lib.hid hsp
  have hsz : (Try.prog.info? 4).map (·.size) = some 1 := by kernel_rfl
  have hsrc : ∀ j v, ([Value.bool true] : List Value)[j]? = some v → X0.cell? ((⟨b, 0, none⟩ : Addr).add j) = some v := fun j v hj => by
    have : j = 0 := by have := (List.getElem?_eq_some_iff.1 hj).1; simp at this; omega
    subst this
    rw [add_eq]
    simp at hj; subst hj
    exact hc1.out
  have hmin : ([Value.bool true] : List Value).length = Nat.min 1 n := by simp [Nat.min_def]; omega
  have hfit : 0 + ([Value.bool true] : List Value).length ≤ T0.length := by simp; omega
  have hrun := run_copy_row Try.prog X0 75 75 3 4 w.heap.size 0 n n ⟨b, 0, none⟩ 1 1 T0.toArray 4 [.bool true] Try.underlying75 hsz hg0.out hmin hsrc (by simpa using hfit) (by simp [Value.oneCell'])
  have hg1 : (X0.setRow w.heap.size (T0.toArray.toList.take 0 ++ [Value.bool true] ++ T0.toArray.toList.drop (0 + [Value.bool true].length)).toArray).heap[w.heap.size]? = some (.cells (tf n 1).toArray 4 (0, 0)) := by
    rw [setRow_heap X0 w.heap.size _ _ 4 _ hg0.out, ← hsp.out]
    simp [splice]
  have hB1 : Below w.heap.size w (X0.setRow w.heap.size (T0.toArray.toList.take 0 ++ [Value.bool true] ++ T0.toArray.toList.drop (0 + [Value.bool true].length)).toArray) := below_setRow hB0.out (Nat.le_refl _) _
  obtain ⟨X1, hX1⟩ : ∃ x, X0.setRow w.heap.size (T0.toArray.toList.take 0 ++ [Value.bool true] ++ T0.toArray.toList.drop (0 + [Value.bool true].length)).toArray = x := ⟨_, rfl⟩
  rw [hX1] at hrun hg1 hB1
  have hone : goInt ([Value.bool true] : List Value).length = .int .i64 1 := rfl
  rw [hone] at hrun
  replace hX1 := Lib.hid hX1; replace hsz := Lib.hid hsz; replace hg1 := Lib.hid hg1; replace hB1 := Lib.hid hB1
  clear hsrc hmin hfit hone hsp
  go_wp2
  go_loopw [8] (fun v V => ∃ u : Nat, (1 ≤ u ∧ u ≤ n) ∧ v = .int .i64 u ∧ Hid (V.heap[w.heap.size]? = some (.cells (tf n u).toArray 4 (0, 0))) ∧ Below w.heap.size w V) (fun v _ => n - (intOf v).toNat)
  case atStart => exact ⟨1, by omega, rfl, hg1, hB1.out⟩
  case round =>
    clear hg1 hB1
    obtain ⟨u, hu, rfl, hg, hB⟩ := hrel
    by_cases hlt : u < n
    · obtain ⟨m, hm⟩ : ∃ m, m = Nat.min u (n - u) := ⟨_, rfl⟩
      have hm2 : (1 ≤ m ∧ m ≤ u) ∧ u + m ≤ n := by rw [hm]; simp only [Nat.min_def]; split <;> omega
      have hlen := tf_len (n := n) (u := u) hu.2
      have hsp := tf_splice hm2.2
      have hcs : (List.replicate m (Value.bool true)).length = Nat.min u (n - u) := by rw [List.length_replicate, hm]
      have hfit : u + (List.replicate m (Value.bool true)).length ≤ (tf n u).length := by rw [List.length_replicate, hlen]; omega
      have hsrc : ∀ V : World, V.heap[w.heap.size]? = some (.cells (tf n u).toArray 4 (0, 0)) → ∀ j v, (List.replicate m (Value.bool true))[j]? = some v → V.cell? ((⟨w.heap.size, 0, none⟩ : Addr).add j) = some v := fun V h => tf_cell h hm2.1.2
      have hmi : goInt (List.replicate m (Value.bool true)).length = .int .i64 m := by rw [List.length_replicate]; rfl
      have hCl : (List.replicate m (Value.bool true)).length = m := List.length_replicate
      have h1c : ∀ v ∈ List.replicate m (Value.bool true), v.oneCell' = true := fun v hv => by rw [List.mem_replicate] at hv; rw [hv.2]; rfl
      have hdr : wr.drew.heap[w.heap.size]? = some (.cells (tf n u).toArray 4 (0, 0)) := hg.out
      have hBd : Below w.heap.size w wr.drew := hB.drew
      have hws : IntKind.i64.wrap ((u : Int) + (m : Int)) = ((u + m : Nat) : Int) := by rw [i64_small (by omega)]; simp
      obtain ⟨T, hT⟩ : ∃ x, tf n u = x := ⟨_, rfl⟩
      obtain ⟨C, hC⟩ : ∃ x, List.replicate m (Value.bool true) = x := ⟨_, rfl⟩
      rw [hT] at hlen hsp hfit hsrc hdr
      rw [hC] at hcs hfit hmi h1c hsp hCl
      subst hCl
      simp only [hC] at hsrc
      replace hm := Lib.hid hm; replace hlen := Lib.hid hlen; replace hsp := Lib.hid hsp; replace hcs := Lib.hid hcs; replace hfit := Lib.hid hfit; replace hsrc := Lib.hid hsrc; replace h1c := Lib.hid h1c; replace hdr := Lib.hid hdr; replace hBd := Lib.hid hBd; replace hT := Lib.hid hT; replace hC := Lib.hid hC
      have i1 : (0 : Int) ≤ (u : Int) := by omega
      have i2 : (u : Int) ≤ (n : Int) := by omega
      have i3 : ¬ n = u := by omega
      go_upto_region 9 with (fail)
      go_region_law (refine step_copy_splice rfl (.tmp 41) (.tmp 44) 75 75 rfl 4 Try.underlying75 hsz.out (some ⟨w.heap.size, u, none⟩) (some ⟨w.heap.size, 0, none⟩) (n - u) (n - u) u n (by simp [Act.eval, Act.put]) (by simp [Act.eval, Act.put]) w.heap.size u T 4 hdr.out C hcs.out (fun _ => ⟨rfl, ⟨w.heap.size, 0, none⟩, rfl, hsrc.out _ hdr.out⟩) hfit.out h1c.out w.heap.size w hBd.out (Nat.le_refl _) ?_; intro w4 hg4 hb4)
      all_goals
        rw [hsp.out] at hg4
        go_wp2
        refine ⟨⟨_, _, _, _, _, _, _, _, _, _, _, _, _, _, ⟨u + C.length, by omega, ?_, hg4, hb4⟩, rfl⟩, ?_⟩
        · first | rfl | (simp; done)
        · show n - (u + C.length) < n - u
          omega
    · obtain rfl : u = n := by omega
      have hg2 := hg.out
      rw [tf_all] at hg2
      have hlr : (boolE.all (List.replicate u true)).length = u := by rw [Elt.all_len]; simp [boolE]
      have hoR : World.ownsRow wr w.heap.size 4 1 (.slice (some ⟨w.heap.size, 0, none⟩) u u) u (boolE.all (List.replicate u true)) :=
        ⟨by rw [hlr, Nat.mul_one], .inr ⟨w.heap.size, u, _, rfl, Nat.le_refl _, hg2, Nat.le_refl _, by unfold maxLen; omega, by simp [hlr], List.take_of_length_le (by simp [hlr])⟩⟩
      have hlr2 : (List.replicate u true).length = u := List.length_replicate
      replace hoR := Lib.hid hoR
      clear hg hg2 hlr
      go_wp2
      go_ret
      exact ⟨some ⟨w.heap.size, 0, none⟩, u, by rw [hlr2]; rfl, by rw [hlr2]; exact hoR.out, hB⟩
end Go.Proofs.Ytbabdoafpljdbaa
