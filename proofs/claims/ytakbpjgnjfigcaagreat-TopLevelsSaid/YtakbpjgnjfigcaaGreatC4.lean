/- Several texts in one: each says what it proves. -/
import Derived.Test.YtakbpjgnjfigcaaGreatB10
import Derived.Test.YtakbpjgnjfigcaaGreatB12
import Derived.Test.YtakbpjgnjfigcaaGreatB7
/- What operations make of their arguments: the program and the reference; first values in the reference. -/
namespace Go.Proofs.YtakbpjgnjfigcaaGreat
open Go.RowKit

theorem ints1 {w : World} {s : Option Addr} {l : List Int} (h : SlS intE w s l) (hl : l.length = 1) : ∃ a b off, l = [a] ∧ s = some ⟨b, off, none⟩ ∧ b < w.heap.size ∧ w.cell? ⟨b, off, none⟩ = some (.int .i64 a) := by
  match l, hl with
  | [a], _ =>
    obtain ⟨b, off, rfl, hb, h0⟩ := h.int_at (i := 0) (by simp)
    exact ⟨a, b, off, rfl, rfl, hb, h0⟩
theorem ints2 {w : World} {s : Option Addr} {l : List Int} (h : SlS intE w s l) (hl : l.length = 2) : ∃ a c b off, l = [a, c] ∧ s = some ⟨b, off, none⟩ ∧ b < w.heap.size ∧ w.cell? ⟨b, off, none⟩ = some (.int .i64 a) ∧ w.cell? ⟨b, off + 1, none⟩ = some (.int .i64 c) := by
  match l, hl with
  | [a, c], _ =>
    obtain ⟨b, off, rfl, hb, h0⟩ := h.int_at (i := 0) (by simp)
    obtain ⟨b', off', e, -, h1⟩ := h.int_at (i := 1) (by simp)
    cases e
    exact ⟨a, c, b, off, rfl, rfl, hb, h0, h1⟩
theorem ints3 {w : World} {s : Option Addr} {l : List Int} (h : SlS intE w s l) (hl : l.length = 3) : ∃ a c d b off, l = [a, c, d] ∧ s = some ⟨b, off, none⟩ ∧ b < w.heap.size ∧ w.cell? ⟨b, off, none⟩ = some (.int .i64 a) ∧ w.cell? ⟨b, off + 1, none⟩ = some (.int .i64 c) ∧ w.cell? ⟨b, off + 2, none⟩ = some (.int .i64 d) := by
  match l, hl with
  | [a, c, d], _ =>
    obtain ⟨b, off, rfl, hb, h0⟩ := h.int_at (i := 0) (by simp)
    obtain ⟨b', off', e, -, h1⟩ := h.int_at (i := 1) (by simp)
    cases e
    obtain ⟨b', off', e, -, h2⟩ := h.int_at (i := 2) (by simp)
    cases e
    exact ⟨a, c, d, b, off, rfl, rfl, hb, h0, h1, h2⟩
/-- Numbers of a value's range. -/
def Vb (l : List Int) : Prop := ∀ x ∈ l, 0 ≤ x ∧ x ≤ 10006
theorem mul_vb {a b : Int} (ha : 0 ≤ a ∧ a ≤ 10006) (hb : 0 ≤ b ∧ b ≤ 10006) : 0 ≤ a * b ∧ a * b ≤ 100120036 := by
  have := mul_bd2 (a := a) (b := b) (A := 10006) (B := 10006) (by omega) (by omega)
  have h2 : 0 ≤ a * b := Int.mul_nonneg ha.1 hb.1
  omega
theorem appl_mod {x : Int} (h : 0 ≤ x) : x.tmod 10007 = x % 10007 := Int.tmod_eq_emod_of_nonneg h
section
variable (s : Option Addr) (ca : Nat) (l : List Int) (w : World) (hs : SlS intE w s l) (hb : Vb l)
include hs hb
set_option maxRecDepth 100000 in
set_option maxHeartbeats 1000000 in
theorem do1_c (hl : l.length = 1) : Calls Tryz.prog 123 #[.slice s l.length ca] w fun e w' => e = .returned (.int .i64 (l.getD 0 0)) ∧ Below w.heap.size w w' := by
  obtain ⟨a, b, off, rfl, rfl, hbb, x0⟩ := ints1 hs hl
  clear hs hb
  go_enter Tryz.func123, Tryz.ntmps123
  go_wp2
  go_ret
  exact ⟨rfl, Below.refl _ _⟩
set_option maxRecDepth 100000 in
set_option maxHeartbeats 1000000 in
theorem do2_c (hl : l.length = 2) : Calls Tryz.prog 124 #[.slice s l.length ca] w fun e w' => e = .returned (.int .i64 (l.getD 0 0 + l.getD 1 0)) ∧ Below w.heap.size w w' := by
  obtain ⟨a, c, b, off, rfl, rfl, hbb, x0, x1⟩ := ints2 hs hl
  have ha := hb a (by simp); have hc := hb c (by simp)
  have hm := mul_vb ha hc
  have w0 : IntKind.i64.wrap (a + c) = a + c := i64_small (by omega)
  have hB : Below w.heap.size w w := Below.refl _ _
  clear hs hb
  go_enter Tryz.func124, Tryz.ntmps124
  go_upto_region 1 with (fail)
  try have ld_x0 := World.block_lt_of_cell? _ _ x0
  refine region_q (by kernel_rfl) (by kernel_rfl) ?_
  dsimp only [List.toList_toArray]
  repeat (first
   | go_big_quiet_skip
   | (go_big_quiet_want
      first
      | (refine qq_det ?_
         apply Exists.intro; refine ⟨fun W' hW' => ?_, ?_⟩
         (· have hk := cellB hW'; go_simp; try (first | rfl | rw [if_pos (by omega)]))
         simp only [Act.put, List.setIfInBounds_toArray, List.set_cons_zero, List.set_cons_succ]; go_big_quiet_on)))
  refine wpQuiet_nil ?_
  intro W1 hb
  try replace hB := up_of hb hB
  try replace x0 := up_of hb x0
  try replace x1 := up_of hb x1
  go_wp2
  all_goals
    go_ret
    first | exact ⟨rfl, hB⟩ | exact ⟨ret_int (by show _ = (_ : Int); simp only [List.getD_cons_zero, List.getD_cons_succ] at *; omega), hB⟩ | exact ⟨ret_int (by omega), hB⟩

set_option maxRecDepth 100000 in
set_option maxHeartbeats 1000000 in
theorem do3_c (hl : l.length = 2) : Calls Tryz.prog 125 #[.slice s l.length ca] w fun e w' => e = .returned (.int .i64 (l.getD 0 0 - l.getD 1 0)) ∧ Below w.heap.size w w' := by
  obtain ⟨a, c, b, off, rfl, rfl, hbb, x0, x1⟩ := ints2 hs hl
  have ha := hb a (by simp); have hc := hb c (by simp)
  have hm := mul_vb ha hc
  have w0 : IntKind.i64.wrap (a - c) = a - c := i64_small (by omega)
  have hB : Below w.heap.size w w := Below.refl _ _
  clear hs hb
  go_enter Tryz.func125, Tryz.ntmps125
  go_upto_region 1 with (fail)
  try have ld_x0 := World.block_lt_of_cell? _ _ x0
  refine region_q (by kernel_rfl) (by kernel_rfl) ?_
  dsimp only [List.toList_toArray]
  repeat (first
   | go_big_quiet_skip
   | (go_big_quiet_want
      first
      | (refine qq_det ?_
         apply Exists.intro; refine ⟨fun W' hW' => ?_, ?_⟩
         (· have hk := cellB hW'; go_simp; try (first | rfl | rw [if_pos (by omega)]))
         simp only [Act.put, List.setIfInBounds_toArray, List.set_cons_zero, List.set_cons_succ]; go_big_quiet_on)))
  refine wpQuiet_nil ?_
  intro W1 hb
  try replace hB := up_of hb hB
  try replace x0 := up_of hb x0
  try replace x1 := up_of hb x1
  go_wp2
  all_goals
    go_ret
    first | exact ⟨rfl, hB⟩ | exact ⟨ret_int (by show _ = (_ : Int); simp only [List.getD_cons_zero, List.getD_cons_succ] at *; omega), hB⟩ | exact ⟨ret_int (by omega), hB⟩

set_option maxRecDepth 100000 in
set_option maxHeartbeats 1000000 in
theorem do4_c (hl : l.length = 2) : Calls Tryz.prog 126 #[.slice s l.length ca] w fun e w' => e = .returned (.int .i64 (l.getD 0 0 * l.getD 1 0)) ∧ Below w.heap.size w w' := by
  obtain ⟨a, c, b, off, rfl, rfl, hbb, x0, x1⟩ := ints2 hs hl
  have ha := hb a (by simp); have hc := hb c (by simp)
  have hm := mul_vb ha hc
  have w0 : IntKind.i64.wrap (a * c) = a * c := i64_small (by omega)
  have hB : Below w.heap.size w w := Below.refl _ _
  clear hs hb
  go_enter Tryz.func126, Tryz.ntmps126
  go_upto_region 1 with (fail)
  try have ld_x0 := World.block_lt_of_cell? _ _ x0
  refine region_q (by kernel_rfl) (by kernel_rfl) ?_
  dsimp only [List.toList_toArray]
  repeat (first
   | go_big_quiet_skip
   | (go_big_quiet_want
      first
      | (refine qq_det ?_
         apply Exists.intro; refine ⟨fun W' hW' => ?_, ?_⟩
         (· have hk := cellB hW'; go_simp; try (first | rfl | rw [if_pos (by omega)]))
         simp only [Act.put, List.setIfInBounds_toArray, List.set_cons_zero, List.set_cons_succ]; go_big_quiet_on)))
  refine wpQuiet_nil ?_
  intro W1 hb
  try replace hB := up_of hb hB
  try replace x0 := up_of hb x0
  try replace x1 := up_of hb x1
  go_wp2
  all_goals
    go_ret
    first | exact ⟨rfl, hB⟩ | exact ⟨ret_int (by show _ = (_ : Int); simp only [List.getD_cons_zero, List.getD_cons_succ] at *; omega), hB⟩ | exact ⟨ret_int (by omega), hB⟩

set_option maxRecDepth 100000 in
set_option maxHeartbeats 1000000 in
theorem do6_c (hl : l.length = 2) : Calls Tryz.prog 128 #[.slice s l.length ca] w fun e w' => e = .returned (.int .i64 (max (l.getD 0 0) (l.getD 1 0))) ∧ Below w.heap.size w w' := by
  obtain ⟨a, c, b, off, rfl, rfl, hbb, x0, x1⟩ := ints2 hs hl
  have ha := hb a (by simp); have hc := hb c (by simp)
  have hm := mul_vb ha hc
  have w0 : IntKind.i64.wrap (a) = a := i64_small (by omega)
  have hB : Below w.heap.size w w := Below.refl _ _
  clear hs hb
  go_enter Tryz.func128, Tryz.ntmps128
  go_upto_region 1 with (fail)
  try have ld_x0 := World.block_lt_of_cell? _ _ x0
  refine region_q (by kernel_rfl) (by kernel_rfl) ?_
  dsimp only [List.toList_toArray]
  repeat (first
   | go_big_quiet_skip
   | (go_big_quiet_want
      first
      | (refine qq_det ?_
         apply Exists.intro; refine ⟨fun W' hW' => ?_, ?_⟩
         (· have hk := cellB hW'; go_simp; try (first | rfl | rw [if_pos (by omega)]))
         simp only [Act.put, List.setIfInBounds_toArray, List.set_cons_zero, List.set_cons_succ]; go_big_quiet_on)))
  refine wpQuiet_nil ?_
  intro W1 hb
  try replace hB := up_of hb hB
  try replace x0 := up_of hb x0
  try replace x1 := up_of hb x1
  go_wp2
  all_goals
    go_ret
    first | exact ⟨rfl, hB⟩ | exact ⟨ret_int (by show _ = (_ : Int); simp only [List.getD_cons_zero, List.getD_cons_succ] at *; omega), hB⟩ | exact ⟨ret_int (by omega), hB⟩

set_option maxRecDepth 100000 in
set_option maxHeartbeats 1000000 in
theorem do7_c (hl : l.length = 2) : Calls Tryz.prog 129 #[.slice s l.length ca] w fun e w' => e = .returned (.int .i64 (min (l.getD 0 0) (l.getD 1 0))) ∧ Below w.heap.size w w' := by
  obtain ⟨a, c, b, off, rfl, rfl, hbb, x0, x1⟩ := ints2 hs hl
  have ha := hb a (by simp); have hc := hb c (by simp)
  have hm := mul_vb ha hc
  have w0 : IntKind.i64.wrap (a) = a := i64_small (by omega)
  have hB : Below w.heap.size w w := Below.refl _ _
  clear hs hb
  go_enter Tryz.func129, Tryz.ntmps129
  go_upto_region 1 with (fail)
  try have ld_x0 := World.block_lt_of_cell? _ _ x0
  refine region_q (by kernel_rfl) (by kernel_rfl) ?_
  dsimp only [List.toList_toArray]
  repeat (first
   | go_big_quiet_skip
   | (go_big_quiet_want
      first
      | (refine qq_det ?_
         apply Exists.intro; refine ⟨fun W' hW' => ?_, ?_⟩
         (· have hk := cellB hW'; go_simp; try (first | rfl | rw [if_pos (by omega)]))
         simp only [Act.put, List.setIfInBounds_toArray, List.set_cons_zero, List.set_cons_succ]; go_big_quiet_on)))
  refine wpQuiet_nil ?_
  intro W1 hb
  try replace hB := up_of hb hB
  try replace x0 := up_of hb x0
  try replace x1 := up_of hb x1
  go_wp2
  all_goals
    go_ret
    first | exact ⟨rfl, hB⟩ | exact ⟨ret_int (by show _ = (_ : Int); simp only [List.getD_cons_zero, List.getD_cons_succ] at *; omega), hB⟩ | exact ⟨ret_int (by omega), hB⟩

set_option maxRecDepth 100000 in
set_option maxHeartbeats 1000000 in
theorem do5_c (hl : l.length = 3) : Calls Tryz.prog 127 #[.slice s l.length ca] w fun e w' => e = .returned (.int .i64 (l.getD 0 0 + l.getD 1 0 * l.getD 2 0)) ∧ Below w.heap.size w w' := by
  obtain ⟨a, c, d, b, off, rfl, rfl, hbb, x0, x1, x2⟩ := ints3 hs hl
  have ha := hb a (by simp); have hc := hb c (by simp); have hd := hb d (by simp)
  have hm := mul_vb hc hd
  have w0 : IntKind.i64.wrap (c * d) = c * d := i64_small (by omega)
  have w1 : IntKind.i64.wrap (a + c * d) = a + c * d := i64_small (by omega)
  have hB : Below w.heap.size w w := Below.refl _ _
  clear hs hb
  go_enter Tryz.func127, Tryz.ntmps127
  go_upto_region 1 with (fail)
  try have ld_x0 := World.block_lt_of_cell? _ _ x0
  refine region_q (by kernel_rfl) (by kernel_rfl) ?_
  dsimp only [List.toList_toArray]
  repeat (first
   | go_big_quiet_skip
   | (go_big_quiet_want
      first
      | (refine qq_det ?_
         apply Exists.intro; refine ⟨fun W' hW' => ?_, ?_⟩
         (· have hk := cellB hW'; go_simp; try (first | rfl | rw [if_pos (by omega)]))
         simp only [Act.put, List.setIfInBounds_toArray, List.set_cons_zero, List.set_cons_succ]; go_big_quiet_on)))
  refine wpQuiet_nil ?_
  intro W1 hb
  try replace hB := up_of hb hB
  try replace x0 := up_of hb x0
  try replace x1 := up_of hb x1
  try replace x2 := up_of hb x2
  go_wp2
  go_ret
  exact ⟨rfl, hB⟩
set_option maxRecDepth 100000 in
set_option maxHeartbeats 1000000 in
/-- What the operation of a valid variable makes of its arguments. -/
theorem do_c (op : Int) (h1 : 1 ≤ op ∧ op ≤ 7) (hl : l.length = needs op) : Calls Tryz.prog (kF op) #[.slice s l.length ca] w fun e w' => e = .returned (.int .i64 (applZ op l)) ∧ Below w.heap.size w w' := by
  have hc : op = 1 ∨ op = 2 ∨ op = 3 ∨ op = 4 ∨ op = 5 ∨ op = 6 ∨ op = 7 := by omega
  rcases hc with rfl | rfl | rfl | rfl | rfl | rfl | rfl
  · exact do1_c s ca l w hs hb hl
  · exact do2_c s ca l w hs hb hl
  · exact do3_c s ca l w hs hb hl
  · exact do4_c s ca l w hs hb hl
  · exact do5_c s ca l w hs hb hl
  · exact do6_c s ca l w hs hb hl
  · exact do7_c s ca l w hs hb hl
end
theorem applZ_bd {op : Int} {l : List Int} (hb : Vb l) : (applZ op l).natAbs ≤ 1000000000000 := by
  have hg : ∀ i, 0 ≤ l.getD i 0 ∧ l.getD i 0 ≤ 10006 := fun i => by
    rw [List.getD_eq_getElem?_getD]
    cases h : l[i]? with
    | none => simp
    | some x => exact hb x (List.mem_of_getElem? h)
  have h0 := hg 0; have h1 := hg 1; have h2 := hg 2
  have m1 := mul_vb h0 h1; have m2 := mul_vb h1 h2
  unfold applZ
  repeat' split
  all_goals omega
end Go.Proofs.YtakbpjgnjfigcaaGreat

/- The values of the elements: the program. -/
namespace Go.Proofs.YtakbpjgnjfigcaaGreat
open Go.RowKit Go.Maps

/-- A list of numbers of one's own. -/
structure LsV (w : World) (bl N : Nat) (V : World) (L : List Int) : Prop where
  be : Below w.heap.size w V
  wb : w.heap.size ≤ bl
  l0 : V.ownsRow bl 3 1 (.slice (some ⟨bl, 0, none⟩) N N) N (intE.all L)
section
variable {w : World} {bl N : Nat} {V V' : World} {L : List Int}
theorem LsV.up (hb : Below V.heap.size V V') (h : LsV w bl N V L) : LsV w bl N V' L := ⟨h.be.trans (hb.mono h.be.size), h.wb, up_of hb h.l0⟩
instance : UpF V V' (LsV w bl N V L) (LsV w bl N V' L) := ⟨fun h c => LsV.up h c⟩
theorem LsV.len (h : LsV w bl N V L) : L.length = N := by
  have h1 := h.l0.1
  rw [Elt.all_len] at h1
  simpa [intE] using h1
theorem LsV.cell (h : LsV w bl N V L) {k : Nat} (hk : k < L.length) : V.cell? ⟨bl, k, none⟩ = some (.int .i64 L[k]) ∧ V.frozen? ⟨bl, k, none⟩ = false :=
  ⟨owns_cell h.l0 (intE_at L hk), World.ownsRow.frozenAt h.l0 k⟩
theorem LsV.set (h : LsV w bl N V L) (k : Nat) (x : Int) : LsV w bl N (V.setCell ⟨bl, k, none⟩ (.int .i64 x)) (L.set k x) := by
  have hst := h.l0.stored k (.int .i64 x)
  rw [intE_set] at hst
  exact ⟨h.be.setCell (by exact h.wb) _, h.wb, hst.1⟩
end
theorem vlN_bd {K : List Vv} {P : List Pt} {k : Nat} (h : Gd (useN K P) k) : 0 ≤ vlN K P k ∧ vlN K P k ≤ 10006 := by rw [vlN_eq h]; exact vlR_bd _ _ _ _
set_option maxRecDepth 100000 in
theorem kF_enter (op : Int) : ∀ (args : Array Value) (w : World), (callFunc (kF op) args).run Tryz.prog w = .ok (.enter (kF op) args) w := by
  intro args w
  unfold kF
  repeat' split
  all_goals simp [go_sem]
theorem kindOf_ok (op : Int) (w : World) (h : 1 ≤ op ∧ op ≤ 7) : Calls Tryz.prog 90 #[.int .i64 op] w fun e w' => (∃ a : ByteArray, e = .returned (.tuple #[.agg #[.string a, .int .i64 (needs op : Nat), .func (.func (kF op)) #[] #[]], .bool true])) ∧ Below w.heap.size w w' := by
  have hn : needs op ≠ 0 := by unfold needs; repeat' split
                               all_goals omega
  refine (kindOf_c op w).mono ?_
  rintro e w' ⟨⟨a, b, he, hb⟩, hB⟩
  rw [if_neg hn] at hb
  subst hb
  rw [decide_eq_true hn] at he
  exact ⟨⟨a, he⟩, hB⟩
section
variable {g : Nat} {n : Int} {s : Option Addr} {cap : Nat} {l : List Iq} {s2 : Option Addr} {cq : Nat} {K : List Vv} {sp : Option Addr} {cp mb : Nat} {P : List Pt}
set_option maxRecDepth 100000 in
set_option maxHeartbeats 4000000 in
theorem nvalues_c (so : Option Addr) (co : Nat) (out : List Nat) (wait : List Int) (w : World) (h : Net 126 w g n s cap l s2 cq K sp cp mb P) (ok : NetOk n K P) (ho : SlS intE w so (toI out)) (hd : Ordd (useN K P) (K.length * P.length) out wait) (hfull : out.length = K.length * P.length) :
    Calls Tryz.prog 46 #[.pointer (some ⟨g, 0, none⟩), .slice so out.length co] w fun e w' => (∃ b, e = .returned (.slice (some ⟨b, 0, none⟩) (K.length * P.length) (K.length * P.length)) ∧ SlS intE w' (some ⟨b, 0, none⟩) (vlsL K P)) ∧ Below w.heap.size w w' := by
  have hsz := fun V (h : Net 126 V g n s cap l s2 cq K sp cp mb P) => size_c V h ok
  have hNs := ok.size
  have hult := ok.use_lt
  have hel := fun (k : Nat) (hk : k < K.length * P.length) V (h : Net 126 V g n s cap l s2 cq K sp cp mb P) => element_c k V h ok hk
  have hend := fun (L : List Int) => vlsL_of (K := K) (P := P) (L := L)
  obtain ⟨LL, hLL⟩ : ∃ x, vlsL K P = x := ⟨_, rfl⟩
  simp only [hLL] at hend ⊢
  obtain ⟨N, hN⟩ : ∃ N, K.length * P.length = N := ⟨_, rfl⟩
  simp only [hN] at hsz hNs hult hel hend hd hfull ⊢
  have hnd := fun k (hk : k < N) => (num_div (K := K.length) (P := P.length) (by rw [hN]; exact hk))
  clear hLL hN
  have hol : out.length ≤ 4000 := by omega
  have hmk := run_make_ints N (by omega)
  replace hsz := Lib.hid hsz; replace hult := Lib.hid hult; replace hel := Lib.hid hel; replace hend := Lib.hid hend; replace hd := Lib.hid hd; replace hfull := Lib.hid hfull; replace ok := Lib.hid ok; replace hnd := Lib.hid hnd
  go_enter Tryz.func46, Tryz.ntmps46
  go_upto_region 2 with (first | (go_at_call 33; refine (hsz.out _ h).mono ?_; rintro e W1 ⟨rfl, hb1⟩))
  refine wp_world fun A1 HA => ?_
  have hL0 : LsV w W1.heap.size N A1 (List.replicate N 0) := by
    have hs1 := hb1.size
    refine ⟨?_, hb1.size, ?_⟩
    · rw [HA.out]
      repeat (first | (with_reducible exact hb1) | (with_reducible refine Below.drew ?_) | ((with_reducible refine Below.setC ?_ ?_); (focus (first | omega | (simp; done) | (simp; omega)))) | ((with_reducible refine Below.allo ?_ ?_); (focus (first | omega | (simp; done) | (simp; omega)))))
    · rw [HA.out]; exact own_zeros W1 N (by omega)
  clear HA
  obtain ⟨bl, hbl⟩ : ∃ b, W1.heap.size = b := ⟨_, rfl⟩
  simp only [hbl] at hL0 ⊢
  clear hmk hbl hb1
  replace ho := Lib.hid ho
  go_wp2
  go_loopw [23] (fun ii V => ∃ (i : Nat) (L : List Int), i ≤ out.length ∧ ii = .int .i64 i ∧ LsV w bl N V L ∧ Hid (∀ j ∈ out.take i, L.getD j 0 = vlN K P j)) (fun ii _ => out.length - (intOf ii).toNat)
  case atStart => exact ⟨0, _, by omega, rfl, hL0, Lib.hid (by simp)⟩
  case round =>
    clear hL0
    obtain ⟨i, L, hi, rfl, hL, hin⟩ := hrel
    have hBV := hL.be
    by_cases hlt : i < out.length
    · have hiI : i < (toI out).length := by rw [toI_len]; exact hlt
      obtain ⟨ob, oo, eo, hob, o0⟩ := (ho.out.up hL.be).int_at hiI
      subst eo
      rw [toI_at hiI hlt] at o0
      have hkN := hd.out.lt _ (List.getElem_mem hlt)
      have hno : out[i] ∉ out.take i := by
        intro hm
        obtain ⟨j, hj, e⟩ := List.getElem_of_mem hm
        rw [List.getElem_take] at e
        rw [List.length_take] at hj
        exact (List.pairwise_iff_getElem.1 (List.nodup_iff_pairwise_ne.1 hd.out.nd) j i (by omega) hlt (by omega)) e
      have hord := hd.out.ord i hlt
      have hgd := hd.out.gd _ (List.getElem_mem hlt)
      have htk : out.take (i + 1) = out.take i ++ [out[i]] := List.take_succ_eq_append_getElem hlt
      obtain ⟨k, hk⟩ : ∃ k, out[i] = k := ⟨_, rfl⟩
      rw [hk] at o0 hkN hno hord hgd htk
      obtain ⟨hk1, hk2, hk3⟩ := hnd.out k hkN
      have hek := fun V h => hel.out k hkN V h
      have hvk := vlN_eq hgd
      unfold vlR at hvk
      rw [vOf_at hk1] at hvk
      have hpo : (pOf P k).small 20 := by rw [pOf_at hk2]; exact ok.out.pts _ (List.getElem_mem hk2)
      have husk : useN K P k = K[k / P.length].args.filterMap fun a => argN P a (pOf P k) := by unfold useN; rw [vOf_at hk1]
      obtain ⟨p, hpp⟩ : ∃ p, pOf P k = p := ⟨_, rfl⟩
      simp only [hpp] at hek hvk hpo husk
      obtain ⟨v, hv⟩ : ∃ v, k / P.length = v := ⟨_, rfl⟩
      simp only [hv] at hk1 hek hvk husk
      have hnw := Net.up (hL.be) h
      obtain ⟨n0, n1, n2, n3, n4⟩ := hnw.cells
      obtain ⟨vb, vo, sa, ca, es, hvb, q0, q1, q2, q3, q4, q5, q6, hsa, hal, -, -⟩ := hnw.rc.vars.at hk1
      have hops := ok.out.op _ (List.getElem_mem hk1)
      have hsh := ok.out.shift _ (List.getElem_mem hk1)
      have hva := ok.out.var _ (List.getElem_mem hk1)
      have ha3 := ok.out.args _ (List.getElem_mem hk1)
      obtain ⟨X, hX⟩ : ∃ x, K[v] = x := ⟨_, rfl⟩
      rw [hX] at hvk husk q0 q1 q2 q3 q4 q5 q6 hsa hal hops hsh hva ha3
      -- the arguments' values
      have hus : ∀ j (hj : j < X.args.length) u, argN P X.args[j] p = some u → u ∈ out.take i ∧ u < N := fun j hj u e => by
        have hm : u ∈ useN K P k := by rw [husk]; exact List.mem_filterMap.2 ⟨_, List.getElem_mem hj, e⟩
        exact ⟨hord u hm, hult.out k u hm⟩
      obtain ⟨AV, hvk, hVb, hAl, hAj⟩ : ∃ AV : List Int, vlN K P k = appl X.op AV ∧ Vb AV ∧ AV.length = X.args.length ∧ ∀ j (hj : j < X.args.length) (hj' : j < AV.length), AV[j] = argV K P (vlN K P) p X.args[j] := by
        refine ⟨_, hvk, ?_, by simp, fun j hj hj' => List.getElem_map ..⟩
        intro x hx
        obtain ⟨a, ha, rfl⟩ := List.mem_map.1 hx
        unfold argV
        cases e : argN P a p with
        | none => exact frst_bd _ _
        | some u => exact vlN_bd (hd.out.gd _ (List.mem_of_mem_take (hord u (by rw [husk]; exact List.mem_filterMap.2 ⟨a, ha, e⟩))))
      have hdo := fun V sr cr (hs : SlS intE V sr AV) => do_c sr cr AV V hs hVb X.op hops.2 (by rw [hAl]; exact hops.1)
      have hmd := fun V => modulo_c (applZ X.op AV) V (applZ_bd hVb)
      have hkd := fun V => kindOf_ok X.op V hops.2
      obtain ⟨kf, hkf⟩ : ∃ x, kF X.op = x := ⟨_, rfl⟩
      obtain ⟨nd, hnd2⟩ : ∃ x, needs X.op = x := ⟨_, rfl⟩
      have hkc := kF_enter X.op
      simp only [hkf] at hdo hkd hkc
      simp only [hnd2] at hkd
      clear hkf hnd2
      have hvk2 : applZ X.op AV % 10007 = vlN K P k := hvk.symm
      obtain ⟨VK, hVK⟩ : ∃ x, vlN K P k = x := ⟨_, rfl⟩
      rw [hVK] at hvk2
      simp only [hvk2] at hmd
      obtain ⟨Z, hZ⟩ : ∃ x, applZ X.op AV = x := ⟨_, rfl⟩
      simp only [hZ] at hdo hmd
      obtain ⟨px, py, pz⟩ := p
      clear hvk hvk2 hZ husk
      have hLlen := hL.len
      have hwb := hL.wb
      have i1 : (0 : Int) ≤ (i : Int) := by omega
      have i2 : (i : Int) < (out.length : Int) := by omega
      have i3 : (0 : Int) ≤ (k : Int) := by omega
      have i4 : (k : Int) < (N : Int) := by omega
      have i5 : (0 : Int) ≤ (v : Int) := by omega
      have i6 : (v : Int) < (K.length : Int) := by omega
      replace hLlen := Lib.hid hLlen; replace hord := Lib.hid hord; replace hgd := Lib.hid hgd; replace htk := Lib.hid htk; replace hno := Lib.hid hno; replace hk := Lib.hid hk; replace hAl := Lib.hid hAl; replace hAj := Lib.hid hAj; replace hus := Lib.hid hus; replace hdo := Lib.hid hdo; replace hmd := Lib.hid hmd; replace hkd := Lib.hid hkd; replace hek := Lib.hid hek; replace hVK := Lib.hid hVK; replace hX := Lib.hid hX; replace hpp := Lib.hid hpp; replace hv := Lib.hid hv; replace hk3 := Lib.hid hk3; replace hVb := Lib.hid hVb; replace hops := Lib.hid hops; replace hsh := Lib.hid hsh; replace hva := Lib.hid hva; replace ha3 := Lib.hid ha3; replace hpo := Lib.hid hpo; replace hk2 := Lib.hid hk2; replace hkN := Lib.hid hkN
      cases es
      go_upto_region 6 with (first | (go_at_call 84; refine (hek.out _ hnw).mono ?_; rintro e W2 ⟨rfl, hb⟩; (try replace hL := up_of hb hL); (try replace hnw := up_of hb hnw); (try replace n2 := up_of hb n2); (try replace q0 := up_of hb q0); (try replace q1 := up_of hb q1); (try replace q2 := up_of hb q2); (try replace q3 := up_of hb q3); (try replace q4 := up_of hb q4); (try replace q5 := up_of hb q5); (try replace q6 := up_of hb q6); (try replace hsa := up_of hb hsa)))
      refine wp_world fun X1 HX1 => ?_
      have hX1 : Below W2.heap.size W2 X1 := by rw [HX1.out]; (repeat (first | exact Below.refl _ _ | refine Below.alloc ?_ (by simp; try omega) _ | refine Below.setCell ?_ (by simp) _ | refine Below.drew ?_))
      have e0 : X1.cell? ⟨W2.heap.size, 0, none⟩ = some (.int .i64 v) := by rw [HX1.out]; simp [go_sem]
      have e1 : X1.cell? ⟨W2.heap.size, 1, none⟩ = some (.int .i64 px) := by rw [HX1.out]; simp [go_sem]
      have e2 : X1.cell? ⟨W2.heap.size, 2, none⟩ = some (.int .i64 py) := by rw [HX1.out]; simp [go_sem]
      have e3 : X1.cell? ⟨W2.heap.size, 3, none⟩ = some (.int .i64 pz) := by rw [HX1.out]; simp [go_sem]
      have el : W2.heap.size < X1.heap.size := World.block_lt_of_cell? X1 _ e0
      try replace hL := up_of hX1 hL
      try replace hnw := up_of hX1 hnw
      try replace n2 := up_of hX1 n2
      try replace q0 := up_of hX1 q0
      try replace q1 := up_of hX1 q1
      try replace q2 := up_of hX1 q2
      try replace q3 := up_of hX1 q3
      try replace q4 := up_of hX1 q4
      try replace q5 := up_of hX1 q5
      try replace q6 := up_of hX1 q6
      try replace hsa := up_of hX1 hsa
      go_region_held3 (fun V => V.cell? ⟨g, 2, none⟩ = some (.slice (some ⟨vb, vo, none⟩) K.length cq) ∧ V.cell? ⟨W2.heap.size, 0, none⟩ = some (.int .i64 v) ∧ V.cell? ⟨vb, vo + v * 7, none⟩ = some (.string X.name) ∧ V.cell? ⟨vb, vo + v * 7 + 1, none⟩ = some (.int .i64 X.op) ∧ V.cell? ⟨vb, vo + v * 7 + 2, none⟩ = some (.slice sa X.args.length ca) ∧ V.cell? ⟨vb, vo + v * 7 + 3, none⟩ = some (.int .i64 X.i0) ∧ V.cell? ⟨vb, vo + v * 7 + 4, none⟩ = some (.int .i64 X.i1) ∧ V.cell? ⟨vb, vo + v * 7 + 5, none⟩ = some (.int .i64 X.i2) ∧ V.cell? ⟨vb, vo + v * 7 + 6, none⟩ = some (.int .i64 X.i3)) ((first | (with_reducible exact ⟨n2, e0, q0, q1, q2, q3, q4, q5, q6⟩) | ((try dsimp only); (repeat' apply And.intro) <;> (repeat (first | (with_reducible assumption) | (with_reducible refine cell_set (by simp; try omega) ?_) | (with_reducible refine cell_drew ?_) | (with_reducible refine cell_alloc ?_ _)))))) ((first | fail))
      refine exit_world fun Y HY => ?_
      have hXY : Below X1.heap.size X1 Y := by
        rw [HY.out]
        repeat (first | (with_reducible exact Below.refl _ _) | (with_reducible refine Below.drew ?_) | ((with_reducible refine Below.setC ?_ ?_); (focus (first | omega | (simp; done) | (simp; omega)))) | ((with_reducible refine Below.allo ?_ ?_); (focus (first | omega | (simp; done) | (simp; omega)))))
      have xB : Row Y X1.heap.size 66 #[.string X.name, .int .i64 X.op, .slice sa X.args.length ca, .int .i64 X.i0, .int .i64 X.i1, .int .i64 X.i2, .int .i64 X.i3] := by
        rw [HY.out]
        refine Row.of ?_
        repeat (first | (with_reducible refine RowG.new ?_) | (with_reducible refine RowG.drew ?_) | (with_reducible refine RowG.set ?_) | ((with_reducible refine RowG.other ?_ ?_); (focus (first | omega | (simp; done) | (simp; omega)))) | ((with_reducible refine RowG.new' ?_ ?_); (focus (first | omega | (simp; done) | (simp; omega)))) | (with_reducible refine RowG.alloc ?_))
        rfl
      clear HY
      try replace hL := up_of hXY hL
      try replace hnw := up_of hXY hnw
      try replace n2 := up_of hXY n2
      try replace q0 := up_of hXY q0
      try replace q1 := up_of hXY q1
      try replace q2 := up_of hXY q2
      try replace q3 := up_of hXY q3
      try replace q4 := up_of hXY q4
      try replace q5 := up_of hXY q5
      try replace q6 := up_of hXY q6
      try replace hsa := up_of hXY hsa
      try replace hX1 := up_of hXY hX1
      try replace e0 := up_of hXY e0
      try replace e1 := up_of hXY e1
      try replace e2 := up_of hXY e2
      try replace e3 := up_of hXY e3
      try replace el := up_of hXY el
      have x1 : Y.cell? ⟨X1.heap.size, 1, none⟩ = some (.int .i64 X.op) := xB.cell rfl
      have x2 : Y.cell? ⟨X1.heap.size, 2, none⟩ = some (.slice sa X.args.length ca) := xB.cell rfl
      have hYn : Y.ownsRow Y.heap.size 3 1 (.slice none 0 0) 0 (intE.all []) := World.ownsRow_nil _ _ _ _
      have hX1Y : X1.heap.size < Y.heap.size := World.block_lt_of_cell? _ _ x1
      have hgY : g < Y.heap.size := World.block_lt_of_cell? _ _ n2
      have hvbY : vb < Y.heap.size := World.block_lt_of_cell? _ _ q0
      have hLY := Lib.hid hL
      clear xB hBV
      go_wp2
      go_loopw [10, 42] (fun row jj V => ∃ (j : Nat) (r : List Int), j ≤ X.args.length ∧ jj = .int .i64 j ∧ Hid (r = AV.take j) ∧ V.ownsRow Y.heap.size 3 1 row r.length (intE.all r) ∧ Below Y.heap.size Y V) (fun _ jj _ => X.args.length - (intOf jj).toNat)
      case atStart => exact ⟨0, [], by omega, rfl, Lib.hid (by simp), hYn, Below.refl _ _⟩
      case round =>
        clear hYn
        obtain ⟨j, r, hj, rfl, hrr, hown, hBY⟩ := hrel
        have hBYs := hBY.size
        try replace hL := up_of hBY hL
        try replace hnw := up_of hBY hnw
        try replace n2 := up_of hBY n2
        try replace q0 := up_of hBY q0
        try replace q1 := up_of hBY q1
        try replace q2 := up_of hBY q2
        try replace q3 := up_of hBY q3
        try replace q4 := up_of hBY q4
        try replace q5 := up_of hBY q5
        try replace q6 := up_of hBY q6
        try replace hsa := up_of hBY hsa
        try replace hX1 := up_of hBY hX1
        try replace e0 := up_of hBY e0
        try replace e1 := up_of hBY e1
        try replace e2 := up_of hBY e2
        try replace e3 := up_of hBY e3
        try replace el := up_of hBY el
        try replace x1 := up_of hBY x1
        try replace x2 := up_of hBY x2
        by_cases hlj : j < X.args.length
        · obtain ⟨ba, oa, ea, hba, z0, z1, z2, z3⟩ := hsa.ar_at hlj
          cases ea
          have hjA : j < AV.length := by have := hAl.out; omega
          have hcj := hAj.out j hlj hjA
          have hrn : r ++ [AV[j]] = AV.take (j + 1) := by rw [hrr.out, List.take_succ_eq_append_getElem hjA]
          have hrl : r.length = j := by rw [hrr.out, List.length_take]; omega
          have hsm := hsh.out _ (List.getElem_mem hlj)
          have hav := hva.out _ (List.getElem_mem hlj)
          have huj := hus.out j hlj
          obtain ⟨a, ha⟩ : ∃ x, X.args[j] = x := ⟨_, rfl⟩
          rw [ha] at z0 z1 z2 z3 hcj hsm hav huj
          have hag := fun V (h : Net 126 V g n s cap l (some ⟨vb, vo, none⟩) cq K sp cp mb P) => argument_c a ⟨px, py, pz⟩ V h ok.out hpo.out hsm hav
          have hnz := fun i (h : pix P (ptP ⟨px, py, pz⟩ a.p) = some i) => numZ_use hav h
          have haN : argN P a ⟨px, py, pz⟩ = (pix P (ptP ⟨px, py, pz⟩ a.p)).map fun i => a.v.toNat * P.length + i := rfl
          have hq := ptP_small hpo.out hsm
          unfold argV at hcj
          rw [haN] at hcj huj
          obtain ⟨av, hav2⟩ : ∃ m : Nat, a.v = m := ⟨a.v.toNat, by have := bw_iff.1 hav; omega⟩
          have hav3 : av < K.length := by have := bw_iff.1 hav; have := ok.out.vars; omega
          obtain ⟨⟨ax, ay, az⟩, hap⟩ : ∃ x, a.p = x := ⟨_, rfl⟩
          simp only [hap] at z1 z2 z3 hag hnz hcj huj hq
          simp only [hav2, Int.toNat_natCast] at z0 hag hnz hcj huj
          obtain ⟨⟨rx, ry, rz⟩, hrp⟩ : ∃ x, ptP ⟨px, py, pz⟩ ⟨ax, ay, az⟩ = x := ⟨_, rfl⟩
          simp only [hrp] at hag hnz hcj huj hq
          obtain ⟨cj, hcj0⟩ : ∃ x, AV[j] = x := ⟨_, rfl⟩
          rw [hcj0] at hcj hrn
          have hr3 : r.length ≤ 3 := by have := ha3.out; omega
          have j1 : (0 : Int) ≤ (j : Int) := by omega
          have j2 : (j : Int) < (X.args.length : Int) := by omega
          have a1' : (0 : Int) ≤ (av : Int) := by omega
          have a2' : (av : Int) < (K.length : Int) := by omega
          have hrb : ∀ g, u10.ownBlock = some g → Y.heap.size ≤ g ∧ g < wr.heap.size := fun g e => hown.lt g e
          obtain ⟨i0, hi0, hz0, hz1, hz2⟩ := info_parts info_int
          replace hrn := Lib.hid hrn; replace hrl := Lib.hid hrl; replace hcj0 := Lib.hid hcj0; replace ha := Lib.hid ha; replace hap := Lib.hid hap; replace hav2 := Lib.hid hav2; replace hrp := Lib.hid hrp; replace hrb := Lib.hid hrb
          clear haN hsm hav hrr
          cases hpx : pix P ⟨rx, ry, rz⟩ with
          | some m =>
            simp only [hpx, Option.map_some] at hcj huj
            simp only [hpx, Option.isSome_some, hnz m hpx] at hag
            obtain ⟨hu1, hu2⟩ := huj _ rfl
            obtain ⟨u, hu0⟩ : ∃ u, av * P.length + m = u := ⟨_, rfl⟩
            simp only [hu0] at hag hcj hu1 hu2
            have huL : u < L.length := by rw [hLlen.out]; exact hu2
            have hLu : L[u] = cj := by
              rw [hcj, ← hin.out u hu1, List.getD_eq_getElem?_getD, List.getElem?_eq_getElem huL]; rfl
            have u1 : (0 : Int) ≤ (u : Int) := by omega
            have u2 : (u : Int) < (N : Int) := by omega
            replace hag := Lib.hid hag; replace hLu := Lib.hid hLu; replace hu0 := Lib.hid hu0; replace hpx := Lib.hid hpx
            clear hcj huj hu1 hu2 hnz
            go_upto_region 11 with (fail)
            refine wp_world fun Y2 HY2 => ?_
            have hY2 : Below wr.heap.size wr Y2 := by rw [HY2.out]; (repeat (first | exact Below.refl _ _ | refine Below.alloc ?_ (by simp; try omega) _ | refine Below.setCell ?_ (by simp) _ | refine Below.drew ?_))
            have a0 : Y2.cell? ⟨wr.heap.size, 0, none⟩ = some (.int .i64 av) := by rw [HY2.out]; simp [go_sem]
            have a1 : Y2.cell? ⟨wr.heap.size, 1, none⟩ = some (.int .i64 ax) := by rw [HY2.out]; simp [go_sem]
            have a2 : Y2.cell? ⟨wr.heap.size, 2, none⟩ = some (.int .i64 ay) := by rw [HY2.out]; simp [go_sem]
            have a3 : Y2.cell? ⟨wr.heap.size, 3, none⟩ = some (.int .i64 az) := by rw [HY2.out]; simp [go_sem]
            have al : wr.heap.size < Y2.heap.size := World.block_lt_of_cell? Y2 _ a0
            try replace hL := up_of hY2 hL
            try replace hnw := up_of hY2 hnw
            try replace n2 := up_of hY2 n2
            try replace q0 := up_of hY2 q0
            try replace q1 := up_of hY2 q1
            try replace q2 := up_of hY2 q2
            try replace q3 := up_of hY2 q3
            try replace q4 := up_of hY2 q4
            try replace q5 := up_of hY2 q5
            try replace q6 := up_of hY2 q6
            try replace hsa := up_of hY2 hsa
            try replace hX1 := up_of hY2 hX1
            try replace e0 := up_of hY2 e0
            try replace e1 := up_of hY2 e1
            try replace e2 := up_of hY2 e2
            try replace e3 := up_of hY2 e3
            try replace el := up_of hY2 el
            try replace x1 := up_of hY2 x1
            try replace x2 := up_of hY2 x2
            try replace hown := up_of hY2 hown
            try replace hBY := up_of hY2 hBY
            go_upto_region 12 with (first | (go_at_call 86; refine (hag.out _ hnw).mono ?_; rintro e W3 ⟨rfl, hb⟩; (try replace hL := up_of hb hL); (try replace hnw := up_of hb hnw); (try replace n2 := up_of hb n2); (try replace q0 := up_of hb q0); (try replace q1 := up_of hb q1); (try replace q2 := up_of hb q2); (try replace q3 := up_of hb q3); (try replace q4 := up_of hb q4); (try replace q5 := up_of hb q5); (try replace q6 := up_of hb q6); (try replace hsa := up_of hb hsa); (try replace hX1 := up_of hb hX1); (try replace e0 := up_of hb e0); (try replace e1 := up_of hb e1); (try replace e2 := up_of hb e2); (try replace e3 := up_of hb e3); (try replace el := up_of hb el); (try replace x1 := up_of hb x1); (try replace x2 := up_of hb x2); (try replace hown := up_of hb hown); (try replace hBY := up_of hb hBY); (try replace hY2 := up_of hb hY2); (try replace a0 := up_of hb a0); (try replace a1 := up_of hb a1); (try replace a2 := up_of hb a2); (try replace a3 := up_of hb a3); (try replace al := up_of hb al)))
            refine wp_world fun Y3 HY3 => ?_
            have hY3 : Below W3.heap.size W3 Y3 := by rw [HY3.out]; (repeat (first | exact Below.refl _ _ | refine Below.alloc ?_ (by simp; try omega) _ | refine Below.setCell ?_ (by simp) _ | refine Below.drew ?_))
            have f0 : Y3.cell? ⟨W3.heap.size, 0, none⟩ = some (.int .i64 rx) := by rw [HY3.out]; simp [go_sem]
            have f1 : Y3.cell? ⟨W3.heap.size, 1, none⟩ = some (.int .i64 ry) := by rw [HY3.out]; simp [go_sem]
            have f2 : Y3.cell? ⟨W3.heap.size, 2, none⟩ = some (.int .i64 rz) := by rw [HY3.out]; simp [go_sem]
            have fl : W3.heap.size < Y3.heap.size := World.block_lt_of_cell? Y3 _ f0
            try replace hL := up_of hY3 hL
            try replace hnw := up_of hY3 hnw
            try replace n2 := up_of hY3 n2
            try replace q0 := up_of hY3 q0
            try replace q1 := up_of hY3 q1
            try replace q2 := up_of hY3 q2
            try replace q3 := up_of hY3 q3
            try replace q4 := up_of hY3 q4
            try replace q5 := up_of hY3 q5
            try replace q6 := up_of hY3 q6
            try replace hsa := up_of hY3 hsa
            try replace hX1 := up_of hY3 hX1
            try replace e0 := up_of hY3 e0
            try replace e1 := up_of hY3 e1
            try replace e2 := up_of hY3 e2
            try replace e3 := up_of hY3 e3
            try replace el := up_of hY3 el
            try replace x1 := up_of hY3 x1
            try replace x2 := up_of hY3 x2
            try replace hown := up_of hY3 hown
            try replace hBY := up_of hY3 hBY
            try replace hY2 := up_of hY3 hY2
            try replace a0 := up_of hY3 a0
            try replace a1 := up_of hY3 a1
            try replace a2 := up_of hY3 a2
            try replace a3 := up_of hY3 a3
            try replace al := up_of hY3 al
            obtain ⟨wcu, -⟩ := hL.cell huL
            rw [hLu.out] at wcu
            have hBYs2 := hBY.size
            go_wp2_with (first | (at_builtin; refine wpList_append_own_at _ rfl _ _ 31 rfl Y.heap.size 3 i0 _ 1 8 Tryz.underlying31 hi0 hz0 hz1 hz2 rfl (by decide) _ _ _ rfl (hown.alloc _) ⟨Y3.heap.size, 0, none⟩ 1 1 [.int .i64 cj] rfl rfl (news_new _ _ _) (by simp [Value.oneCell']) (by unfold maxLen; omega) (by omega) (by simp; omega) ?_; intro v1 w1 hown1 hgrow hnil hat1))
            have hB1 : Below Y.heap.size Y w1 := (hBY.alloc hBYs2 _).grown hgrow (by simp; omega) (fun j e => (hown.lt j e).1)
            go_roundw
            case rel => exact ⟨j + 1, r ++ [cj], by omega, rfl, hrn, by rw [int_snoc, List.length_append]; exact hown1, hB1⟩
            case measure => exact meas hlj
          | none =>
            simp only [hpx, Option.map_none] at hcj
            simp only [hpx, Option.isSome_none] at hag
            obtain ⟨NZ, hNZ⟩ : ∃ z, numZ P (av : Int) ⟨rx, ry, rz⟩ = z := ⟨_, rfl⟩
            simp only [hNZ] at hag
            obtain ⟨vb2, vo2, sa2, ca2, es2, -, y0, y1, y2, y3, y4, y5, y6, -, -, -, -⟩ := hnw.rc.vars.at hav3
            cases es2
            have hini := ok.out.init _ (List.getElem_mem hav3)
            have hvat : vat K av = K[av] := by unfold vat; rw [List.getD_eq_getElem?_getD, List.getElem?_eq_getElem hav3]; rfl
            rw [hvat] at hcj
            obtain ⟨XX, hXX⟩ : ∃ x, K[av] = x := ⟨_, rfl⟩
            rw [hXX] at hcj hini y0 y1 y2 y3 y4 y5 y6
            have hfi := fun V => first_c XX sa2 XX.args.length ca2 ⟨rx, ry, rz⟩ V hini ⟨by have := hq.1; omega, by have := hq.2.1; omega, by have := hq.2.2; omega⟩
            simp only [← hcj] at hfi
            replace hag := Lib.hid hag; replace hfi := Lib.hid hfi; replace hXX := Lib.hid hXX; replace hpx := Lib.hid hpx
            clear hcj huj hnz hvat hNZ hini
            go_upto_region 11 with (fail)
            refine wp_world fun Y2 HY2 => ?_
            have hY2 : Below wr.heap.size wr Y2 := by rw [HY2.out]; (repeat (first | exact Below.refl _ _ | refine Below.alloc ?_ (by simp; try omega) _ | refine Below.setCell ?_ (by simp) _ | refine Below.drew ?_))
            have a0 : Y2.cell? ⟨wr.heap.size, 0, none⟩ = some (.int .i64 av) := by rw [HY2.out]; simp [go_sem]
            have a1 : Y2.cell? ⟨wr.heap.size, 1, none⟩ = some (.int .i64 ax) := by rw [HY2.out]; simp [go_sem]
            have a2 : Y2.cell? ⟨wr.heap.size, 2, none⟩ = some (.int .i64 ay) := by rw [HY2.out]; simp [go_sem]
            have a3 : Y2.cell? ⟨wr.heap.size, 3, none⟩ = some (.int .i64 az) := by rw [HY2.out]; simp [go_sem]
            have al : wr.heap.size < Y2.heap.size := World.block_lt_of_cell? Y2 _ a0
            try replace hL := up_of hY2 hL
            try replace hnw := up_of hY2 hnw
            try replace n2 := up_of hY2 n2
            try replace q0 := up_of hY2 q0
            try replace q1 := up_of hY2 q1
            try replace q2 := up_of hY2 q2
            try replace q3 := up_of hY2 q3
            try replace q4 := up_of hY2 q4
            try replace q5 := up_of hY2 q5
            try replace q6 := up_of hY2 q6
            try replace hsa := up_of hY2 hsa
            try replace hX1 := up_of hY2 hX1
            try replace e0 := up_of hY2 e0
            try replace e1 := up_of hY2 e1
            try replace e2 := up_of hY2 e2
            try replace e3 := up_of hY2 e3
            try replace el := up_of hY2 el
            try replace x1 := up_of hY2 x1
            try replace x2 := up_of hY2 x2
            try replace hown := up_of hY2 hown
            try replace hBY := up_of hY2 hBY
            try replace hY2 := up_of hY2 hY2
            try replace a0 := up_of hY2 a0
            try replace a1 := up_of hY2 a1
            try replace a2 := up_of hY2 a2
            try replace a3 := up_of hY2 a3
            try replace al := up_of hY2 al
            try replace hY3 := up_of hY2 hY3
            try replace f0 := up_of hY2 f0
            try replace f1 := up_of hY2 f1
            try replace f2 := up_of hY2 f2
            try replace fl := up_of hY2 fl
            try replace y0 := up_of hY2 y0
            try replace y1 := up_of hY2 y1
            try replace y2 := up_of hY2 y2
            try replace y3 := up_of hY2 y3
            try replace y4 := up_of hY2 y4
            try replace y5 := up_of hY2 y5
            try replace y6 := up_of hY2 y6
            have hY2s := hY2.size
            go_upto_region 12 with (first | (go_at_call 86; refine (hag.out _ hnw).mono ?_; rintro e W3 ⟨rfl, hb⟩; (try replace hL := up_of hb hL); (try replace hnw := up_of hb hnw); (try replace n2 := up_of hb n2); (try replace q0 := up_of hb q0); (try replace q1 := up_of hb q1); (try replace q2 := up_of hb q2); (try replace q3 := up_of hb q3); (try replace q4 := up_of hb q4); (try replace q5 := up_of hb q5); (try replace q6 := up_of hb q6); (try replace hsa := up_of hb hsa); (try replace hX1 := up_of hb hX1); (try replace e0 := up_of hb e0); (try replace e1 := up_of hb e1); (try replace e2 := up_of hb e2); (try replace e3 := up_of hb e3); (try replace el := up_of hb el); (try replace x1 := up_of hb x1); (try replace x2 := up_of hb x2); (try replace hown := up_of hb hown); (try replace hBY := up_of hb hBY); (try replace hY2 := up_of hb hY2); (try replace a0 := up_of hb a0); (try replace a1 := up_of hb a1); (try replace a2 := up_of hb a2); (try replace a3 := up_of hb a3); (try replace al := up_of hb al); (try replace hY3 := up_of hb hY3); (try replace f0 := up_of hb f0); (try replace f1 := up_of hb f1); (try replace f2 := up_of hb f2); (try replace fl := up_of hb fl); (try replace y0 := up_of hb y0); (try replace y1 := up_of hb y1); (try replace y2 := up_of hb y2); (try replace y3 := up_of hb y3); (try replace y4 := up_of hb y4); (try replace y5 := up_of hb y5); (try replace y6 := up_of hb y6)))
            have hW3s := hb.size
            refine wp_world fun Y3 HY3 => ?_
            have hY3 : Below W3.heap.size W3 Y3 := by rw [HY3.out]; (repeat (first | exact Below.refl _ _ | refine Below.alloc ?_ (by simp; try omega) _ | refine Below.setCell ?_ (by simp) _ | refine Below.drew ?_))
            have f0 : Y3.cell? ⟨W3.heap.size, 0, none⟩ = some (.int .i64 rx) := by rw [HY3.out]; simp [go_sem]
            have f1 : Y3.cell? ⟨W3.heap.size, 1, none⟩ = some (.int .i64 ry) := by rw [HY3.out]; simp [go_sem]
            have f2 : Y3.cell? ⟨W3.heap.size, 2, none⟩ = some (.int .i64 rz) := by rw [HY3.out]; simp [go_sem]
            have fl : W3.heap.size < Y3.heap.size := World.block_lt_of_cell? Y3 _ f0
            try replace hL := up_of hY3 hL
            try replace hnw := up_of hY3 hnw
            try replace n2 := up_of hY3 n2
            try replace q0 := up_of hY3 q0
            try replace q1 := up_of hY3 q1
            try replace q2 := up_of hY3 q2
            try replace q3 := up_of hY3 q3
            try replace q4 := up_of hY3 q4
            try replace q5 := up_of hY3 q5
            try replace q6 := up_of hY3 q6
            try replace hsa := up_of hY3 hsa
            try replace hX1 := up_of hY3 hX1
            try replace e0 := up_of hY3 e0
            try replace e1 := up_of hY3 e1
            try replace e2 := up_of hY3 e2
            try replace e3 := up_of hY3 e3
            try replace el := up_of hY3 el
            try replace x1 := up_of hY3 x1
            try replace x2 := up_of hY3 x2
            try replace hown := up_of hY3 hown
            try replace hBY := up_of hY3 hBY
            try replace hY2 := up_of hY3 hY2
            try replace a0 := up_of hY3 a0
            try replace a1 := up_of hY3 a1
            try replace a2 := up_of hY3 a2
            try replace a3 := up_of hY3 a3
            try replace al := up_of hY3 al
            try replace hY3 := up_of hY3 hY3
            try replace f0 := up_of hY3 f0
            try replace f1 := up_of hY3 f1
            try replace f2 := up_of hY3 f2
            try replace fl := up_of hY3 fl
            try replace y0 := up_of hY3 y0
            try replace y1 := up_of hY3 y1
            try replace y2 := up_of hY3 y2
            try replace y3 := up_of hY3 y3
            try replace y4 := up_of hY3 y4
            try replace y5 := up_of hY3 y5
            try replace y6 := up_of hY3 y6
            go_upto_region 14 with (fail)
            go_region_held3 (fun V => V.cell? ⟨g, 2, none⟩ = some (.slice (some ⟨vb, vo, none⟩) K.length cq) ∧ V.cell? ⟨wr.heap.size, 0, none⟩ = some (.int .i64 av) ∧ V.cell? ⟨vb, vo + av * 7, none⟩ = some (.string XX.name) ∧ V.cell? ⟨vb, vo + av * 7 + 1, none⟩ = some (.int .i64 XX.op) ∧ V.cell? ⟨vb, vo + av * 7 + 2, none⟩ = some (.slice sa2 XX.args.length ca2) ∧ V.cell? ⟨vb, vo + av * 7 + 3, none⟩ = some (.int .i64 XX.i0) ∧ V.cell? ⟨vb, vo + av * 7 + 4, none⟩ = some (.int .i64 XX.i1) ∧ V.cell? ⟨vb, vo + av * 7 + 5, none⟩ = some (.int .i64 XX.i2) ∧ V.cell? ⟨vb, vo + av * 7 + 6, none⟩ = some (.int .i64 XX.i3) ∧ V.cell? ⟨W3.heap.size, 0, none⟩ = some (.int .i64 rx) ∧ V.cell? ⟨W3.heap.size, 1, none⟩ = some (.int .i64 ry) ∧ V.cell? ⟨W3.heap.size, 2, none⟩ = some (.int .i64 rz)) ((first | (with_reducible exact ⟨n2, a0, y0, y1, y2, y3, y4, y5, y6, f0, f1, f2⟩) | ((try dsimp only); (repeat' apply And.intro) <;> (repeat (first | (with_reducible assumption) | (with_reducible refine cell_set (by simp; try omega) ?_) | (with_reducible refine cell_drew ?_) | (with_reducible refine cell_alloc ?_ _)))))) ((first | (go_at_call 74; refine calls_below (W0 := Y3) ?_ fun hpre => ?_; (repeat (first | exact Below.refl _ _ | refine Below.alloc ?_ (by simp; try omega) _ | refine Below.drew ?_)); refine (hfi.out _).mono ?_; rintro e N1 ⟨rfl, hb1⟩; have hb := Up.trans hpre hb1; clear hpre; (first | have hs_N1 := below_alloc_lt hb1 | have hs_N1 := below_alloc_lt (drewB hb1) | skip); have el_N1 := el; have al_N1 := al; have fl_N1 := fl; (try replace hL := up_of hb hL); (try replace hnw := up_of hb hnw); (try replace n2 := up_of hb n2); (try replace q0 := up_of hb q0); (try replace q1 := up_of hb q1); (try replace q2 := up_of hb q2); (try replace q3 := up_of hb q3); (try replace q4 := up_of hb q4); (try replace q5 := up_of hb q5); (try replace q6 := up_of hb q6); (try replace hsa := up_of hb hsa); (try replace hX1 := up_of hb hX1); (try replace e0 := up_of hb e0); (try replace e1 := up_of hb e1); (try replace e2 := up_of hb e2); (try replace e3 := up_of hb e3); (try replace el := up_of hb el); (try replace x1 := up_of hb x1); (try replace x2 := up_of hb x2); (try replace hown := up_of hb hown); (try replace hBY := up_of hb hBY); (try replace hY2 := up_of hb hY2); (try replace a0 := up_of hb a0); (try replace a1 := up_of hb a1); (try replace a2 := up_of hb a2); (try replace a3 := up_of hb a3); (try replace al := up_of hb al); (try replace hY3 := up_of hb hY3); (try replace f0 := up_of hb f0); (try replace f1 := up_of hb f1); (try replace f2 := up_of hb f2); (try replace fl := up_of hb fl); (try replace y0 := up_of hb y0); (try replace y1 := up_of hb y1); (try replace y2 := up_of hb y2); (try replace y3 := up_of hb y3); (try replace y4 := up_of hb y4); (try replace y5 := up_of hb y5); (try replace y6 := up_of hb y6); (first | have nB := new_up hb1 | have nB := new_up (drewB hb1) | (try replace nB := up_of hb nB))) | (refine step_append_lies _ (by rfl) _ _ 31 (by rfl) Y.heap.size 3 i0 (.int .i64 0) 1 8 Tryz.underlying31 hi0 hz0 hz1 hz2 rfl (by decide) _ _ _ (by rfl) (hown.alloc _) ⟨N1.heap.size, 0, none⟩ 1 1 [.int .i64 cj] (by rfl) (by rfl) (news_new _ _ _) (by simp [Value.oneCell']) (by decide) (by unfold maxLen; omega) (by omega) (by have := hBY.size; first | omega | (simp; omega)) (N1.heap.size + 1) (by simp) ?_; intro gg cap1 w1 hown1 hgrow hat hlt2; have hB1 := (hBY.alloc hBY.size _).grown hgrow (by have := hBY.size; first | omega | (simp; omega)) (fun g e => (hrb.out g e).1); replace n2 := cell_app hgrow n2 (fun g e => by have := hrb.out g e; omega); replace a0 := cell_app hgrow a0 (fun g e => by have := hrb.out g e; omega); replace y0 := cell_app hgrow y0 (fun g e => by have := hrb.out g e; omega); replace y1 := cell_app hgrow y1 (fun g e => by have := hrb.out g e; omega); replace y2 := cell_app hgrow y2 (fun g e => by have := hrb.out g e; omega); replace y3 := cell_app hgrow y3 (fun g e => by have := hrb.out g e; omega); replace y4 := cell_app hgrow y4 (fun g e => by have := hrb.out g e; omega); replace y5 := cell_app hgrow y5 (fun g e => by have := hrb.out g e; omega); replace y6 := cell_app hgrow y6 (fun g e => by have := hrb.out g e; omega); replace f0 := cell_app hgrow f0 (fun g e => by have := hrb.out g e; omega); replace f1 := cell_app hgrow f1 (fun g e => by have := hrb.out g e; omega); replace f2 := cell_app hgrow f2 (fun g e => by have := hrb.out g e; omega))))
            go_wp2
            go_roundw
            case rel => exact ⟨j + 1, r ++ [cj], by omega, rfl, hrn, by rw [int_snoc, List.length_append]; exact hown1, hB1⟩
            case measure => exact meas hlj
        · obtain rfl : j = X.args.length := by omega
          have hr2 : r = AV := by rw [hrr.out, ← hAl.out, List.take_length]
          subst hr2
          obtain ⟨sr, cr, er, -⟩ := owns_shape hown
          subst er
          have hsl := SlS.of_own (E := intE) hown
          have hkL : k < L.length := by rw [hLlen.out]; exact hkN.out
          replace hrr := Lib.hid hrr
          clear hAj hAl hVb
          go_upto_region 17 with (first | (go_at_call 90; refine (hkd.out _).mono ?_; rintro e W5 ⟨⟨ka, rfl⟩, hb⟩; (try replace hL := up_of hb hL); (try replace hnw := up_of hb hnw); (try replace n2 := up_of hb n2); (try replace q0 := up_of hb q0); (try replace q1 := up_of hb q1); (try replace q2 := up_of hb q2); (try replace q3 := up_of hb q3); (try replace q4 := up_of hb q4); (try replace q5 := up_of hb q5); (try replace q6 := up_of hb q6); (try replace hsa := up_of hb hsa); (try replace hX1 := up_of hb hX1); (try replace e0 := up_of hb e0); (try replace e1 := up_of hb e1); (try replace e2 := up_of hb e2); (try replace e3 := up_of hb e3); (try replace el := up_of hb el); (try replace x1 := up_of hb x1); (try replace x2 := up_of hb x2); (try replace hown := up_of hb hown); (try replace hBY := up_of hb hBY); (try replace hY2 := up_of hb hY2); (try replace a0 := up_of hb a0); (try replace a1 := up_of hb a1); (try replace a2 := up_of hb a2); (try replace a3 := up_of hb a3); (try replace al := up_of hb al); (try replace hY3 := up_of hb hY3); (try replace f0 := up_of hb f0); (try replace f1 := up_of hb f1); (try replace f2 := up_of hb f2); (try replace fl := up_of hb fl); (try replace y0 := up_of hb y0); (try replace y1 := up_of hb y1); (try replace y2 := up_of hb y2); (try replace y3 := up_of hb y3); (try replace y4 := up_of hb y4); (try replace y5 := up_of hb y5); (try replace y6 := up_of hb y6); (try replace hsl := up_of hb hsl)) | (refine wpList_store_row rfl 146 _ _ rfl W5.heap.size #[.string ka, .int .i64 nd, .func (.func kf) #[] #[]] rfl (by kernel_rfl) 146 _ (Row.new W5 _ _) (by kernel_rfl) (by kernel_rfl) (by kernel_rfl) ?_))
          refine wp_world fun W6 HW6 => ?_
          have h6 : Below W5.heap.size W5 W6 := by
            rw [HW6.out]
            exact ((Below.refl _ W5).alloc (Nat.le_refl _) _).trans ⟨rfl, rfl, rfl, by simp [World.setRow], fun k hk => setRow_other _ _ k _ (by omega)⟩
          have kxN : Row (W5.alloc (.cells #[.string ⟨#[]⟩, .int .i64 0, .nilFunc] 146)) W5.heap.size 146 _ := Row.new W5 _ _
          have kxR : Row W6 W5.heap.size 146 #[.string ka, .int .i64 nd, .func (.func kf) #[] #[]] := by rw [HW6.out]; exact setRow_heap _ _ _ _ _ _ kxN
          have kx2 : W6.cell? ⟨W5.heap.size, 2, none⟩ = some (.func (.func kf) #[] #[]) := kxR.cell rfl
          try replace hL := up_of h6 hL
          try replace hnw := up_of h6 hnw
          try replace n2 := up_of h6 n2
          try replace q0 := up_of h6 q0
          try replace q1 := up_of h6 q1
          try replace q2 := up_of h6 q2
          try replace q3 := up_of h6 q3
          try replace q4 := up_of h6 q4
          try replace q5 := up_of h6 q5
          try replace q6 := up_of h6 q6
          try replace hsa := up_of h6 hsa
          try replace hX1 := up_of h6 hX1
          try replace e0 := up_of h6 e0
          try replace e1 := up_of h6 e1
          try replace e2 := up_of h6 e2
          try replace e3 := up_of h6 e3
          try replace el := up_of h6 el
          try replace x1 := up_of h6 x1
          try replace x2 := up_of h6 x2
          try replace hown := up_of h6 hown
          try replace hBY := up_of h6 hBY
          try replace hY2 := up_of h6 hY2
          try replace a0 := up_of h6 a0
          try replace a1 := up_of h6 a1
          try replace a2 := up_of h6 a2
          try replace a3 := up_of h6 a3
          try replace al := up_of h6 al
          try replace hY3 := up_of h6 hY3
          try replace f0 := up_of h6 f0
          try replace f1 := up_of h6 f1
          try replace f2 := up_of h6 f2
          try replace fl := up_of h6 fl
          try replace y0 := up_of h6 y0
          try replace y1 := up_of h6 y1
          try replace y2 := up_of h6 y2
          try replace y3 := up_of h6 y3
          try replace y4 := up_of h6 y4
          try replace y5 := up_of h6 y5
          try replace y6 := up_of h6 y6
          try replace hsl := up_of h6 hsl
          clear HW6 kxR kxN
          go_upto_region 18 with (first | (go_at_call 91; refine (hmd.out _).mono ?_; rintro e W8 ⟨rfl, rfl⟩) | (refine (hdo.out _ _ _ hsl).mono ?_; rintro e W7 ⟨rfl, hb⟩; replace hL := LsV.up hb hL; obtain ⟨wck, wfk⟩ := hL.cell hkL))
          refine wp_world fun Z1 HZ1 => ?_
          have hLZ : LsV w bl N Z1 (L.set k VK) := by rw [HZ1.out]; exact hL.set k VK
          have hin2 : ∀ j ∈ out.take (i + 1), (L.set k VK).getD j 0 = vlN K P j := fun j hj => by
            rw [htk.out] at hj
            rcases List.mem_append.1 hj with hj | hj
            · rw [getD_set hkL, if_neg (fun e => hno.out (by rw [e]; exact hj))]
              exact hin.out j hj
            · simp at hj; subst hj
              rw [getD_set hkL, if_pos rfl]; exact hVK.out.symm
          replace hin2 := Lib.hid hin2
          clear HZ1 wck wfk hL hin
          go_wp2
          go_roundw
          case rel => exact ⟨i + 1, L.set k VK, by omega, rfl, hLZ, hin2⟩
          case measure => exact meas hlt
    · have hie : i = out.length := by omega
      subst hie
      have hlen := hL.len
      have hLL : L = LL := hend.out L hlen fun k hk => hin.out k (by rw [List.take_length]; exact hd.out.full hfull.out k hk)
      subst hLL
      have hsl : SlS intE wr (some ⟨bl, 0, none⟩) L := by
        have h2 := hL.l0
        rw [← hlen] at h2
        exact SlS.of_own (E := intE) (base := bl) (e := 3) (cap := L.length) h2
      replace hsl := Lib.hid hsl; replace hlen := Lib.hid hlen; replace hBV := Lib.hid hBV
      clear hin hend hL
      go_wp2
      go_ret
      exact ⟨⟨bl, rfl, hsl.out⟩, hBV.out⟩
end
end Go.Proofs.YtakbpjgnjfigcaaGreat

/- What operations make of their arguments: the reference; first values in the reference. -/
namespace Go.Proofs.YtakbpjgnjfigcaaGreat
open Go.RowKit

end Go.Proofs.YtakbpjgnjfigcaaGreat
