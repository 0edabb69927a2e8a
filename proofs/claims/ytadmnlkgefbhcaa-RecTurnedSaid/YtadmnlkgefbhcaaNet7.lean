/- A list for each variable: the program. -/
import Derived.Test.YtadmnlkgefbhcaaNet6
import Derived.Test.YtadmnlkgefbhcaaNet4
namespace Go.Proofs.Ytadmnlkgefbhcaa
open Go.RowKit Go.Maps

set_option maxRecDepth 100000 in
set_option maxHeartbeats 400000 in
theorem nint_clone (s : Option Addr) (cap : Nat) (l : List Int) (w : World) (hs : SlS intE w s l) (hc : s = none → cap = 0) (hl : l.length ≤ 1099511627776) :
    Calls Try.prog 107 #[.slice s l.length cap] w (RetS intE 3 l w) := by
  have hml : l.length ≤ maxLen := by unfold maxLen; omega
  have hin := hs
  cases s with
  | none =>
    obtain rfl := hs.none_nil
    obtain rfl := hc rfl
    clear hs hin hml hc
    have hq : ∀ w : World, (binOp .eql 53 (.slice none 0 0) (.slice none 0 0)).run Try.prog w = .ok (.bool true) w := fun w => Lib.run_eql_slice_nil w 53 3 _ _ _ _ _ Try.underlying53
    go_enter Try.func107, Try.ntmps107
    go_wp2
    go_ret
    exact ⟨none, 0, rfl, World.ownsRow_nil _ _ _ _, Below.refl _ _⟩
  | some a =>
    have hs2 := Lib.hid (up_of ((Below.refl w.heap.size w).alloc (Nat.le_refl _) (.cells #[] 3)) hs)
    replace hs := Lib.hid hs
    clear hin hc
    have hq : ∀ w : World, (binOp .eql 53 (.slice (some a) l.length cap) (.slice none 0 0)).run Try.prog w = .ok (.bool false) w := fun w => Lib.run_eql_slice_nil w 53 3 _ _ _ _ _ Try.underlying53
    go_enter Try.func107, Try.ntmps107
    obtain ⟨i0, hi, hz0, hz1, hz2⟩ := info_parts info_int
    go_wp2_with (first | (at_builtin; refine wpList_append_own _ rfl _ _ 53 rfl w.heap.size 3 i0 (.int .i64 0) 1 8 Try.underlying53 hi hz0 hz1 hz2 rfl (by decide) _ _ _ rfl (owns_built w 3 1) a l.length cap (Elt.all intE l) rfl (Elt.all_len _ _) (SlS.news hs2.out) (Elt.all_one _ _) (by unfold maxLen; omega) (by omega) (by simp) ?_; intro v1 w1 hown1 hgrow hnil))
    simp only [Nat.zero_add, List.nil_append] at hown1
    obtain ⟨s', c', rfl, _⟩ := owns_shape hown1
    go_wp2
    go_ret
    exact ⟨s', c', rfl, hown1, ((Below.refl _ w).alloc (Nat.le_refl _) _).grown hgrow (by simp) (fun k hk => by cases hk; exact Nat.le_refl _)⟩

theorem inb_world {n} {Q : Exit → Act → World → Prop} {e : Exit} {a : Act} {w : World} (h : ∀ W, Hid (W = w) → Exit.inBlock n Q e a W) : Exit.inBlock n Q e a w := h w rfl
/-- A part of a slice. -/
theorem SlS.part {w : World} {b o : Nat} {l : List Int} (c : SlS intE w (some ⟨b, o, none⟩) l) (i m : Nat) : SlS intE w (some ⟨b, o + i, none⟩) ((l.drop i).take m) := by
  by_cases hl : (l.drop i).take m = []
  · exact .inl hl
  · have hi : i < l.length := by
      by_cases h : i < l.length
      · exact h
      · exact absurd (by rw [List.drop_of_length_le (by omega)]; simp) hl
    obtain ⟨b', o', e, hb, -⟩ := c.at hi
    cases e
    refine sl_ints hb fun j hj => ?_
    have hj2 : j < l.length - i := by rw [List.length_take, List.length_drop] at hj; omega
    obtain ⟨b', o', e, -, h0⟩ := c.int_at (i := i + j) (by omega)
    cases e
    rw [Nat.add_assoc, h0, List.getElem_take, List.getElem_drop]
/-- The rows, of which so many are done. -/
def rowsK (m : Nat) (l : List Int) (n v : Nat) : List (List Int) := (List.range n).map fun i => if i < v then (l.drop (i * m)).take m else []
theorem rowsK_len (m : Nat) (l : List Int) (n v : Nat) : (rowsK m l n v).length = n := by simp [rowsK]
theorem rowsK_zero (m : Nat) (l : List Int) (n : Nat) : rowsK m l n 0 = List.replicate n [] := by
  refine List.ext_getElem (by simp [rowsK]) fun i h1 h2 => ?_
  simp [rowsK]
theorem rowsK_all (m : Nat) (l : List Int) (n : Nat) : rowsK m l n n = rowsN m l n := by
  refine List.ext_getElem (by simp [rowsK, rowsN]) fun i h1 h2 => ?_
  have : i < n := by simpa [rowsK] using h1
  simp [rowsK, rowsN, this]
theorem rowsK_set {m : Nat} {l : List Int} {n v : Nat} : (rowsK m l n v).set v ((l.drop (v * m)).take m) = rowsK m l n (v + 1) := by
  refine List.ext_getElem (by simp [rowsK]) fun i h1 h2 => ?_
  rw [List.getElem_set]
  by_cases e : v = i
  · subst e; simp [rowsK]
  · rw [if_neg e]
    have h3 : (i < v + 1) ↔ (i < v) := by omega
    simp [rowsK, h3]
theorem part_len {m n v : Nat} {l : List Int} (hl : l.length = n * m) (hv : v < n) : ((l.drop (v * m)).take m).length = m := by
  have : (v + 1) * m ≤ n * m := Nat.mul_le_mul_right m (by omega)
  rw [Nat.succ_mul] at this
  rw [List.length_take, List.length_drop]; omega
section
variable {g : Nat} {n : Int} {s : Option Addr} {cap : Nat} {l : List Iq} {s2 : Option Addr} {cq : Nat} {K : List Vv} {sp : Option Addr} {cp mb : Nat} {P : List Pt}
set_option maxRecDepth 100000 in
set_option maxHeartbeats 1000000 in
theorem cut_c (b : Nat) (L : List Int) (w : World) (h : Net 106 w g n s cap l s2 cq K sp cp mb P) (ok : NetOk n K P) (hs : SlS intE w (some ⟨b, 0, none⟩) L) (hL : L.length = K.length * P.length) :
    Calls Try.prog 76 #[.pointer (some ⟨g, 0, none⟩), .slice (some ⟨b, 0, none⟩) (K.length * P.length) (K.length * P.length)] w fun e w' => (∃ s' c', e = .returned (.slice s' K.length c') ∧ SlSS intE w' s' (rowsN P.length L K.length)) ∧ Below w.heap.size w w' := by
  have hNs := ok.size
  have hkl := ok.vars
  have hpl := ok.len
  have hend := rowsK_all P.length L K.length
  have hmt := run_make_tab K.length (by omega)
  obtain ⟨n0, n1, n2, n3, n4⟩ := h.cells
  replace hend := Lib.hid hend; replace hL := Lib.hid hL
  have h0 := Lib.hid h
  have hgw : g < w.heap.size := World.block_lt_of_cell? w ⟨g, 0, none⟩ n0
  go_enter Try.func76, Try.ntmps76
  go_upto_region 2 with (fail)
  refine wp_world fun X HX => ?_
  have hX : Below w.heap.size w X := by
    rw [HX.out]
    repeat (first | (with_reducible exact Below.refl _ _) | (with_reducible refine Below.drew ?_) | ((with_reducible refine Below.setC ?_ ?_); (focus (first | omega | (simp; done) | (simp; omega)))) | ((with_reducible refine Below.allo ?_ ?_); (focus (first | omega | (simp; done) | (simp; omega)))))
  have tb : Tbl intE 53 3 X w.heap.size (.slice (some ⟨w.heap.size, 0, none⟩) K.length K.length) (List.replicate K.length ⟨none, 0, 0⟩) (rowsK P.length L K.length 0) := by
    rw [rowsK_zero]
    refine Tbl.made ?_ (Nat.le_refl _) (by omega)
    rw [HX.out]
    exact heap_alloc_new w _
  clear HX h
  go_wp2
  go_loopw [16] (fun ii V => ∃ (v : Nat) (ss : List Sv), v ≤ K.length ∧ ii = .int .i64 v ∧ Tbl intE 53 3 V w.heap.size (.slice (some ⟨w.heap.size, 0, none⟩) K.length K.length) ss (rowsK P.length L K.length v) ∧ Below w.heap.size w V) (fun ii _ => K.length - (intOf ii).toNat)
  case atStart => exact ⟨0, _, by omega, rfl, tb, hX⟩
  case round =>
    clear tb hX
    obtain ⟨v, ss, hv, rfl, tb, hB⟩ := hrel
    by_cases hlt : v < K.length
    · have n3' := Up.cell hB n3
      have hsV := (hs.up hB).part (v * P.length) P.length
      have hpl2 := part_len hL.out hlt
      have hset := rowsK_set (m := P.length) (l := L) (n := K.length) (v := v)
      have hmul : (v + 1) * P.length ≤ K.length * P.length := Nat.mul_le_mul_right _ (by omega)
      have hsm : (v + 1) * P.length = v * P.length + P.length := Nat.succ_mul _ _
      have e1 : (v : Int) * (P.length : Int) = ((v * P.length : Nat) : Int) := (Int.natCast_mul _ _).symm
      obtain ⟨B, hBe⟩ : ∃ a, (v + 1) * P.length = a := ⟨_, rfl⟩
      have e2 : ((v : Int) + 1) * (P.length : Int) = (B : Int) := by rw [← hBe, Int.natCast_mul]; rfl
      rw [hBe] at hmul hsm
      obtain ⟨A, hA⟩ : ∃ a, v * P.length = a := ⟨_, rfl⟩
      rw [hA] at e1 hsm hsV hpl2 hset
      rw [Nat.zero_add] at hsV
      obtain ⟨row, hrow⟩ : ∃ r, (L.drop A).take P.length = r := ⟨_, rfl⟩
      rw [hrow] at hsV hpl2 hset
      have hpl3 : row.length = B - A := by omega
      obtain ⟨NN, hNN⟩ : ∃ q, K.length * P.length = q := ⟨_, rfl⟩
      simp only [hNN] at hmul hNs ⊢
      have w1 : IntKind.i64.wrap ((v : Int) * (P.length : Int)) = (A : Int) := by rw [e1]; exact i64_small (by omega)
      have w2 : IntKind.i64.wrap (((v : Int) + 1) * (P.length : Int)) = (B : Int) := by rw [e2]; exact i64_small (by omega)
      have w4 : IntKind.i64.wrap ((v : Int) + 1) = (v : Int) + 1 := i64_small (by omega)
      have htlt := fun i h g e => (tb.lt (i := i) h (b := g) e).2
      have hwlt : w.heap.size < wr.heap.size := (tb.out.lt _ rfl).2
      have hclG := fun SA V' (h : SlS intE V' SA row) (hn : SA = none → NN - A = 0) => (nint_clone SA (NN - A) row V' h hn (by omega)).mono (R' := fun e w' => (∃ s' c', e = .returned (.slice s' row.length c') ∧ w'.ownsRow V'.heap.size 3 1 (.slice s' row.length c') row.length (intE.all row)) ∧ Below V'.heap.size V' w') (fun e w' ⟨s', c', he, ho, hb⟩ => ⟨⟨s', c', he, ho⟩, hb⟩)
      simp only [hpl3] at hclG
      have j1 : (A : Int) ≤ (B : Int) := by omega
      have j2 : (B : Int) ≤ (NN : Int) := by omega
      have j3 : A ≤ B := by omega
      have j4 : B ≤ NN := hmul
      have j5 : (0 : Int) ≤ (A : Int) := by omega
      obtain ⟨tb0, te, -, tf, ths, tc, tv⟩ := tb.head (i := v) (by rw [rowsK_len]; exact hlt)
      cases te
      have i1 : (0 : Int) ≤ (v : Int) := by omega
      have i2 : (v : Int) < (K.length : Int) := by omega
      have hb0 := hB.size
      replace e1 := Lib.hid e1; replace e2 := Lib.hid e2; replace hsm := Lib.hid hsm; replace hA := Lib.hid hA; replace hrow := Lib.hid hrow; replace hpl2 := Lib.hid hpl2; replace hpl3 := Lib.hid hpl3; replace hBe := Lib.hid hBe; replace hset := Lib.hid hset; replace hclG := Lib.hid hclG; replace htlt := Lib.hid htlt; replace tv := Lib.hid tv; replace hNN := Lib.hid hNN
      by_cases hNA : NN = A
      · have hrn : row = [] := List.length_eq_zero_iff.1 (by have := hpl3.out; omega)
        have hsc : SlS intE wr (some ⟨b, 0, none⟩) row := by rw [hrn]; exact SlS.nil
        have hcl := fun V' h => hclG.out (some ⟨b, 0, none⟩) V' h (by simp)
        have hpl5 : row.length = 0 := by rw [hrn]; rfl
        have hz1 : B - A = 0 := by have := hpl3.out; omega
        have hz2 : NN - A = 0 := by omega
        simp only [hz1, hz2] at hcl
        replace hcl := Lib.hid hcl; replace hpl5 := Lib.hid hpl5; replace hz1 := Lib.hid hz1; replace hz2 := Lib.hid hz2; replace hrn := Lib.hid hrn
        subst hNA
        clear hsV hclG
        go_upto_region 5 with (fail)
        go_region_held3 (fun V => V.cell? ⟨g, 3, none⟩ = some (.slice sp P.length cp)) ((first | (with_reducible exact ⟨n3'⟩) | ((try dsimp only); (repeat' apply And.intro) <;> (repeat (first | (with_reducible assumption) | (with_reducible refine cell_set (by simp; try omega) ?_) | (with_reducible refine cell_drew ?_) | (with_reducible refine cell_alloc ?_ _)))))) ((first | (go_at_call 107; refine calls_below (W0 := wr) ?_ fun hpre => ?_; (repeat (first | exact Below.refl _ _ | refine Below.alloc ?_ (by simp; try omega) _ | refine Below.drew ?_)); refine (hcl.out _ (up_of hpre hsc)).mono ?_; rintro e N1 ⟨⟨s9, c9, rfl, hown⟩, hb1⟩; have hb := Up.trans hpre hb1; clear hpre; (first | have hs_N1 := below_alloc_lt hb1 | have hs_N1 := below_alloc_lt (drewB hb1) | skip); (try replace n3' := up_of hb n3'); (try replace hsc := up_of hb hsc); (try replace hB := up_of hb hB); (try replace tb := up_of hb tb); (first | have nB := new_up hb1 | have nB := new_up (drewB hb1) | (try replace nB := up_of hb nB)); obtain ⟨_, te', _, tf', _, tc', _⟩ := tb.head (i := v) (by rw [rowsK_len]; exact hlt); cases te')))
        all_goals
          refine inb_world fun Y HY => ?_
          have hpl4 := hpl5.out
          rw [← hpl4] at hown
          have hwl := hwlt
          have hN1 := hb.size
          have tb2 := Tbl.puts tb (i := v) (by rw [rowsK_len]; exact hlt) (sx := s9) (cx := c9) (L := row) hown hwl (fun i h g e => htlt.out i h g e) (by exact hb0)
          rw [hset.out, hpl4] at tb2
          have tbY : Tbl intE 53 3 Y w.heap.size (.slice (some ⟨w.heap.size, 0, none⟩) K.length K.length) (ss.set v ⟨s9, 0, c9⟩) (rowsK P.length L K.length (v + 1)) := by rw [HY.out]; first | exact tb2 | exact tb2.up ((Below.refl _ _).drew)
          have hBY : Below w.heap.size w Y := by
            rw [HY.out]
            repeat (first | (with_reducible exact hB) | (with_reducible refine Below.drew ?_) | ((with_reducible refine Below.setC ?_ ?_); (focus (first | omega | (simp; done) | (simp; omega)))) | ((with_reducible refine Below.allo ?_ ?_); (focus (first | omega | (simp; done) | (simp; omega)))))
          clear HY tb tb2 hown hpl4 hB n3' hsc
          replace tbY := Lib.hid tbY
          go_wp2
          go_roundw
          case rel => exact ⟨v + 1, _, by omega, rfl, tbY.out, hBY⟩
          case measure => exact meas hlt

      · have hsc := hsV
        have hcl := Lib.hid (fun V' h => hclG.out (some ⟨b, A, none⟩) V' h (by simp))
        clear hsV hclG
        go_upto_region 5 with (fail)
        go_region_held3 (fun V => V.cell? ⟨g, 3, none⟩ = some (.slice sp P.length cp)) ((first | (with_reducible exact ⟨n3'⟩) | ((try dsimp only); (repeat' apply And.intro) <;> (repeat (first | (with_reducible assumption) | (with_reducible refine cell_set (by simp; try omega) ?_) | (with_reducible refine cell_drew ?_) | (with_reducible refine cell_alloc ?_ _)))))) ((first | (go_at_call 107; refine calls_below (W0 := wr) ?_ fun hpre => ?_; (repeat (first | exact Below.refl _ _ | refine Below.alloc ?_ (by simp; try omega) _ | refine Below.drew ?_)); refine (hcl.out _ (up_of hpre hsc)).mono ?_; rintro e N1 ⟨⟨s9, c9, rfl, hown⟩, hb1⟩; have hb := Up.trans hpre hb1; clear hpre; (first | have hs_N1 := below_alloc_lt hb1 | have hs_N1 := below_alloc_lt (drewB hb1) | skip); (try replace n3' := up_of hb n3'); (try replace hsc := up_of hb hsc); (try replace hB := up_of hb hB); (try replace tb := up_of hb tb); (first | have nB := new_up hb1 | have nB := new_up (drewB hb1) | (try replace nB := up_of hb nB)); obtain ⟨_, te', _, tf', _, tc', _⟩ := tb.head (i := v) (by rw [rowsK_len]; exact hlt); cases te')))
        all_goals
          refine inb_world fun Y HY => ?_
          have hpl4 := hpl3.out
          rw [← hpl4] at hown
          have hwl := hwlt
          have hN1 := hb.size
          have tb2 := Tbl.puts tb (i := v) (by rw [rowsK_len]; exact hlt) (sx := s9) (cx := c9) (L := row) hown hwl (fun i h g e => htlt.out i h g e) (by exact hb0)
          rw [hset.out, hpl4] at tb2
          have tbY : Tbl intE 53 3 Y w.heap.size (.slice (some ⟨w.heap.size, 0, none⟩) K.length K.length) (ss.set v ⟨s9, B - A, c9⟩) (rowsK P.length L K.length (v + 1)) := by rw [HY.out]; first | exact tb2 | exact tb2.up ((Below.refl _ _).drew)
          have hBY : Below w.heap.size w Y := by
            rw [HY.out]
            repeat (first | (with_reducible exact hB) | (with_reducible refine Below.drew ?_) | ((with_reducible refine Below.setC ?_ ?_); (focus (first | omega | (simp; done) | (simp; omega)))) | ((with_reducible refine Below.allo ?_ ?_); (focus (first | omega | (simp; done) | (simp; omega)))))
          clear HY tb tb2 hown hpl4 hB n3' hsc
          replace tbY := Lib.hid tbY
          go_wp2
          go_roundw
          case rel => exact ⟨v + 1, _, by omega, rfl, tbY.out, hBY⟩
          case measure => exact meas hlt

    · have hve : v = K.length := by omega
      subst hve
      rw [hend.out] at tb
      have hl2 := tb.len
      rw [rowsN_len] at hl2
      have hview := Tbl.view (ss := ss) (s := some ⟨w.heap.size, 0, none⟩) (cap := K.length) (by rw [hl2]; exact tb)
      replace hview := Lib.hid hview; replace hl2 := Lib.hid hl2
      clear tb
      go_wp2
      go_ret
      exact ⟨⟨_, _, rfl, hview.out⟩, hB⟩
end
end Go.Proofs.Ytadmnlkgefbhcaa
