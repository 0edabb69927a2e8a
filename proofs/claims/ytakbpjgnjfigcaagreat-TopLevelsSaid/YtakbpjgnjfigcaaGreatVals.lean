/- The values as exported: the program and the reference. -/
import Derived.Test.YtakbpjgnjfigcaaGreatC4
import Derived.Test.YtakbpjgnjfigcaaGreatVal4
import Derived.Test.YtakbpjgnjfigcaaGreatRLv2
namespace Go.Proofs.YtakbpjgnjfigcaaGreat
open Go.RowKit Go.Maps

/-- What Values hands back: an error, or the values. -/
def VsRet (n : Int) (l : List Iq) (K : List Vv) (e : Ending) (w' : World) : Prop :=
  (recB n l K = false ∧ e = .returned (.tuple #[.slice none 0 0, .int .i64 20])) ∨ (recB n l K = true ∧ ¬ okN2 K (pts n l) ∧ e = .returned (.tuple #[.slice none 0 0, .int .i64 21])) ∨
  (recB n l K = true ∧ okN2 K (pts n l) ∧ ∃ s' c', e = .returned (.tuple #[.slice s' K.length c', .int .i64 0]) ∧ SlSS intE w' s' (rowsN (pts n l).length (vlsL K (pts n l)) K.length))
set_option maxRecDepth 100000 in
set_option maxHeartbeats 1000000 in
theorem Values_c (n : Int) (s : Option Addr) (cap : Nat) (l : List Iq) (s2 : Option Addr) (cq : Nat) (K : List Vv) (w : World) (hr : RecM w s l s2 cq K) :
    Calls Tryz.prog 12 #[.agg #[.int .i64 n, .slice s l.length cap, .slice s2 K.length cq]] w fun e w' => VsRet n l K e w' ∧ Below w.heap.size w w' := by
  cases hb : recB n l K
  · have hst := fun V (hr : RecM V s l s2 cq K) => straight_bad n s cap l s2 cq K V hr hb
    have hend : ∀ w' : World, VsRet n l K (.returned (.tuple #[.slice none 0 0, .int .i64 20])) w' := fun w' => .inl ⟨hb, rfl⟩
    obtain ⟨R, hR⟩ : ∃ R, VsRet n l K = R := ⟨_, rfl⟩
    simp only [hR] at hend ⊢
    replace hst := Lib.hid hst; replace hend := Lib.hid hend
    clear hb hR
    go_enter Tryz.func12, Tryz.ntmps12
    go_upto_region 1 with (fail)
    refine wp_world fun W HW => ?_
    have hB : Below w.heap.size w W := by rw [HW.out]; (repeat (first | exact Below.refl _ _ | refine Below.alloc ?_ (by simp; try omega) _ | refine Below.setCell ?_ (by simp) _ | refine Below.drew ?_))
    have d0 : W.cell? ⟨w.heap.size, 0, none⟩ = some (.int .i64 n) := by rw [HW.out]; simp [go_sem]
    have d1 : W.cell? ⟨w.heap.size, 1, none⟩ = some (.slice s l.length cap) := by rw [HW.out]; simp [go_sem]
    have d2 : W.cell? ⟨w.heap.size, 2, none⟩ = some (.slice s2 K.length cq) := by rw [HW.out]; simp [go_sem]
    have dl : w.heap.size < W.heap.size := World.block_lt_of_cell? W _ d0
    try replace hr := up_of hB hr
    go_wp2_with (first | (go_at_call 44; refine (hst.out _ hr).mono ?_; rintro e W1 ⟨rfl, hb⟩; (try replace hr := up_of hb hr); (try replace hB := up_of hb hB); (try replace d0 := up_of hb d0); (try replace d1 := up_of hb d1); (try replace d2 := up_of hb d2); (try replace dl := up_of hb dl)))
    go_ret2
    exact ⟨hend.out _, hB⟩
  · have hst := fun V (hr : RecM V s l s2 cq K) => straight_c n s cap l s2 cq K V hr hb
    have ok := netOk hb
    have hend1 : ∀ w' : World, ¬ okN2 K (pts n l) → VsRet n l K (.returned (.tuple #[.slice none 0 0, .int .i64 21])) w' := fun w' h => .inr (.inl ⟨hb, h, rfl⟩)
    have hend2 : ∀ (w' : World) s' c', okN2 K (pts n l) → SlSS intE w' s' (rowsN (pts n l).length (vlsL K (pts n l)) K.length) → VsRet n l K (.returned (.tuple #[.slice s' K.length c', .int .i64 0])) w' := fun w' s' c' h hs => .inr (.inr ⟨hb, h, s', c', rfl, hs⟩)
    obtain ⟨R, hR⟩ : ∃ R, VsRet n l K = R := ⟨_, rfl⟩
    simp only [hR] at hend1 hend2 ⊢
    obtain ⟨P, hP⟩ : ∃ P, pts n l = P := ⟨_, rfl⟩
    simp only [hP] at hst ok hend1 hend2
    clear hP hb hR
    have hlv := fun g sp cp mb so co out wait V (h : Net 126 V g n s cap l s2 cq K sp cp mb P) (h2 : SlS intE V so (toI out)) (h3 : Ordd (useN K P) (K.length * P.length) out wait) (h4 : out.length = K.length * P.length) => (by have := nvalues_c so co out wait V h ok h2 h3 h4; rw [h4] at this; exact this : Calls Tryz.prog 46 #[.pointer (some ⟨g, 0, none⟩), .slice so (K.length * P.length) co] V fun e w' => (∃ b, e = .returned (.slice (some ⟨b, 0, none⟩) (K.length * P.length) (K.length * P.length)) ∧ SlS intE w' (some ⟨b, 0, none⟩) (vlsL K P)) ∧ Below V.heap.size V w')
    have hcu := fun g sp cp mb b V (h : Net 126 V g n s cap l s2 cq K sp cp mb P) (h2 : SlS intE V (some ⟨b, 0, none⟩) (vlsL K P)) => cut_c b (vlsL K P) V h ok h2 (vlsL_len K P)
    obtain ⟨LL, hLL⟩ : ∃ x, vlsL K P = x := ⟨_, rfl⟩
    simp only [hLL] at hlv hcu hend2
    clear hLL
    obtain ⟨RR, hRR⟩ : ∃ x, rowsN P.length LL K.length = x := ⟨_, rfl⟩
    simp only [hRR] at hcu hend2
    clear hRR
    replace hst := Lib.hid hst; replace hlv := Lib.hid hlv; replace hcu := Lib.hid hcu; replace hend1 := Lib.hid hend1; replace hend2 := Lib.hid hend2
    go_enter Tryz.func12, Tryz.ntmps12
    go_upto_region 1 with (fail)
    refine wp_world fun W HW => ?_
    have hB : Below w.heap.size w W := by rw [HW.out]; (repeat (first | exact Below.refl _ _ | refine Below.alloc ?_ (by simp; try omega) _ | refine Below.setCell ?_ (by simp) _ | refine Below.drew ?_))
    have d0 : W.cell? ⟨w.heap.size, 0, none⟩ = some (.int .i64 n) := by rw [HW.out]; simp [go_sem]
    have d1 : W.cell? ⟨w.heap.size, 1, none⟩ = some (.slice s l.length cap) := by rw [HW.out]; simp [go_sem]
    have d2 : W.cell? ⟨w.heap.size, 2, none⟩ = some (.slice s2 K.length cq) := by rw [HW.out]; simp [go_sem]
    have dl : w.heap.size < W.heap.size := World.block_lt_of_cell? W _ d0
    try replace hr := up_of hB hr
    go_upto_region 2 with (first | (go_at_call 44; refine (hst.out _ hr).mono ?_; rintro e W1 ⟨h1, hb⟩; replace hB := up_of hb hB; replace hr := up_of hb hr; rcases h1 with ⟨hyes, g, sp, cp, mb, so, co, out, wait, rfl, hnt, hso, hod, hfull⟩ | ⟨hno, rfl⟩))
    · replace hod := Lib.hid hod; replace hfull := Lib.hid hfull; replace hyes := Lib.hid hyes
      clear hr d0 d1 d2 dl hend1
      go_wp2_with (first | (go_at_call 46; refine (hlv.out _ _ _ _ _ _ _ _ _ hnt hso hod.out hfull.out).mono ?_; rintro e W2 ⟨⟨b, rfl, hsl⟩, hb⟩; (try replace hB := up_of hb hB); (try replace hnt := up_of hb hnt)) | (go_at_call 45; refine (hcu.out _ _ _ _ _ _ hnt hsl).mono ?_; rintro e W1 ⟨⟨s', c', rfl, hss⟩, hb⟩; (try replace hB := up_of hb hB); (try replace hnt := up_of hb hnt)))
      go_ret2
      exact ⟨hend2.out _ _ _ hyes.out hss, hB⟩
    · replace hno := Lib.hid hno
      clear hend2
      go_wp2
      go_ret2
      exact ⟨hend1.out _ hno.out, hB⟩
end Go.Proofs.YtakbpjgnjfigcaaGreat
