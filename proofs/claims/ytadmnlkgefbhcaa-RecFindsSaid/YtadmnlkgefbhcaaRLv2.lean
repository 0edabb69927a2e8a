/- The levels as exported: the reference. -/
import Derived.Test.YtadmnlkgefbhcaaRBy
import Derived.Test.YtadmnlkgefbhcaaRef2
import Derived.Test.YtadmnlkgefbhcaaB12
namespace Go.Proofs.Ytadmnlkgefbhcaa
open Go.RowKit Go.Maps

theorem RecM.valid2 {w : World} {s : Option Addr} {l : List Iq} {s2 : Option Addr} {cq : Nat} {K : List Vv} (c : RecM w s l s2 cq K) (n : Int) (cap : Nat) :
    Calls Try.prog 31 #[.agg #[.int .i64 n, .slice s l.length cap, .slice s2 K.length cq]] w fun e w' => e = .returned (.bool (recB n l K)) ∧ Below w.heap.size w w' := Valid2_c n s cap l s2 cq K w c.dom c.vars c.len
set_option maxRecDepth 100000 in
set_option maxHeartbeats 1000000 in
theorem rLevels_c (n : Int) (s : Option Addr) (cap : Nat) (l : List Iq) (s2 : Option Addr) (cq : Nat) (K : List Vv) (w : World) (hr : RecM w s l s2 cq K) :
    Calls Try.prog 28 #[.agg #[.int .i64 n, .slice s l.length cap, .slice s2 K.length cq]] w fun e w' => LvRet n l K e w' ∧ Below w.heap.size w w' := by
  have hv := fun V (h : RecM V s l s2 cq K) => h.valid2 n cap
  cases hb : recB n l K
  · have hend : ∀ w' : World, LvRet n l K (.returned (.tuple #[.slice none 0 0, .int .i64 20])) w' := fun w' => .inl ⟨hb, rfl⟩
    obtain ⟨R, hR⟩ : ∃ R, LvRet n l K = R := ⟨_, rfl⟩
    simp only [hR] at hend ⊢
    rw [hb] at hv
    replace hv := Lib.hid hv; replace hend := Lib.hid hend
    clear hb hR
    go_enter Try.func28, Try.ntmps28
    go_upto_region 1 with (fail)
    refine wp_world fun W HW => ?_
    have hB : Below w.heap.size w W := by rw [HW.out]; (repeat (first | exact Below.refl _ _ | refine Below.alloc ?_ (by simp; try omega) _ | refine Below.setCell ?_ (by simp) _ | refine Below.drew ?_))
    have d0 : W.cell? ⟨w.heap.size, 0, none⟩ = some (.int .i64 n) := by rw [HW.out]; simp [go_sem]
    have d1 : W.cell? ⟨w.heap.size, 1, none⟩ = some (.slice s l.length cap) := by rw [HW.out]; simp [go_sem]
    have d2 : W.cell? ⟨w.heap.size, 2, none⟩ = some (.slice s2 K.length cq) := by rw [HW.out]; simp [go_sem]
    have dl : w.heap.size < W.heap.size := World.block_lt_of_cell? W _ d0
    try replace hr := up_of hB hr
    go_wp2_with (first | (go_at_call 31; refine (hv.out _ hr).mono ?_; rintro e W1 ⟨rfl, hb⟩; (try replace hr := up_of hb hr); (try replace hB := up_of hb hB); (try replace d0 := up_of hb d0); (try replace d1 := up_of hb d1); (try replace d2 := up_of hb d2); (try replace dl := up_of hb dl)))
    go_ret2
    exact ⟨hend.out _, hB⟩
  · rw [hb] at hv
    have ok := netOk hb
    have hend1 : ∀ w' : World, ¬ okN2 K (pts n l) → LvRet n l K (.returned (.tuple #[.slice none 0 0, .int .i64 21])) w' := fun w' h => .inr (.inl ⟨hb, h, rfl⟩)
    have hend2 : ∀ (w' : World) s' c', okN2 K (pts n l) → SlSS intE w' s' (rowsN (pts n l).length (lvsL K (pts n l)) K.length) → LvRet n l K (.returned (.tuple #[.slice s' K.length c', .int .i64 0])) w' := fun w' s' c' h hs => .inr (.inr ⟨hb, h, s', c', rfl, hs⟩)
    have hof := fun V (h : RecM V s l s2 cq K) => Of_c n s cap l s2 cq K V h ok.dim ok
    obtain ⟨R, hR⟩ : ∃ R, LvRet n l K = R := ⟨_, rfl⟩
    simp only [hR] at hend1 hend2 ⊢
    obtain ⟨P, hP⟩ : ∃ P, pts n l = P := ⟨_, rfl⟩
    simp only [hP] at hof ok hend1 hend2
    clear hP hb hR
    have hlv := fun g sp cp mb V (h : Net 64 V g n s cap l s2 cq K sp cp mb P) => rlevels_c V h ok
    have hby := fun g sp cp mb b V (h : Net 64 V g n s cap l s2 cq K sp cp mb P) (h2 : SlS intE V (some ⟨b, 0, none⟩) (lvsL K P)) => by_c b (lvsL K P) V h ok h2 (lvsL_len K P)
    obtain ⟨LL, hLL⟩ : ∃ x, lvsL K P = x := ⟨_, rfl⟩
    simp only [hLL] at hlv hby hend2
    clear hLL
    obtain ⟨RR, hRR⟩ : ∃ x, rowsN P.length LL K.length = x := ⟨_, rfl⟩
    simp only [hRR] at hby hend2
    clear hRR
    replace hv := Lib.hid hv; replace hof := Lib.hid hof; replace hlv := Lib.hid hlv; replace hby := Lib.hid hby; replace hend1 := Lib.hid hend1; replace hend2 := Lib.hid hend2; replace ok := Lib.hid ok
    go_enter Try.func28, Try.ntmps28
    go_upto_region 1 with (fail)
    refine wp_world fun W HW => ?_
    have hB : Below w.heap.size w W := by rw [HW.out]; (repeat (first | exact Below.refl _ _ | refine Below.alloc ?_ (by simp; try omega) _ | refine Below.setCell ?_ (by simp) _ | refine Below.drew ?_))
    have d0 : W.cell? ⟨w.heap.size, 0, none⟩ = some (.int .i64 n) := by rw [HW.out]; simp [go_sem]
    have d1 : W.cell? ⟨w.heap.size, 1, none⟩ = some (.slice s l.length cap) := by rw [HW.out]; simp [go_sem]
    have d2 : W.cell? ⟨w.heap.size, 2, none⟩ = some (.slice s2 K.length cq) := by rw [HW.out]; simp [go_sem]
    have dl : w.heap.size < W.heap.size := World.block_lt_of_cell? W _ d0
    try replace hr := up_of hB hr
    go_upto_region 4 with (first | (go_at_call 31; refine (hv.out _ hr).mono ?_; rintro e W1 ⟨rfl, hb⟩; (try replace hr := up_of hb hr); (try replace hB := up_of hb hB); (try replace d0 := up_of hb d0); (try replace d1 := up_of hb d1); (try replace d2 := up_of hb d2); (try replace dl := up_of hb dl)) | (go_at_call 34; refine (hof.out _ hr).mono ?_; rintro e W2 ⟨⟨g, sp, cp, mb, rfl, hnt⟩, hb⟩; (try replace hr := up_of hb hr); (try replace hB := up_of hb hB); (try replace d0 := up_of hb d0); (try replace d1 := up_of hb d1); (try replace d2 := up_of hb d2); (try replace dl := up_of hb dl)))
    go_upto_region 5 with (first | (go_at_call 60; refine (hlv.out _ _ _ _ _ hnt).mono ?_; rintro e W3 ⟨h1, hb⟩; replace hB := up_of hb hB; replace hnt := up_of hb hnt; rcases h1 with ⟨hyes, b, rfl, hsl⟩ | ⟨hno, rfl⟩))
    · replace hyes := Lib.hid hyes
      clear hr d0 d1 d2 dl hend1
      go_wp2_with (first | (go_at_call 78; refine (hby.out _ _ _ _ _ _ hnt hsl).mono ?_; rintro e W4 ⟨⟨s', c', rfl, hss⟩, hb⟩; (try replace hB := up_of hb hB); (try replace hnt := up_of hb hnt)))
      go_ret2
      exact ⟨hend2.out _ _ _ hyes.out hss, hB⟩
    · replace hno := Lib.hid hno
      clear hend2
      go_wp2
      go_ret2
      exact ⟨hend1.out _ hno.out, hB⟩
end Go.Proofs.Ytadmnlkgefbhcaa
