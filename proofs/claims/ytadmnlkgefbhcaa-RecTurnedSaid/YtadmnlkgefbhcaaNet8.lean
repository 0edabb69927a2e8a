/- The levels as exported: the program. -/
import Derived.Test.YtadmnlkgefbhcaaNet7
namespace Go.Proofs.Ytadmnlkgefbhcaa
open Go.RowKit Go.Maps

theorem newNet_no (n : Int) (s : Option Addr) (cap : Nat) (l : List Iq) (s2 : Option Addr) (cq : Nat) (K : List Vv) (w : World) (hr : RecM w s l s2 cq K) (h : recB n l K = false) :
    Calls Try.prog 55 #[.agg #[.int .i64 n, .slice s l.length cap, .slice s2 K.length cq]] w fun e w' => e = .returned (.tuple #[.pointer none, .bool false]) ∧ Below w.heap.size w w' :=
  (newNet_c n s cap l s2 cq K w hr).mono fun e w' ⟨h1, h2⟩ => by rw [h] at h1; exact ⟨h1, h2⟩
theorem newNet_yes (n : Int) (s : Option Addr) (cap : Nat) (l : List Iq) (s2 : Option Addr) (cq : Nat) (K : List Vv) (w : World) (hr : RecM w s l s2 cq K) (h : recB n l K = true) :
    Calls Try.prog 55 #[.agg #[.int .i64 n, .slice s l.length cap, .slice s2 K.length cq]] w fun e w' => (∃ g sp cp mb, e = .returned (.tuple #[.pointer (some ⟨g, 0, none⟩), .bool true]) ∧ Net 106 w' g n s cap l s2 cq K sp cp mb (pts n l)) ∧ Below w.heap.size w w' :=
  (newNet_c n s cap l s2 cq K w hr).mono fun e w' ⟨h1, h2⟩ => by rw [h] at h1; exact ⟨h1, h2⟩
/-- What straight hands back, where there is no circle. -/
def StrOk (n : Int) (s : Option Addr) (cap : Nat) (l : List Iq) (s2 : Option Addr) (cq : Nat) (K : List Vv) (P : List Pt) (e : Ending) (w' : World) : Prop :=
  ∃ g sp cp mb so co, ∃ (out : List Nat) (wait : List Int), e = .returned (.tuple #[.pointer (some ⟨g, 0, none⟩), .slice so out.length co, .int .i64 0]) ∧ Net 106 w' g n s cap l s2 cq K sp cp mb P ∧ SlS intE w' so (toI out) ∧ Ordd (useN K P) (K.length * P.length) out wait ∧ out.length = K.length * P.length
set_option maxRecDepth 100000 in
set_option maxHeartbeats 1000000 in
theorem straight_bad (n : Int) (s : Option Addr) (cap : Nat) (l : List Iq) (s2 : Option Addr) (cq : Nat) (K : List Vv) (w : World) (hr : RecM w s l s2 cq K) (h : recB n l K = false) :
    Calls Try.prog 75 #[.agg #[.int .i64 n, .slice s l.length cap, .slice s2 K.length cq]] w fun e w' => e = .returned (.tuple #[.pointer none, .slice none 0 0, .int .i64 20]) ∧ Below w.heap.size w w' := by
  have hn := fun V (hr : RecM V s l s2 cq K) => newNet_no n s cap l s2 cq K V hr h
  replace hn := Lib.hid hn
  clear h
  go_enter Try.func75, Try.ntmps75
  go_upto_region 1 with (fail)
  refine wp_world fun W HW => ?_
  have hB : Below w.heap.size w W := by rw [HW.out]; (repeat (first | exact Below.refl _ _ | refine Below.alloc ?_ (by simp; try omega) _ | refine Below.setCell ?_ (by simp) _ | refine Below.drew ?_))
  have d0 : W.cell? ⟨w.heap.size, 0, none⟩ = some (.int .i64 n) := by rw [HW.out]; simp [go_sem]
  have d1 : W.cell? ⟨w.heap.size, 1, none⟩ = some (.slice s l.length cap) := by rw [HW.out]; simp [go_sem]
  have d2 : W.cell? ⟨w.heap.size, 2, none⟩ = some (.slice s2 K.length cq) := by rw [HW.out]; simp [go_sem]
  have dl : w.heap.size < W.heap.size := World.block_lt_of_cell? W _ d0
  try replace hr := up_of hB hr
  go_wp2_with (first | (go_at_call 55; refine (hn.out _ hr).mono ?_; rintro e W1 ⟨rfl, hb⟩; (try replace hr := up_of hb hr); (try replace hB := up_of hb hB); (try replace d0 := up_of hb d0); (try replace d1 := up_of hb d1); (try replace d2 := up_of hb d2); (try replace dl := up_of hb dl)))
  refine bodyPost_ret (results_tmp3 rfl _ _ _) rfl ?_
  exact ⟨rfl, hB⟩
set_option maxRecDepth 100000 in
set_option maxHeartbeats 1000000 in
theorem straight_c (n : Int) (s : Option Addr) (cap : Nat) (l : List Iq) (s2 : Option Addr) (cq : Nat) (K : List Vv) (w : World) (hr : RecM w s l s2 cq K) (h : recB n l K = true) :
    Calls Try.prog 75 #[.agg #[.int .i64 n, .slice s l.length cap, .slice s2 K.length cq]] w fun e w' => ((okN2 K (pts n l) ∧ StrOk n s cap l s2 cq K (pts n l) e w') ∨ (¬ okN2 K (pts n l) ∧ e = .returned (.tuple #[.pointer none, .slice none 0 0, .int .i64 21]))) ∧ Below w.heap.size w w' := by
  have hn := fun V (hr : RecM V s l s2 cq K) => newNet_yes n s cap l s2 cq K V hr h
  have ok := netOk h
  obtain ⟨P, hP⟩ : ∃ P, pts n l = P := ⟨_, rfl⟩
  simp only [hP] at hn ok ⊢
  clear hP
  have ho := fun g sp cp mb V (h : Net 106 V g n s cap l s2 cq K sp cp mb P) => order_c V h ok
  have hz := fun g sp cp mb V (h : Net 106 V g n s cap l s2 cq K sp cp mb P) => size_c V h ok
  have hiff := fun out wait (h : Ordd (useN K P) (K.length * P.length) out wait) => h.iff (fun k _ => ok.use_lt k)
  have hle := fun out wait (h : Ordd (useN K P) (K.length * P.length) out wait) => h.le
  have hNs := ok.size
  replace hn := Lib.hid hn; replace ho := Lib.hid ho; replace hz := Lib.hid hz; replace hiff := Lib.hid hiff; replace hle := Lib.hid hle
  clear h
  go_enter Try.func75, Try.ntmps75
  go_upto_region 1 with (fail)
  refine wp_world fun W HW => ?_
  have hB : Below w.heap.size w W := by rw [HW.out]; (repeat (first | exact Below.refl _ _ | refine Below.alloc ?_ (by simp; try omega) _ | refine Below.setCell ?_ (by simp) _ | refine Below.drew ?_))
  have d0 : W.cell? ⟨w.heap.size, 0, none⟩ = some (.int .i64 n) := by rw [HW.out]; simp [go_sem]
  have d1 : W.cell? ⟨w.heap.size, 1, none⟩ = some (.slice s l.length cap) := by rw [HW.out]; simp [go_sem]
  have d2 : W.cell? ⟨w.heap.size, 2, none⟩ = some (.slice s2 K.length cq) := by rw [HW.out]; simp [go_sem]
  have dl : w.heap.size < W.heap.size := World.block_lt_of_cell? W _ d0
  try replace hr := up_of hB hr
  go_upto_region 2 with (first | (go_at_call 55; refine (hn.out _ hr).mono ?_; rintro e W1 ⟨⟨g, sp, cp, mb, rfl, hnt⟩, hb⟩; (try replace hr := up_of hb hr); (try replace hB := up_of hb hB); (try replace d0 := up_of hb d0); (try replace d1 := up_of hb d1); (try replace d2 := up_of hb d2); (try replace dl := up_of hb dl)))
  go_upto_region 5 with (first | (go_at_call 57; refine (ho.out _ _ _ _ _ hnt).mono ?_; rintro e W2 ⟨out, wait, so, co, sw, cw, rfl, hso, hsw, hod, hb⟩; (try replace hr := up_of hb hr); (try replace hB := up_of hb hB); (try replace d0 := up_of hb d0); (try replace d1 := up_of hb d1); (try replace d2 := up_of hb d2); (try replace dl := up_of hb dl); (try replace hnt := up_of hb hnt)))
  have hd := hiff.out out wait hod
  have hl2 := hle.out out wait hod
  replace hd := Lib.hid hd; replace hod := Lib.hid hod
  by_cases hlt : out.length < K.length * P.length
  · have hno : ¬ okN2 K P := fun hk => (hd.out.1 hlt) hk
    have k1 : ((out.length : Nat) : Int) < ((K.length * P.length : Nat) : Int) := by omega
    obtain ⟨NN, hNN⟩ : ∃ q, K.length * P.length = q := ⟨_, rfl⟩
    simp only [hNN] at hz k1
    replace hNN := Lib.hid hNN
    clear hd hod hlt hl2
    go_wp2_with (first | (go_at_call 58; refine (hz.out _ _ _ _ _ hnt).mono ?_; rintro e W1 ⟨rfl, hb⟩; (try replace hr := up_of hb hr); (try replace hB := up_of hb hB); (try replace d0 := up_of hb d0); (try replace d1 := up_of hb d1); (try replace d2 := up_of hb d2); (try replace dl := up_of hb dl); (try replace hnt := up_of hb hnt); (try replace hso := up_of hb hso)))
    refine bodyPost_ret (results_tmp3 rfl _ _ _) rfl ?_
    exact ⟨.inr ⟨hno, rfl⟩, hB⟩
  · have hyes : okN2 K P := by
      refine Classical.byContradiction fun hk => hlt (hd.out.2 hk)
    have hfull : out.length = K.length * P.length := by omega
    have k1 : ¬ ((out.length : Nat) : Int) < ((K.length * P.length : Nat) : Int) := by omega
    obtain ⟨NN, hNN⟩ : ∃ q, K.length * P.length = q := ⟨_, rfl⟩
    simp only [hNN] at hz k1
    replace hNN := Lib.hid hNN; replace hfull := Lib.hid hfull
    clear hd hlt hl2
    go_wp2_with (first | (go_at_call 58; refine (hz.out _ _ _ _ _ hnt).mono ?_; rintro e W1 ⟨rfl, hb⟩; (try replace hr := up_of hb hr); (try replace hB := up_of hb hB); (try replace d0 := up_of hb d0); (try replace d1 := up_of hb d1); (try replace d2 := up_of hb d2); (try replace dl := up_of hb dl); (try replace hnt := up_of hb hnt); (try replace hso := up_of hb hso)))
    refine bodyPost_ret (results_tmp3 rfl _ _ _) rfl ?_
    exact ⟨.inl ⟨hyes, g, sp, cp, mb, so, co, out, wait, rfl, hnt, hso, hod.out, hfull.out⟩, hB⟩
/-- What Levels hands back: an error, or the levels. -/
def LvRet (n : Int) (l : List Iq) (K : List Vv) (e : Ending) (w' : World) : Prop :=
  (recB n l K = false ∧ e = .returned (.tuple #[.slice none 0 0, .int .i64 20])) ∨ (recB n l K = true ∧ ¬ okN2 K (pts n l) ∧ e = .returned (.tuple #[.slice none 0 0, .int .i64 21])) ∨
  (recB n l K = true ∧ okN2 K (pts n l) ∧ ∃ s' c', e = .returned (.tuple #[.slice s' K.length c', .int .i64 0]) ∧ SlSS intE w' s' (rowsN (pts n l).length (lvsL K (pts n l)) K.length))
set_option maxRecDepth 100000 in
set_option maxHeartbeats 1000000 in
theorem Levels_c (n : Int) (s : Option Addr) (cap : Nat) (l : List Iq) (s2 : Option Addr) (cq : Nat) (K : List Vv) (w : World) (hr : RecM w s l s2 cq K) :
    Calls Try.prog 27 #[.agg #[.int .i64 n, .slice s l.length cap, .slice s2 K.length cq]] w fun e w' => LvRet n l K e w' ∧ Below w.heap.size w w' := by
  cases hb : recB n l K
  · have hst := fun V (hr : RecM V s l s2 cq K) => straight_bad n s cap l s2 cq K V hr hb
    have hend : ∀ w' : World, LvRet n l K (.returned (.tuple #[.slice none 0 0, .int .i64 20])) w' := fun w' => .inl ⟨hb, rfl⟩
    obtain ⟨R, hR⟩ : ∃ R, LvRet n l K = R := ⟨_, rfl⟩
    simp only [hR] at hend ⊢
    replace hst := Lib.hid hst; replace hend := Lib.hid hend
    clear hb hR
    go_enter Try.func27, Try.ntmps27
    go_upto_region 1 with (fail)
    refine wp_world fun W HW => ?_
    have hB : Below w.heap.size w W := by rw [HW.out]; (repeat (first | exact Below.refl _ _ | refine Below.alloc ?_ (by simp; try omega) _ | refine Below.setCell ?_ (by simp) _ | refine Below.drew ?_))
    have d0 : W.cell? ⟨w.heap.size, 0, none⟩ = some (.int .i64 n) := by rw [HW.out]; simp [go_sem]
    have d1 : W.cell? ⟨w.heap.size, 1, none⟩ = some (.slice s l.length cap) := by rw [HW.out]; simp [go_sem]
    have d2 : W.cell? ⟨w.heap.size, 2, none⟩ = some (.slice s2 K.length cq) := by rw [HW.out]; simp [go_sem]
    have dl : w.heap.size < W.heap.size := World.block_lt_of_cell? W _ d0
    try replace hr := up_of hB hr
    go_wp2_with (first | (go_at_call 75; refine (hst.out _ hr).mono ?_; rintro e W1 ⟨rfl, hb⟩; (try replace hr := up_of hb hr); (try replace hB := up_of hb hB); (try replace d0 := up_of hb d0); (try replace d1 := up_of hb d1); (try replace d2 := up_of hb d2); (try replace dl := up_of hb dl)))
    go_ret2
    exact ⟨hend.out _, hB⟩
  · have hst := fun V (hr : RecM V s l s2 cq K) => straight_c n s cap l s2 cq K V hr hb
    have ok := netOk hb
    have hend1 : ∀ w' : World, ¬ okN2 K (pts n l) → LvRet n l K (.returned (.tuple #[.slice none 0 0, .int .i64 21])) w' := fun w' h => .inr (.inl ⟨hb, h, rfl⟩)
    have hend2 : ∀ (w' : World) s' c', okN2 K (pts n l) → SlSS intE w' s' (rowsN (pts n l).length (lvsL K (pts n l)) K.length) → LvRet n l K (.returned (.tuple #[.slice s' K.length c', .int .i64 0])) w' := fun w' s' c' h hs => .inr (.inr ⟨hb, h, s', c', rfl, hs⟩)
    obtain ⟨R, hR⟩ : ∃ R, LvRet n l K = R := ⟨_, rfl⟩
    simp only [hR] at hend1 hend2 ⊢
    obtain ⟨P, hP⟩ : ∃ P, pts n l = P := ⟨_, rfl⟩
    simp only [hP] at hst ok hend1 hend2
    clear hP hb hR
    have hlv := fun g sp cp mb so co out wait V (h : Net 106 V g n s cap l s2 cq K sp cp mb P) (h2 : SlS intE V so (toI out)) (h3 : Ordd (useN K P) (K.length * P.length) out wait) (h4 : out.length = K.length * P.length) => (by have := nlevels_c so co out wait V h ok h2 h3 h4; rw [h4] at this; exact this : Calls Try.prog 77 #[.pointer (some ⟨g, 0, none⟩), .slice so (K.length * P.length) co] V fun e w' => (∃ b, e = .returned (.slice (some ⟨b, 0, none⟩) (K.length * P.length) (K.length * P.length)) ∧ SlS intE w' (some ⟨b, 0, none⟩) (lvsL K P)) ∧ Below V.heap.size V w')
    have hcu := fun g sp cp mb b V (h : Net 106 V g n s cap l s2 cq K sp cp mb P) (h2 : SlS intE V (some ⟨b, 0, none⟩) (lvsL K P)) => cut_c b (lvsL K P) V h ok h2 (lvsL_len K P)
    obtain ⟨LL, hLL⟩ : ∃ x, lvsL K P = x := ⟨_, rfl⟩
    simp only [hLL] at hlv hcu hend2
    clear hLL
    obtain ⟨RR, hRR⟩ : ∃ x, rowsN P.length LL K.length = x := ⟨_, rfl⟩
    simp only [hRR] at hcu hend2
    clear hRR
    replace hst := Lib.hid hst; replace hlv := Lib.hid hlv; replace hcu := Lib.hid hcu; replace hend1 := Lib.hid hend1; replace hend2 := Lib.hid hend2
    go_enter Try.func27, Try.ntmps27
    go_upto_region 1 with (fail)
    refine wp_world fun W HW => ?_
    have hB : Below w.heap.size w W := by rw [HW.out]; (repeat (first | exact Below.refl _ _ | refine Below.alloc ?_ (by simp; try omega) _ | refine Below.setCell ?_ (by simp) _ | refine Below.drew ?_))
    have d0 : W.cell? ⟨w.heap.size, 0, none⟩ = some (.int .i64 n) := by rw [HW.out]; simp [go_sem]
    have d1 : W.cell? ⟨w.heap.size, 1, none⟩ = some (.slice s l.length cap) := by rw [HW.out]; simp [go_sem]
    have d2 : W.cell? ⟨w.heap.size, 2, none⟩ = some (.slice s2 K.length cq) := by rw [HW.out]; simp [go_sem]
    have dl : w.heap.size < W.heap.size := World.block_lt_of_cell? W _ d0
    try replace hr := up_of hB hr
    go_upto_region 2 with (first | (go_at_call 75; refine (hst.out _ hr).mono ?_; rintro e W1 ⟨h1, hb⟩; replace hB := up_of hb hB; replace hr := up_of hb hr; rcases h1 with ⟨hyes, g, sp, cp, mb, so, co, out, wait, rfl, hnt, hso, hod, hfull⟩ | ⟨hno, rfl⟩))
    · replace hod := Lib.hid hod; replace hfull := Lib.hid hfull; replace hyes := Lib.hid hyes
      clear hr d0 d1 d2 dl hend1
      go_wp2_with (first | (go_at_call 77; refine (hlv.out _ _ _ _ _ _ _ _ _ hnt hso hod.out hfull.out).mono ?_; rintro e W2 ⟨⟨b, rfl, hsl⟩, hb⟩; (try replace hB := up_of hb hB); (try replace hnt := up_of hb hnt)) | (go_at_call 76; refine (hcu.out _ _ _ _ _ _ hnt hsl).mono ?_; rintro e W1 ⟨⟨s', c', rfl, hss⟩, hb⟩; (try replace hB := up_of hb hB); (try replace hnt := up_of hb hnt)))
      go_ret2
      exact ⟨hend2.out _ _ _ hyes.out hss, hB⟩
    · replace hno := Lib.hid hno
      clear hend2
      go_wp2
      go_ret2
      exact ⟨hend1.out _ hno.out, hB⟩
end Go.Proofs.Ytadmnlkgefbhcaa
