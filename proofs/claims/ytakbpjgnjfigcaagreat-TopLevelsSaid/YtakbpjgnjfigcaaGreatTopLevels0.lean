/- TopLevels: the walk. -/
import Derived.Test.YtakbpjgnjfigcaaGreatTopLaw
import Derived.Test.YtakbpjgnjfigcaaGreatFndChn
import Derived.Test.YtakbpjgnjfigcaaGreatRCirc
import Derived.Test.YtakbpjgnjfigcaaGreatCircular
import Derived.Test.YtakbpjgnjfigcaaGreatRecWide
import Derived.Test.YtakbpjgnjfigcaaGreatRecFirs
import Derived.Test.YtakbpjgnjfigcaaGreatVals
import Derived.Test.YtakbpjgnjfigcaaGreatSchLat
import Derived.Test.YtakbpjgnjfigcaaGreatSchBnd
import Derived.Test.YtakbpjgnjfigcaaGreatSch16
namespace Go.Proofs.YtakbpjgnjfigcaaGreat
open Go.RowKit Go.Maps

set_option maxRecDepth 100000 in
theorem Wide4_c (n : Int) (s : Option Addr) (cap : Nat) (l : List Iq) (s2 : Option Addr) (cq : Nat) (K : List Vv) (q : Sd) (w : World) (hr : RecM w s l s2 cq K) :
    Calls Tryz.prog 5 #[.agg #[.int .i64 n, .slice s l.length cap, .slice s2 K.length cq], .agg #[.int .i64 q.f.x, .int .i64 q.f.y, .int .i64 q.f.z, .slice q.s q.off.length q.cap]] w fun e w' => (∃ b : Bool, e = .returned (.bool b)) ∧ Below w.heap.size w w' := by
  have hwd := fun V (h : RecM V s l s2 cq K) => Wide2_c n s cap l s2 cq K 120 V h
  replace hwd := Lib.hid hwd
  go_enter Tryz.func5, Tryz.ntmps5
  go_upto_region 1 with (fail)
  refine wp_world fun W HW => ?_
  have hB : Below w.heap.size w W := by rw [HW.out]; (repeat (first | exact Below.refl _ _ | refine Below.alloc ?_ (by simp; try omega) _ | refine Below.setCell ?_ (by simp) _ | refine Below.drew ?_))
  have d0 : W.cell? ⟨w.heap.size, 0, none⟩ = some (.int .i64 n) := by rw [HW.out]; simp [go_sem]
  have d1 : W.cell? ⟨w.heap.size, 1, none⟩ = some (.slice s l.length cap) := by rw [HW.out]; simp [go_sem]
  have d2 : W.cell? ⟨w.heap.size, 2, none⟩ = some (.slice s2 K.length cq) := by rw [HW.out]; simp [go_sem]
  have dl : w.heap.size < W.heap.size := World.block_lt_of_cell? W _ d0
  have g0 : W.cell? ⟨w.heap.size + 1, 0, none⟩ = some (.int .i64 q.f.x) := by rw [HW.out]; simp [go_sem]
  have g1 : W.cell? ⟨w.heap.size + 1, 1, none⟩ = some (.int .i64 q.f.y) := by rw [HW.out]; simp [go_sem]
  have g2 : W.cell? ⟨w.heap.size + 1, 2, none⟩ = some (.int .i64 q.f.z) := by rw [HW.out]; simp [go_sem]
  have g3 : W.cell? ⟨w.heap.size + 1, 3, none⟩ = some (.slice q.s q.off.length q.cap) := by rw [HW.out]; simp [go_sem]
  have gl : w.heap.size + 1 < W.heap.size := World.block_lt_of_cell? W _ g0
  try replace hr := up_of hB hr
  go_wp2_with (first | (go_at_call 26; refine (hwd.out _ hr).mono ?_; rintro e W1 ⟨⟨b, rfl⟩, hb⟩; replace hB := up_of hb hB; replace g0 := up_of hb g0; replace g1 := up_of hb g1; replace g2 := up_of hb g2; replace g3 := up_of hb g3; cases b))
  all_goals
    go_ret
    first | exact ⟨⟨_, rfl⟩, hB⟩ | exact ⟨.inr rfl, hB⟩ | exact ⟨.inl rfl, hB⟩ | exact ⟨by simp, hB⟩
set_option maxRecDepth 100000 in
set_option maxHeartbeats 8000000 in
theorem TopLevels_w (n : Int) (s : Option Addr) (cap : Nat) (l : List Iq) (s2 : Option Addr) (cq : Nat) (K : List Vv) (sl : Option Addr) (cl : Nat) (L : List Ar) (q : Sd) (w : World) (hr : RecM w s l s2 cq K) (hs : SlS arE w sl L) (hll : L.length ≤ 9223372036854775807) (hI0 : ∀ y ∈ L, y.I64) (hq : SdM w q) :
    Calls Tryz.prog 3 #[.agg #[.int .i64 n, .slice s l.length cap, .slice s2 K.length cq], .slice sl L.length cl, .agg #[.int .i64 q.f.x, .int .i64 q.f.y, .int .i64 q.f.z, .slice q.s q.off.length q.cap]] w fun e w' => e = .returned (.bool true) ∧ Below w.heap.size w w' := by
  have hwd := fun V (h : RecM V s l s2 cq K) => Wide4_c n s cap l s2 cq K q V h
  have hva := fun V (h : RecM V s l s2 cq K) => h.valid2 n cap
  have hsn := fun V => Sane_c V
  by_cases hl2 : L.length ≤ 200
  case neg =>
    have hl3 : (200 : Int) < (L.length : Int) := by omega
    clear hva hl2
    replace hwd := Lib.hid hwd; replace hsn := Lib.hid hsn
    go_enter Tryz.func3, Tryz.ntmps3
    go_upto_region 1 with (fail)
    refine wp_world fun W HW => ?_
    have hB : Below w.heap.size w W := by rw [HW.out]; (repeat (first | exact Below.refl _ _ | refine Below.alloc ?_ (by simp; try omega) _ | refine Below.setCell ?_ (by simp) _ | refine Below.drew ?_))
    have d0 : W.cell? ⟨w.heap.size, 0, none⟩ = some (.int .i64 n) := by rw [HW.out]; simp [go_sem]
    have d1 : W.cell? ⟨w.heap.size, 1, none⟩ = some (.slice s l.length cap) := by rw [HW.out]; simp [go_sem]
    have d2 : W.cell? ⟨w.heap.size, 2, none⟩ = some (.slice s2 K.length cq) := by rw [HW.out]; simp [go_sem]
    have dl : w.heap.size < W.heap.size := World.block_lt_of_cell? W _ d0
    have g0 : W.cell? ⟨w.heap.size + 1, 0, none⟩ = some (.int .i64 q.f.x) := by rw [HW.out]; simp [go_sem]
    have g1 : W.cell? ⟨w.heap.size + 1, 1, none⟩ = some (.int .i64 q.f.y) := by rw [HW.out]; simp [go_sem]
    have g2 : W.cell? ⟨w.heap.size + 1, 2, none⟩ = some (.int .i64 q.f.z) := by rw [HW.out]; simp [go_sem]
    have g3 : W.cell? ⟨w.heap.size + 1, 3, none⟩ = some (.slice q.s q.off.length q.cap) := by rw [HW.out]; simp [go_sem]
    have gl : w.heap.size + 1 < W.heap.size := World.block_lt_of_cell? W _ g0
    try replace hr := up_of hB hr
    try replace hs := up_of hB hs
    try replace hq := up_of hB hq
    go_upto_region 2 with (first | (go_at_call 5; refine (hwd.out _ hr).mono ?_; rintro e W1 ⟨⟨b, rfl⟩, hb⟩; replace hB := up_of hb hB; cases b))
    all_goals
      go_wp2_with (first | (go_at_call 7; refine (hsn.out _).mono ?_; rintro e W1 ⟨rfl, hb⟩; (try replace hr := up_of hb hr); (try replace hs := up_of hb hs); (try replace hq := up_of hb hq); (try replace hB := up_of hb hB); (try replace d0 := up_of hb d0); (try replace d1 := up_of hb d1); (try replace d2 := up_of hb d2); (try replace dl := up_of hb dl); (try replace g0 := up_of hb g0); (try replace g1 := up_of hb g1); (try replace g2 := up_of hb g2); (try replace g3 := up_of hb g3); (try replace gl := up_of hb gl)))
      go_ret
      exact ⟨rfl, hB⟩
  have hl3 : ¬ (200 : Int) < (L.length : Int) := by omega
  cases hb : recB n l K
  · rw [hb] at hva
    clear hb
    replace hwd := Lib.hid hwd; replace hsn := Lib.hid hsn; replace hva := Lib.hid hva
    go_enter Tryz.func3, Tryz.ntmps3
    go_upto_region 1 with (fail)
    refine wp_world fun W HW => ?_
    have hB : Below w.heap.size w W := by rw [HW.out]; (repeat (first | exact Below.refl _ _ | refine Below.alloc ?_ (by simp; try omega) _ | refine Below.setCell ?_ (by simp) _ | refine Below.drew ?_))
    have d0 : W.cell? ⟨w.heap.size, 0, none⟩ = some (.int .i64 n) := by rw [HW.out]; simp [go_sem]
    have d1 : W.cell? ⟨w.heap.size, 1, none⟩ = some (.slice s l.length cap) := by rw [HW.out]; simp [go_sem]
    have d2 : W.cell? ⟨w.heap.size, 2, none⟩ = some (.slice s2 K.length cq) := by rw [HW.out]; simp [go_sem]
    have dl : w.heap.size < W.heap.size := World.block_lt_of_cell? W _ d0
    have g0 : W.cell? ⟨w.heap.size + 1, 0, none⟩ = some (.int .i64 q.f.x) := by rw [HW.out]; simp [go_sem]
    have g1 : W.cell? ⟨w.heap.size + 1, 1, none⟩ = some (.int .i64 q.f.y) := by rw [HW.out]; simp [go_sem]
    have g2 : W.cell? ⟨w.heap.size + 1, 2, none⟩ = some (.int .i64 q.f.z) := by rw [HW.out]; simp [go_sem]
    have g3 : W.cell? ⟨w.heap.size + 1, 3, none⟩ = some (.slice q.s q.off.length q.cap) := by rw [HW.out]; simp [go_sem]
    have gl : w.heap.size + 1 < W.heap.size := World.block_lt_of_cell? W _ g0
    try replace hr := up_of hB hr
    try replace hs := up_of hB hs
    try replace hq := up_of hB hq
    go_upto_region 2 with (first | (go_at_call 5; refine (hwd.out _ hr).mono ?_; rintro e W1 ⟨⟨b, rfl⟩, hb⟩; replace hB := up_of hb hB; replace hr := up_of hb hr; replace hs := up_of hb hs; replace hq := up_of hb hq; replace d0 := up_of hb d0; replace d1 := up_of hb d1; replace d2 := up_of hb d2; replace g0 := up_of hb g0; replace g1 := up_of hb g1; replace g2 := up_of hb g2; replace g3 := up_of hb g3; cases b) | (go_at_call 6; refine (hva.out _ hr).mono ?_; rintro e W2 ⟨rfl, hb⟩; replace hB := up_of hb hB; replace hr := up_of hb hr; replace hs := up_of hb hs; replace hq := up_of hb hq; replace d0 := up_of hb d0; replace d1 := up_of hb d1; replace d2 := up_of hb d2; replace g0 := up_of hb g0; replace g1 := up_of hb g1; replace g2 := up_of hb g2; replace g3 := up_of hb g3))
    all_goals
      go_wp2_with (first | (go_at_call 7; refine (hsn.out _).mono ?_; rintro e W1 ⟨rfl, hb⟩; (try replace hr := up_of hb hr); (try replace hs := up_of hb hs); (try replace hq := up_of hb hq); (try replace hB := up_of hb hB); (try replace d0 := up_of hb d0); (try replace d1 := up_of hb d1); (try replace d2 := up_of hb d2); (try replace dl := up_of hb dl); (try replace g0 := up_of hb g0); (try replace g1 := up_of hb g1); (try replace g2 := up_of hb g2); (try replace g3 := up_of hb g3); (try replace gl := up_of hb gl)))
      go_ret
      exact ⟨rfl, hB⟩
  rw [hb] at hva
  have ok := netOk hb
  have hlg := fun V (h : RecM V s l s2 cq K) (h2 : SdM V q) => Legal_c n s cap l s2 cq K q V h h2
  have hc30 : chkE n l K [q] = 0 ∨ chkE n l K [q] = 30 := by
    unfold chkE; rw [hb, if_pos rfl]; split
    · exact .inl rfl
    · exact .inr rfl
  have hcir := fun V (h : RecM V s l s2 cq K) => Circle_c n s cap l s2 cq K V h hb
  have hchn := fun V (h : RecM V s l s2 cq K) => Chain_c n s cap l s2 cq K V h hb
  have hbn := fun V (h : RecM V s l s2 cq K) => Bound_c n s cap l s2 cq K V h
  have hvl := fun V (h : RecM V s l s2 cq K) => Values_c n s cap l s2 cq K V h
  by_cases hyes : okN2 K (pts n l)
  case neg =>
    have hLf : legR n l K q = false := by
      cases h : legR n l K q
      · rfl
      · unfold legR at h
        rw [Bool.and_eq_true, decide_eq_true_eq] at h
        exact absurd (lat_gd h.1 h.2) hyes
    rw [hLf] at hlg
    have hb1 := fun V (h : RecM V s l s2 cq K) => (hbn V h).mono (R' := fun e w' => e = .returned (.tuple #[.int .i64 0, .int .i64 21]) ∧ Below V.heap.size V w') (fun e w' ⟨h1, h2⟩ => ⟨by
      rcases h1 with ⟨h1, -⟩ | ⟨-, -, h1⟩ | ⟨-, h1, -⟩
      · rw [hb] at h1; cases h1
      · exact h1
      · exact absurd h1 hyes, h2⟩)
    have hv1 := fun V (h : RecM V s l s2 cq K) => (hvl V h).mono (R' := fun e w' => e = .returned (.tuple #[.slice none 0 0, .int .i64 21]) ∧ Below V.heap.size V w') (fun e w' ⟨h1, h2⟩ => ⟨by
      rcases h1 with ⟨h1, -⟩ | ⟨-, -, h1⟩ | ⟨-, h1, -⟩
      · rw [hb] at h1; cases h1
      · exact h1
      · exact absurd h1 hyes, h2⟩)
    have hi1 := fun V (h : RecM V s l s2 cq K) => (hcir V h).mono (R' := fun e w' => (∃ so co L, e = .returned (.tuple #[.slice so (L : List Ar).length co, .int .i64 0]) ∧ SlS arE w' so L ∧ Hid (icB K (pts n l) L = true ∧ L.length ≤ 4000 ∧ ∀ y ∈ L, y.I64)) ∧ Below V.heap.size V w') (fun e w' ⟨h1, h2⟩ => ⟨by
      rcases h1 with ⟨h1, -⟩ | ⟨-, h1⟩
      · exact absurd h1 hyes
      · exact h1, h2⟩)
    have hci := fun V (h : RecM V s l s2 cq K) => (Circular_c n s cap l s2 cq K V h).mono (R' := fun e w' => e = .returned (.tuple #[.bool true, .int .i64 0]) ∧ Below V.heap.size V w') (fun e w' ⟨h1, h2⟩ => ⟨by
      rw [h1]; unfold ciA ciC; rw [hb]; simp [hyes], h2⟩)
    have hic := fun (sl : Option Addr) (cl : Nat) (L : List Ar) V (h : RecM V s l s2 cq K) (hs : SlS arE V sl L) (hL : icB K (pts n l) L = true ∧ L.length ≤ 4000 ∧ ∀ y ∈ L, y.I64) => (rIsCircle_c n s cap l s2 cq K sl cl L V h (by omega) hs hL.2.2).mono (R' := fun e w' => e = .returned (.tuple #[.bool true, .int .i64 0]) ∧ Below V.heap.size V w') (fun e w' ⟨h1, h2⟩ => ⟨by
      rw [h1]; unfold icA liC; rw [hb, hL.1]; simp; omega, h2⟩)
    obtain ⟨GL, hGL⟩ : ∃ G : List Ar → Prop, ∀ L, (icB K (pts n l) L = true ∧ L.length ≤ 4000 ∧ ∀ y ∈ L, y.I64) = G L := ⟨_, fun _ => rfl⟩
    simp only [hGL] at hi1 hic
    obtain ⟨c, hc⟩ : ∃ c, chkE n l K [q] = c := ⟨_, rfl⟩
    simp only [hc] at hlg hc30
    clear hGL hc hLf hcir hchn hbn hvl hyes ok hb
    replace hwd := Lib.hid hwd; replace hva := Lib.hid hva; replace hsn := Lib.hid hsn; replace hlg := Lib.hid hlg; replace hb1 := Lib.hid hb1; replace hv1 := Lib.hid hv1; replace hi1 := Lib.hid hi1; replace hci := Lib.hid hci; replace hic := Lib.hid hic; replace hc30 := Lib.hid hc30
    go_enter Tryz.func3, Tryz.ntmps3
    go_upto_region 1 with (fail)
    refine wp_world fun W HW => ?_
    have hB : Below w.heap.size w W := by rw [HW.out]; (repeat (first | exact Below.refl _ _ | refine Below.alloc ?_ (by simp; try omega) _ | refine Below.setCell ?_ (by simp) _ | refine Below.drew ?_))
    have d0 : W.cell? ⟨w.heap.size, 0, none⟩ = some (.int .i64 n) := by rw [HW.out]; simp [go_sem]
    have d1 : W.cell? ⟨w.heap.size, 1, none⟩ = some (.slice s l.length cap) := by rw [HW.out]; simp [go_sem]
    have d2 : W.cell? ⟨w.heap.size, 2, none⟩ = some (.slice s2 K.length cq) := by rw [HW.out]; simp [go_sem]
    have dl : w.heap.size < W.heap.size := World.block_lt_of_cell? W _ d0
    have g0 : W.cell? ⟨w.heap.size + 1, 0, none⟩ = some (.int .i64 q.f.x) := by rw [HW.out]; simp [go_sem]
    have g1 : W.cell? ⟨w.heap.size + 1, 1, none⟩ = some (.int .i64 q.f.y) := by rw [HW.out]; simp [go_sem]
    have g2 : W.cell? ⟨w.heap.size + 1, 2, none⟩ = some (.int .i64 q.f.z) := by rw [HW.out]; simp [go_sem]
    have g3 : W.cell? ⟨w.heap.size + 1, 3, none⟩ = some (.slice q.s q.off.length q.cap) := by rw [HW.out]; simp [go_sem]
    have gl : w.heap.size + 1 < W.heap.size := World.block_lt_of_cell? W _ g0
    try replace hr := up_of hB hr
    try replace hs := up_of hB hs
    try replace hq := up_of hB hq
    go_upto_region 2 with (first | (go_at_call 5; refine (hwd.out _ hr).mono ?_; rintro e W1 ⟨⟨b, rfl⟩, hb⟩; replace hB := up_of hb hB; replace hr := up_of hb hr; replace hs := up_of hb hs; replace hq := up_of hb hq; replace d0 := up_of hb d0; replace d1 := up_of hb d1; replace d2 := up_of hb d2; replace g0 := up_of hb g0; replace g1 := up_of hb g1; replace g2 := up_of hb g2; replace g3 := up_of hb g3; cases b) | (go_at_call 6; refine (hva.out _ hr).mono ?_; rintro e W2 ⟨rfl, hb⟩; replace hB := up_of hb hB; replace hr := up_of hb hr; replace hs := up_of hb hs; replace hq := up_of hb hq; replace d0 := up_of hb d0; replace d1 := up_of hb d1; replace d2 := up_of hb d2; replace g0 := up_of hb g0; replace g1 := up_of hb g1; replace g2 := up_of hb g2; replace g3 := up_of hb g3))
    rotate_left
    · go_wp2_with (first | (go_at_call 7; refine (hsn.out _).mono ?_; rintro e W1 ⟨rfl, hb⟩; (try replace hr := up_of hb hr); (try replace hs := up_of hb hs); (try replace hq := up_of hb hq); (try replace hB := up_of hb hB); (try replace d0 := up_of hb d0); (try replace d1 := up_of hb d1); (try replace d2 := up_of hb d2); (try replace dl := up_of hb dl); (try replace g0 := up_of hb g0); (try replace g1 := up_of hb g1); (try replace g2 := up_of hb g2); (try replace g3 := up_of hb g3); (try replace gl := up_of hb gl)))
      go_ret
      exact ⟨rfl, hB⟩
    rcases hc30.out with rfl | rfl
    all_goals
      go_wp2_with (first | (go_at_call 8; refine (hci.out _ hr).mono ?_; rintro e W1 ⟨rfl, hb⟩; (try replace hr := up_of hb hr); (try replace hs := up_of hb hs); (try replace hq := up_of hb hq); (try replace hB := up_of hb hB); (try replace d0 := up_of hb d0); (try replace d1 := up_of hb d1); (try replace d2 := up_of hb d2); (try replace dl := up_of hb dl); (try replace g0 := up_of hb g0); (try replace g1 := up_of hb g1); (try replace g2 := up_of hb g2); (try replace g3 := up_of hb g3); (try replace gl := up_of hb gl); (try replace hL1 := up_of hb hL1)) | (go_at_call 9; refine (hlg.out _ hr hq).mono ?_; rintro e W1 ⟨rfl, hb⟩; (try replace hr := up_of hb hr); (try replace hs := up_of hb hs); (try replace hq := up_of hb hq); (try replace hB := up_of hb hB); (try replace d0 := up_of hb d0); (try replace d1 := up_of hb d1); (try replace d2 := up_of hb d2); (try replace dl := up_of hb dl); (try replace g0 := up_of hb g0); (try replace g1 := up_of hb g1); (try replace g2 := up_of hb g2); (try replace g3 := up_of hb g3); (try replace gl := up_of hb gl); (try replace hL1 := up_of hb hL1)) | (go_at_call 10; refine (hi1.out _ hr).mono ?_; rintro e W4 ⟨⟨so1, co1, L1, rfl, hL1, hG1⟩, hb⟩; (try replace hr := up_of hb hr); (try replace hs := up_of hb hs); (try replace hq := up_of hb hq); (try replace hB := up_of hb hB); (try replace d0 := up_of hb d0); (try replace d1 := up_of hb d1); (try replace d2 := up_of hb d2); (try replace dl := up_of hb dl); (try replace g0 := up_of hb g0); (try replace g1 := up_of hb g1); (try replace g2 := up_of hb g2); (try replace g3 := up_of hb g3); (try replace gl := up_of hb gl); (try replace hL1 := up_of hb hL1)) | (go_at_call 11; refine (hic.out _ _ _ _ hr hL1 hG1.out).mono ?_; rintro e W1 ⟨rfl, hb⟩; (try replace hr := up_of hb hr); (try replace hs := up_of hb hs); (try replace hq := up_of hb hq); (try replace hB := up_of hb hB); (try replace d0 := up_of hb d0); (try replace d1 := up_of hb d1); (try replace d2 := up_of hb d2); (try replace dl := up_of hb dl); (try replace g0 := up_of hb g0); (try replace g1 := up_of hb g1); (try replace g2 := up_of hb g2); (try replace g3 := up_of hb g3); (try replace gl := up_of hb gl); (try replace hL1 := up_of hb hL1)) | (go_at_call 12; refine (hv1.out _ hr).mono ?_; rintro e W1 ⟨rfl, hb⟩; (try replace hr := up_of hb hr); (try replace hs := up_of hb hs); (try replace hq := up_of hb hq); (try replace hB := up_of hb hB); (try replace d0 := up_of hb d0); (try replace d1 := up_of hb d1); (try replace d2 := up_of hb d2); (try replace dl := up_of hb dl); (try replace g0 := up_of hb g0); (try replace g1 := up_of hb g1); (try replace g2 := up_of hb g2); (try replace g3 := up_of hb g3); (try replace gl := up_of hb gl); (try replace hL1 := up_of hb hL1)) | (go_at_call 13; refine (hb1.out _ hr).mono ?_; rintro e W1 ⟨rfl, hb⟩; (try replace hr := up_of hb hr); (try replace hs := up_of hb hs); (try replace hq := up_of hb hq); (try replace hB := up_of hb hB); (try replace d0 := up_of hb d0); (try replace d1 := up_of hb d1); (try replace d2 := up_of hb d2); (try replace dl := up_of hb dl); (try replace g0 := up_of hb g0); (try replace g1 := up_of hb g1); (try replace g2 := up_of hb g2); (try replace g3 := up_of hb g3); (try replace gl := up_of hb gl); (try replace hL1 := up_of hb hL1)) | (go_at_call 7; refine (hsn.out _).mono ?_; rintro e W1 ⟨rfl, hb⟩; (try replace hr := up_of hb hr); (try replace hs := up_of hb hs); (try replace hq := up_of hb hq); (try replace hB := up_of hb hB); (try replace d0 := up_of hb d0); (try replace d1 := up_of hb d1); (try replace d2 := up_of hb d2); (try replace dl := up_of hb dl); (try replace g0 := up_of hb g0); (try replace g1 := up_of hb g1); (try replace g2 := up_of hb g2); (try replace g3 := up_of hb g3); (try replace gl := up_of hb gl); (try replace hL1 := up_of hb hL1)))
      go_ret
      exact ⟨rfl, hB⟩
  have hb1 := fun V (h : RecM V s l s2 cq K) => (hbn V h).mono (R' := fun e w' => e = .returned (.tuple #[.int .i64 (mostL (rowsN (pts n l).length (lvsL K (pts n l)) K.length)), .int .i64 0]) ∧ Below V.heap.size V w') (fun e w' ⟨h1, h2⟩ => ⟨by
    rcases h1 with ⟨h1, -⟩ | ⟨-, h1, -⟩ | ⟨-, -, h1⟩
    · rw [hb] at h1; cases h1
    · exact absurd hyes h1
    · exact h1, h2⟩)
  have hv1 := fun V (h : RecM V s l s2 cq K) => (hvl V h).mono (R' := fun e w' => (∃ s' c', e = .returned (.tuple #[.slice s' K.length c', .int .i64 0])) ∧ Below V.heap.size V w') (fun e w' ⟨h1, h2⟩ => ⟨by
    rcases h1 with ⟨h1, -⟩ | ⟨-, h1, -⟩ | ⟨-, -, s', c', h1, -⟩
    · rw [hb] at h1; cases h1
    · exact absurd hyes h1
    · exact ⟨s', c', h1⟩, h2⟩)
  have hc1 := fun V (h : RecM V s l s2 cq K) => (hchn V h).mono (R' := fun e w' => (∃ so co L, e = .returned (.tuple #[.slice so (L : List Ar).length co, .int .i64 0]) ∧ SlS arE w' so L ∧ Hid (chB K (pts n l) L = true ∧ L.length = mostL (rowsN (pts n l).length (lvsL K (pts n l)) K.length) ∧ L.length ≤ 4000 ∧ ∀ y ∈ L, y.I64)) ∧ Below V.heap.size V w') (fun e w' ⟨h1, h2⟩ => ⟨by
    rcases h1 with ⟨h1, -⟩ | ⟨-, h1⟩
    · exact absurd hyes h1
    · exact h1, h2⟩)
  have hci := fun V (h : RecM V s l s2 cq K) => (Circular_c n s cap l s2 cq K V h).mono (R' := fun e w' => e = .returned (.tuple #[.bool false, .int .i64 0]) ∧ Below V.heap.size V w') (fun e w' ⟨h1, h2⟩ => ⟨by
    rw [h1]; unfold ciA ciC; rw [hb]; simp [hyes], h2⟩)
  have hic := fun (sl : Option Addr) (cl : Nat) (L : List Ar) V (h : RecM V s l s2 cq K) (hs : SlS arE V sl L) (hL : chB K (pts n l) L = true ∧ L.length = mostL (rowsN (pts n l).length (lvsL K (pts n l)) K.length) ∧ L.length ≤ 4000 ∧ ∀ y ∈ L, y.I64) => (rIsChain_c n s cap l s2 cq K sl cl L V h (by omega) hs (fun y hy => (hL.2.2.2 y hy).2)).mono (R' := fun e w' => e = .returned (.tuple #[.bool true, .int .i64 0]) ∧ Below V.heap.size V w') (fun e w' ⟨h1, h2⟩ => ⟨by
    rw [h1]; unfold chA liC; rw [hb, hL.1]; simp; omega, h2⟩)
  have hLE := fun L : List Ar => fun (hL : chB K (pts n l) L = true ∧ L.length = mostL (rowsN (pts n l).length (lvsL K (pts n l)) K.length) ∧ L.length ≤ 4000 ∧ ∀ y ∈ L, y.I64) => hL.2.1
  have hany := fun V (h : RecM V s l s2 cq K) (hs : SlS arE V sl L) => (IsChain_c n s cap l s2 cq K sl cl L V h hll hs (fun y hy => (hI0 y hy).2)).mono (R' := fun e w' => e = .returned (.tuple #[.bool (chB K (pts n l) L), .int .i64 0]) ∧ Below V.heap.size V w') (fun e w' ⟨h1, h2⟩ => ⟨by
    have : L.length ≤ 5000 := by omega
    rw [h1]; unfold chA liC; rw [hb]; simp [this], h2⟩)
  have hanyL : chB K (pts n l) L = true → (L.length : Int) ≤ mostL (rowsN (pts n l).length (lvsL K (pts n l)) K.length) := fun h => chn_le ok hyes h
  have hcn := fun V (h : RecM V s l s2 cq K) => Count_t n s cap l V h.dom
  have hvb : validB n l = true := by
    have h1 := hb
    unfold recB at h1
    rw [Bool.and_eq_true] at h1
    exact h1.1
  have hcnV : cntN n l = ((pts n l).length : Int) ∧ vE n l = 0 := by
    constructor
    · unfold cntN; rw [hvb]; simp
    · unfold vE; rw [hvb]; simp
  simp only [hcnV.1, hcnV.2] at hcn
  have hlat : legR n l K q = true → pts n l ≠ [] → ∃ LT : Int, latR n l K q = .tuple #[.int .i64 LT, .int .i64 0] ∧ mostL (rowsN (pts n l).length (lvsL K (pts n l)) K.length) ≤ LT := fun hL hP => by
    unfold legR at hL
    rw [Bool.and_eq_true, decide_eq_true_eq] at hL
    obtain ⟨hc, hl⟩ := hL
    obtain ⟨h1, h2, h3⟩ := (lat_law hc hl).2.2 hP
    have hE : spanE n l K q = 0 := by
      unfold spanE
      rw [if_neg (by simpa using hc), if_neg (by simpa using hP)]
    refine ⟨spHi q (pts n l) - spLo q (pts n l) + 1, ?_, h2⟩
    unfold latR spanH spanL
    rw [hE]
    simp only [ne_eq, not_true_eq_false, if_false, if_true]
    rw [h3]
  have hlt := fun V (h : RecM V s l s2 cq K) (h2 : SdM V q) => Latency_c n s cap l s2 cq K q V h h2
  have hcases : legR n l K q = false ∨ (legR n l K q = true ∧ chkE n l K [q] = 0 ∧ pts n l = []) ∨ (legR n l K q = true ∧ chkE n l K [q] = 0 ∧ pts n l ≠ []) := by
    cases h : legR n l K q
    · exact .inl rfl
    · have hc : chkE n l K [q] = 0 := by unfold legR at h; rw [Bool.and_eq_true, decide_eq_true_eq] at h; exact h.1
      by_cases hP : pts n l = []
      · exact .inr (.inl ⟨rfl, hc, hP⟩)
      · exact .inr (.inr ⟨rfl, hc, hP⟩)
  obtain ⟨GL, hGL⟩ : ∃ G : List Ar → Prop, ∀ L, (chB K (pts n l) L = true ∧ L.length = mostL (rowsN (pts n l).length (lvsL K (pts n l)) K.length) ∧ L.length ≤ 4000 ∧ ∀ y ∈ L, y.I64) = G L := ⟨_, fun _ => rfl⟩
  simp only [hGL] at hc1 hic hLE
  obtain ⟨MM, hMM⟩ : ∃ x, mostL (rowsN (pts n l).length (lvsL K (pts n l)) K.length) = x := ⟨_, rfl⟩
  simp only [hMM] at hLE hb1 hanyL hlat
  obtain ⟨AB, hAB⟩ : ∃ x, chB K (pts n l) L = x := ⟨_, rfl⟩
  simp only [hAB] at hany hanyL
  obtain ⟨c, hc⟩ : ∃ c, chkE n l K [q] = c := ⟨_, rfl⟩
  obtain ⟨Lg, hLg⟩ : ∃ c, legR n l K q = c := ⟨_, rfl⟩
  simp only [hc] at hlg hc30 hcases
  simp only [hLg] at hlg hcases hlat
  have hfin : Lg = false ∨ (Lg = true ∧ c = 0 ∧ (((pts n l).length : Int) == 0) = true) ∨ (Lg = true ∧ c = 0 ∧ (((pts n l).length : Int) == 0) = false ∧ ∃ LT, latR n l K q = .tuple #[.int .i64 LT, .int .i64 0] ∧ MM ≤ LT) := by
    rcases hcases with h | ⟨h1, h2, h3⟩ | ⟨h1, h2, h3⟩
    · exact .inl h
    · exact .inr (.inl ⟨h1, h2, by rw [h3]; rfl⟩)
    · exact .inr (.inr ⟨h1, h2, beq_eq_false_iff_ne.2 (by have := List.length_pos_iff.2 h3; omega), hlat h1 h3⟩)
  obtain ⟨NP, hNP⟩ : ∃ x, ((pts n l).length : Int) = x := ⟨_, rfl⟩
  simp only [hNP] at hcn hfin
  obtain ⟨LR, hLR⟩ : ∃ x, latR n l K q = x := ⟨_, rfl⟩
  simp only [hLR] at hlt hfin
  clear hGL hMM hAB hc hLg hNP hLR hcases hlat hcir hchn hbn hvl hyes ok hb hcnV hvb
  replace hwd := Lib.hid hwd; replace hva := Lib.hid hva; replace hsn := Lib.hid hsn; replace hlg := Lib.hid hlg; replace hb1 := Lib.hid hb1; replace hv1 := Lib.hid hv1; replace hc1 := Lib.hid hc1; replace hci := Lib.hid hci; replace hic := Lib.hid hic; replace hLE := Lib.hid hLE; replace hany := Lib.hid hany; replace hcn := Lib.hid hcn; replace hfin := Lib.hid hfin; replace hc30 := Lib.hid hc30; replace hlt := Lib.hid hlt; replace hanyL := Lib.hid hanyL
  go_enter Tryz.func3, Tryz.ntmps3
  go_upto_region 1 with (fail)
  refine wp_world fun W HW => ?_
  have hB : Below w.heap.size w W := by rw [HW.out]; (repeat (first | exact Below.refl _ _ | refine Below.alloc ?_ (by simp; try omega) _ | refine Below.setCell ?_ (by simp) _ | refine Below.drew ?_))
  have d0 : W.cell? ⟨w.heap.size, 0, none⟩ = some (.int .i64 n) := by rw [HW.out]; simp [go_sem]
  have d1 : W.cell? ⟨w.heap.size, 1, none⟩ = some (.slice s l.length cap) := by rw [HW.out]; simp [go_sem]
  have d2 : W.cell? ⟨w.heap.size, 2, none⟩ = some (.slice s2 K.length cq) := by rw [HW.out]; simp [go_sem]
  have dl : w.heap.size < W.heap.size := World.block_lt_of_cell? W _ d0
  have g0 : W.cell? ⟨w.heap.size + 1, 0, none⟩ = some (.int .i64 q.f.x) := by rw [HW.out]; simp [go_sem]
  have g1 : W.cell? ⟨w.heap.size + 1, 1, none⟩ = some (.int .i64 q.f.y) := by rw [HW.out]; simp [go_sem]
  have g2 : W.cell? ⟨w.heap.size + 1, 2, none⟩ = some (.int .i64 q.f.z) := by rw [HW.out]; simp [go_sem]
  have g3 : W.cell? ⟨w.heap.size + 1, 3, none⟩ = some (.slice q.s q.off.length q.cap) := by rw [HW.out]; simp [go_sem]
  have gl : w.heap.size + 1 < W.heap.size := World.block_lt_of_cell? W _ g0
  try replace hr := up_of hB hr
  try replace hs := up_of hB hs
  try replace hq := up_of hB hq
  go_upto_region 2 with (first | (go_at_call 5; refine (hwd.out _ hr).mono ?_; rintro e W1 ⟨⟨b, rfl⟩, hb⟩; replace hB := up_of hb hB; replace hr := up_of hb hr; replace hs := up_of hb hs; replace hq := up_of hb hq; replace d0 := up_of hb d0; replace d1 := up_of hb d1; replace d2 := up_of hb d2; replace g0 := up_of hb g0; replace g1 := up_of hb g1; replace g2 := up_of hb g2; replace g3 := up_of hb g3; cases b) | (go_at_call 6; refine (hva.out _ hr).mono ?_; rintro e W2 ⟨rfl, hb⟩; replace hB := up_of hb hB; replace hr := up_of hb hr; replace hs := up_of hb hs; replace hq := up_of hb hq; replace d0 := up_of hb d0; replace d1 := up_of hb d1; replace d2 := up_of hb d2; replace g0 := up_of hb g0; replace g1 := up_of hb g1; replace g2 := up_of hb g2; replace g3 := up_of hb g3))
  rotate_left
  · go_wp2_with (first | (go_at_call 7; refine (hsn.out _).mono ?_; rintro e W1 ⟨rfl, hb⟩; (try replace hr := up_of hb hr); (try replace hs := up_of hb hs); (try replace hq := up_of hb hq); (try replace hB := up_of hb hB); (try replace d0 := up_of hb d0); (try replace d1 := up_of hb d1); (try replace d2 := up_of hb d2); (try replace dl := up_of hb dl); (try replace g0 := up_of hb g0); (try replace g1 := up_of hb g1); (try replace g2 := up_of hb g2); (try replace g3 := up_of hb g3); (try replace gl := up_of hb gl)))
    go_ret
    exact ⟨rfl, hB⟩
  have hAL : AB = false ∨ (AB = true ∧ ¬ MM < (L.length : Int)) := by
    cases h : AB
    · exact .inl rfl
    · have := hanyL.out h; exact .inr ⟨rfl, by omega⟩
  rcases hfin.out with rfl | ⟨rfl, rfl, hN⟩ | ⟨rfl, rfl, hN, LT, rfl, hle⟩
  · rcases hc30.out with rfl | rfl
    all_goals
      rcases hAL with rfl | ⟨rfl, hAM⟩
    all_goals
      go_upto_region 14 with (first | (go_at_call 8; refine (hci.out _ hr).mono ?_; rintro e W1 ⟨rfl, hb⟩; (try replace hr := up_of hb hr); (try replace hs := up_of hb hs); (try replace hq := up_of hb hq); (try replace hB := up_of hb hB); (try replace d0 := up_of hb d0); (try replace d1 := up_of hb d1); (try replace d2 := up_of hb d2); (try replace dl := up_of hb dl); (try replace g0 := up_of hb g0); (try replace g1 := up_of hb g1); (try replace g2 := up_of hb g2); (try replace g3 := up_of hb g3); (try replace gl := up_of hb gl)) | (go_at_call 9; refine (hlg.out _ hr hq).mono ?_; rintro e W1 ⟨rfl, hb⟩; (try replace hr := up_of hb hr); (try replace hs := up_of hb hs); (try replace hq := up_of hb hq); (try replace hB := up_of hb hB); (try replace d0 := up_of hb d0); (try replace d1 := up_of hb d1); (try replace d2 := up_of hb d2); (try replace dl := up_of hb dl); (try replace g0 := up_of hb g0); (try replace g1 := up_of hb g1); (try replace g2 := up_of hb g2); (try replace g3 := up_of hb g3); (try replace gl := up_of hb gl)) | (go_at_call 14; refine (hc1.out _ hr).mono ?_; rintro e W4 ⟨⟨so1, co1, L1, rfl, hL1, hG1⟩, hb⟩; (try replace hr := up_of hb hr); (try replace hs := up_of hb hs); (try replace hq := up_of hb hq); (try replace hB := up_of hb hB); (try replace d0 := up_of hb d0); (try replace d1 := up_of hb d1); (try replace d2 := up_of hb d2); (try replace dl := up_of hb dl); (try replace g0 := up_of hb g0); (try replace g1 := up_of hb g1); (try replace g2 := up_of hb g2); (try replace g3 := up_of hb g3); (try replace gl := up_of hb gl)))
      have hLL := hLE.out L1 hG1.out
      have hb9 : ((L1.length : Int) != MM) = false := by rw [hLL]; simp
      replace hLL := Lib.hid hLL
      go_wp2_with (first | (go_at_call 15; refine (hic.out _ _ _ _ hr hL1 hG1.out).mono ?_; rintro e W1 ⟨rfl, hb⟩; (try replace hr := up_of hb hr); (try replace hs := up_of hb hs); (try replace hq := up_of hb hq); (try replace hB := up_of hb hB); (try replace d0 := up_of hb d0); (try replace d1 := up_of hb d1); (try replace d2 := up_of hb d2); (try replace dl := up_of hb dl); (try replace g0 := up_of hb g0); (try replace g1 := up_of hb g1); (try replace g2 := up_of hb g2); (try replace g3 := up_of hb g3); (try replace gl := up_of hb gl); (try replace hL1 := up_of hb hL1)) | (go_at_call 13; refine (hb1.out _ hr).mono ?_; rintro e W1 ⟨rfl, hb⟩; (try replace hr := up_of hb hr); (try replace hs := up_of hb hs); (try replace hq := up_of hb hq); (try replace hB := up_of hb hB); (try replace d0 := up_of hb d0); (try replace d1 := up_of hb d1); (try replace d2 := up_of hb d2); (try replace dl := up_of hb dl); (try replace g0 := up_of hb g0); (try replace g1 := up_of hb g1); (try replace g2 := up_of hb g2); (try replace g3 := up_of hb g3); (try replace gl := up_of hb gl); (try replace hL1 := up_of hb hL1)) | (go_at_call 12; refine (hv1.out _ hr).mono ?_; rintro e W6 ⟨⟨s5, c5, rfl⟩, hb⟩; (try replace hr := up_of hb hr); (try replace hs := up_of hb hs); (try replace hq := up_of hb hq); (try replace hB := up_of hb hB); (try replace d0 := up_of hb d0); (try replace d1 := up_of hb d1); (try replace d2 := up_of hb d2); (try replace dl := up_of hb dl); (try replace g0 := up_of hb g0); (try replace g1 := up_of hb g1); (try replace g2 := up_of hb g2); (try replace g3 := up_of hb g3); (try replace gl := up_of hb gl); (try replace hL1 := up_of hb hL1)) | (go_at_call 16; refine (hany.out _ hr hs).mono ?_; rintro e W1 ⟨rfl, hb⟩; (try replace hr := up_of hb hr); (try replace hs := up_of hb hs); (try replace hq := up_of hb hq); (try replace hB := up_of hb hB); (try replace d0 := up_of hb d0); (try replace d1 := up_of hb d1); (try replace d2 := up_of hb d2); (try replace dl := up_of hb dl); (try replace g0 := up_of hb g0); (try replace g1 := up_of hb g1); (try replace g2 := up_of hb g2); (try replace g3 := up_of hb g3); (try replace gl := up_of hb gl); (try replace hL1 := up_of hb hL1)) | (go_at_call 17; refine (hcn.out _ hr).mono ?_; rintro e W1 ⟨rfl, hb⟩; (try replace hr := up_of hb hr); (try replace hs := up_of hb hs); (try replace hq := up_of hb hq); (try replace hB := up_of hb hB); (try replace d0 := up_of hb d0); (try replace d1 := up_of hb d1); (try replace d2 := up_of hb d2); (try replace dl := up_of hb dl); (try replace g0 := up_of hb g0); (try replace g1 := up_of hb g1); (try replace g2 := up_of hb g2); (try replace g3 := up_of hb g3); (try replace gl := up_of hb gl); (try replace hL1 := up_of hb hL1)) | (go_at_call 7; refine (hsn.out _).mono ?_; rintro e W1 ⟨rfl, hb⟩; (try replace hr := up_of hb hr); (try replace hs := up_of hb hs); (try replace hq := up_of hb hq); (try replace hB := up_of hb hB); (try replace d0 := up_of hb d0); (try replace d1 := up_of hb d1); (try replace d2 := up_of hb d2); (try replace dl := up_of hb dl); (try replace g0 := up_of hb g0); (try replace g1 := up_of hb g1); (try replace g2 := up_of hb g2); (try replace g3 := up_of hb g3); (try replace gl := up_of hb gl); (try replace hL1 := up_of hb hL1)))
      go_ret
      exact ⟨rfl, hB⟩
  · rcases hAL with rfl | ⟨rfl, hAM⟩
    all_goals
      go_upto_region 14 with (first | (go_at_call 8; refine (hci.out _ hr).mono ?_; rintro e W1 ⟨rfl, hb⟩; (try replace hr := up_of hb hr); (try replace hs := up_of hb hs); (try replace hq := up_of hb hq); (try replace hB := up_of hb hB); (try replace d0 := up_of hb d0); (try replace d1 := up_of hb d1); (try replace d2 := up_of hb d2); (try replace dl := up_of hb dl); (try replace g0 := up_of hb g0); (try replace g1 := up_of hb g1); (try replace g2 := up_of hb g2); (try replace g3 := up_of hb g3); (try replace gl := up_of hb gl); (try replace hL1 := up_of hb hL1)) | (go_at_call 9; refine (hlg.out _ hr hq).mono ?_; rintro e W1 ⟨rfl, hb⟩; (try replace hr := up_of hb hr); (try replace hs := up_of hb hs); (try replace hq := up_of hb hq); (try replace hB := up_of hb hB); (try replace d0 := up_of hb d0); (try replace d1 := up_of hb d1); (try replace d2 := up_of hb d2); (try replace dl := up_of hb dl); (try replace g0 := up_of hb g0); (try replace g1 := up_of hb g1); (try replace g2 := up_of hb g2); (try replace g3 := up_of hb g3); (try replace gl := up_of hb gl); (try replace hL1 := up_of hb hL1)) | (go_at_call 14; refine (hc1.out _ hr).mono ?_; rintro e W4 ⟨⟨so1, co1, L1, rfl, hL1, hG1⟩, hb⟩; (try replace hr := up_of hb hr); (try replace hs := up_of hb hs); (try replace hq := up_of hb hq); (try replace hB := up_of hb hB); (try replace d0 := up_of hb d0); (try replace d1 := up_of hb d1); (try replace d2 := up_of hb d2); (try replace dl := up_of hb dl); (try replace g0 := up_of hb g0); (try replace g1 := up_of hb g1); (try replace g2 := up_of hb g2); (try replace g3 := up_of hb g3); (try replace gl := up_of hb gl); (try replace hL1 := up_of hb hL1)))
      have hLL := hLE.out L1 hG1.out
      have hb9 : ((L1.length : Int) != MM) = false := by rw [hLL]; simp
      replace hLL := Lib.hid hLL
      go_wp2_with (first | (go_at_call 15; refine (hic.out _ _ _ _ hr hL1 hG1.out).mono ?_; rintro e W1 ⟨rfl, hb⟩; (try replace hr := up_of hb hr); (try replace hs := up_of hb hs); (try replace hq := up_of hb hq); (try replace hB := up_of hb hB); (try replace d0 := up_of hb d0); (try replace d1 := up_of hb d1); (try replace d2 := up_of hb d2); (try replace dl := up_of hb dl); (try replace g0 := up_of hb g0); (try replace g1 := up_of hb g1); (try replace g2 := up_of hb g2); (try replace g3 := up_of hb g3); (try replace gl := up_of hb gl); (try replace hL1 := up_of hb hL1)) | (go_at_call 13; refine (hb1.out _ hr).mono ?_; rintro e W1 ⟨rfl, hb⟩; (try replace hr := up_of hb hr); (try replace hs := up_of hb hs); (try replace hq := up_of hb hq); (try replace hB := up_of hb hB); (try replace d0 := up_of hb d0); (try replace d1 := up_of hb d1); (try replace d2 := up_of hb d2); (try replace dl := up_of hb dl); (try replace g0 := up_of hb g0); (try replace g1 := up_of hb g1); (try replace g2 := up_of hb g2); (try replace g3 := up_of hb g3); (try replace gl := up_of hb gl); (try replace hL1 := up_of hb hL1)) | (go_at_call 12; refine (hv1.out _ hr).mono ?_; rintro e W6 ⟨⟨s5, c5, rfl⟩, hb⟩; (try replace hr := up_of hb hr); (try replace hs := up_of hb hs); (try replace hq := up_of hb hq); (try replace hB := up_of hb hB); (try replace d0 := up_of hb d0); (try replace d1 := up_of hb d1); (try replace d2 := up_of hb d2); (try replace dl := up_of hb dl); (try replace g0 := up_of hb g0); (try replace g1 := up_of hb g1); (try replace g2 := up_of hb g2); (try replace g3 := up_of hb g3); (try replace gl := up_of hb gl); (try replace hL1 := up_of hb hL1)) | (go_at_call 16; refine (hany.out _ hr hs).mono ?_; rintro e W1 ⟨rfl, hb⟩; (try replace hr := up_of hb hr); (try replace hs := up_of hb hs); (try replace hq := up_of hb hq); (try replace hB := up_of hb hB); (try replace d0 := up_of hb d0); (try replace d1 := up_of hb d1); (try replace d2 := up_of hb d2); (try replace dl := up_of hb dl); (try replace g0 := up_of hb g0); (try replace g1 := up_of hb g1); (try replace g2 := up_of hb g2); (try replace g3 := up_of hb g3); (try replace gl := up_of hb gl); (try replace hL1 := up_of hb hL1)) | (go_at_call 17; refine (hcn.out _ hr).mono ?_; rintro e W1 ⟨rfl, hb⟩; (try replace hr := up_of hb hr); (try replace hs := up_of hb hs); (try replace hq := up_of hb hq); (try replace hB := up_of hb hB); (try replace d0 := up_of hb d0); (try replace d1 := up_of hb d1); (try replace d2 := up_of hb d2); (try replace dl := up_of hb dl); (try replace g0 := up_of hb g0); (try replace g1 := up_of hb g1); (try replace g2 := up_of hb g2); (try replace g3 := up_of hb g3); (try replace gl := up_of hb gl); (try replace hL1 := up_of hb hL1)) | (go_at_call 7; refine (hsn.out _).mono ?_; rintro e W1 ⟨rfl, hb⟩; (try replace hr := up_of hb hr); (try replace hs := up_of hb hs); (try replace hq := up_of hb hq); (try replace hB := up_of hb hB); (try replace d0 := up_of hb d0); (try replace d1 := up_of hb d1); (try replace d2 := up_of hb d2); (try replace dl := up_of hb dl); (try replace g0 := up_of hb g0); (try replace g1 := up_of hb g1); (try replace g2 := up_of hb g2); (try replace g3 := up_of hb g3); (try replace gl := up_of hb gl); (try replace hL1 := up_of hb hL1)))
      go_ret
      exact ⟨rfl, hB⟩
  · rcases hAL with rfl | ⟨rfl, hAM⟩
    all_goals
      go_upto_region 14 with (first | (go_at_call 8; refine (hci.out _ hr).mono ?_; rintro e W1 ⟨rfl, hb⟩; (try replace hr := up_of hb hr); (try replace hs := up_of hb hs); (try replace hq := up_of hb hq); (try replace hB := up_of hb hB); (try replace d0 := up_of hb d0); (try replace d1 := up_of hb d1); (try replace d2 := up_of hb d2); (try replace dl := up_of hb dl); (try replace g0 := up_of hb g0); (try replace g1 := up_of hb g1); (try replace g2 := up_of hb g2); (try replace g3 := up_of hb g3); (try replace gl := up_of hb gl); (try replace hL1 := up_of hb hL1)) | (go_at_call 9; refine (hlg.out _ hr hq).mono ?_; rintro e W1 ⟨rfl, hb⟩; (try replace hr := up_of hb hr); (try replace hs := up_of hb hs); (try replace hq := up_of hb hq); (try replace hB := up_of hb hB); (try replace d0 := up_of hb d0); (try replace d1 := up_of hb d1); (try replace d2 := up_of hb d2); (try replace dl := up_of hb dl); (try replace g0 := up_of hb g0); (try replace g1 := up_of hb g1); (try replace g2 := up_of hb g2); (try replace g3 := up_of hb g3); (try replace gl := up_of hb gl); (try replace hL1 := up_of hb hL1)) | (go_at_call 14; refine (hc1.out _ hr).mono ?_; rintro e W4 ⟨⟨so1, co1, L1, rfl, hL1, hG1⟩, hb⟩; (try replace hr := up_of hb hr); (try replace hs := up_of hb hs); (try replace hq := up_of hb hq); (try replace hB := up_of hb hB); (try replace d0 := up_of hb d0); (try replace d1 := up_of hb d1); (try replace d2 := up_of hb d2); (try replace dl := up_of hb dl); (try replace g0 := up_of hb g0); (try replace g1 := up_of hb g1); (try replace g2 := up_of hb g2); (try replace g3 := up_of hb g3); (try replace gl := up_of hb gl); (try replace hL1 := up_of hb hL1)))
      have hLL := hLE.out L1 hG1.out
      have hb9 : ((L1.length : Int) != MM) = false := by rw [hLL]; simp
      replace hLL := Lib.hid hLL
      go_wp2_with (first | (go_at_call 15; refine (hic.out _ _ _ _ hr hL1 hG1.out).mono ?_; rintro e W1 ⟨rfl, hb⟩; (try replace hr := up_of hb hr); (try replace hs := up_of hb hs); (try replace hq := up_of hb hq); (try replace hB := up_of hb hB); (try replace d0 := up_of hb d0); (try replace d1 := up_of hb d1); (try replace d2 := up_of hb d2); (try replace dl := up_of hb dl); (try replace g0 := up_of hb g0); (try replace g1 := up_of hb g1); (try replace g2 := up_of hb g2); (try replace g3 := up_of hb g3); (try replace gl := up_of hb gl); (try replace hL1 := up_of hb hL1)) | (go_at_call 13; refine (hb1.out _ hr).mono ?_; rintro e W1 ⟨rfl, hb⟩; (try replace hr := up_of hb hr); (try replace hs := up_of hb hs); (try replace hq := up_of hb hq); (try replace hB := up_of hb hB); (try replace d0 := up_of hb d0); (try replace d1 := up_of hb d1); (try replace d2 := up_of hb d2); (try replace dl := up_of hb dl); (try replace g0 := up_of hb g0); (try replace g1 := up_of hb g1); (try replace g2 := up_of hb g2); (try replace g3 := up_of hb g3); (try replace gl := up_of hb gl); (try replace hL1 := up_of hb hL1)) | (go_at_call 12; refine (hv1.out _ hr).mono ?_; rintro e W6 ⟨⟨s5, c5, rfl⟩, hb⟩; (try replace hr := up_of hb hr); (try replace hs := up_of hb hs); (try replace hq := up_of hb hq); (try replace hB := up_of hb hB); (try replace d0 := up_of hb d0); (try replace d1 := up_of hb d1); (try replace d2 := up_of hb d2); (try replace dl := up_of hb dl); (try replace g0 := up_of hb g0); (try replace g1 := up_of hb g1); (try replace g2 := up_of hb g2); (try replace g3 := up_of hb g3); (try replace gl := up_of hb gl); (try replace hL1 := up_of hb hL1)) | (go_at_call 16; refine (hany.out _ hr hs).mono ?_; rintro e W1 ⟨rfl, hb⟩; (try replace hr := up_of hb hr); (try replace hs := up_of hb hs); (try replace hq := up_of hb hq); (try replace hB := up_of hb hB); (try replace d0 := up_of hb d0); (try replace d1 := up_of hb d1); (try replace d2 := up_of hb d2); (try replace dl := up_of hb dl); (try replace g0 := up_of hb g0); (try replace g1 := up_of hb g1); (try replace g2 := up_of hb g2); (try replace g3 := up_of hb g3); (try replace gl := up_of hb gl); (try replace hL1 := up_of hb hL1)) | (go_at_call 17; refine (hcn.out _ hr).mono ?_; rintro e W1 ⟨rfl, hb⟩; (try replace hr := up_of hb hr); (try replace hs := up_of hb hs); (try replace hq := up_of hb hq); (try replace hB := up_of hb hB); (try replace d0 := up_of hb d0); (try replace d1 := up_of hb d1); (try replace d2 := up_of hb d2); (try replace dl := up_of hb dl); (try replace g0 := up_of hb g0); (try replace g1 := up_of hb g1); (try replace g2 := up_of hb g2); (try replace g3 := up_of hb g3); (try replace gl := up_of hb gl); (try replace hL1 := up_of hb hL1)) | (go_at_call 18; refine (hlt.out _ hr hq).mono ?_; rintro e W1 ⟨rfl, hb⟩; (try replace hr := up_of hb hr); (try replace hs := up_of hb hs); (try replace hq := up_of hb hq); (try replace hB := up_of hb hB); (try replace d0 := up_of hb d0); (try replace d1 := up_of hb d1); (try replace d2 := up_of hb d2); (try replace dl := up_of hb dl); (try replace g0 := up_of hb g0); (try replace g1 := up_of hb g1); (try replace g2 := up_of hb g2); (try replace g3 := up_of hb g3); (try replace gl := up_of hb gl); (try replace hL1 := up_of hb hL1)) | (go_at_call 7; refine (hsn.out _).mono ?_; rintro e W1 ⟨rfl, hb⟩; (try replace hr := up_of hb hr); (try replace hs := up_of hb hs); (try replace hq := up_of hb hq); (try replace hB := up_of hb hB); (try replace d0 := up_of hb d0); (try replace d1 := up_of hb d1); (try replace d2 := up_of hb d2); (try replace dl := up_of hb dl); (try replace g0 := up_of hb g0); (try replace g1 := up_of hb g1); (try replace g2 := up_of hb g2); (try replace g3 := up_of hb g3); (try replace gl := up_of hb gl); (try replace hL1 := up_of hb hL1)))
      go_ret
      exact ⟨rfl, hB⟩
end Go.Proofs.YtakbpjgnjfigcaaGreat
