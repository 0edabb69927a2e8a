/- RecTurned: the walk. -/
import Derived.Test.YtadmnlkgefbhcaaB8
import Derived.Test.YtadmnlkgefbhcaaRecTurns0
import Derived.Test.YtadmnlkgefbhcaaCircular
import Derived.Test.YtadmnlkgefbhcaaVals
import Derived.Test.YtadmnlkgefbhcaaGrwLaw
namespace Go.Proofs.Ytadmnlkgefbhcaa
open Go.RowKit Go.Maps

theorem ci_one {n : Int} {l : List Iq} {K : List Vv} {b : Bool} (h : recB n l K = true) (h2 : b = false ↔ okN2 K (pts n l)) {e : Ending} (he : CiRet n l K e) : e = .returned (.tuple #[.bool b, .int .i64 0]) := by
  rw [he]; unfold ciA ciC; rw [h]
  cases b
  · simp [h2.1 rfl]
  · have : ¬ okN2 K (pts n l) := fun x => by have := h2.2 x; cases this
    simp [this]
theorem ptmap_look {V : World} {mb : Nat} {P : List Pt} (h : V.ownsMap Try.prog 29 (plainElem Try.prog 3) mb P.length (ptD P P.length)) (hP : ∀ q ∈ P, q.I64) {p : Pt} (hp : p.I64) :
    (Instr.lookup 61 (.map (some mb)) (.agg #[.int .i64 p.x, .int .i64 p.y, .int .i64 p.z]) true).run Try.prog V = .ok (.tuple #[.int .i64 (((pix P p).getD 0 : Nat) : Int), .bool (pix P p).isSome]) V ∧
    (Instr.lookup 61 (.map (some mb)) (.agg #[.int .i64 p.x, .int .i64 p.y, .int .i64 p.z]) false).run Try.prog V = .ok (.int .i64 (((pix P p).getD 0 : Nat) : Int)) V := by
  have hat := ptD_at (P := P) hp (k := P.length) (Nat.le_refl _) hP
  have hz : (zeroValue 3).run Try.prog V = .ok (.int .i64 0) V := by kernel_rfl
  have hzd := plainElem_int (H := Unit) (P := Try.prog) Try.underlying3 (show (Lit.int .i64 0).wf = true by decide)
  have hk := key_of_pt hp
  constructor
  · obtain ⟨v, ps, hrun, hv⟩ := h.look_ok key_ptk Try.underlying61 hz hzd hk
    obtain ⟨c, rfl, hc, -⟩ := plainElem_int_inv Try.underlying3 hv
    rw [hat.1] at hc
    simp only [Prod.mk.injEq, DataW.lit.injEq, Lit.int.injEq, true_and] at hc
    rw [hat.2] at hrun
    rw [show c = _ from hc.1.symm] at hrun
    exact hrun
  · obtain ⟨c, hrun, hc, -⟩ := h.lookup_int key_ptk Try.underlying61 Try.underlying3 hz hk
    rw [hat.1] at hc
    simp only [DataW.lit.injEq, Lit.int.injEq, true_and] at hc
    rw [show c = _ from hc.symm] at hrun
    exact hrun
set_option maxRecDepth 100000 in
set_option maxHeartbeats 4000000 in
theorem RecTurned_w (n : Int) (s : Option Addr) (cap : Nat) (l : List Iq) (s2 : Option Addr) (cq : Nat) (K : List Vv) (p : Pt) (w : World) (hr : RecM w s l s2 cq K) (hcs : s = none → cap = 0) :
    Calls Try.prog 10 #[.agg #[.int .i64 n, .slice s l.length cap, .slice s2 K.length cq], .agg #[.int .i64 p.x, .int .i64 p.y, .int .i64 p.z]] w fun e w' => e = .returned (.bool true) ∧ Below w.heap.size w w' := by
  have hwd := fun V (h : RecM V s l s2 cq K) => Wide2_c n s cap l s2 cq K 120 V h
  have hva := fun V (h : RecM V s l s2 cq K) => h.valid2 n cap
  have hsn := fun V => Sane_c V
  cases hb : recB n l K
  · rw [hb] at hva
    replace hwd := Lib.hid hwd; replace hva := Lib.hid hva; replace hsn := Lib.hid hsn
    clear hb
    go_enter Try.func10, Try.ntmps10
    go_upto_region 1 with (fail)
    refine wp_world fun W HW => ?_
    have hB : Below w.heap.size w W := by rw [HW.out]; (repeat (first | exact Below.refl _ _ | refine Below.alloc ?_ (by simp; try omega) _ | refine Below.setCell ?_ (by simp) _ | refine Below.drew ?_))
    have d0 : W.cell? ⟨w.heap.size, 0, none⟩ = some (.int .i64 n) := by rw [HW.out]; simp [go_sem]
    have d1 : W.cell? ⟨w.heap.size, 1, none⟩ = some (.slice s l.length cap) := by rw [HW.out]; simp [go_sem]
    have d2 : W.cell? ⟨w.heap.size, 2, none⟩ = some (.slice s2 K.length cq) := by rw [HW.out]; simp [go_sem]
    have dl : w.heap.size < W.heap.size := World.block_lt_of_cell? W _ d0
    have o0 : W.cell? ⟨w.heap.size + 1, 0, none⟩ = some (.int .i64 p.x) := by rw [HW.out]; simp [go_sem]
    have o1 : W.cell? ⟨w.heap.size + 1, 1, none⟩ = some (.int .i64 p.y) := by rw [HW.out]; simp [go_sem]
    have o2 : W.cell? ⟨w.heap.size + 1, 2, none⟩ = some (.int .i64 p.z) := by rw [HW.out]; simp [go_sem]
    have ol : w.heap.size + 1 < W.heap.size := World.block_lt_of_cell? W _ o0
    try replace hr := up_of hB hr
    go_upto_region 2 with (first | (go_at_call 13; refine (hwd.out _ hr).mono ?_; rintro e W1 ⟨⟨b, rfl⟩, hb⟩; replace hB := up_of hb hB; replace hr := up_of hb hr; replace d0 := up_of hb d0; replace d1 := up_of hb d1; replace d2 := up_of hb d2; cases b) | (go_at_call 31; refine (hva.out _ hr).mono ?_; rintro e W2 ⟨rfl, hb⟩; replace hB := up_of hb hB))
    all_goals
      go_wp2_with (first | (go_at_call 14; refine (hsn.out _).mono ?_; rintro e W1 ⟨rfl, hb⟩; (try replace hr := up_of hb hr); (try replace hB := up_of hb hB); (try replace d0 := up_of hb d0); (try replace d1 := up_of hb d1); (try replace d2 := up_of hb d2); (try replace dl := up_of hb dl); (try replace o0 := up_of hb o0); (try replace o1 := up_of hb o1); (try replace o2 := up_of hb o2); (try replace ol := up_of hb ol)))
      go_ret
      exact ⟨rfl, hB⟩
  rw [hb] at hva
  have ok := netOk hb
  have hio := fun V => IsOrder_c n p V ok.dim
  cases ho : isOrd n p
  · rw [ho] at hio
    replace hwd := Lib.hid hwd; replace hva := Lib.hid hva; replace hsn := Lib.hid hsn; replace hio := Lib.hid hio
    clear hb ho ok
    go_enter Try.func10, Try.ntmps10
    go_upto_region 1 with (fail)
    refine wp_world fun W HW => ?_
    have hB : Below w.heap.size w W := by rw [HW.out]; (repeat (first | exact Below.refl _ _ | refine Below.alloc ?_ (by simp; try omega) _ | refine Below.setCell ?_ (by simp) _ | refine Below.drew ?_))
    have d0 : W.cell? ⟨w.heap.size, 0, none⟩ = some (.int .i64 n) := by rw [HW.out]; simp [go_sem]
    have d1 : W.cell? ⟨w.heap.size, 1, none⟩ = some (.slice s l.length cap) := by rw [HW.out]; simp [go_sem]
    have d2 : W.cell? ⟨w.heap.size, 2, none⟩ = some (.slice s2 K.length cq) := by rw [HW.out]; simp [go_sem]
    have dl : w.heap.size < W.heap.size := World.block_lt_of_cell? W _ d0
    have o0 : W.cell? ⟨w.heap.size + 1, 0, none⟩ = some (.int .i64 p.x) := by rw [HW.out]; simp [go_sem]
    have o1 : W.cell? ⟨w.heap.size + 1, 1, none⟩ = some (.int .i64 p.y) := by rw [HW.out]; simp [go_sem]
    have o2 : W.cell? ⟨w.heap.size + 1, 2, none⟩ = some (.int .i64 p.z) := by rw [HW.out]; simp [go_sem]
    have ol : w.heap.size + 1 < W.heap.size := World.block_lt_of_cell? W _ o0
    try replace hr := up_of hB hr
    go_upto_region 2 with (first | (go_at_call 13; refine (hwd.out _ hr).mono ?_; rintro e W1 ⟨⟨b, rfl⟩, hb⟩; replace hB := up_of hb hB; replace hr := up_of hb hr; replace d0 := up_of hb d0; replace d1 := up_of hb d1; replace d2 := up_of hb d2; replace o0 := up_of hb o0; replace o1 := up_of hb o1; replace o2 := up_of hb o2; cases b) | (go_at_call 31; refine (hva.out _ hr).mono ?_; rintro e W2 ⟨rfl, hb⟩; replace hB := up_of hb hB; replace d0 := up_of hb d0; replace o0 := up_of hb o0; replace o1 := up_of hb o1; replace o2 := up_of hb o2) | (go_at_call 38; refine (hio.out _).mono ?_; rintro e W3 ⟨rfl, hb⟩; replace hB := up_of hb hB))
    all_goals
      go_wp2_with (first | (go_at_call 14; refine (hsn.out _).mono ?_; rintro e W1 ⟨rfl, hb⟩; (try replace hr := up_of hb hr); (try replace hB := up_of hb hB); (try replace d0 := up_of hb d0); (try replace d1 := up_of hb d1); (try replace d2 := up_of hb d2); (try replace dl := up_of hb dl); (try replace o0 := up_of hb o0); (try replace o1 := up_of hb o1); (try replace o2 := up_of hb o2); (try replace ol := up_of hb ol)))
      go_ret
      exact ⟨rfl, hB⟩
  rw [ho] at hio
  have hT := fun V (h : RecM V s l s2 cq K) => (Turned3_c n s cap l s2 cq K p V h hcs).mono (R' := fun e w' => (∃ s c s2 cq, e = .returned (.tuple #[.agg #[.int .i64 n, .slice s (turnL n p l).length c, .slice s2 (turnK n p K).length cq], .int .i64 0]) ∧ RecM w' s (turnL n p l) s2 cq (turnK n p K)) ∧ Below V.heap.size V w') (fun e w' ⟨h1, h2⟩ => ⟨by
    rcases h1 with ⟨h1, -⟩ | ⟨-, h1, -⟩ | ⟨-, -, h1⟩
    · rw [hb] at h1; cases h1
    · rw [ho] at h1; cases h1
    · exact h1, h2⟩)
  have hb2 := rec_turn hb ho
  have hva2 := fun V s c s2 cq (h : RecM V s (turnL n p l) s2 cq (turnK n p K)) => h.valid2 n c
  rw [hb2] at hva2
  have hokk := tn_ok hb ho
  obtain ⟨b, hbb⟩ : ∃ b : Bool, b = false ↔ okN2 K (pts n l) := by
    by_cases h : okN2 K (pts n l)
    · exact ⟨false, by simp [h]⟩
    · exact ⟨true, by simp [h]⟩
  have hci := fun V (h : RecM V s l s2 cq K) => (Circular_c n s cap l s2 cq K V h).mono (R' := fun e w' => e = .returned (.tuple #[.bool b, .int .i64 0]) ∧ Below V.heap.size V w') (fun e w' ⟨h1, h2⟩ => ⟨ci_one hb hbb h1, h2⟩)
  have hci2 := fun V s c s2 cq (h : RecM V s (turnL n p l) s2 cq (turnK n p K)) => (Circular_c n s c _ s2 cq _ V h).mono (R' := fun e w' => e = .returned (.tuple #[.bool b, .int .i64 0]) ∧ Below V.heap.size V w') (fun e w' ⟨h1, h2⟩ => ⟨ci_one hb2 (hbb.trans hokk.symm) h1, h2⟩)
  cases b
  case true =>
    clear hbb hokk hb2 ok hb ho
    replace hwd := Lib.hid hwd; replace hva := Lib.hid hva; replace hsn := Lib.hid hsn; replace hio := Lib.hid hio; replace hT := Lib.hid hT; replace hva2 := Lib.hid hva2; replace hci := Lib.hid hci; replace hci2 := Lib.hid hci2
    go_enter Try.func10, Try.ntmps10
    go_upto_region 1 with (fail)
    refine wp_world fun W HW => ?_
    have hB : Below w.heap.size w W := by rw [HW.out]; (repeat (first | exact Below.refl _ _ | refine Below.alloc ?_ (by simp; try omega) _ | refine Below.setCell ?_ (by simp) _ | refine Below.drew ?_))
    have d0 : W.cell? ⟨w.heap.size, 0, none⟩ = some (.int .i64 n) := by rw [HW.out]; simp [go_sem]
    have d1 : W.cell? ⟨w.heap.size, 1, none⟩ = some (.slice s l.length cap) := by rw [HW.out]; simp [go_sem]
    have d2 : W.cell? ⟨w.heap.size, 2, none⟩ = some (.slice s2 K.length cq) := by rw [HW.out]; simp [go_sem]
    have dl : w.heap.size < W.heap.size := World.block_lt_of_cell? W _ d0
    have o0 : W.cell? ⟨w.heap.size + 1, 0, none⟩ = some (.int .i64 p.x) := by rw [HW.out]; simp [go_sem]
    have o1 : W.cell? ⟨w.heap.size + 1, 1, none⟩ = some (.int .i64 p.y) := by rw [HW.out]; simp [go_sem]
    have o2 : W.cell? ⟨w.heap.size + 1, 2, none⟩ = some (.int .i64 p.z) := by rw [HW.out]; simp [go_sem]
    have ol : w.heap.size + 1 < W.heap.size := World.block_lt_of_cell? W _ o0
    try replace hr := up_of hB hr
    go_upto_region 2 with (first | (go_at_call 13; refine (hwd.out _ hr).mono ?_; rintro e W1 ⟨⟨b, rfl⟩, hb⟩; replace hB := up_of hb hB; replace hr := up_of hb hr; replace d0 := up_of hb d0; replace d1 := up_of hb d1; replace d2 := up_of hb d2; replace o0 := up_of hb o0; replace o1 := up_of hb o1; replace o2 := up_of hb o2; cases b) | (go_at_call 31; refine (hva.out _ hr).mono ?_; rintro e W2 ⟨rfl, hb⟩; replace hB := up_of hb hB; replace hr := up_of hb hr; replace d0 := up_of hb d0; replace d1 := up_of hb d1; replace d2 := up_of hb d2; replace o0 := up_of hb o0; replace o1 := up_of hb o1; replace o2 := up_of hb o2) | (go_at_call 38; refine (hio.out _).mono ?_; rintro e W3 ⟨rfl, hb⟩; replace hB := up_of hb hB; replace hr := up_of hb hr; replace d0 := up_of hb d0; replace d1 := up_of hb d1; replace d2 := up_of hb d2; replace o0 := up_of hb o0; replace o1 := up_of hb o1; replace o2 := up_of hb o2))
    rotate_left
    · go_wp2_with (first | (go_at_call 14; refine (hsn.out _).mono ?_; rintro e W1 ⟨rfl, hb⟩; (try replace hr := up_of hb hr); (try replace hB := up_of hb hB); (try replace d0 := up_of hb d0); (try replace d1 := up_of hb d1); (try replace d2 := up_of hb d2); (try replace dl := up_of hb dl); (try replace o0 := up_of hb o0); (try replace o1 := up_of hb o1); (try replace o2 := up_of hb o2); (try replace ol := up_of hb ol)))
      go_ret
      exact ⟨rfl, hB⟩
    go_upto_region 4 with (first | (go_at_call 15; refine (hT.out _ hr).mono ?_; rintro e W4 ⟨⟨s3, c3, t3, q3, rfl, hr2⟩, hb⟩; (try replace hr := up_of hb hr); (try replace hB := up_of hb hB); (try replace d0 := up_of hb d0); (try replace d1 := up_of hb d1); (try replace d2 := up_of hb d2); (try replace dl := up_of hb dl); (try replace o0 := up_of hb o0); (try replace o1 := up_of hb o1); (try replace o2 := up_of hb o2); (try replace ol := up_of hb ol)))
    refine wp_world fun Y HY => ?_
    have hY : Below W4.heap.size W4 Y := by rw [HY.out]; (repeat (first | exact Below.refl _ _ | refine Below.alloc ?_ (by simp; try omega) _ | refine Below.setCell ?_ (by simp) _ | refine Below.drew ?_))
    have aB : Row Y (W4.heap.size) 27 #[.int .i64 n, .slice s3 (turnL n p l).length c3, .slice t3 (turnK n p K).length q3] := (by rw [HY.out]; (repeat (first | (refine blk_new ?_; simp; done) | refine blk_old ?_ _)) : Y.heap[W4.heap.size]? = some (.cells #[.int .i64 n, .slice s3 (turnL n p l).length c3, .slice t3 (turnK n p K).length q3] 27 (0, 0)))
    have a0 : Y.cell? ⟨W4.heap.size, 0, none⟩ = some (.int .i64 n) := by rw [HY.out]; simp [go_sem]
    have a1 : Y.cell? ⟨W4.heap.size, 1, none⟩ = some (.slice s3 (turnL n p l).length c3) := by rw [HY.out]; simp [go_sem]
    have a2 : Y.cell? ⟨W4.heap.size, 2, none⟩ = some (.slice t3 (turnK n p K).length q3) := by rw [HY.out]; simp [go_sem]
    have al : W4.heap.size < Y.heap.size := World.block_lt_of_cell? Y _ a0
    try replace hB := up_of hY hB
    try replace hr := up_of hY hr
    try replace d0 := up_of hY d0
    try replace d1 := up_of hY d1
    try replace d2 := up_of hY d2
    try replace o0 := up_of hY o0
    try replace o1 := up_of hY o1
    try replace o2 := up_of hY o2
    replace hr2 := up_of hY hr2
    go_upto_region 6 with (first | (go_at_call 31; refine (hva2.out _ _ _ _ _ hr2).mono ?_; rintro e W1 ⟨rfl, hb⟩; (try replace hB := up_of hb hB); (try replace hr := up_of hb hr); (try replace d0 := up_of hb d0); (try replace d1 := up_of hb d1); (try replace d2 := up_of hb d2); (try replace o0 := up_of hb o0); (try replace o1 := up_of hb o1); (try replace o2 := up_of hb o2); (try replace hY := up_of hb hY); (try replace aB := up_of hb aB); (try replace a0 := up_of hb a0); (try replace a1 := up_of hb a1); (try replace a2 := up_of hb a2); (try replace al := up_of hb al); (try replace hr2 := up_of hb hr2)))
    go_upto_region 7 with (first | (go_at_call 39; refine (hci.out _ hr).mono ?_; rintro e W1 ⟨rfl, hb⟩; (try replace hB := up_of hb hB); (try replace hr := up_of hb hr); (try replace d0 := up_of hb d0); (try replace d1 := up_of hb d1); (try replace d2 := up_of hb d2); (try replace o0 := up_of hb o0); (try replace o1 := up_of hb o1); (try replace o2 := up_of hb o2); (try replace hY := up_of hb hY); (try replace aB := up_of hb aB); (try replace a0 := up_of hb a0); (try replace a1 := up_of hb a1); (try replace a2 := up_of hb a2); (try replace al := up_of hb al); (try replace hr2 := up_of hb hr2)))
    go_wp2_with (first | (go_at_call 39; refine (hci2.out _ _ _ _ _ hr2).mono ?_; rintro e W1 ⟨rfl, hb⟩; (try replace hB := up_of hb hB); (try replace hr := up_of hb hr); (try replace d0 := up_of hb d0); (try replace d1 := up_of hb d1); (try replace d2 := up_of hb d2); (try replace o0 := up_of hb o0); (try replace o1 := up_of hb o1); (try replace o2 := up_of hb o2); (try replace hY := up_of hb hY); (try replace aB := up_of hb aB); (try replace a0 := up_of hb a0); (try replace a1 := up_of hb a1); (try replace a2 := up_of hb a2); (try replace al := up_of hb al); (try replace hr2 := up_of hb hr2)) | (go_at_call 14; refine (hsn.out _).mono ?_; rintro e W1 ⟨rfl, hb⟩; (try replace hB := up_of hb hB); (try replace hr := up_of hb hr); (try replace d0 := up_of hb d0); (try replace d1 := up_of hb d1); (try replace d2 := up_of hb d2); (try replace o0 := up_of hb o0); (try replace o1 := up_of hb o1); (try replace o2 := up_of hb o2); (try replace hY := up_of hb hY); (try replace aB := up_of hb aB); (try replace a0 := up_of hb a0); (try replace a1 := up_of hb a1); (try replace a2 := up_of hb a2); (try replace al := up_of hb al); (try replace hr2 := up_of hb hr2)))
    go_ret
    exact ⟨rfl, hB⟩
  have hyes : okN2 K (pts n l) := hbb.1 rfl
  have hyes2 : okN2 (turnK n p K) (pts n (turnL n p l)) := hokk.2 hyes
  have hvl := fun V (h : RecM V s l s2 cq K) => (Values_c n s cap l s2 cq K V h).mono (R' := fun e w' => (∃ s' c', e = .returned (.tuple #[.slice s' K.length c', .int .i64 0]) ∧ SlSS intE w' s' (rowsN (pts n l).length (vlsL K (pts n l)) K.length)) ∧ Below V.heap.size V w') (fun e w' ⟨h1, h2⟩ => ⟨by
    rcases h1 with ⟨h1, -⟩ | ⟨-, h1, -⟩ | ⟨-, -, h1⟩
    · rw [hb] at h1; cases h1
    · exact absurd hyes h1
    · exact h1, h2⟩)
  have hvl2 := fun V s c s2 cq (h : RecM V s (turnL n p l) s2 cq (turnK n p K)) => (Values_c n s c _ s2 cq _ V h).mono (R' := fun e w' => (∃ s' c', e = .returned (.tuple #[.slice s' (turnK n p K).length c', .int .i64 0]) ∧ SlSS intE w' s' (rowsN (pts n (turnL n p l)).length (vlsL (turnK n p K) (pts n (turnL n p l))) (turnK n p K).length)) ∧ Below V.heap.size V w') (fun e w' ⟨h1, h2⟩ => ⟨by
    rcases h1 with ⟨h1, -⟩ | ⟨-, h1, -⟩ | ⟨-, -, h1⟩
    · rw [hb2] at h1; cases h1
    · exact absurd hyes2 h1
    · exact h1, h2⟩)
  have hlv := fun V (h : RecM V s l s2 cq K) => (Levels_c n s cap l s2 cq K V h).mono (R' := fun e w' => (∃ s' c', e = .returned (.tuple #[.slice s' K.length c', .int .i64 0]) ∧ SlSS intE w' s' (rowsN (pts n l).length (lvsL K (pts n l)) K.length)) ∧ Below V.heap.size V w') (fun e w' ⟨h1, h2⟩ => ⟨by
    rcases h1 with ⟨h1, -⟩ | ⟨-, h1, -⟩ | ⟨-, -, h1⟩
    · rw [hb] at h1; cases h1
    · exact absurd hyes h1
    · exact h1, h2⟩)
  have hlv2 := fun V s c s2 cq (h : RecM V s (turnL n p l) s2 cq (turnK n p K)) => (Levels_c n s c _ s2 cq _ V h).mono (R' := fun e w' => (∃ s' c', e = .returned (.tuple #[.slice s' (turnK n p K).length c', .int .i64 0]) ∧ SlSS intE w' s' (rowsN (pts n (turnL n p l)).length (lvsL (turnK n p K) (pts n (turnL n p l))) (turnK n p K).length)) ∧ Below V.heap.size V w') (fun e w' ⟨h1, h2⟩ => ⟨by
    rcases h1 with ⟨h1, -⟩ | ⟨-, h1, -⟩ | ⟨-, -, h1⟩
    · rw [hb2] at h1; cases h1
    · exact absurd hyes2 h1
    · exact h1, h2⟩)
  have ok2 := netOk hb2
  have hvb := (rec_parts hb).1
  have hvb2 := (rec_parts hb2).1
  have hpt := fun V (h : Dom V s l) => Points_c n s cap l V h.iq h.len
  have hL1 : ptsL n l = pts n l := by have := ok.len; simp [ptsL, hvb]; omega
  have hE1 : ptsE n l = 0 := by have := ok.len; simp [ptsE, hvb]; omega
  unfold PtsRet at hpt
  simp only [hL1, hE1] at hpt
  have hpt2 := fun V s c (h : Dom V s (turnL n p l)) => Points_c n s c _ V h.iq h.len
  have hL2 : ptsL n (turnL n p l) = pts n (turnL n p l) := by have := ok2.len; simp [ptsL, hvb2]; omega
  have hE2 : ptsE n (turnL n p l) = 0 := by have := ok2.len; simp [ptsE, hvb2]; omega
  unfold PtsRet at hpt2
  simp only [hL2, hE2] at hpt2
  have hPP := turn_count ho hvb
  have hKK := turnK_len n p K
  have hbo : ∀ v i, v < K.length → i < (pts n l).length → ∃ j, j < (pts n (turnL n p l)).length ∧ pix (pts n (turnL n p l)) (turnP n p ((pts n l).getD i default)) = some j ∧
      lvN (turnK n p K) (pts n (turnL n p l)) (v * (pts n (turnL n p l)).length + j) = lvN K (pts n l) (v * (pts n l).length + i) ∧ vlN (turnK n p K) (pts n (turnL n p l)) (v * (pts n (turnL n p l)).length + j) = vlN K (pts n l) (v * (pts n l).length + i) := fun v i hv hi => by
    obtain ⟨j, hj, h1, h2, h3⟩ := tn_both hb ho hyes hv hi
    exact ⟨j, hj, by rw [List.getD_eq_getElem?_getD, List.getElem?_eq_getElem hi]; exact h1, h2, h3⟩
  have hdm := ok.dim
  have htp := fun V a q (h : turnP n p a = q) => TurnPoint_e n a p V ⟨by omega, by omega⟩ (fun i hi => ord_all hdm ho i (by omega)) h
  obtain ⟨L, hL⟩ : ∃ x, turnL n p l = x := ⟨_, rfl⟩
  obtain ⟨T, hT0⟩ : ∃ x, turnK n p K = x := ⟨_, rfl⟩
  simp only [hL, hT0, hKK, hPP] at hT hva2 hci2 hvl2 hlv2 hpt2 hbo hPP hKK ok2
  obtain ⟨P, hP⟩ : ∃ x, pts n l = x := ⟨_, rfl⟩
  obtain ⟨Q, hQ⟩ : ∃ x, pts n L = x := ⟨_, rfl⟩
  simp only [hP, hQ] at hvl hlv hvl2 hlv2 hpt hpt2 hbo hPP ok ok2
  clear hyes hyes2 hbb hokk hb hb2 hvb hvb2 hL1 hE1 hL2 hE2 hL hT0 hP hQ ho
  replace hwd := Lib.hid hwd; replace hva := Lib.hid hva; replace hsn := Lib.hid hsn; replace hio := Lib.hid hio; replace hT := Lib.hid hT; replace hva2 := Lib.hid hva2; replace hci := Lib.hid hci; replace hci2 := Lib.hid hci2; replace hvl := Lib.hid hvl; replace hvl2 := Lib.hid hvl2; replace hlv := Lib.hid hlv; replace hlv2 := Lib.hid hlv2; replace hpt := Lib.hid hpt; replace hpt2 := Lib.hid hpt2; replace hbo := Lib.hid hbo; replace ok := Lib.hid ok; replace ok2 := Lib.hid ok2; replace hPP := Lib.hid hPP; replace hKK := Lib.hid hKK; replace htp := Lib.hid htp; replace hdm := Lib.hid hdm
  go_enter Try.func10, Try.ntmps10
  go_upto_region 1 with (fail)
  refine wp_world fun W HW => ?_
  have hB : Below w.heap.size w W := by rw [HW.out]; (repeat (first | exact Below.refl _ _ | refine Below.alloc ?_ (by simp; try omega) _ | refine Below.setCell ?_ (by simp) _ | refine Below.drew ?_))
  have d0 : W.cell? ⟨w.heap.size, 0, none⟩ = some (.int .i64 n) := by rw [HW.out]; simp [go_sem]
  have d1 : W.cell? ⟨w.heap.size, 1, none⟩ = some (.slice s l.length cap) := by rw [HW.out]; simp [go_sem]
  have d2 : W.cell? ⟨w.heap.size, 2, none⟩ = some (.slice s2 K.length cq) := by rw [HW.out]; simp [go_sem]
  have dl : w.heap.size < W.heap.size := World.block_lt_of_cell? W _ d0
  have o0 : W.cell? ⟨w.heap.size + 1, 0, none⟩ = some (.int .i64 p.x) := by rw [HW.out]; simp [go_sem]
  have o1 : W.cell? ⟨w.heap.size + 1, 1, none⟩ = some (.int .i64 p.y) := by rw [HW.out]; simp [go_sem]
  have o2 : W.cell? ⟨w.heap.size + 1, 2, none⟩ = some (.int .i64 p.z) := by rw [HW.out]; simp [go_sem]
  have ol : w.heap.size + 1 < W.heap.size := World.block_lt_of_cell? W _ o0
  try replace hr := up_of hB hr
  go_upto_region 2 with (first | (go_at_call 13; refine (hwd.out _ hr).mono ?_; rintro e W1 ⟨⟨b, rfl⟩, hb⟩; replace hB := up_of hb hB; replace hr := up_of hb hr; replace d0 := up_of hb d0; replace d1 := up_of hb d1; replace d2 := up_of hb d2; replace o0 := up_of hb o0; replace o1 := up_of hb o1; replace o2 := up_of hb o2; cases b) | (go_at_call 31; refine (hva.out _ hr).mono ?_; rintro e W2 ⟨rfl, hb⟩; replace hB := up_of hb hB; replace hr := up_of hb hr; replace d0 := up_of hb d0; replace d1 := up_of hb d1; replace d2 := up_of hb d2; replace o0 := up_of hb o0; replace o1 := up_of hb o1; replace o2 := up_of hb o2) | (go_at_call 38; refine (hio.out _).mono ?_; rintro e W3 ⟨rfl, hb⟩; replace hB := up_of hb hB; replace hr := up_of hb hr; replace d0 := up_of hb d0; replace d1 := up_of hb d1; replace d2 := up_of hb d2; replace o0 := up_of hb o0; replace o1 := up_of hb o1; replace o2 := up_of hb o2))
  rotate_left
  · go_wp2_with (first | (go_at_call 14; refine (hsn.out _).mono ?_; rintro e W1 ⟨rfl, hb⟩; (try replace hr := up_of hb hr); (try replace hB := up_of hb hB); (try replace d0 := up_of hb d0); (try replace d1 := up_of hb d1); (try replace d2 := up_of hb d2); (try replace dl := up_of hb dl); (try replace o0 := up_of hb o0); (try replace o1 := up_of hb o1); (try replace o2 := up_of hb o2); (try replace ol := up_of hb ol)))
    go_ret
    exact ⟨rfl, hB⟩
  go_upto_region 4 with (first | (go_at_call 15; refine (hT.out _ hr).mono ?_; rintro e W4 ⟨⟨s3, c3, t3, q3, rfl, hr2⟩, hb⟩; (try replace hr := up_of hb hr); (try replace hB := up_of hb hB); (try replace d0 := up_of hb d0); (try replace d1 := up_of hb d1); (try replace d2 := up_of hb d2); (try replace dl := up_of hb dl); (try replace o0 := up_of hb o0); (try replace o1 := up_of hb o1); (try replace o2 := up_of hb o2); (try replace ol := up_of hb ol)))
  refine wp_world fun Y HY => ?_
  have hY : Below W4.heap.size W4 Y := by rw [HY.out]; (repeat (first | exact Below.refl _ _ | refine Below.alloc ?_ (by simp; try omega) _ | refine Below.setCell ?_ (by simp) _ | refine Below.drew ?_))
  have aB : Row Y (W4.heap.size) 27 #[.int .i64 n, .slice s3 L.length c3, .slice t3 T.length q3] := (by rw [HY.out]; (repeat (first | (refine blk_new ?_; simp; done) | refine blk_old ?_ _)) : Y.heap[W4.heap.size]? = some (.cells #[.int .i64 n, .slice s3 L.length c3, .slice t3 T.length q3] 27 (0, 0)))
  have a0 : Y.cell? ⟨W4.heap.size, 0, none⟩ = some (.int .i64 n) := by rw [HY.out]; simp [go_sem]
  have a1 : Y.cell? ⟨W4.heap.size, 1, none⟩ = some (.slice s3 L.length c3) := by rw [HY.out]; simp [go_sem]
  have a2 : Y.cell? ⟨W4.heap.size, 2, none⟩ = some (.slice t3 T.length q3) := by rw [HY.out]; simp [go_sem]
  have al : W4.heap.size < Y.heap.size := World.block_lt_of_cell? Y _ a0
  try replace hB := up_of hY hB
  try replace hr := up_of hY hr
  try replace d0 := up_of hY d0
  try replace d1 := up_of hY d1
  try replace d2 := up_of hY d2
  try replace o0 := up_of hY o0
  try replace o1 := up_of hY o1
  try replace o2 := up_of hY o2
  replace hr2 := up_of hY hr2
  go_upto_region 6 with (first | (go_at_call 31; refine (hva2.out _ _ _ _ _ hr2).mono ?_; rintro e W1 ⟨rfl, hb⟩; (try replace hB := up_of hb hB); (try replace hr := up_of hb hr); (try replace d0 := up_of hb d0); (try replace d1 := up_of hb d1); (try replace d2 := up_of hb d2); (try replace o0 := up_of hb o0); (try replace o1 := up_of hb o1); (try replace o2 := up_of hb o2); (try replace hY := up_of hb hY); (try replace aB := up_of hb aB); (try replace a0 := up_of hb a0); (try replace a1 := up_of hb a1); (try replace a2 := up_of hb a2); (try replace al := up_of hb al); (try replace hr2 := up_of hb hr2)))
  go_upto_region 7 with (first | (go_at_call 39; refine (hci.out _ hr).mono ?_; rintro e W1 ⟨rfl, hb⟩; (try replace hB := up_of hb hB); (try replace hr := up_of hb hr); (try replace d0 := up_of hb d0); (try replace d1 := up_of hb d1); (try replace d2 := up_of hb d2); (try replace o0 := up_of hb o0); (try replace o1 := up_of hb o1); (try replace o2 := up_of hb o2); (try replace hY := up_of hb hY); (try replace aB := up_of hb aB); (try replace a0 := up_of hb a0); (try replace a1 := up_of hb a1); (try replace a2 := up_of hb a2); (try replace al := up_of hb al); (try replace hr2 := up_of hb hr2)))
  go_upto_region 12 with (first | (go_at_call 39; refine (hci2.out _ _ _ _ _ hr2).mono ?_; rintro e W1 ⟨rfl, hb⟩; (try replace hB := up_of hb hB); (try replace hr := up_of hb hr); (try replace d0 := up_of hb d0); (try replace d1 := up_of hb d1); (try replace d2 := up_of hb d2); (try replace o0 := up_of hb o0); (try replace o1 := up_of hb o1); (try replace o2 := up_of hb o2); (try replace hY := up_of hb hY); (try replace aB := up_of hb aB); (try replace a0 := up_of hb a0); (try replace a1 := up_of hb a1); (try replace a2 := up_of hb a2); (try replace al := up_of hb al); (try replace hr2 := up_of hb hr2)))
  go_upto_region 13 with (first | (go_at_call 29; refine (hvl.out _ hr).mono ?_; rintro e W5 ⟨⟨sx, cx, rfl, hx⟩, hb⟩; (try replace hB := up_of hb hB); (try replace hr := up_of hb hr); (try replace d0 := up_of hb d0); (try replace d1 := up_of hb d1); (try replace d2 := up_of hb d2); (try replace o0 := up_of hb o0); (try replace o1 := up_of hb o1); (try replace o2 := up_of hb o2); (try replace hY := up_of hb hY); (try replace aB := up_of hb aB); (try replace a0 := up_of hb a0); (try replace a1 := up_of hb a1); (try replace a2 := up_of hb a2); (try replace al := up_of hb al); (try replace hr2 := up_of hb hr2)))
  go_upto_region 14 with (first | (go_at_call 29; refine (hvl2.out _ _ _ _ _ hr2).mono ?_; rintro e W6 ⟨⟨sy, cy, rfl, hy⟩, hb⟩; (try replace hB := up_of hb hB); (try replace hr := up_of hb hr); (try replace d0 := up_of hb d0); (try replace d1 := up_of hb d1); (try replace d2 := up_of hb d2); (try replace o0 := up_of hb o0); (try replace o1 := up_of hb o1); (try replace o2 := up_of hb o2); (try replace hY := up_of hb hY); (try replace aB := up_of hb aB); (try replace a0 := up_of hb a0); (try replace a1 := up_of hb a1); (try replace a2 := up_of hb a2); (try replace al := up_of hb al); (try replace hr2 := up_of hb hr2); (try replace hx := up_of hb hx)))
  go_upto_region 15 with (first | (go_at_call 27; refine (hlv.out _ hr).mono ?_; rintro e W7 ⟨⟨sl, cl, rfl, hl⟩, hb⟩; (try replace hB := up_of hb hB); (try replace hr := up_of hb hr); (try replace d0 := up_of hb d0); (try replace d1 := up_of hb d1); (try replace d2 := up_of hb d2); (try replace o0 := up_of hb o0); (try replace o1 := up_of hb o1); (try replace o2 := up_of hb o2); (try replace hY := up_of hb hY); (try replace aB := up_of hb aB); (try replace a0 := up_of hb a0); (try replace a1 := up_of hb a1); (try replace a2 := up_of hb a2); (try replace al := up_of hb al); (try replace hr2 := up_of hb hr2); (try replace hx := up_of hb hx); (try replace hy := up_of hb hy)))
  go_upto_region 16 with (first | (go_at_call 27; refine (hlv2.out _ _ _ _ _ hr2).mono ?_; rintro e W8 ⟨⟨sm, cm, rfl, hm⟩, hb⟩; (try replace hB := up_of hb hB); (try replace hr := up_of hb hr); (try replace d0 := up_of hb d0); (try replace d1 := up_of hb d1); (try replace d2 := up_of hb d2); (try replace o0 := up_of hb o0); (try replace o1 := up_of hb o1); (try replace o2 := up_of hb o2); (try replace hY := up_of hb hY); (try replace aB := up_of hb aB); (try replace a0 := up_of hb a0); (try replace a1 := up_of hb a1); (try replace a2 := up_of hb a2); (try replace al := up_of hb al); (try replace hr2 := up_of hb hr2); (try replace hx := up_of hb hx); (try replace hy := up_of hb hy); (try replace hl := up_of hb hl)))
  have hKb : ((K.length : Int) != K.length) = false := by simp
  have hTb : ((T.length : Int) != K.length) = false := by rw [hKK.out]; simp
  have hPb : ((P.length : Int) != Q.length) = false := by rw [hPP.out]; simp
  go_upto_region 17 with (first | (go_at_call 40; refine (hpt.out _ hr.dom).mono ?_; rintro e W9 ⟨sp, cp, rfl, hown, hb⟩; (try replace hB := up_of hb hB); (try replace hr := up_of hb hr); (try replace d0 := up_of hb d0); (try replace d1 := up_of hb d1); (try replace d2 := up_of hb d2); (try replace o0 := up_of hb o0); (try replace o1 := up_of hb o1); (try replace o2 := up_of hb o2); (try replace hY := up_of hb hY); (try replace aB := up_of hb aB); (try replace a0 := up_of hb a0); (try replace a1 := up_of hb a1); (try replace a2 := up_of hb a2); (try replace al := up_of hb al); (try replace hr2 := up_of hb hr2); (try replace hx := up_of hb hx); (try replace hy := up_of hb hy); (try replace hl := up_of hb hl); (try replace hm := up_of hb hm); have hp1 := owns_pt hown; clear hown))
  go_upto_region 20 with (first | (go_at_call 40; refine (hpt2.out _ _ _ hr2.dom).mono ?_; rintro e A ⟨sq, cqq, rfl, hown, hb⟩; (try replace hB := up_of hb hB); (try replace hr := up_of hb hr); (try replace d0 := up_of hb d0); (try replace d1 := up_of hb d1); (try replace d2 := up_of hb d2); (try replace o0 := up_of hb o0); (try replace o1 := up_of hb o1); (try replace o2 := up_of hb o2); (try replace hY := up_of hb hY); (try replace aB := up_of hb aB); (try replace a0 := up_of hb a0); (try replace a1 := up_of hb a1); (try replace a2 := up_of hb a2); (try replace al := up_of hb al); (try replace hr2 := up_of hb hr2); (try replace hx := up_of hb hx); (try replace hy := up_of hb hy); (try replace hl := up_of hb hl); (try replace hm := up_of hb hm); (try replace hp1 := up_of hb hp1); have hq1 := owns_pt hown; clear hown))
  have hQl := ok2.out.len
  have hPl := ok.out.len
  have hK4 := ok.out.vars
  have hI : ∀ q ∈ Q, q.I64 := fun q hq => small_i64 (ok2.out.pts q hq) (by omega)
  have hmm := @run_makeMap Try.prog
  replace hI := Lib.hid hI
  go_upto_region 21 with (fail)
  refine wp_world fun Y2 HY2 => ?_
  have hBY : Below A.heap.size A Y2 := by
    rw [HY2.out]
    repeat (first | (with_reducible exact Below.refl _ _) | (with_reducible refine Below.drew ?_) | ((with_reducible refine Below.setC ?_ ?_); (focus (first | omega | (simp; done) | (simp; omega)))) | ((with_reducible refine Below.allo ?_ ?_); (focus (first | omega | (simp; done) | (simp; omega)))))
  have hM0 : Y2.ownsMap Try.prog 29 (plainElem Try.prog 3) A.heap.size 0 (ptD Q 0) := by
    rw [HY2.out]; exact World.ownsMap_made _ _ _ _
  clear HY2
  have hqA := Lib.hid hq1
  have hpA := Lib.hid hp1
  have hxA := Lib.hid hx
  have hyA := Lib.hid hy
  have hlA := Lib.hid hl
  have hmA := Lib.hid hm
  have hBA := Lib.hid hB
  have dA := Lib.hid (And.intro d0 (And.intro d1 d2))
  have oA := Lib.hid (And.intro o0 (And.intro o1 o2))
  clear hq1 hp1 hx hy hl hm hB hr hr2 d0 d1 d2 o0 o1 o2 dl ol aB a0 a1 a2 hY
  go_wp2
  go_loopw [21] (fun ii V => ∃ k : Nat, k ≤ Q.length ∧ ii = .int .i64 k ∧ V.ownsMap Try.prog 29 (plainElem Try.prog 3) A.heap.size k (ptD Q k) ∧ Below A.heap.size A V) (fun ii _ => Q.length - (intOf ii).toNat)
  case atStart => exact ⟨0, by omega, rfl, hM0, hBY⟩
  case round =>
    clear hM0 hBY
    obtain ⟨k, hk, rfl, hown, hBV⟩ := hrel
    by_cases hlt : k < Q.length
    · obtain ⟨pb, po, ep, hpb, p0, p1, p2⟩ := pt_at (up_of hBV hqA.out) hlt
      cases ep
      have hPk := hI.out _ (List.getElem_mem hlt)
      have hput := ptD_put hlt
      have hkey := key_of_pt hPk
      obtain ⟨⟨x, y, z⟩, hp⟩ : ∃ p, Q[k] = p := ⟨_, rfl⟩
      rw [hp] at p0 p1 p2 hput hkey
      unfold pvK at hkey
      have i1 : (0 : Int) ≤ (k : Int) := by omega
      have i2 : (k : Int) < (Q.length : Int) := by omega
      replace hput := Lib.hid hput; replace hkey := Lib.hid hkey; replace hp := Lib.hid hp
      clear hPk
      go_upto_region 23 with (at_mapUpdate; refine wpList_mapUpdate_own _ rfl _ _ _ 61 rfl 29 3 key_ptk Try.underlying61 _ A.heap.size k (ptD Q k) rfl hown (by unfold maxLen; omega) _ _ _ rfl rfl hkey.out (.lit (.int .i64 (k : Int))) [] (plainElem_int (H := Unit) Try.underlying3 (a := (k : Int)) (wf_64 ⟨by omega, by omega⟩)) ?_; intro w9 hown9 hgrow9)
      have hB9 : Below A.heap.size A w9 := hBV.grown hgrow9 (by have := hBV.size; omega) (fun j e => by cases e; omega)
      rw [← hput.out] at hown9
      clear hown hBV p0 p1 p2
      go_wp2
      go_roundw
      case rel => exact ⟨k + 1, by omega, rfl, hown9, hB9⟩
      case measure => exact meas hlt
    · obtain rfl : k = Q.length := by omega
      have hVl := vlsL_len K P
      have hVl2 := vlsL_len T Q
      have hLl := lvsL_len K P
      have hLl2 := lvsL_len T Q
      have hTK := hKK.out
      obtain ⟨xb, xo, xsa, xsc, rfl, -⟩ := tab_hdr hxA.out hVl (v := 0) (by omega)
      obtain ⟨yb, yo, ysa, ysc, rfl, -⟩ := tab_hdr hyA.out hVl2 (v := 0) (by omega)
      obtain ⟨lb, lo, lsa, lsc, rfl, -⟩ := tab_hdr hlA.out hLl (v := 0) (by omega)
      obtain ⟨mb, mo, msa, msc, rfl, -⟩ := tab_hdr hmA.out hLl2 (v := 0) (by omega)
      obtain ⟨bm, hbm⟩ : ∃ b, A.heap.size = b := ⟨_, rfl⟩
      obtain ⟨U, hU⟩ : ∃ U, U = wr := ⟨wr, rfl⟩
      have hBU := Lib.hid (show Below A.heap.size A U by rw [hU]; exact hBV)
      have hmU := Lib.hid (show U.ownsMap Try.prog 29 (plainElem Try.prog 3) bm Q.length (ptD Q Q.length) by rw [hU, ← hbm]; exact hown)
      have h00 : Below U.heap.size U wr := by rw [hU]; exact Below.refl _ _
      rw [hbm]
      replace hU := Lib.hid hU; replace hbm := Lib.hid hbm; replace hVl := Lib.hid hVl; replace hVl2 := Lib.hid hVl2; replace hLl := Lib.hid hLl; replace hLl2 := Lib.hid hLl2; replace hTK := Lib.hid hTK
      clear hown hBV
      go_wp2
      go_loopw [22] (fun ii V => ∃ v : Nat, v ≤ K.length ∧ ii = .int .i64 v ∧ Below U.heap.size U V) (fun ii _ => K.length - (intOf ii).toNat)
      case atStart => exact ⟨0, by omega, rfl, h00⟩
      case round =>
        clear h00
        obtain ⟨v, hv, rfl, hBV⟩ := hrel
        have hBA2 := hBU.out.trans (hBV.mono hBU.out.size)
        by_cases hlv : v < K.length
        · have hlv2 : v < T.length := by rw [hTK.out]; exact hlv
          obtain ⟨b1, o1, xsa, xsc, e1, x0⟩ := tab_hdr (up_of hBA2 hxA.out) hVl.out hlv
          cases e1
          obtain ⟨b1, o1, ysa, ysc, e1, y0⟩ := tab_hdr (up_of hBA2 hyA.out) hVl2.out hlv2
          cases e1
          obtain ⟨b1, o1, lsa, lsc, e1, l0⟩ := tab_hdr (up_of hBA2 hlA.out) hLl.out hlv
          cases e1
          obtain ⟨b1, o1, msa, msc, e1, m0⟩ := tab_hdr (up_of hBA2 hmA.out) hLl2.out hlv2
          cases e1
          have hPb2 : ((P.length : Int) != P.length) = false := by simp
          have hQb : ((Q.length : Int) != P.length) = false := by rw [hPP.out]; simp
          have i0 : (0 : Int) ≤ (v : Int) := by omega
          have i1 : (v : Int) < (K.length : Int) := by omega
          have i2 : (v : Int) < (T.length : Int) := by omega
          have hVU := Lib.hid hBA2
          have hBVU := Lib.hid hBV
          obtain ⟨U2, hU2⟩ : ∃ U2, U2 = wr := ⟨wr, rfl⟩
          rw [← hU2] at hVU hBVU
          have h02 : Below U2.heap.size U2 wr := by rw [hU2]; exact Below.refl _ _
          replace hU2 := Lib.hid hU2
          clear hBA2 hBV
          go_wp2
          go_loopw [23] (fun ii V => ∃ i : Nat, i ≤ P.length ∧ ii = .int .i64 i ∧ Below U2.heap.size U2 V) (fun ii _ => P.length - (intOf ii).toNat)
          case atStart => exact ⟨0, by omega, rfl, h02⟩
          case round =>
            clear h02 x0 y0 l0 m0
            obtain ⟨i, hi, rfl, hBV2⟩ := hrel
            have hBV := hBVU.out.trans (hBV2.mono hBVU.out.size)
            by_cases hli : i < P.length
            · have hBA3 := hBU.out.trans (hBV.mono hBU.out.size)
              obtain ⟨j, hj, hpx, hlE, hvE⟩ := hbo.out v i hlv hli
              obtain ⟨hjQ, hQj⟩ := pix_some hpx
              have hqI := hI.out _ (List.getElem_mem hjQ)
              rw [hQj] at hqI
              have hgi : P.getD i default = P[i] := by rw [List.getD_eq_getElem?_getD, List.getElem?_eq_getElem hli]; rfl
              rw [hgi] at hpx hqI hQj
              obtain ⟨pb, po, ep, hpb, p0, p1, p2⟩ := pt_at hpA.out hli
              cases ep
              have hkP := numb_lt (K := K.length) (P := P.length) hlv hli
              have hkQ := numb_lt (K := T.length) (P := Q.length) hlv2 hj
              have eL : (lvsL T Q).getD (v * Q.length + j) 0 = (lvsL K P).getD (v * P.length + i) 0 := by
                rw [lvsL_at hkP, lvsL_at hkQ]
                unfold lvN at hlE
                rw [hlE]
              have eV : (vlsL T Q).getD (v * Q.length + j) 0 = (vlsL K P).getD (v * P.length + i) 0 := by
                rw [vlsL_at hkP, vlsL_at hkQ, hvE]
              obtain ⟨b1, o1, xba, xoa, xsc, e1, x0, xx0⟩ := tab_cell hxA.out hVl.out hlv hli
              cases e1
              obtain ⟨b1, o1, yba, yoa, ysc, e1, y0, yy0⟩ := tab_cell hyA.out hVl2.out hlv2 hj
              cases e1
              obtain ⟨b1, o1, lba, loa, lsc, e1, l0, ll0⟩ := tab_cell hlA.out hLl.out hlv hli
              cases e1
              obtain ⟨b1, o1, mba, moa, msc, e1, m0, mm0⟩ := tab_cell hmA.out hLl2.out hlv2 hj
              cases e1
              rw [eV] at yy0
              rw [eL] at mm0
              obtain ⟨LV, hLV⟩ : ∃ x, (lvsL K P).getD (v * P.length + i) 0 = x := ⟨_, rfl⟩
              obtain ⟨VV, hVV⟩ : ∃ x, (vlsL K P).getD (v * P.length + i) 0 = x := ⟨_, rfl⟩
              rw [hLV] at ll0 mm0
              rw [hVV] at xx0 yy0
              have hLb : (LV != LV) = false := by simp
              have hVb : (VV != VV) = false := by simp
              obtain ⟨d0, d1, d2⟩ := dA.out
              obtain ⟨o0, o1, o2⟩ := oA.out
              replace p0 := up_of hBA3 p0; replace p1 := up_of hBA3 p1; replace p2 := up_of hBA3 p2
              replace x0 := up_of hBA3 x0; replace xx0 := up_of hBA3 xx0; replace y0 := up_of hBA3 y0; replace yy0 := up_of hBA3 yy0
              replace l0 := up_of hBA3 l0; replace ll0 := up_of hBA3 ll0; replace m0 := up_of hBA3 m0; replace mm0 := up_of hBA3 mm0
              replace d0 := up_of hBA3 d0; replace d1 := up_of hBA3 d1; replace d2 := up_of hBA3 d2
              replace o0 := up_of hBA3 o0; replace o1 := up_of hBA3 o1; replace o2 := up_of hBA3 o2
              have hmW := up_of hBV hmU.out
              have hlk := fun (V : World) (h : V.ownsMap Try.prog 29 (plainElem Try.prog 3) bm Q.length (ptD Q Q.length)) => (ptmap_look h hI.out hqI).1
              simp only [hpx, Option.getD_some, Option.isSome_some] at hlk
              have hTP := fun V => htp.out V P[i] _ rfl
              obtain ⟨⟨qx, qy, qz⟩, hq⟩ : ∃ q, turnP n p P[i] = q := ⟨_, rfl⟩
              simp only [hq] at hTP hlk
              obtain ⟨⟨px, py, pz⟩, hpp⟩ : ∃ q, P[i] = q := ⟨_, rfl⟩
              rw [hpp] at p0 p1 p2
              simp only [hpp] at hTP
              simp only at p0 p1 p2
              have i3 : (0 : Int) ≤ (i : Int) := by omega
              have i4 : (i : Int) < (P.length : Int) := by omega
              have i5 : (0 : Int) ≤ (j : Int) := by omega
              have i6 : (j : Int) < (Q.length : Int) := by omega
              replace hlk := Lib.hid hlk; replace hTP := Lib.hid hTP; replace hq := Lib.hid hq; replace hpp := Lib.hid hpp; replace hLV := Lib.hid hLV; replace hVV := Lib.hid hVV; replace eL := Lib.hid eL; replace eV := Lib.hid eV; replace hpx := Lib.hid hpx; replace hlE := Lib.hid hlE; replace hvE := Lib.hid hvE; replace hqI := Lib.hid hqI; replace hQj := Lib.hid hQj; replace hgi := Lib.hid hgi; replace hkP := Lib.hid hkP; replace hkQ := Lib.hid hkQ
              go_upto_region 33 with (fail)
              try have ld_p0 := World.block_lt_of_cell? _ _ p0
              try have ld_x0 := World.block_lt_of_cell? _ _ x0
              try have ld_xx0 := World.block_lt_of_cell? _ _ xx0
              try have ld_y0 := World.block_lt_of_cell? _ _ y0
              try have ld_yy0 := World.block_lt_of_cell? _ _ yy0
              try have ld_l0 := World.block_lt_of_cell? _ _ l0
              try have ld_ll0 := World.block_lt_of_cell? _ _ ll0
              try have ld_m0 := World.block_lt_of_cell? _ _ m0
              try have ld_mm0 := World.block_lt_of_cell? _ _ mm0
              try have ld_d0 := World.block_lt_of_cell? _ _ d0
              try have ld_o0 := World.block_lt_of_cell? _ _ o0
              refine region_q (by kernel_rfl) (by kernel_rfl) ?_
              dsimp only [List.toList_toArray]
              repeat (first
               | go_big_quiet_skip
               | (go_big_quiet_want
                  first
                  | (refine qq_det ?_
                     apply Exists.intro; refine ⟨fun W' hW' => ?_, ?_⟩
                     (· have hk := cellB hW'; have hlk9 := hlk.out W' (up_of hW' hmW); go_simp; try (first | rfl | rw [if_pos (by omega)]))
                     simp only [Act.put, List.setIfInBounds_toArray, List.set_cons_zero, List.set_cons_succ]; go_big_quiet_on)
                  | (refine qq_call ?_
                     apply Exists.intro; apply Exists.intro; refine ⟨fun W' hW' => ?_, ?_⟩
                     (· have hk := cellB hW'; go_simp; exact ⟨rfl, rfl⟩)
                     apply Exists.intro; refine ⟨fun W' hW' => ?_, ?_⟩
                     (· first | (go_at_call 41; exact qc hW' (hTP.out _)))
                     simp only [Act.put, List.setIfInBounds_toArray, List.set_cons_zero, List.set_cons_succ]; go_big_quiet_on)))
              refine wpQuiet_nil ?_
              intro Z1 hb
              try replace hmW := up_of hb hmW
              try replace hBV2 := up_of hb hBV2
              try replace p0 := up_of hb p0
              try replace p1 := up_of hb p1
              try replace p2 := up_of hb p2
              try replace x0 := up_of hb x0
              try replace xx0 := up_of hb xx0
              try replace y0 := up_of hb y0
              try replace yy0 := up_of hb yy0
              try replace l0 := up_of hb l0
              try replace ll0 := up_of hb ll0
              try replace m0 := up_of hb m0
              try replace mm0 := up_of hb mm0
              try replace d0 := up_of hb d0
              try replace d1 := up_of hb d1
              try replace d2 := up_of hb d2
              try replace o0 := up_of hb o0
              try replace o1 := up_of hb o1
              try replace o2 := up_of hb o2
              go_wp2_with fail
              try have ld_p0 := World.block_lt_of_cell? _ _ p0
              try have ld_x0 := World.block_lt_of_cell? _ _ x0
              try have ld_xx0 := World.block_lt_of_cell? _ _ xx0
              try have ld_y0 := World.block_lt_of_cell? _ _ y0
              try have ld_yy0 := World.block_lt_of_cell? _ _ yy0
              try have ld_l0 := World.block_lt_of_cell? _ _ l0
              try have ld_ll0 := World.block_lt_of_cell? _ _ ll0
              try have ld_m0 := World.block_lt_of_cell? _ _ m0
              try have ld_mm0 := World.block_lt_of_cell? _ _ mm0
              try have ld_d0 := World.block_lt_of_cell? _ _ d0
              try have ld_o0 := World.block_lt_of_cell? _ _ o0
              refine region_q (by kernel_rfl) (by kernel_rfl) ?_
              dsimp only [List.toList_toArray]
              repeat (first
               | go_big_quiet_skip
               | (go_big_quiet_want
                  first
                  | (refine qq_det ?_
                     apply Exists.intro; refine ⟨fun W' hW' => ?_, ?_⟩
                     (· have hk := cellB hW'; go_simp; try (first | rfl | rw [if_pos (by omega)]))
                     simp only [Act.put, List.setIfInBounds_toArray, List.set_cons_zero, List.set_cons_succ]; go_big_quiet_on)))
              refine wpQuiet_nil ?_
              intro Z2 hb
              try replace hmW := up_of hb hmW
              try replace hBV2 := up_of hb hBV2
              try replace p0 := up_of hb p0
              try replace p1 := up_of hb p1
              try replace p2 := up_of hb p2
              try replace x0 := up_of hb x0
              try replace xx0 := up_of hb xx0
              try replace y0 := up_of hb y0
              try replace yy0 := up_of hb yy0
              try replace l0 := up_of hb l0
              try replace ll0 := up_of hb ll0
              try replace m0 := up_of hb m0
              try replace mm0 := up_of hb mm0
              try replace d0 := up_of hb d0
              try replace d1 := up_of hb d1
              try replace d2 := up_of hb d2
              try replace o0 := up_of hb o0
              try replace o1 := up_of hb o1
              try replace o2 := up_of hb o2
              go_wp2
              go_roundw
              case rel => exact ⟨i + 1, by omega, rfl, hBV2⟩
              case measure => exact meas hli
            · obtain rfl : i = P.length := by omega
              go_wp2
              go_roundw
              case rel => exact ⟨v + 1, by omega, rfl, hBV⟩
              case measure => exact meas hlv
        · obtain rfl : v = K.length := by omega
          have hB := hBA.out.trans (hBA2.mono hBA.out.size)
          go_wp2_with (first | (go_at_call 14; refine (hsn.out _).mono ?_; rintro e W1 ⟨rfl, hb⟩; (try replace hB := up_of hb hB)))
          go_ret
          exact ⟨rfl, hB⟩
end Go.Proofs.Ytadmnlkgefbhcaa
