/- RecTurns: the walk. -/
import Derived.Test.YtadmnlkgefbhcaaRTurned
import Derived.Test.YtadmnlkgefbhcaaSame2
import Derived.Test.YtadmnlkgefbhcaaB6
import Derived.Test.YtadmnlkgefbhcaaRecWide
import Derived.Test.YtadmnlkgefbhcaaRecFirs
namespace Go.Proofs.Ytadmnlkgefbhcaa
open Go.ChangeShapes Go.WideShapes Go.ChangeAt Go.RowKit Go.Joins Go.Deep

section
variable {H : Type} {enc : TypeId × Value → H} {w : World} {held : Bool}
set_option maxRecDepth 100000 in
theorem open_recc {r : Reach} {b0 : Nat} {v : Value} {d : DataW H} {p : List MemPlace} (hv : Value.okWide Try.prog w r b0 27 v) (h : DataW.Trod enc Try.prog w 0 (fun _ => true) held 27 v d p) :
    ∃ n s cap l s2 cq K, v = .agg #[.int .i64 n, .slice s l.length cap, .slice s2 K.length cq] ∧ RecM w s l s2 cq K ∧ (s = none → cap = 0) := by
  have e := Try.underlying27
  simp only [Value.okWide, e] at hv
  obtain ⟨cs, rfl, hc, -⟩ := hv
  obtain ⟨fuel, hf⟩ := h
  simp only [Value.cells] at hf
  obtain ⟨c0, c1, c2, hcs⟩ : ∃ c0 c1 c2, cs.toList = [c0, c1, c2] := by
    match h : cs.toList, (by simpa [cells_rec] using hc : cs.toList.length = 3) with
    | [c0, c1, c2], _ => exact ⟨_, _, _, rfl⟩
  rw [hcs] at hf
  obtain ⟨y0, y1, m, -, -, h0, h1⟩ := trod_struct2 e hf
  simp [cells_dom, cells_vars] at h0 h1
  obtain ⟨z0, z1, m2, -, -, g0, g1⟩ := trod_struct2 Try.underlying24 h0
  simp [cells_int, cells_iqs] at g0 g1
  obtain ⟨n, g0, -, w0⟩ := DataW.trod_int (k := .i64) (by kernel_rfl) g0
  obtain ⟨s, cap, l, g1, hd⟩ := trod_iqs g1
  obtain ⟨s2, cq, K, h1, k1, k2, k3, k4, k6, k5⟩ := trod_vars h1
  cases g0; cases g1; cases h1
  refine ⟨n, s, cap, l, s2, cq, K, ?_, ?_, hd.2⟩
  · cases cs; simp at hcs; subst hcs; rfl
  · exact ⟨hd.1, k1, k2, k4, k6⟩
end
theorem vars_nil (V : World) : VarsM V none [] := ⟨[], .inl rfl, rfl, fun i hi => absurd hi (by simp)⟩
/-- Turned hands back one recurrence and one number. -/
theorem tu_one (n : Int) (l : List Iq) (K : List Vv) (p : Pt) (hl : l.length ≤ 9223372036854775807) (hk : K.length ≤ 9223372036854775807) : ∃ (N : Int) (L : List Iq) (T : List Vv) (E : Int), L.length ≤ 9223372036854775807 ∧ T.length ≤ 9223372036854775807 ∧
    ∀ e w', TuRet n l K p e w' → ∃ s c s2 cq, e = .returned (.tuple #[.agg #[.int .i64 N, .slice s L.length c, .slice s2 T.length cq], .int .i64 E]) ∧ IqS w' s L ∧ VarsM w' s2 T := by
  by_cases hb : recB n l K = true
  · by_cases ho : isOrd n p = true
    · refine ⟨n, turnL n p l, turnK n p K, 0, by rw [turnL, List.length_map]; exact hl, by rw [turnK_len]; exact hk, fun e w' h => ?_⟩
      rcases h with ⟨h, -⟩ | ⟨-, h, -⟩ | ⟨-, -, s, c, s2, cq, h1, h2, h3⟩
      · rw [hb] at h; cases h
      · rw [ho] at h; cases h
      · exact ⟨s, c, s2, cq, h1, h2, h3⟩
    · refine ⟨0, [], [], 2, by simp, by simp, fun e w' h => ?_⟩
      rcases h with ⟨h, -⟩ | ⟨-, -, h⟩ | ⟨-, h, -⟩
      · rw [hb] at h; cases h
      · exact ⟨none, 0, none, 0, h, .inl rfl, vars_nil _⟩
      · exact absurd h ho
  · refine ⟨0, [], [], 20, by simp, by simp, fun e w' h => ?_⟩
    rcases h with ⟨-, h⟩ | ⟨h, -⟩ | ⟨h, -⟩
    · exact ⟨none, 0, none, 0, h, .inl rfl, vars_nil _⟩
    · exact absurd h hb
    · exact absurd h hb
set_option maxRecDepth 100000 in
set_option maxHeartbeats 4000000 in
theorem RecTurns_w (n : Int) (s : Option Addr) (cap : Nat) (l : List Iq) (s2 : Option Addr) (cq : Nat) (K : List Vv) (p : Pt) (w : World) (hr : RecM w s l s2 cq K) (hcs : s = none → cap = 0) :
    Calls Try.prog 3 #[.agg #[.int .i64 n, .slice s l.length cap, .slice s2 K.length cq], .agg #[.int .i64 p.x, .int .i64 p.y, .int .i64 p.z]] w fun e w' => e = .returned (.bool true) ∧ Below w.heap.size w w' := by
  have hwd := fun V (h : RecM V s l s2 cq K) => Wide2_c n s cap l s2 cq K 200 V h
  have hsn := fun V => Sane_c V
  obtain ⟨N, L, T, E, hL, hT, hone⟩ := tu_one n l K p hr.dom.len hr.len
  have hT1 := fun V (h : RecM V s l s2 cq K) => (Turned2_c n s cap l s2 cq K p V h hcs).mono (R' := fun e w' => (∃ s c s2 cq, e = .returned (.tuple #[.agg #[.int .i64 N, .slice s L.length c, .slice s2 T.length cq], .int .i64 E]) ∧ IqS w' s L ∧ VarsM w' s2 T) ∧ Below V.heap.size V w') (fun e w' ⟨h1, h2⟩ => ⟨hone _ _ h1, h2⟩)
  have hT2 := fun V (h : RecM V s l s2 cq K) => (rTurned2_c n s cap l s2 cq K p V h).mono (R' := fun e w' => (∃ s c s2 cq, e = .returned (.tuple #[.agg #[.int .i64 N, .slice s L.length c, .slice s2 T.length cq], .int .i64 E]) ∧ IqS w' s L ∧ VarsM w' s2 T) ∧ Below V.heap.size V w') (fun e w' ⟨h1, h2⟩ => ⟨hone _ _ h1, h2⟩)
  have hsa := fun s1 s2 c1 c2 t1 t2 q1 q2 V h1 h2 v1 v2 => Same2_eq N s1 s2 c1 c2 L t1 t2 q1 q2 T V h1 h2 v1 v2 hL hT
  have hEb : (E == E) = true := by simp
  clear hone hcs
  replace hwd := Lib.hid hwd; replace hsn := Lib.hid hsn; replace hT1 := Lib.hid hT1; replace hT2 := Lib.hid hT2; replace hsa := Lib.hid hsa
  go_enter Try.func3, Try.ntmps3
  go_upto_region 1 with (fail)
  refine wp_world fun W HW => ?_
  have hB : Below w.heap.size w W := by rw [HW.out]; (repeat (first | exact Below.refl _ _ | refine Below.alloc ?_ (by simp; try omega) _ | refine Below.setCell ?_ (by simp) _ | refine Below.drew ?_))
  have d0 : W.cell? ⟨w.heap.size, 0, none⟩ = some (.int .i64 n) := by rw [HW.out]; simp [go_sem]
  have d1 : W.cell? ⟨w.heap.size, 1, none⟩ = some (.slice s l.length cap) := by rw [HW.out]; simp [go_sem]
  have d2 : W.cell? ⟨w.heap.size, 2, none⟩ = some (.slice s2 K.length cq) := by rw [HW.out]; simp [go_sem]
  have dl : w.heap.size < W.heap.size := World.block_lt_of_cell? W _ d0
  have o0 : W.cell? ⟨w.heap.size + 1, 0, none⟩ = some (.int .i64 p.x) := by rw [HW.out]; simp [go_sem]
  have o1 : W.cell? ⟨w.heap.size + 1, 1, none⟩ = some (.int .i64 p.y) := by rw [HW.out]; simp [go_sem]
  have o2 : W.cell? ⟨w.heap.size + 1, 2, none⟩ = some (.int .i64 p.z) := by rw [HW.out]; simp [go_sem]
  have ol : w.heap.size + 1 < W.heap.size := World.block_lt_of_cell? W _ o0
  try replace hr := up_of hB hr
  go_upto_region 2 with (first | (go_at_call 13; refine (hwd.out _ hr).mono ?_; rintro e W1 ⟨⟨b, rfl⟩, hb⟩; replace hB := up_of hb hB; replace hr := up_of hb hr; replace d0 := up_of hb d0; replace d1 := up_of hb d1; replace d2 := up_of hb d2; replace o0 := up_of hb o0; replace o1 := up_of hb o1; replace o2 := up_of hb o2; cases b))
  rotate_left
  · go_wp2_with (first | (go_at_call 14; refine (hsn.out _).mono ?_; rintro e W1 ⟨rfl, hb⟩; (try replace hr := up_of hb hr); (try replace hB := up_of hb hB); (try replace d0 := up_of hb d0); (try replace d1 := up_of hb d1); (try replace d2 := up_of hb d2); (try replace dl := up_of hb dl); (try replace o0 := up_of hb o0); (try replace o1 := up_of hb o1); (try replace o2 := up_of hb o2); (try replace ol := up_of hb ol)))
    go_ret
    exact ⟨rfl, hB⟩
  go_upto_region 4 with (first | (go_at_call 15; refine (hT1.out _ hr).mono ?_; rintro e W2 ⟨⟨s3, c3, t3, q3, rfl, hi1, hv1⟩, hb⟩; (try replace hr := up_of hb hr); (try replace hB := up_of hb hB); (try replace d0 := up_of hb d0); (try replace d1 := up_of hb d1); (try replace d2 := up_of hb d2); (try replace dl := up_of hb dl); (try replace o0 := up_of hb o0); (try replace o1 := up_of hb o1); (try replace o2 := up_of hb o2); (try replace ol := up_of hb ol)))
  refine wp_world fun Y HY => ?_
  have hY : Below W2.heap.size W2 Y := by rw [HY.out]; (repeat (first | exact Below.refl _ _ | refine Below.alloc ?_ (by simp; try omega) _ | refine Below.setCell ?_ (by simp) _ | refine Below.drew ?_))
  have aB : Row Y (W2.heap.size) 27 #[.int .i64 N, .slice s3 L.length c3, .slice t3 T.length q3] := (by rw [HY.out]; (repeat (first | (refine blk_new ?_; simp; done) | refine blk_old ?_ _)) : Y.heap[W2.heap.size]? = some (.cells #[.int .i64 N, .slice s3 L.length c3, .slice t3 T.length q3] 27 (0, 0)))
  have a0 : Y.cell? ⟨W2.heap.size, 0, none⟩ = some (.int .i64 N) := by rw [HY.out]; simp [go_sem]
  have a1 : Y.cell? ⟨W2.heap.size, 1, none⟩ = some (.slice s3 L.length c3) := by rw [HY.out]; simp [go_sem]
  have a2 : Y.cell? ⟨W2.heap.size, 2, none⟩ = some (.slice t3 T.length q3) := by rw [HY.out]; simp [go_sem]
  have al : W2.heap.size < Y.heap.size := World.block_lt_of_cell? Y _ a0
  try replace hB := up_of hY hB
  try replace hr := up_of hY hr
  try replace d0 := up_of hY d0
  try replace d1 := up_of hY d1
  try replace d2 := up_of hY d2
  try replace o0 := up_of hY o0
  try replace o1 := up_of hY o1
  try replace o2 := up_of hY o2
  replace hi1 := up_of hY hi1; replace hv1 := up_of hY hv1
  go_upto_region 5 with (first | (go_at_call 16; refine (hT2.out _ hr).mono ?_; rintro e W3 ⟨⟨s4, c4, t4, q4, rfl, hi2, hv2⟩, hb⟩; (try replace hB := up_of hb hB); (try replace hr := up_of hb hr); (try replace d0 := up_of hb d0); (try replace d1 := up_of hb d1); (try replace d2 := up_of hb d2); (try replace o0 := up_of hb o0); (try replace o1 := up_of hb o1); (try replace o2 := up_of hb o2); (try replace hY := up_of hb hY); (try replace aB := up_of hb aB); (try replace a0 := up_of hb a0); (try replace a1 := up_of hb a1); (try replace a2 := up_of hb a2); (try replace al := up_of hb al); (try replace hi1 := up_of hb hi1); (try replace hv1 := up_of hb hv1)))
  refine wp_world fun Z HZ => ?_
  have hZ : Below W3.heap.size W3 Z := by rw [HZ.out]; (repeat (first | exact Below.refl _ _ | refine Below.alloc ?_ (by simp; try omega) _ | refine Below.setCell ?_ (by simp) _ | refine Below.drew ?_))
  have bB : Row Z (W3.heap.size) 27 #[.int .i64 N, .slice s4 L.length c4, .slice t4 T.length q4] := (by rw [HZ.out]; (repeat (first | (refine blk_new ?_; simp; done) | refine blk_old ?_ _)) : Z.heap[W3.heap.size]? = some (.cells #[.int .i64 N, .slice s4 L.length c4, .slice t4 T.length q4] 27 (0, 0)))
  have b0 : Z.cell? ⟨W3.heap.size, 0, none⟩ = some (.int .i64 N) := by rw [HZ.out]; simp [go_sem]
  have b1 : Z.cell? ⟨W3.heap.size, 1, none⟩ = some (.slice s4 L.length c4) := by rw [HZ.out]; simp [go_sem]
  have b2 : Z.cell? ⟨W3.heap.size, 2, none⟩ = some (.slice t4 T.length q4) := by rw [HZ.out]; simp [go_sem]
  have bl : W3.heap.size < Z.heap.size := World.block_lt_of_cell? Z _ b0
  try replace hB := up_of hZ hB
  try replace hi1 := up_of hZ hi1
  try replace hv1 := up_of hZ hv1
  try replace a0 := up_of hZ a0
  try replace a1 := up_of hZ a1
  try replace a2 := up_of hZ a2
  replace hi2 := up_of hZ hi2; replace hv2 := up_of hZ hv2
  go_wp2_with (first | (go_at_call 17; refine (hsa.out _ _ _ _ _ _ _ _ _ hi1 hi2 hv1 hv2).mono ?_; rintro e W1 ⟨rfl, hb⟩; (try replace hB := up_of hb hB); (try replace hi1 := up_of hb hi1); (try replace hv1 := up_of hb hv1); (try replace a0 := up_of hb a0); (try replace a1 := up_of hb a1); (try replace a2 := up_of hb a2); (try replace hZ := up_of hb hZ); (try replace bB := up_of hb bB); (try replace b0 := up_of hb b0); (try replace b1 := up_of hb b1); (try replace b2 := up_of hb b2); (try replace bl := up_of hb bl)) | (go_at_call 14; refine (hsn.out _).mono ?_; rintro e W1 ⟨rfl, hb⟩; (try replace hB := up_of hb hB); (try replace hi1 := up_of hb hi1); (try replace hv1 := up_of hb hv1); (try replace a0 := up_of hb a0); (try replace a1 := up_of hb a1); (try replace a2 := up_of hb a2); (try replace hZ := up_of hb hZ); (try replace bB := up_of hb bB); (try replace b0 := up_of hb b0); (try replace b1 := up_of hb b1); (try replace b2 := up_of hb b2); (try replace bl := up_of hb bl)))
  go_ret
  exact ⟨rfl, hB⟩
end Go.Proofs.Ytadmnlkgefbhcaa
