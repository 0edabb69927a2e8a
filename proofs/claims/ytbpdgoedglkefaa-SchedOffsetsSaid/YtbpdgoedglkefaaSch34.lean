/- SchedOffsets returns true. -/
import Derived.Test.YtbpdgoedglkefaaSch33
import Derived.Test.YtbpdgoedglkefaaSch21
import Derived.Test.YtbpdgoedglkefaaSch16
namespace Go.Proofs.Ytbpdgoedglkefaa
open Go.RowKit

theorem circ_len {K : List Vv} {f : Pt} {l : List (Nat × Nat)} (h : circB K f (UL l) = true) (hk : K.length ≤ 20) : (UL l).length ≤ 20 := by
  have hb : ∀ i, i < (UL l).length → badU K (UL l) i = false := fun i hi => by
    cases hb : badU K (UL l) i
    · rfl
    · rw [circ_no hi hb] at h; cases h
  have hn : (l.map Prod.fst).Nodup := by
    rw [List.nodup_iff_pairwise_ne, List.pairwise_iff_getElem]
    intro i j hi hj hij e
    have hi1 : i < l.length := by simpa using hi
    have hj1 : j < l.length := by simpa using hj
    have hjU : j < (UL l).length := by rw [UL_len]; exact hj1
    have hiU : i < (UL l).length := by rw [UL_len]; exact hi1
    have h2 := hb j hjU
    rw [badU_at hjU] at h2
    simp only [Bool.or_eq_false_iff] at h2
    have h3 : seenU (UL l) j (UL l)[j].v = true := seenU_iff.2 ⟨i, hiU, hij, by
      rw [UL_at hiU hi1, UL_at hjU hj1]
      simp only [List.getElem_map] at e
      show ((l[i].1 : Nat) : Int) = (l[j].1 : Nat)
      rw [e]⟩
    rw [h3] at h2
    simp at h2
  have hlt : ∀ x ∈ l.map Prod.fst, x < K.length := by
    intro x hx
    obtain ⟨y, hy, rfl⟩ := List.mem_map.1 hx
    obtain ⟨i, hi, rfl⟩ := List.getElem_of_mem hy
    have hiU : i < (UL l).length := by rw [UL_len]; exact hi
    have h2 := hb i hiU
    rw [badU_at hiU, UL_at hiU hi] at h2
    simp only [Bool.or_eq_false_iff, Bool.not_eq_false'] at h2
    obtain ⟨k, j, hk2, hj, e1, e2, e3⟩ := inU_parts h2.1
    have : (l[i].1 : Int) = k := e1
    omega
  have := nodup_len K.length _ hn hlt
  rw [List.length_map] at this
  rw [UL_len]; omega
theorem nil_own (w : World) (base : Nat) : w.ownsRow base 3 1 (.slice none 0 0) 0 (intE.all []) := World.ownsRow_nil _ _ _ _
set_option maxRecDepth 100000 in
set_option maxHeartbeats 4000000 in
theorem SchedOffsets_w (n : Int) (s : Option Addr) (cap : Nat) (l : List Iq) (s2 : Option Addr) (cq : Nat) (K : List Vv) (f : Pt) (w : World) (hr : RecM w s l s2 cq K) :
    Calls Try.prog 10 #[.agg #[.int .i64 n, .slice s l.length cap, .slice s2 K.length cq], .agg #[.int .i64 f.x, .int .i64 f.y, .int .i64 f.z]] w fun e w' => e = .returned (.bool true) ∧ Below w.heap.size w w' := by
  have hwi := fun V (h : RecM V s l s2 cq K) => Wide_c n s cap l s2 cq K V h
  obtain ⟨WB, hWB⟩ : ∃ x, wideB l K = x := ⟨_, rfl⟩
  simp only [hWB] at hwi
  clear hWB
  replace hwi := Lib.hid hwi
  cases WB
  case true =>
    go_enter Try.func10, Try.ntmps10
    go_upto_region 1 with (fail)
    refine wp_world fun W HW => ?_
    have hB : Below w.heap.size w W := by rw [HW.out]; (repeat (first | exact Below.refl _ _ | refine Below.alloc ?_ (by simp; try omega) _ | refine Below.setCell ?_ (by simp) _ | refine Below.drew ?_))
    have d0 : W.cell? ⟨w.heap.size, 0, none⟩ = some (.int .i64 n) := by rw [HW.out]; simp [go_sem]
    have d1 : W.cell? ⟨w.heap.size, 1, none⟩ = some (.slice s l.length cap) := by rw [HW.out]; simp [go_sem]
    have d2 : W.cell? ⟨w.heap.size, 2, none⟩ = some (.slice s2 K.length cq) := by rw [HW.out]; simp [go_sem]
    have dl : w.heap.size < W.heap.size := World.block_lt_of_cell? W _ d0
    have g0 : W.cell? ⟨w.heap.size + 1, 0, none⟩ = some (.int .i64 f.x) := by rw [HW.out]; simp [go_sem]
    have g1 : W.cell? ⟨w.heap.size + 1, 1, none⟩ = some (.int .i64 f.y) := by rw [HW.out]; simp [go_sem]
    have g2 : W.cell? ⟨w.heap.size + 1, 2, none⟩ = some (.int .i64 f.z) := by rw [HW.out]; simp [go_sem]
    have gl : w.heap.size + 1 < W.heap.size := World.block_lt_of_cell? W _ g0
    try replace hr := up_of hB hr
    go_wp2_with (first | (go_at_call 16; refine (hwi.out _ hr).mono ?_; rintro e W1 ⟨rfl, hb⟩; (try replace hr := up_of hb hr); (try replace hB := up_of hb hB); (try replace d0 := up_of hb d0); (try replace d1 := up_of hb d1); (try replace d2 := up_of hb d2); (try replace dl := up_of hb dl); (try replace g0 := up_of hb g0); (try replace g1 := up_of hb g1); (try replace g2 := up_of hb g2); (try replace gl := up_of hb gl)) | (go_at_call 18; refine (Awake_c _).mono ?_; rintro e W1 ⟨rfl, hb⟩; (try replace hr := up_of hb hr); (try replace hB := up_of hb hB); (try replace d0 := up_of hb d0); (try replace d1 := up_of hb d1); (try replace d2 := up_of hb d2); (try replace dl := up_of hb dl); (try replace g0 := up_of hb g0); (try replace g1 := up_of hb g1); (try replace g2 := up_of hb g2); (try replace gl := up_of hb gl)))
    go_ret
    exact ⟨rfl, hB⟩
  have hsi := fun V (c1 c2 : Nat) => SameInts_eq none none c1 c2 [] V (.inl rfl) (.inl rfl) (by simp)
  simp only [List.length_nil] at hsi
  by_cases h0 : frmE n l K f = 0
  case neg =>
    have h1 := fun V (h : RecM V s l s2 cq K) => Offsets_bad n s cap l s2 cq K f V h h0
    have h2 := fun V (h : RecM V s l s2 cq K) => rOffsets_bad n s cap l s2 cq K f V h h0
    have h3 := fun V (h : RecM V s l s2 cq K) => Circle_bad n s cap l s2 cq K f V h h0
    have h5 : frmE n l K f ≠ 5 := by unfold frmE; (repeat' split) <;> decide
    obtain ⟨E, hE⟩ : ∃ x, frmE n l K f = x := ⟨_, rfl⟩
    simp only [hE] at h1 h2 h3 h0 h5
    have k0 : (E == E) = true := by simp
    have k1 : (E == 0) = false := by simp [h0]
    have k2 : (E == 5) = false := by simp [h5]
    have k3 : (E != E) = false := by simp
    clear hE
    replace h1 := Lib.hid h1; replace h2 := Lib.hid h2; replace h3 := Lib.hid h3; replace hsi := Lib.hid hsi
    go_enter Try.func10, Try.ntmps10
    go_upto_region 1 with (fail)
    refine wp_world fun W HW => ?_
    have hB : Below w.heap.size w W := by rw [HW.out]; (repeat (first | exact Below.refl _ _ | refine Below.alloc ?_ (by simp; try omega) _ | refine Below.setCell ?_ (by simp) _ | refine Below.drew ?_))
    have d0 : W.cell? ⟨w.heap.size, 0, none⟩ = some (.int .i64 n) := by rw [HW.out]; simp [go_sem]
    have d1 : W.cell? ⟨w.heap.size, 1, none⟩ = some (.slice s l.length cap) := by rw [HW.out]; simp [go_sem]
    have d2 : W.cell? ⟨w.heap.size, 2, none⟩ = some (.slice s2 K.length cq) := by rw [HW.out]; simp [go_sem]
    have dl : w.heap.size < W.heap.size := World.block_lt_of_cell? W _ d0
    have g0 : W.cell? ⟨w.heap.size + 1, 0, none⟩ = some (.int .i64 f.x) := by rw [HW.out]; simp [go_sem]
    have g1 : W.cell? ⟨w.heap.size + 1, 1, none⟩ = some (.int .i64 f.y) := by rw [HW.out]; simp [go_sem]
    have g2 : W.cell? ⟨w.heap.size + 1, 2, none⟩ = some (.int .i64 f.z) := by rw [HW.out]; simp [go_sem]
    have gl : w.heap.size + 1 < W.heap.size := World.block_lt_of_cell? W _ g0
    try replace hr := up_of hB hr
    go_upto_region 6 with (first | (go_at_call 16; refine (hwi.out _ hr).mono ?_; rintro e W1 ⟨rfl, hb⟩; (try replace hr := up_of hb hr); (try replace hB := up_of hb hB); (try replace d0 := up_of hb d0); (try replace d1 := up_of hb d1); (try replace d2 := up_of hb d2); (try replace dl := up_of hb dl); (try replace g0 := up_of hb g0); (try replace g1 := up_of hb g1); (try replace g2 := up_of hb g2); (try replace gl := up_of hb gl)) | (go_at_call 34; refine (h1.out _ hr).mono ?_; rintro e W1 ⟨rfl, hb⟩; (try replace hr := up_of hb hr); (try replace hB := up_of hb hB); (try replace d0 := up_of hb d0); (try replace d1 := up_of hb d1); (try replace d2 := up_of hb d2); (try replace dl := up_of hb dl); (try replace g0 := up_of hb g0); (try replace g1 := up_of hb g1); (try replace g2 := up_of hb g2); (try replace gl := up_of hb gl)) | (go_at_call 43; refine (h2.out _ hr).mono ?_; rintro e W1 ⟨rfl, hb⟩; (try replace hr := up_of hb hr); (try replace hB := up_of hb hB); (try replace d0 := up_of hb d0); (try replace d1 := up_of hb d1); (try replace d2 := up_of hb d2); (try replace dl := up_of hb dl); (try replace g0 := up_of hb g0); (try replace g1 := up_of hb g1); (try replace g2 := up_of hb g2); (try replace gl := up_of hb gl)) | (go_at_call 44; refine (h3.out _ hr).mono ?_; rintro e W1 ⟨rfl, hb⟩; (try replace hr := up_of hb hr); (try replace hB := up_of hb hB); (try replace d0 := up_of hb d0); (try replace d1 := up_of hb d1); (try replace d2 := up_of hb d2); (try replace dl := up_of hb dl); (try replace g0 := up_of hb g0); (try replace g1 := up_of hb g1); (try replace g2 := up_of hb g2); (try replace gl := up_of hb gl)))
    go_wp2_with (first | (go_at_call 45; refine (hsi.out _ _ _).mono ?_; rintro e W1 ⟨rfl, hb⟩; (try replace hr := up_of hb hr); (try replace hB := up_of hb hB); (try replace d0 := up_of hb d0); (try replace d1 := up_of hb d1); (try replace d2 := up_of hb d2); (try replace dl := up_of hb dl); (try replace g0 := up_of hb g0); (try replace g1 := up_of hb g1); (try replace g2 := up_of hb g2); (try replace gl := up_of hb gl)) | (go_at_call 18; refine (Awake_c _).mono ?_; rintro e W1 ⟨rfl, hb⟩; (try replace hr := up_of hb hr); (try replace hB := up_of hb hB); (try replace d0 := up_of hb d0); (try replace d1 := up_of hb d1); (try replace d2 := up_of hb d2); (try replace dl := up_of hb dl); (try replace g0 := up_of hb g0); (try replace g1 := up_of hb g1); (try replace g2 := up_of hb g2); (try replace gl := up_of hb gl)))
    go_ret
    exact ⟨rfl, hB⟩
  obtain ⟨hrb, hff⟩ := frm_ok h0
  have hk4 := rec_len hrb
  cases hb : bfR K f with
  | some o =>
    have hol : o.length = K.length := by
      have h1 : bf (grG K f) (K.length + 1) (zeros (grG K f).length) = some o := by rw [gr_len]; exact hb
      rw [(bf_ok h1).1, gr_len]
    have h1 := fun V (h : RecM V s l s2 cq K) => Offsets_some n s cap l s2 cq K f V h h0 hb
    have h2 := fun V (h : RecM V s l s2 cq K) => rOffsets_some n s cap l s2 cq K f V h h0 hb
    have h3 := fun V (h : RecM V s l s2 cq K) => Circle_c n s cap l s2 cq K f V h h0
    rw [cir_none hb] at h3
    unfold CirE at h3
    replace h3 : ∀ V, RecM V s l s2 cq K → Calls Try.prog 44 #[.agg #[.int .i64 n, .slice s l.length cap, .slice s2 K.length cq], .agg #[.int .i64 f.x, .int .i64 f.y, .int .i64 f.z]] V fun e w' => (∃ s' c', e = .returned (.tuple #[.slice s' 0 c', .int .i64 5])) ∧ Below V.heap.size V w' := fun V h => (h3 V h).mono fun e w' ⟨⟨s', c', O, he, hn, _⟩, hb⟩ => by
      rw [hn rfl] at he
      exact ⟨⟨s', c', he⟩, hb⟩
    have hse := fun V s3 s4 c3 c4 (h3 : SlS intE V s3 o) (h4 : SlS intE V s4 o) => SameInts_eq s3 s4 c3 c4 o V h3 h4 (by omega)
    replace h1 := Lib.hid h1; replace h2 := Lib.hid h2; replace h3 := Lib.hid h3; replace hse := Lib.hid hse
    clear hsi hrb hff hb h0 hol
    go_enter Try.func10, Try.ntmps10
    go_upto_region 1 with (fail)
    refine wp_world fun W HW => ?_
    have hB : Below w.heap.size w W := by rw [HW.out]; (repeat (first | exact Below.refl _ _ | refine Below.alloc ?_ (by simp; try omega) _ | refine Below.setCell ?_ (by simp) _ | refine Below.drew ?_))
    have d0 : W.cell? ⟨w.heap.size, 0, none⟩ = some (.int .i64 n) := by rw [HW.out]; simp [go_sem]
    have d1 : W.cell? ⟨w.heap.size, 1, none⟩ = some (.slice s l.length cap) := by rw [HW.out]; simp [go_sem]
    have d2 : W.cell? ⟨w.heap.size, 2, none⟩ = some (.slice s2 K.length cq) := by rw [HW.out]; simp [go_sem]
    have dl : w.heap.size < W.heap.size := World.block_lt_of_cell? W _ d0
    have g0 : W.cell? ⟨w.heap.size + 1, 0, none⟩ = some (.int .i64 f.x) := by rw [HW.out]; simp [go_sem]
    have g1 : W.cell? ⟨w.heap.size + 1, 1, none⟩ = some (.int .i64 f.y) := by rw [HW.out]; simp [go_sem]
    have g2 : W.cell? ⟨w.heap.size + 1, 2, none⟩ = some (.int .i64 f.z) := by rw [HW.out]; simp [go_sem]
    have gl : w.heap.size + 1 < W.heap.size := World.block_lt_of_cell? W _ g0
    try replace hr := up_of hB hr
    go_upto_region 4 with (first | (go_at_call 16; refine (hwi.out _ hr).mono ?_; rintro e W1 ⟨rfl, hb⟩; (try replace hr := up_of hb hr); (try replace hB := up_of hb hB); (try replace d0 := up_of hb d0); (try replace d1 := up_of hb d1); (try replace d2 := up_of hb d2); (try replace dl := up_of hb dl); (try replace g0 := up_of hb g0); (try replace g1 := up_of hb g1); (try replace g2 := up_of hb g2); (try replace gl := up_of hb gl)) | (go_at_call 34; refine (h1.out _ hr).mono ?_; rintro e W1 ⟨⟨s3, c3, rfl, hown3⟩, hb⟩; (try replace hr := up_of hb hr); (try replace hB := up_of hb hB); (try replace d0 := up_of hb d0); (try replace d1 := up_of hb d1); (try replace d2 := up_of hb d2); (try replace dl := up_of hb dl); (try replace g0 := up_of hb g0); (try replace g1 := up_of hb g1); (try replace g2 := up_of hb g2); (try replace gl := up_of hb gl)))
    have i3 := SlS.of_own (E := intE) hown3
    clear hown3
    go_upto_region 5 with (first | (go_at_call 43; refine (h2.out _ hr).mono ?_; rintro e W1 ⟨⟨s4, c4, rfl, hown4⟩, hb⟩; (try replace hr := up_of hb hr); (try replace hB := up_of hb hB); (try replace d0 := up_of hb d0); (try replace d1 := up_of hb d1); (try replace d2 := up_of hb d2); (try replace dl := up_of hb dl); (try replace g0 := up_of hb g0); (try replace g1 := up_of hb g1); (try replace g2 := up_of hb g2); (try replace gl := up_of hb gl); (try replace i3 := up_of hb i3)))
    have i4 := SlS.of_own (E := intE) hown4
    clear hown4
    go_upto_region 6 with (first | (go_at_call 44; refine (h3.out _ hr).mono ?_; rintro e W1 ⟨⟨s5, c5, rfl⟩, hb⟩; (try replace hr := up_of hb hr); (try replace hB := up_of hb hB); (try replace d0 := up_of hb d0); (try replace d1 := up_of hb d1); (try replace d2 := up_of hb d2); (try replace dl := up_of hb dl); (try replace g0 := up_of hb g0); (try replace g1 := up_of hb g1); (try replace g2 := up_of hb g2); (try replace gl := up_of hb gl); (try replace i3 := up_of hb i3); (try replace i4 := up_of hb i4)))
    go_wp2_with (first | (go_at_call 45; refine (hse.out _ _ _ _ _ i3 i4).mono ?_; rintro e W1 ⟨rfl, hb⟩; (try replace hr := up_of hb hr); (try replace hB := up_of hb hB); (try replace d0 := up_of hb d0); (try replace d1 := up_of hb d1); (try replace d2 := up_of hb d2); (try replace dl := up_of hb dl); (try replace g0 := up_of hb g0); (try replace g1 := up_of hb g1); (try replace g2 := up_of hb g2); (try replace gl := up_of hb gl); (try replace i3 := up_of hb i3); (try replace i4 := up_of hb i4)) | (go_at_call 18; refine (Awake_c _).mono ?_; rintro e W1 ⟨rfl, hb⟩; (try replace hr := up_of hb hr); (try replace hB := up_of hb hB); (try replace d0 := up_of hb d0); (try replace d1 := up_of hb d1); (try replace d2 := up_of hb d2); (try replace dl := up_of hb dl); (try replace g0 := up_of hb g0); (try replace g1 := up_of hb g1); (try replace g2 := up_of hb g2); (try replace gl := up_of hb gl); (try replace i3 := up_of hb i3); (try replace i4 := up_of hb i4)))
    go_ret
    exact ⟨rfl, hB⟩
  | none =>
    obtain ⟨o, ho⟩ := cir_some (rec_args hrb) hb
    obtain ⟨hc1, hc2⟩ := cir_ok ho
    have h1 := fun V (h : RecM V s l s2 cq K) => Offsets_none n s cap l s2 cq K f V h h0 hb
    have h2 := fun V (h : RecM V s l s2 cq K) => rOffsets_none n s cap l s2 cq K f V h h0 hb
    have h3 := fun V (h : RecM V s l s2 cq K) => Circle_c n s cap l s2 cq K f V h h0
    rw [ho] at h3
    unfold CirE at h3
    replace h3 : ∀ V, RecM V s l s2 cq K → Calls Try.prog 44 #[.agg #[.int .i64 n, .slice s l.length cap, .slice s2 K.length cq], .agg #[.int .i64 f.x, .int .i64 f.y, .int .i64 f.z]] V fun e w' => (∃ s' c', e = .returned (.tuple #[.slice s' (UL o).length c', .int .i64 0]) ∧ SlS usE w' s' (UL o) ∧ (UL o).length ≤ c' ∧ c' ≤ 9223372036854775807) ∧ Below V.heap.size V w' := fun V h => (h3 V h).mono fun e w' ⟨⟨s', c', O, he, _, hs⟩, hb⟩ => by
      obtain ⟨rfl, h2⟩ := hs o rfl
      exact ⟨⟨s', c', he, h2⟩, hb⟩
    have hul : (UL o).length ≤ 20 := circ_len hc1 (by omega)
    have h4 := fun V t ct (h : RecM V s l s2 cq K) (h2 : SlS usE V t (UL o)) (h3 : (UL o).length ≤ ct ∧ ct ≤ 9223372036854775807) => rIsCircle_c n s cap l s2 cq K f t ct (UL o) V h h2 hul h3.1 h3.2
    have hcr : circR n l K f (UL o) = true := by unfold circR; rw [decide_eq_true h0, hc1]; rfl
    simp only [hcr, h0] at h4
    have hu0 : 0 < (UL o).length := by
      rw [UL_len]; exact List.length_pos_iff.2 hc2
    obtain ⟨U, hU⟩ : ∃ x, UL o = x := ⟨_, rfl⟩
    simp only [hU] at h3 h4 hu0 hul
    clear hc1 hc2 ho hcr hU hb h0 hrb hff
    have k1 : (0 : Int) < (U.length : Int) := by omega
    replace h1 := Lib.hid h1; replace h2 := Lib.hid h2; replace h3 := Lib.hid h3; replace h4 := Lib.hid h4; replace hsi := Lib.hid hsi
    go_enter Try.func10, Try.ntmps10
    go_upto_region 1 with (fail)
    refine wp_world fun W HW => ?_
    have hB : Below w.heap.size w W := by rw [HW.out]; (repeat (first | exact Below.refl _ _ | refine Below.alloc ?_ (by simp; try omega) _ | refine Below.setCell ?_ (by simp) _ | refine Below.drew ?_))
    have d0 : W.cell? ⟨w.heap.size, 0, none⟩ = some (.int .i64 n) := by rw [HW.out]; simp [go_sem]
    have d1 : W.cell? ⟨w.heap.size, 1, none⟩ = some (.slice s l.length cap) := by rw [HW.out]; simp [go_sem]
    have d2 : W.cell? ⟨w.heap.size, 2, none⟩ = some (.slice s2 K.length cq) := by rw [HW.out]; simp [go_sem]
    have dl : w.heap.size < W.heap.size := World.block_lt_of_cell? W _ d0
    have g0 : W.cell? ⟨w.heap.size + 1, 0, none⟩ = some (.int .i64 f.x) := by rw [HW.out]; simp [go_sem]
    have g1 : W.cell? ⟨w.heap.size + 1, 1, none⟩ = some (.int .i64 f.y) := by rw [HW.out]; simp [go_sem]
    have g2 : W.cell? ⟨w.heap.size + 1, 2, none⟩ = some (.int .i64 f.z) := by rw [HW.out]; simp [go_sem]
    have gl : w.heap.size + 1 < W.heap.size := World.block_lt_of_cell? W _ g0
    try replace hr := up_of hB hr
    go_upto_region 6 with (first | (go_at_call 16; refine (hwi.out _ hr).mono ?_; rintro e W1 ⟨rfl, hb⟩; (try replace hr := up_of hb hr); (try replace hB := up_of hb hB); (try replace d0 := up_of hb d0); (try replace d1 := up_of hb d1); (try replace d2 := up_of hb d2); (try replace dl := up_of hb dl); (try replace g0 := up_of hb g0); (try replace g1 := up_of hb g1); (try replace g2 := up_of hb g2); (try replace gl := up_of hb gl)) | (go_at_call 34; refine (h1.out _ hr).mono ?_; rintro e W1 ⟨rfl, hb⟩; (try replace hr := up_of hb hr); (try replace hB := up_of hb hB); (try replace d0 := up_of hb d0); (try replace d1 := up_of hb d1); (try replace d2 := up_of hb d2); (try replace dl := up_of hb dl); (try replace g0 := up_of hb g0); (try replace g1 := up_of hb g1); (try replace g2 := up_of hb g2); (try replace gl := up_of hb gl)) | (go_at_call 43; refine (h2.out _ hr).mono ?_; rintro e W1 ⟨rfl, hb⟩; (try replace hr := up_of hb hr); (try replace hB := up_of hb hB); (try replace d0 := up_of hb d0); (try replace d1 := up_of hb d1); (try replace d2 := up_of hb d2); (try replace dl := up_of hb dl); (try replace g0 := up_of hb g0); (try replace g1 := up_of hb g1); (try replace g2 := up_of hb g2); (try replace gl := up_of hb gl)) | (go_at_call 44; refine (h3.out _ hr).mono ?_; rintro e W1 ⟨⟨s5, c5, rfl, i5, h5⟩, hb⟩; (try replace hr := up_of hb hr); (try replace hB := up_of hb hB); (try replace d0 := up_of hb d0); (try replace d1 := up_of hb d1); (try replace d2 := up_of hb d2); (try replace dl := up_of hb dl); (try replace g0 := up_of hb g0); (try replace g1 := up_of hb g1); (try replace g2 := up_of hb g2); (try replace gl := up_of hb gl)))
    replace h5 := Lib.hid h5
    go_upto_region 12 with (first | (go_at_call 45; refine (hsi.out _ _ _).mono ?_; rintro e W1 ⟨rfl, hb⟩; (try replace hr := up_of hb hr); (try replace hB := up_of hb hB); (try replace d0 := up_of hb d0); (try replace d1 := up_of hb d1); (try replace d2 := up_of hb d2); (try replace dl := up_of hb dl); (try replace g0 := up_of hb g0); (try replace g1 := up_of hb g1); (try replace g2 := up_of hb g2); (try replace gl := up_of hb gl); (try replace i5 := up_of hb i5)))
    go_wp2_with (first | (go_at_call 33; refine (h4.out _ s5 c5 hr i5 h5.out).mono ?_; rintro e W1 ⟨rfl, hb⟩; (try replace hr := up_of hb hr); (try replace hB := up_of hb hB); (try replace d0 := up_of hb d0); (try replace d1 := up_of hb d1); (try replace d2 := up_of hb d2); (try replace dl := up_of hb dl); (try replace g0 := up_of hb g0); (try replace g1 := up_of hb g1); (try replace g2 := up_of hb g2); (try replace gl := up_of hb gl); (try replace i5 := up_of hb i5)) | (go_at_call 18; refine (Awake_c _).mono ?_; rintro e W1 ⟨rfl, hb⟩; (try replace hr := up_of hb hr); (try replace hB := up_of hb hB); (try replace d0 := up_of hb d0); (try replace d1 := up_of hb d1); (try replace d2 := up_of hb d2); (try replace dl := up_of hb dl); (try replace g0 := up_of hb g0); (try replace g1 := up_of hb g1); (try replace g2 := up_of hb g2); (try replace gl := up_of hb gl); (try replace i5 := up_of hb i5)))
    go_ret
    exact ⟨rfl, hB⟩
end Go.Proofs.Ytbpdgoedglkefaa
