/- Offsets and circles, as exported. -/
import Derived.Test.YtbpdgoedglkefaaSch18
import Derived.Test.YtbpdgoedglkefaaSch30
import Derived.Test.YtbpdgoedglkefaaSch31
import Derived.Test.YtbpdgoedglkefaaSch32
import Derived.Test.YtbpdgoedglkefaaSchOff2
namespace Go.Proofs.Ytbpdgoedglkefaa
open Go.RowKit

theorem rec_len {n : Int} {l : List Iq} {K : List Vv} (h : recB n l K = true) : 1 ≤ K.length ∧ K.length ≤ 4 := by
  unfold recB at h
  rw [Bool.and_eq_true, Bool.and_eq_true, Bool.and_eq_true] at h
  have := bw_iff.1 h.2.2.1
  omega
set_option maxRecDepth 100000 in
set_option maxHeartbeats 1000000 in
theorem Offsets_bad (n : Int) (s : Option Addr) (cap : Nat) (l : List Iq) (s2 : Option Addr) (cq : Nat) (K : List Vv) (f : Pt) (w : World) (hr : RecM w s l s2 cq K) (h : frmE n l K f ≠ 0) :
    Calls Try.prog 34 #[.agg #[.int .i64 n, .slice s l.length cap, .slice s2 K.length cq], .agg #[.int .i64 f.x, .int .i64 f.y, .int .i64 f.z]] w fun e w' => e = .returned (.tuple #[.slice none 0 0, .int .i64 (frmE n l K f)]) ∧ Below w.heap.size w w' := by
  have hfo := fun V (h : RecM V s l s2 cq K) => formed_c n s cap l s2 cq K f V h
  obtain ⟨E, hE⟩ : ∃ x, frmE n l K f = x := ⟨_, rfl⟩
  simp only [hE] at hfo h ⊢
  have k1 : (E != 0) = true := bne_iff_ne.2 h
  replace hfo := Lib.hid hfo
  clear hE
  go_enter Try.func34, Try.ntmps34
  go_upto_region 1 with (fail)
  refine wp_world fun W HW => ?_
  have hB : Below w.heap.size w W := by rw [HW.out]; (repeat (first | exact Below.refl _ _ | refine Below.alloc ?_ (by simp; try omega) _ | refine Below.setCell ?_ (by simp) _ | refine Below.drew ?_))
  have d0 : W.cell? ⟨w.heap.size, 0, none⟩ = some (.int .i64 n) := by rw [HW.out]; simp [go_sem]
  have d1 : W.cell? ⟨w.heap.size, 1, none⟩ = some (.slice s l.length cap) := by rw [HW.out]; simp [go_sem]
  have d2 : W.cell? ⟨w.heap.size, 2, none⟩ = some (.slice s2 K.length cq) := by rw [HW.out]; simp [go_sem]
  have dl : w.heap.size < W.heap.size := World.block_lt_of_cell? W _ d0
  have g0 : W.cell? ⟨w.heap.size + 1, 0, none⟩ = some (.int .i64 f.x) := by rw [HW.out]; simp [go_sem]
  have g1 : W.cell? ⟨w.heap.size + 1, 1, none⟩ = some (.int .i64 f.y) := by rw [HW.out]; simp [go_sem]
  have g2 : W.cell? ⟨w.heap.size + 1, 2, none⟩ = some (.int .i64 f.z) := by rw [HW.out]; simp [go_sem]
  have gl : w.heap.size + 1 < W.heap.size := World.block_lt_of_cell? W _ g0
  try replace hr := up_of hB hr
  go_wp2_with (first | (go_at_call 75; refine (hfo.out _ hr).mono ?_; rintro e W1 ⟨rfl, hb⟩; (try replace hr := up_of hb hr); (try replace hB := up_of hb hB); (try replace d0 := up_of hb d0); (try replace d1 := up_of hb d1); (try replace d2 := up_of hb d2); (try replace dl := up_of hb dl); (try replace g0 := up_of hb g0); (try replace g1 := up_of hb g1); (try replace g2 := up_of hb g2); (try replace gl := up_of hb gl)))
  go_ret2
  exact ⟨rfl, hB⟩
set_option maxRecDepth 100000 in
set_option maxHeartbeats 1000000 in
theorem Offsets_none (n : Int) (s : Option Addr) (cap : Nat) (l : List Iq) (s2 : Option Addr) (cq : Nat) (K : List Vv) (f : Pt) (w : World) (hr : RecM w s l s2 cq K) (h : frmE n l K f = 0) (hb : bfR K f = none) :
    Calls Try.prog 34 #[.agg #[.int .i64 n, .slice s l.length cap, .slice s2 K.length cq], .agg #[.int .i64 f.x, .int .i64 f.y, .int .i64 f.z]] w fun e w' => e = .returned (.tuple #[.slice none 0 0, .int .i64 5]) ∧ Below w.heap.size w w' := by
  have hfo := fun V (h : RecM V s l s2 cq K) => formed_c n s cap l s2 cq K f V h
  obtain ⟨hrb, hff⟩ := frm_ok h
  simp only [h] at hfo
  have hk4 := rec_len hrb
  have hof := fun V (hV : RecM V s l s2 cq K) => offsets_c n s cap l.length s2 cq K f V hV.vars hk4 (rec_args hrb) (rec_near hrb) (flat_abs hff)
  simp only [hb] at hof
  simp only [Option.getD_none, Option.isSome_none, List.length_nil] at hof
  replace hfo := Lib.hid hfo; replace hof := Lib.hid hof
  clear h hb hrb hff hk4
  go_enter Try.func34, Try.ntmps34
  go_upto_region 1 with (fail)
  refine wp_world fun W HW => ?_
  have hB : Below w.heap.size w W := by rw [HW.out]; (repeat (first | exact Below.refl _ _ | refine Below.alloc ?_ (by simp; try omega) _ | refine Below.setCell ?_ (by simp) _ | refine Below.drew ?_))
  have d0 : W.cell? ⟨w.heap.size, 0, none⟩ = some (.int .i64 n) := by rw [HW.out]; simp [go_sem]
  have d1 : W.cell? ⟨w.heap.size, 1, none⟩ = some (.slice s l.length cap) := by rw [HW.out]; simp [go_sem]
  have d2 : W.cell? ⟨w.heap.size, 2, none⟩ = some (.slice s2 K.length cq) := by rw [HW.out]; simp [go_sem]
  have dl : w.heap.size < W.heap.size := World.block_lt_of_cell? W _ d0
  have g0 : W.cell? ⟨w.heap.size + 1, 0, none⟩ = some (.int .i64 f.x) := by rw [HW.out]; simp [go_sem]
  have g1 : W.cell? ⟨w.heap.size + 1, 1, none⟩ = some (.int .i64 f.y) := by rw [HW.out]; simp [go_sem]
  have g2 : W.cell? ⟨w.heap.size + 1, 2, none⟩ = some (.int .i64 f.z) := by rw [HW.out]; simp [go_sem]
  have gl : w.heap.size + 1 < W.heap.size := World.block_lt_of_cell? W _ g0
  try replace hr := up_of hB hr
  go_wp2_with (first | (go_at_call 75; refine (hfo.out _ hr).mono ?_; rintro e W1 ⟨rfl, hb⟩; (try replace hr := up_of hb hr); (try replace hB := up_of hb hB); (try replace d0 := up_of hb d0); (try replace d1 := up_of hb d1); (try replace d2 := up_of hb d2); (try replace dl := up_of hb dl); (try replace g0 := up_of hb g0); (try replace g1 := up_of hb g1); (try replace g2 := up_of hb g2); (try replace gl := up_of hb gl)) | (go_at_call 79; refine (hof.out _ hr).mono ?_; rintro e W1 ⟨⟨s4, c4, rfl, hown⟩, hb⟩; (try replace hr := up_of hb hr); (try replace hB := up_of hb hB); (try replace d0 := up_of hb d0); (try replace d1 := up_of hb d1); (try replace d2 := up_of hb d2); (try replace dl := up_of hb dl); (try replace g0 := up_of hb g0); (try replace g1 := up_of hb g1); (try replace g2 := up_of hb g2); (try replace gl := up_of hb gl)))
  go_ret2
  exact ⟨rfl, hB⟩
set_option maxRecDepth 100000 in
set_option maxHeartbeats 1000000 in
theorem Offsets_some (n : Int) (s : Option Addr) (cap : Nat) (l : List Iq) (s2 : Option Addr) (cq : Nat) (K : List Vv) (f : Pt) (w : World) (hr : RecM w s l s2 cq K) (h : frmE n l K f = 0) {o : List Int} (hb : bfR K f = some o) :
    Calls Try.prog 34 #[.agg #[.int .i64 n, .slice s l.length cap, .slice s2 K.length cq], .agg #[.int .i64 f.x, .int .i64 f.y, .int .i64 f.z]] w fun e w' => (∃ s' c', e = .returned (.tuple #[.slice s' o.length c', .int .i64 0]) ∧ w'.ownsRow w.heap.size 3 1 (.slice s' o.length c') o.length (intE.all o)) ∧ Below w.heap.size w w' := by
  have hfo := fun V (h : RecM V s l s2 cq K) => formed_c n s cap l s2 cq K f V h
  obtain ⟨hrb, hff⟩ := frm_ok h
  simp only [h] at hfo
  have hk4 := rec_len hrb
  have hof := fun V (hV : RecM V s l s2 cq K) => offsets_c n s cap l.length s2 cq K f V hV.vars hk4 (rec_args hrb) (rec_near hrb) (flat_abs hff)
  simp only [hb] at hof
  simp only [Option.getD_some, Option.isSome_some] at hof
  replace hfo := Lib.hid hfo; replace hof := Lib.hid hof
  clear h hb hrb hff hk4
  go_enter Try.func34, Try.ntmps34
  go_upto_region 1 with (fail)
  refine wp_world fun W HW => ?_
  have hB : Below w.heap.size w W := by rw [HW.out]; (repeat (first | exact Below.refl _ _ | refine Below.alloc ?_ (by simp; try omega) _ | refine Below.setCell ?_ (by simp) _ | refine Below.drew ?_))
  have d0 : W.cell? ⟨w.heap.size, 0, none⟩ = some (.int .i64 n) := by rw [HW.out]; simp [go_sem]
  have d1 : W.cell? ⟨w.heap.size, 1, none⟩ = some (.slice s l.length cap) := by rw [HW.out]; simp [go_sem]
  have d2 : W.cell? ⟨w.heap.size, 2, none⟩ = some (.slice s2 K.length cq) := by rw [HW.out]; simp [go_sem]
  have dl : w.heap.size < W.heap.size := World.block_lt_of_cell? W _ d0
  have g0 : W.cell? ⟨w.heap.size + 1, 0, none⟩ = some (.int .i64 f.x) := by rw [HW.out]; simp [go_sem]
  have g1 : W.cell? ⟨w.heap.size + 1, 1, none⟩ = some (.int .i64 f.y) := by rw [HW.out]; simp [go_sem]
  have g2 : W.cell? ⟨w.heap.size + 1, 2, none⟩ = some (.int .i64 f.z) := by rw [HW.out]; simp [go_sem]
  have gl : w.heap.size + 1 < W.heap.size := World.block_lt_of_cell? W _ g0
  try replace hr := up_of hB hr
  go_upto_region 4 with (first | (go_at_call 75; refine (hfo.out _ hr).mono ?_; rintro e W1 ⟨rfl, hb⟩; (try replace hr := up_of hb hr); (try replace hB := up_of hb hB); (try replace d0 := up_of hb d0); (try replace d1 := up_of hb d1); (try replace d2 := up_of hb d2); (try replace dl := up_of hb dl); (try replace g0 := up_of hb g0); (try replace g1 := up_of hb g1); (try replace g2 := up_of hb g2); (try replace gl := up_of hb gl)))
  have hsz := hB.size
  go_wp2_with (first | (go_at_call 79; refine (hof.out _ hr).mono ?_; rintro e W1 ⟨⟨s4, c4, rfl, hown⟩, hb⟩; (try replace hr := up_of hb hr); (try replace hB := up_of hb hB); (try replace d0 := up_of hb d0); (try replace d1 := up_of hb d1); (try replace d2 := up_of hb d2); (try replace dl := up_of hb dl); (try replace g0 := up_of hb g0); (try replace g1 := up_of hb g1); (try replace g2 := up_of hb g2); (try replace gl := up_of hb gl)))
  go_ret2
  exact ⟨⟨s4, c4, rfl, owns_mono hown hsz⟩, hB⟩

set_option maxRecDepth 100000 in
set_option maxHeartbeats 1000000 in
theorem rOffsets_bad (n : Int) (s : Option Addr) (cap : Nat) (l : List Iq) (s2 : Option Addr) (cq : Nat) (K : List Vv) (f : Pt) (w : World) (hr : RecM w s l s2 cq K) (h : frmE n l K f ≠ 0) :
    Calls Try.prog 43 #[.agg #[.int .i64 n, .slice s l.length cap, .slice s2 K.length cq], .agg #[.int .i64 f.x, .int .i64 f.y, .int .i64 f.z]] w fun e w' => e = .returned (.tuple #[.slice none 0 0, .int .i64 (frmE n l K f)]) ∧ Below w.heap.size w w' := by
  have hfo := fun V (h : RecM V s l s2 cq K) => rFormed_c n s cap l s2 cq K f V h
  obtain ⟨E, hE⟩ : ∃ x, frmE n l K f = x := ⟨_, rfl⟩
  simp only [hE] at hfo h ⊢
  have k1 : (E != 0) = true := bne_iff_ne.2 h
  replace hfo := Lib.hid hfo
  clear hE
  go_enter Try.func43, Try.ntmps43
  go_upto_region 1 with (fail)
  refine wp_world fun W HW => ?_
  have hB : Below w.heap.size w W := by rw [HW.out]; (repeat (first | exact Below.refl _ _ | refine Below.alloc ?_ (by simp; try omega) _ | refine Below.setCell ?_ (by simp) _ | refine Below.drew ?_))
  have d0 : W.cell? ⟨w.heap.size, 0, none⟩ = some (.int .i64 n) := by rw [HW.out]; simp [go_sem]
  have d1 : W.cell? ⟨w.heap.size, 1, none⟩ = some (.slice s l.length cap) := by rw [HW.out]; simp [go_sem]
  have d2 : W.cell? ⟨w.heap.size, 2, none⟩ = some (.slice s2 K.length cq) := by rw [HW.out]; simp [go_sem]
  have dl : w.heap.size < W.heap.size := World.block_lt_of_cell? W _ d0
  have g0 : W.cell? ⟨w.heap.size + 1, 0, none⟩ = some (.int .i64 f.x) := by rw [HW.out]; simp [go_sem]
  have g1 : W.cell? ⟨w.heap.size + 1, 1, none⟩ = some (.int .i64 f.y) := by rw [HW.out]; simp [go_sem]
  have g2 : W.cell? ⟨w.heap.size + 1, 2, none⟩ = some (.int .i64 f.z) := by rw [HW.out]; simp [go_sem]
  have gl : w.heap.size + 1 < W.heap.size := World.block_lt_of_cell? W _ g0
  try replace hr := up_of hB hr
  go_wp2_with (first | (go_at_call 77; refine (hfo.out _ hr).mono ?_; rintro e W1 ⟨rfl, hb⟩; (try replace hr := up_of hb hr); (try replace hB := up_of hb hB); (try replace d0 := up_of hb d0); (try replace d1 := up_of hb d1); (try replace d2 := up_of hb d2); (try replace dl := up_of hb dl); (try replace g0 := up_of hb g0); (try replace g1 := up_of hb g1); (try replace g2 := up_of hb g2); (try replace gl := up_of hb gl)))
  go_ret2
  exact ⟨rfl, hB⟩
set_option maxRecDepth 100000 in
set_option maxHeartbeats 1000000 in
theorem rOffsets_none (n : Int) (s : Option Addr) (cap : Nat) (l : List Iq) (s2 : Option Addr) (cq : Nat) (K : List Vv) (f : Pt) (w : World) (hr : RecM w s l s2 cq K) (h : frmE n l K f = 0) (hb : bfR K f = none) :
    Calls Try.prog 43 #[.agg #[.int .i64 n, .slice s l.length cap, .slice s2 K.length cq], .agg #[.int .i64 f.x, .int .i64 f.y, .int .i64 f.z]] w fun e w' => e = .returned (.tuple #[.slice none 0 0, .int .i64 5]) ∧ Below w.heap.size w w' := by
  have hfo := fun V (h : RecM V s l s2 cq K) => rFormed_c n s cap l s2 cq K f V h
  obtain ⟨hrb, hff⟩ := frm_ok h
  simp only [h] at hfo
  have hk4 := rec_len hrb
  have hof := fun V (hV : RecM V s l s2 cq K) => rOffsets_c n s cap l.length s2 cq K f V hV.vars hk4 (rec_args hrb) (rec_near hrb) (flat_abs hff)
  simp only [hb] at hof
  simp only [Option.getD_none, Option.isSome_none, List.length_nil] at hof
  replace hfo := Lib.hid hfo; replace hof := Lib.hid hof
  clear h hb hrb hff hk4
  go_enter Try.func43, Try.ntmps43
  go_upto_region 1 with (fail)
  refine wp_world fun W HW => ?_
  have hB : Below w.heap.size w W := by rw [HW.out]; (repeat (first | exact Below.refl _ _ | refine Below.alloc ?_ (by simp; try omega) _ | refine Below.setCell ?_ (by simp) _ | refine Below.drew ?_))
  have d0 : W.cell? ⟨w.heap.size, 0, none⟩ = some (.int .i64 n) := by rw [HW.out]; simp [go_sem]
  have d1 : W.cell? ⟨w.heap.size, 1, none⟩ = some (.slice s l.length cap) := by rw [HW.out]; simp [go_sem]
  have d2 : W.cell? ⟨w.heap.size, 2, none⟩ = some (.slice s2 K.length cq) := by rw [HW.out]; simp [go_sem]
  have dl : w.heap.size < W.heap.size := World.block_lt_of_cell? W _ d0
  have g0 : W.cell? ⟨w.heap.size + 1, 0, none⟩ = some (.int .i64 f.x) := by rw [HW.out]; simp [go_sem]
  have g1 : W.cell? ⟨w.heap.size + 1, 1, none⟩ = some (.int .i64 f.y) := by rw [HW.out]; simp [go_sem]
  have g2 : W.cell? ⟨w.heap.size + 1, 2, none⟩ = some (.int .i64 f.z) := by rw [HW.out]; simp [go_sem]
  have gl : w.heap.size + 1 < W.heap.size := World.block_lt_of_cell? W _ g0
  try replace hr := up_of hB hr
  go_wp2_with (first | (go_at_call 77; refine (hfo.out _ hr).mono ?_; rintro e W1 ⟨rfl, hb⟩; (try replace hr := up_of hb hr); (try replace hB := up_of hb hB); (try replace d0 := up_of hb d0); (try replace d1 := up_of hb d1); (try replace d2 := up_of hb d2); (try replace dl := up_of hb dl); (try replace g0 := up_of hb g0); (try replace g1 := up_of hb g1); (try replace g2 := up_of hb g2); (try replace gl := up_of hb gl)) | (go_at_call 81; refine (hof.out _ hr).mono ?_; rintro e W1 ⟨⟨s4, c4, rfl, hown⟩, hb⟩; (try replace hr := up_of hb hr); (try replace hB := up_of hb hB); (try replace d0 := up_of hb d0); (try replace d1 := up_of hb d1); (try replace d2 := up_of hb d2); (try replace dl := up_of hb dl); (try replace g0 := up_of hb g0); (try replace g1 := up_of hb g1); (try replace g2 := up_of hb g2); (try replace gl := up_of hb gl)))
  go_ret2
  exact ⟨rfl, hB⟩
set_option maxRecDepth 100000 in
set_option maxHeartbeats 1000000 in
theorem rOffsets_some (n : Int) (s : Option Addr) (cap : Nat) (l : List Iq) (s2 : Option Addr) (cq : Nat) (K : List Vv) (f : Pt) (w : World) (hr : RecM w s l s2 cq K) (h : frmE n l K f = 0) {o : List Int} (hb : bfR K f = some o) :
    Calls Try.prog 43 #[.agg #[.int .i64 n, .slice s l.length cap, .slice s2 K.length cq], .agg #[.int .i64 f.x, .int .i64 f.y, .int .i64 f.z]] w fun e w' => (∃ s' c', e = .returned (.tuple #[.slice s' o.length c', .int .i64 0]) ∧ w'.ownsRow w.heap.size 3 1 (.slice s' o.length c') o.length (intE.all o)) ∧ Below w.heap.size w w' := by
  have hfo := fun V (h : RecM V s l s2 cq K) => rFormed_c n s cap l s2 cq K f V h
  obtain ⟨hrb, hff⟩ := frm_ok h
  simp only [h] at hfo
  have hk4 := rec_len hrb
  have hof := fun V (hV : RecM V s l s2 cq K) => rOffsets_c n s cap l.length s2 cq K f V hV.vars hk4 (rec_args hrb) (rec_near hrb) (flat_abs hff)
  simp only [hb] at hof
  simp only [Option.getD_some, Option.isSome_some] at hof
  replace hfo := Lib.hid hfo; replace hof := Lib.hid hof
  clear h hb hrb hff hk4
  go_enter Try.func43, Try.ntmps43
  go_upto_region 1 with (fail)
  refine wp_world fun W HW => ?_
  have hB : Below w.heap.size w W := by rw [HW.out]; (repeat (first | exact Below.refl _ _ | refine Below.alloc ?_ (by simp; try omega) _ | refine Below.setCell ?_ (by simp) _ | refine Below.drew ?_))
  have d0 : W.cell? ⟨w.heap.size, 0, none⟩ = some (.int .i64 n) := by rw [HW.out]; simp [go_sem]
  have d1 : W.cell? ⟨w.heap.size, 1, none⟩ = some (.slice s l.length cap) := by rw [HW.out]; simp [go_sem]
  have d2 : W.cell? ⟨w.heap.size, 2, none⟩ = some (.slice s2 K.length cq) := by rw [HW.out]; simp [go_sem]
  have dl : w.heap.size < W.heap.size := World.block_lt_of_cell? W _ d0
  have g0 : W.cell? ⟨w.heap.size + 1, 0, none⟩ = some (.int .i64 f.x) := by rw [HW.out]; simp [go_sem]
  have g1 : W.cell? ⟨w.heap.size + 1, 1, none⟩ = some (.int .i64 f.y) := by rw [HW.out]; simp [go_sem]
  have g2 : W.cell? ⟨w.heap.size + 1, 2, none⟩ = some (.int .i64 f.z) := by rw [HW.out]; simp [go_sem]
  have gl : w.heap.size + 1 < W.heap.size := World.block_lt_of_cell? W _ g0
  try replace hr := up_of hB hr
  go_upto_region 4 with (first | (go_at_call 77; refine (hfo.out _ hr).mono ?_; rintro e W1 ⟨rfl, hb⟩; (try replace hr := up_of hb hr); (try replace hB := up_of hb hB); (try replace d0 := up_of hb d0); (try replace d1 := up_of hb d1); (try replace d2 := up_of hb d2); (try replace dl := up_of hb dl); (try replace g0 := up_of hb g0); (try replace g1 := up_of hb g1); (try replace g2 := up_of hb g2); (try replace gl := up_of hb gl)))
  have hsz := hB.size
  go_wp2_with (first | (go_at_call 81; refine (hof.out _ hr).mono ?_; rintro e W1 ⟨⟨s4, c4, rfl, hown⟩, hb⟩; (try replace hr := up_of hb hr); (try replace hB := up_of hb hB); (try replace d0 := up_of hb d0); (try replace d1 := up_of hb d1); (try replace d2 := up_of hb d2); (try replace dl := up_of hb dl); (try replace g0 := up_of hb g0); (try replace g1 := up_of hb g1); (try replace g2 := up_of hb g2); (try replace gl := up_of hb gl)))
  go_ret2
  exact ⟨⟨s4, c4, rfl, owns_mono hown hsz⟩, hB⟩

set_option maxRecDepth 100000 in
set_option maxHeartbeats 1000000 in
theorem Circle_bad (n : Int) (s : Option Addr) (cap : Nat) (l : List Iq) (s2 : Option Addr) (cq : Nat) (K : List Vv) (f : Pt) (w : World) (hr : RecM w s l s2 cq K) (h : frmE n l K f ≠ 0) :
    Calls Try.prog 44 #[.agg #[.int .i64 n, .slice s l.length cap, .slice s2 K.length cq], .agg #[.int .i64 f.x, .int .i64 f.y, .int .i64 f.z]] w fun e w' => e = .returned (.tuple #[.slice none 0 0, .int .i64 (frmE n l K f)]) ∧ Below w.heap.size w w' := by
  have hfo := fun V (h : RecM V s l s2 cq K) => formed_c n s cap l s2 cq K f V h
  obtain ⟨E, hE⟩ : ∃ x, frmE n l K f = x := ⟨_, rfl⟩
  simp only [hE] at hfo h ⊢
  have k1 : (E != 0) = true := bne_iff_ne.2 h
  replace hfo := Lib.hid hfo
  clear hE
  go_enter Try.func44, Try.ntmps44
  go_upto_region 1 with (fail)
  refine wp_world fun W HW => ?_
  have hB : Below w.heap.size w W := by rw [HW.out]; (repeat (first | exact Below.refl _ _ | refine Below.alloc ?_ (by simp; try omega) _ | refine Below.setCell ?_ (by simp) _ | refine Below.drew ?_))
  have d0 : W.cell? ⟨w.heap.size, 0, none⟩ = some (.int .i64 n) := by rw [HW.out]; simp [go_sem]
  have d1 : W.cell? ⟨w.heap.size, 1, none⟩ = some (.slice s l.length cap) := by rw [HW.out]; simp [go_sem]
  have d2 : W.cell? ⟨w.heap.size, 2, none⟩ = some (.slice s2 K.length cq) := by rw [HW.out]; simp [go_sem]
  have dl : w.heap.size < W.heap.size := World.block_lt_of_cell? W _ d0
  have g0 : W.cell? ⟨w.heap.size + 1, 0, none⟩ = some (.int .i64 f.x) := by rw [HW.out]; simp [go_sem]
  have g1 : W.cell? ⟨w.heap.size + 1, 1, none⟩ = some (.int .i64 f.y) := by rw [HW.out]; simp [go_sem]
  have g2 : W.cell? ⟨w.heap.size + 1, 2, none⟩ = some (.int .i64 f.z) := by rw [HW.out]; simp [go_sem]
  have gl : w.heap.size + 1 < W.heap.size := World.block_lt_of_cell? W _ g0
  try replace hr := up_of hB hr
  go_wp2_with (first | (go_at_call 75; refine (hfo.out _ hr).mono ?_; rintro e W1 ⟨rfl, hb⟩; (try replace hr := up_of hb hr); (try replace hB := up_of hb hB); (try replace d0 := up_of hb d0); (try replace d1 := up_of hb d1); (try replace d2 := up_of hb d2); (try replace dl := up_of hb dl); (try replace g0 := up_of hb g0); (try replace g1 := up_of hb g1); (try replace g2 := up_of hb g2); (try replace gl := up_of hb gl)))
  go_ret2
  exact ⟨rfl, hB⟩
/-- What Circle returns. -/
def CirE (R : Option (List (Nat × Nat))) (w : World) (e : Ending) (w' : World) : Prop :=
  (∃ s' c' O, e = .returned (.tuple #[.slice s' (O : List Us).length c', .int .i64 (if R.isSome then 0 else 5)]) ∧ (R = none → O = []) ∧ ∀ o, R = some o → O = UL o ∧ SlS usE w' s' O ∧ O.length ≤ c' ∧ c' ≤ 9223372036854775807) ∧ Below w.heap.size w w'
set_option maxRecDepth 100000 in
set_option maxHeartbeats 1000000 in
theorem Circle_c (n : Int) (s : Option Addr) (cap : Nat) (l : List Iq) (s2 : Option Addr) (cq : Nat) (K : List Vv) (f : Pt) (w : World) (hr : RecM w s l s2 cq K) (h : frmE n l K f = 0) :
    Calls Try.prog 44 #[.agg #[.int .i64 n, .slice s l.length cap, .slice s2 K.length cq], .agg #[.int .i64 f.x, .int .i64 f.y, .int .i64 f.z]] w (CirE (cirR K f) w) := by
  have hfo := fun V (h : RecM V s l s2 cq K) => formed_c n s cap l s2 cq K f V h
  obtain ⟨hrb, hff⟩ := frm_ok h
  simp only [h] at hfo
  have hk4 := rec_len hrb
  have hci : ∀ v, v < K.length → ∀ V, RecM V s l s2 cq K → Calls Try.prog 88 #[.agg #[.int .i64 n, .slice s l.length cap, .slice s2 K.length cq], .agg #[.int .i64 f.x, .int .i64 f.y, .int .i64 f.z], .slice none 0 0, .int .i64 v] V (CirR (srch (grG K f) (fun l => circB K f (UL l)) (K.length + 1) [] v) V) := fun v hv V hV =>
    circle_c n s cap l.length s2 cq K f hk4.2 (rec_args hrb) (rec_near hrb) (flat_abs hff) (K.length + 1) [] v none 0 V hV.vars (.inl rfl) (fun _ => rfl) ⟨Nat.zero_le _, by omega⟩ (by simp) (by simp) hv (by simp)
  unfold CirR at hci
  obtain ⟨F, hF, hR⟩ : ∃ F : Nat → Option (List (Nat × Nat)), (∀ v, srch (grG K f) (fun l => circB K f (UL l)) (K.length + 1) [] v = F v) ∧ cirR K f = (List.range K.length).findSome? F := ⟨_, fun _ => rfl, rfl⟩
  simp only [hF] at hci
  have hyes := fun i o => fs_range (f := F) (o := o) K.length (i := i)
  have hnone := fs_none (f := F) (n := K.length)
  rw [← hR] at hnone
  simp only [← hR] at hyes
  obtain ⟨R, hR2⟩ : ∃ x, cirR K f = x := ⟨_, rfl⟩
  simp only [hR2] at hnone hyes ⊢
  clear hF hR hR2 hrb hff h
  unfold CirE
  obtain ⟨Z, hZ⟩ : ∃ Z, (if R.isSome then (0 : Int) else 5) = Z := ⟨_, rfl⟩
  rw [hZ]
  replace hZ := Lib.hid hZ
  replace hfo := Lib.hid hfo; replace hci := Lib.hid hci; replace hyes := Lib.hid hyes; replace hnone := Lib.hid hnone
  go_enter Try.func44, Try.ntmps44
  go_upto_region 1 with (fail)
  refine wp_world fun W HW => ?_
  have hB : Below w.heap.size w W := by rw [HW.out]; (repeat (first | exact Below.refl _ _ | refine Below.alloc ?_ (by simp; try omega) _ | refine Below.setCell ?_ (by simp) _ | refine Below.drew ?_))
  have d0 : W.cell? ⟨w.heap.size, 0, none⟩ = some (.int .i64 n) := by rw [HW.out]; simp [go_sem]
  have d1 : W.cell? ⟨w.heap.size, 1, none⟩ = some (.slice s l.length cap) := by rw [HW.out]; simp [go_sem]
  have d2 : W.cell? ⟨w.heap.size, 2, none⟩ = some (.slice s2 K.length cq) := by rw [HW.out]; simp [go_sem]
  have dl : w.heap.size < W.heap.size := World.block_lt_of_cell? W _ d0
  have g0 : W.cell? ⟨w.heap.size + 1, 0, none⟩ = some (.int .i64 f.x) := by rw [HW.out]; simp [go_sem]
  have g1 : W.cell? ⟨w.heap.size + 1, 1, none⟩ = some (.int .i64 f.y) := by rw [HW.out]; simp [go_sem]
  have g2 : W.cell? ⟨w.heap.size + 1, 2, none⟩ = some (.int .i64 f.z) := by rw [HW.out]; simp [go_sem]
  have gl : w.heap.size + 1 < W.heap.size := World.block_lt_of_cell? W _ g0
  try replace hr := up_of hB hr
  go_upto_region 4 with (first | (go_at_call 75; refine (hfo.out _ hr).mono ?_; rintro e W2 ⟨rfl, hb⟩; (try replace hr := up_of hb hr); (try replace hB := up_of hb hB); (try replace d0 := up_of hb d0); (try replace d1 := up_of hb d1); (try replace d2 := up_of hb d2); (try replace dl := up_of hb dl); (try replace g0 := up_of hb g0); (try replace g1 := up_of hb g1); (try replace g2 := up_of hb g2); (try replace gl := up_of hb gl)))
  go_wp2
  go_loopw [19] (fun ii V => ∃ i : Nat, i ≤ K.length ∧ ii = .int .i64 i ∧ Hid (∀ j, j < i → F j = none) ∧ Below W2.heap.size W2 V) (fun ii _ => K.length - (intOf ii).toNat)
  case atStart => exact ⟨0, by omega, rfl, fun j h => absurd h (by omega), Below.refl _ _⟩
  case round =>
    obtain ⟨i, hi, rfl, hno, hBV⟩ := hrel
    try replace hr := up_of hBV hr
    try replace hB := up_of hBV hB
    try replace d0 := up_of hBV d0
    try replace d1 := up_of hBV d1
    try replace d2 := up_of hBV d2
    try replace dl := up_of hBV dl
    try replace g0 := up_of hBV g0
    try replace g1 := up_of hBV g1
    try replace g2 := up_of hBV g2
    try replace gl := up_of hBV gl
    by_cases hlt : i < K.length
    · have hcv := hci.out i hlt
      have hyv := fun o => hyes.out i o hlt hno.out
      have hnv : F i = none → ∀ j, j < i + 1 → F j = none := fun h => upto_succ hno.out h
      replace hcv := Lib.hid hcv; replace hyv := Lib.hid hyv; replace hnv := Lib.hid hnv
      clear hno
      have gi1 : (0 : Int) ≤ (i : Int) := by omega
      have gi2 : (i : Int) < (K.length : Int) := by omega
      go_upto_region 8 with (fail)
      go_upto_region 8 with (first | (go_at_call 88; refine (hcv.out _ hr).mono ?_; rintro e W3 ⟨⟨s4, c4, O, okb, rfl, hok, hO⟩, hb⟩; (try replace hr := up_of hb hr); (try replace hB := up_of hb hB); (try replace d0 := up_of hb d0); (try replace d1 := up_of hb d1); (try replace d2 := up_of hb d2); (try replace dl := up_of hb dl); (try replace g0 := up_of hb g0); (try replace g1 := up_of hb g1); (try replace g2 := up_of hb g2); (try replace gl := up_of hb gl); (try replace hBV := up_of hb hBV)))
      rcases hFi : F i with _ | o
      · rw [hFi] at hok hO
        obtain rfl : okb = false := hok
        have hn8 := Lib.hid (hnv.out hFi)
        replace hFi := Lib.hid hFi; replace hO := Lib.hid hO
        go_wp2
        go_roundw
        case rel => exact ⟨i + 1, by omega, rfl, hn8, hBV⟩
        case measure => exact meas hlt
      · rw [hFi] at hok hO
        obtain rfl : okb = true := hok
        have hO1 := hO o rfl
        have hR2 := hyv.out o hFi
        replace hR2 := Lib.hid hR2
        replace hFi := Lib.hid hFi; replace hO1 := Lib.hid hO1; replace hO := Lib.hid hO
        go_wp2
        go_ret2
        exact ⟨⟨s4, c4, O, by rw [← hZ.out, hR2.out]; rfl, fun e => (by rw [hR2.out] at e; cases e), fun o' ho' => by rw [hR2.out] at ho'; cases ho'; exact hO1.out⟩, hB⟩
    · obtain rfl : i = K.length := by omega
      have hR2 := hnone.out hno.out
      replace hR2 := Lib.hid hR2
      clear hno
      go_wp2
      go_ret2
      exact ⟨⟨none, 0, [], by rw [← hZ.out, hR2.out]; rfl, fun _ => rfl, fun o ho => by rw [hR2.out] at ho; cases ho⟩, hB⟩
end Go.Proofs.Ytbpdgoedglkefaa
