/- Schedules: forms, and which fit: the program and the reference. -/
import Derived.Test.YtbpdgoedglkefaaRec6
namespace Go.Proofs.Ytbpdgoedglkefaa
open Go.RowKit

def Pt.get (p : Pt) (i : Nat) : Int := if i = 0 then p.x else if i = 1 then p.y else p.z
theorem ixk (p : Pt) (w : World) {k : Nat} (hk : k < 3) : (Instr.index 29 (.agg #[.int .i64 p.x, .int .i64 p.y, .int .i64 p.z]) (.int .i64 k)).run Try.prog w = .ok (.int .i64 (p.get k)) w := by
  have h : k = 0 ∨ k = 1 ∨ k = 2 := by omega
  rcases h with rfl | rfl | rfl
  · exact ix0 _ _ _ _
  · exact ix1 _ _ _ _
  · exact ix2 _ _ _ _
theorem flat_no {p : Pt} {n m : Int} {k : Nat} (hk : k < 3) (h : flatC k (p.get k) n m = false) : flatB p n m = false := by
  have : k = 0 ∨ k = 1 ∨ k = 2 := by omega
  rcases this with rfl | rfl | rfl
  all_goals
    simp [Pt.get] at h
    simp [flatB, h]
theorem flat_yes {p : Pt} {n m : Int} (h : ∀ k : Nat, k < 3 → flatC k (p.get k) n m = true) : flatB p n m = true := by
  have h0 := h 0 (by omega); have h1 := h 1 (by omega); have h2 := h 2 (by omega)
  simp [Pt.get] at h0 h1 h2
  simp [flatB, h0, h1, h2]

/-- Which offsets fit. -/
def offB (off : List Int) : Bool := off.all fun x => bw 0 x 1000
/-- Which schedules fit a recurrence with so many variables. -/
def fitB (n : Int) (nv : Nat) (f : Pt) (off : List Int) : Bool := flatB f n 9 && (decide (off.length = nv) && offB off)

theorem schBetween_c (a b c : Int) (w : World) :
    Calls Try.prog 59 #[.int .i64 a, .int .i64 b, .int .i64 c] w fun e w' => e = .returned (.bool (bw a b c)) ∧ w = w' := by
  by_cases h1 : a ≤ b
  all_goals
    go_enter Try.func59, Try.ntmps59
    go_wp2
    go_ret
    exact ⟨ret_bool (by simp [bw]; omega), rfl⟩
theorem schTimes_c (a p : Pt) (w : World) :
    Calls Try.prog 60 #[.agg #[.int .i64 a.x, .int .i64 a.y, .int .i64 a.z], .agg #[.int .i64 p.x, .int .i64 p.y, .int .i64 p.z]] w fun e w' => e = .returned (.int .i64 (wrap64 (dotZ a p))) ∧ Below w.heap.size w w' := by
  go_enter Try.func60, Try.ntmps60
  go_wp2
  go_ret
  exact ⟨ret_int (wrap_dot _ _ _), ((Below.refl _ w).alloc (Nat.le_refl _) _).alloc (by simp) _⟩
set_option maxRecDepth 100000 in
theorem fits1_c (x : Int) (w : World) : Calls Try.prog 117 #[.int .i64 x] w fun e w' => e = .returned (.bool (!bw 0 x 1000)) ∧ Below w.heap.size w w' := by
  go_enter Try.func117, Try.ntmps117
  go_wp2_with (first | (go_at_call 59; refine (schBetween_c _ _ _ _).mono ?_; rintro e w' ⟨rfl, rfl⟩))
  go_ret
  exact ⟨rfl, Below.refl _ _⟩
set_option maxRecDepth 100000 in
set_option maxHeartbeats 1000000 in
theorem isForm_c (p : Pt) (n : Int) (w : World) :
    Calls Try.prog 116 #[.agg #[.int .i64 p.x, .int .i64 p.y, .int .i64 p.z], .int .i64 n] w fun e w' => e = .returned (.bool (flatB p n 9)) ∧ Below w.heap.size w w' := by
  have hno := fun (k : Nat) (hk : k < 3) hh => flat_no (p := p) (n := n) (m := 9) hk hh
  have hyes := fun hh => flat_yes (p := p) (n := n) (m := 9) hh
  obtain ⟨B, hB0⟩ : ∃ x, flatB p n 9 = x := ⟨_, rfl⟩
  simp only [hB0] at hno hyes ⊢
  clear hB0
  replace hno := Lib.hid hno; replace hyes := Lib.hid hyes
  go_enter Try.func116, Try.ntmps116
  go_upto_region 1 with (fail)
  refine wp_world fun W HW => ?_
  have hB : Below w.heap.size w W := by rw [HW.out]; (repeat (first | exact Below.refl _ _ | refine Below.alloc ?_ (by simp; try omega) _ | refine Below.setCell ?_ (by simp) _ | refine Below.drew ?_))
  have d0 : W.cell? ⟨w.heap.size, 0, none⟩ = some (.int .i64 p.x) := by rw [HW.out]; simp [go_sem]
  have d1 : W.cell? ⟨w.heap.size, 1, none⟩ = some (.int .i64 p.y) := by rw [HW.out]; simp [go_sem]
  have d2 : W.cell? ⟨w.heap.size, 2, none⟩ = some (.int .i64 p.z) := by rw [HW.out]; simp [go_sem]
  have dl : w.heap.size < W.heap.size := World.block_lt_of_cell? W _ d0
  have hix := fun (i : Nat) (hi : i < 3) => ixk p W hi
  replace hix := Lib.hid hix
  go_wp2
  go_loop [8] (fun ii => ∃ i : Nat, i ≤ 3 ∧ ii = .int .i64 i ∧ Hid (∀ j : Nat, j < i → flatC j (p.get j) n 9 = true)) (fun ii => 3 - (intOf ii).toNat)
  case atStart => exact ⟨0, by omega, rfl, fun j h => absurd h (by omega)⟩
  case round =>
    obtain ⟨i, hi, rfl, hall⟩ := hrel
    by_cases hlt : i < 3
    · have gix := hix.out i hlt
      have hbad := hno.out i hlt
      have hgood : flatC i (p.get i) n 9 = true → ∀ j : Nat, j < i + 1 → flatC j (p.get j) n 9 = true := fun h j hj => by
        by_cases hj2 : j < i
        · exact hall.out j hj2
        · obtain rfl : j = i := by omega
          exact h
      obtain ⟨x, hx⟩ : ∃ x, p.get i = x := ⟨_, rfl⟩
      rw [hx] at gix hbad hgood
      clear hx hall
      unfold flatC at hbad hgood
      have i1 : (i : Int) < 3 := by omega
      have hbt := fun V => schBetween_c (-9) x 9 V
      cases hb2 : bw (-9) x 9
      · rw [hb2] at hbt hbad
        obtain rfl := hbad rfl
        replace hbt := Lib.hid hbt
        clear hgood hb2
        go_wp2_with (first | (go_at_call 59; refine (hbt.out _).mono ?_; rintro e w' ⟨rfl, rfl⟩))
        go_ret
        exact ⟨rfl, hB⟩
      rw [hb2] at hbt hbad hgood
      replace hbt := Lib.hid hbt
      by_cases hin : (i : Int) < n
      · have hok := hgood (by rw [decide_eq_true hin]; rfl)
        have i2 : ¬ n ≤ (i : Int) := by omega
        replace hok := Lib.hid hok
        clear hbad hgood hb2 hin
        go_wp2_with (first | (go_at_call 59; refine (hbt.out _).mono ?_; rintro e w' ⟨rfl, rfl⟩))
        go_round
        case rel => exact ⟨i + 1, by omega, by go_num, hok⟩
        case measure => exact meas hlt
      · have i2 : n ≤ (i : Int) := by omega
        by_cases hx0 : x = 0
        · have hok := hgood (by rw [decide_eq_true hx0]; simp)
          have hz : (x != 0) = false := by rw [hx0]; rfl
          replace hok := Lib.hid hok
          clear hbad hgood hb2 hin hx0
          go_wp2_with (first | (go_at_call 59; refine (hbt.out _).mono ?_; rintro e w' ⟨rfl, rfl⟩))
          go_round
          case rel => exact ⟨i + 1, by omega, by go_num, hok⟩
          case measure => exact meas hlt
        · obtain rfl := hbad (by rw [decide_eq_false hx0, decide_eq_false hin]; rfl)
          have hz : (x != 0) = true := bne_iff_ne.2 hx0
          clear hgood hb2 hin hx0
          go_wp2_with (first | (go_at_call 59; refine (hbt.out _).mono ?_; rintro e w' ⟨rfl, rfl⟩))
          go_ret
          exact ⟨rfl, hB⟩
    · obtain rfl : i = 3 := by omega
      obtain rfl := hyes.out hall.out
      clear hall
      go_wp2
      go_ret
      exact ⟨rfl, hB⟩
set_option maxRecDepth 100000 in
set_option maxHeartbeats 1000000 in
theorem fits_c (n : Int) (s : Option Addr) (cap len : Nat) (s2 : Option Addr) (cq nv : Nat) (f : Pt) (so : Option Addr) (co : Nat) (off : List Int) (w : World) (ho : SlS intE w so off) (hol : off.length ≤ 9223372036854775807) (hnv : nv ≤ 9223372036854775807) :
    Calls Try.prog 72 #[.agg #[.int .i64 n, .slice s len cap, .slice s2 nv cq], .agg #[.int .i64 f.x, .int .i64 f.y, .int .i64 f.z, .slice so off.length co]] w fun e w' => e = .returned (.bool (fitB n nv f off)) ∧ Below w.heap.size w w' := by
  have hif := fun V => isForm_c f n V
  have hcf := fun V (h : SlS intE V so off) => int_containsf 117 #[] (fun _ _ => rfl) so co off (fun x => !bw 0 x 1000) V h hol (fun q _ W _ => fits1_c q W)
  have han : (off.any fun x => !bw 0 x 1000) = !offB off := by unfold offB; rw [← any_not]; simp
  simp only [han] at hcf
  unfold fitB
  obtain ⟨fb, hfb⟩ : ∃ x, flatB f n 9 = x := ⟨_, rfl⟩
  obtain ⟨ob, hob⟩ : ∃ x, offB off = x := ⟨_, rfl⟩
  simp only [hfb] at hif ⊢
  simp only [hob] at hcf ⊢
  clear hfb hob han
  replace hif := Lib.hid hif; replace hcf := Lib.hid hcf
  by_cases hl : off.length = nv
  · rw [decide_eq_true hl]
    have hl2 : ((off.length : Int) == (nv : Int)) = true := by rw [hl]; exact beq_self_eq_true _
    subst hl
    cases fb
    all_goals
      go_enter Try.func72, Try.ntmps72
      go_upto_region 1 with (fail)
      refine wp_world fun W HW => ?_
      have hB : Below w.heap.size w W := by rw [HW.out]; (repeat (first | exact Below.refl _ _ | refine Below.alloc ?_ (by simp; try omega) _ | refine Below.setCell ?_ (by simp) _ | refine Below.drew ?_))
      have d0 : W.cell? ⟨w.heap.size, 0, none⟩ = some (.int .i64 n) := by rw [HW.out]; simp [go_sem]
      have d1 : W.cell? ⟨w.heap.size, 1, none⟩ = some (.slice s len cap) := by rw [HW.out]; simp [go_sem]
      have d2 : W.cell? ⟨w.heap.size, 2, none⟩ = some (.slice s2 off.length cq) := by rw [HW.out]; simp [go_sem]
      have dl : w.heap.size < W.heap.size := World.block_lt_of_cell? W _ d0
      have g0 : W.cell? ⟨w.heap.size + 1, 0, none⟩ = some (.int .i64 f.x) := by rw [HW.out]; simp [go_sem]
      have g1 : W.cell? ⟨w.heap.size + 1, 1, none⟩ = some (.int .i64 f.y) := by rw [HW.out]; simp [go_sem]
      have g2 : W.cell? ⟨w.heap.size + 1, 2, none⟩ = some (.int .i64 f.z) := by rw [HW.out]; simp [go_sem]
      have g3 : W.cell? ⟨w.heap.size + 1, 3, none⟩ = some (.slice so off.length co) := by rw [HW.out]; simp [go_sem]
      have gl : w.heap.size + 1 < W.heap.size := World.block_lt_of_cell? W _ g0
      try replace ho := up_of hB ho
      go_wp2_with (first | (go_at_call 116; refine (hif.out _).mono ?_; rintro e W1 ⟨rfl, hb⟩; (try replace ho := up_of hb ho); (try replace hB := up_of hb hB); (try replace d0 := up_of hb d0); (try replace d1 := up_of hb d1); (try replace d2 := up_of hb d2); (try replace dl := up_of hb dl); (try replace g0 := up_of hb g0); (try replace g1 := up_of hb g1); (try replace g2 := up_of hb g2); (try replace g3 := up_of hb g3); (try replace gl := up_of hb gl)) | (go_at_call 111; refine (hcf.out _ ho).mono ?_; rintro e W1 ⟨rfl, hb⟩; (try replace ho := up_of hb ho); (try replace hB := up_of hb hB); (try replace d0 := up_of hb d0); (try replace d1 := up_of hb d1); (try replace d2 := up_of hb d2); (try replace dl := up_of hb dl); (try replace g0 := up_of hb g0); (try replace g1 := up_of hb g1); (try replace g2 := up_of hb g2); (try replace g3 := up_of hb g3); (try replace gl := up_of hb gl)))
      go_ret
      exact ⟨ret_bool (by simp), hB⟩
  · rw [decide_eq_false hl]
    have hl2 : ((off.length : Int) == (nv : Int)) = false := by simp; omega
    cases fb
    all_goals
      go_enter Try.func72, Try.ntmps72
      go_upto_region 1 with (fail)
      refine wp_world fun W HW => ?_
      have hB : Below w.heap.size w W := by rw [HW.out]; (repeat (first | exact Below.refl _ _ | refine Below.alloc ?_ (by simp; try omega) _ | refine Below.setCell ?_ (by simp) _ | refine Below.drew ?_))
      have d0 : W.cell? ⟨w.heap.size, 0, none⟩ = some (.int .i64 n) := by rw [HW.out]; simp [go_sem]
      have d1 : W.cell? ⟨w.heap.size, 1, none⟩ = some (.slice s len cap) := by rw [HW.out]; simp [go_sem]
      have d2 : W.cell? ⟨w.heap.size, 2, none⟩ = some (.slice s2 nv cq) := by rw [HW.out]; simp [go_sem]
      have dl : w.heap.size < W.heap.size := World.block_lt_of_cell? W _ d0
      have g0 : W.cell? ⟨w.heap.size + 1, 0, none⟩ = some (.int .i64 f.x) := by rw [HW.out]; simp [go_sem]
      have g1 : W.cell? ⟨w.heap.size + 1, 1, none⟩ = some (.int .i64 f.y) := by rw [HW.out]; simp [go_sem]
      have g2 : W.cell? ⟨w.heap.size + 1, 2, none⟩ = some (.int .i64 f.z) := by rw [HW.out]; simp [go_sem]
      have g3 : W.cell? ⟨w.heap.size + 1, 3, none⟩ = some (.slice so off.length co) := by rw [HW.out]; simp [go_sem]
      have gl : w.heap.size + 1 < W.heap.size := World.block_lt_of_cell? W _ g0
      try replace ho := up_of hB ho
      go_wp2_with (first | (go_at_call 116; refine (hif.out _).mono ?_; rintro e W1 ⟨rfl, hb⟩; (try replace ho := up_of hb ho); (try replace hB := up_of hb hB); (try replace d0 := up_of hb d0); (try replace d1 := up_of hb d1); (try replace d2 := up_of hb d2); (try replace dl := up_of hb dl); (try replace g0 := up_of hb g0); (try replace g1 := up_of hb g1); (try replace g2 := up_of hb g2); (try replace g3 := up_of hb g3); (try replace gl := up_of hb gl)) | (go_at_call 111; refine (hcf.out _ ho).mono ?_; rintro e W1 ⟨rfl, hb⟩; (try replace ho := up_of hb ho); (try replace hB := up_of hb hB); (try replace d0 := up_of hb d0); (try replace d1 := up_of hb d1); (try replace d2 := up_of hb d2); (try replace dl := up_of hb dl); (try replace g0 := up_of hb g0); (try replace g1 := up_of hb g1); (try replace g2 := up_of hb g2); (try replace g3 := up_of hb g3); (try replace gl := up_of hb gl)))
      go_ret
      exact ⟨ret_bool (by simp), hB⟩
end Go.Proofs.Ytbpdgoedglkefaa
