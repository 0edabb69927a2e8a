/- Several texts in one: each says what it proves. -/
import Derived.Test.YtakbpjgnjfigcaaGreatB3
import Derived.Test.YtakbpjgnjfigcaaGreatPtGet
import Derived.Test.YtakbpjgnjfigcaaGreatB1
/- Schedules: forms, and which fit: the program and the reference. -/
namespace Go.Proofs.YtakbpjgnjfigcaaGreat
open Go.RowKit

/-- Which offsets fit. -/
def offB (off : List Int) : Bool := off.all fun x => bw 0 x 1000
/-- Which schedules fit a recurrence with so many variables. -/
def fitB (n : Int) (nv : Nat) (f : Pt) (off : List Int) : Bool := flatB f n 9 && (decide (off.length = nv) && offB off)

theorem schBetween_c (a b c : Int) (w : World) :
    Calls Tryz.prog 108 #[.int .i64 a, .int .i64 b, .int .i64 c] w fun e w' => e = .returned (.bool (bw a b c)) ∧ w = w' := by
  by_cases h1 : a ≤ b
  all_goals
    go_enter Tryz.func108, Tryz.ntmps108
    go_wp2
    go_ret
    exact ⟨ret_bool (by simp [bw]; omega), rfl⟩
theorem schTimes_c (a p : Pt) (w : World) :
    Calls Tryz.prog 104 #[.agg #[.int .i64 a.x, .int .i64 a.y, .int .i64 a.z], .agg #[.int .i64 p.x, .int .i64 p.y, .int .i64 p.z]] w fun e w' => e = .returned (.int .i64 (wrap64 (dotZ a p))) ∧ Below w.heap.size w w' := by
  go_enter Tryz.func104, Tryz.ntmps104
  go_wp2
  go_ret
  exact ⟨ret_int (wrap_dot _ _ _), ((Below.refl _ w).alloc (Nat.le_refl _) _).alloc (by simp) _⟩
set_option maxRecDepth 100000 in
theorem fits1_c (x : Int) (w : World) : Calls Tryz.prog 118 #[.int .i64 x] w fun e w' => e = .returned (.bool (!bw 0 x 1000)) ∧ Below w.heap.size w w' := by
  go_enter Tryz.func118, Tryz.ntmps118
  go_wp2_with (first | (go_at_call 108; refine (schBetween_c _ _ _ _).mono ?_; rintro e w' ⟨rfl, rfl⟩))
  go_ret
  exact ⟨rfl, Below.refl _ _⟩
set_option maxRecDepth 100000 in
set_option maxHeartbeats 1000000 in
theorem isForm_c (p : Pt) (n : Int) (w : World) :
    Calls Tryz.prog 103 #[.agg #[.int .i64 p.x, .int .i64 p.y, .int .i64 p.z], .int .i64 n] w fun e w' => e = .returned (.bool (flatB p n 9)) ∧ Below w.heap.size w w' := by
  have hno := fun (k : Nat) (hk : k < 3) hh => flat_no (p := p) (n := n) (m := 9) hk hh
  have hyes := fun hh => flat_yes (p := p) (n := n) (m := 9) hh
  obtain ⟨B, hB0⟩ : ∃ x, flatB p n 9 = x := ⟨_, rfl⟩
  simp only [hB0] at hno hyes ⊢
  clear hB0
  replace hno := Lib.hid hno; replace hyes := Lib.hid hyes
  go_enter Tryz.func103, Tryz.ntmps103
  go_upto_region 1 with (fail)
  refine wp_world fun W HW => ?_
  have hB : Below w.heap.size w W := by rw [HW.out]; (repeat (first | exact Below.refl _ _ | refine Below.alloc ?_ (by simp; try omega) _ | refine Below.setCell ?_ (by simp) _ | refine Below.drew ?_))
  have d0 : W.cell? ⟨w.heap.size, 0, none⟩ = some (.int .i64 p.x) := by rw [HW.out]; simp [go_sem]
  have d1 : W.cell? ⟨w.heap.size, 1, none⟩ = some (.int .i64 p.y) := by rw [HW.out]; simp [go_sem]
  have d2 : W.cell? ⟨w.heap.size, 2, none⟩ = some (.int .i64 p.z) := by rw [HW.out]; simp [go_sem]
  have dl : w.heap.size < W.heap.size := World.block_lt_of_cell? W _ d0
  have hix := fun (i : Nat) (hi : i < 3) => ixk p W hi
  replace hix := Lib.hid hix
  go_wp2
  go_loop [8] (fun ii => ∃ i : Nat, i ≤ 3 ∧ ii = .int .i64 i ∧ Hid (∀ j : Nat, j < i → flatC j (p.get j) n 9 = true)) (fun ii => 3 - (intOf ii).toNat)
  case atStart => exact ⟨0, by omega, rfl, fun j h => absurd h (by omega)⟩
  case round =>
    obtain ⟨i, hi, rfl, hall⟩ := hrel
    by_cases hlt : i < 3
    · have gix := hix.out i hlt
      have hbad := hno.out i hlt
      have hgood : flatC i (p.get i) n 9 = true → ∀ j : Nat, j < i + 1 → flatC j (p.get j) n 9 = true := fun h j hj => by
        by_cases hj2 : j < i
        · exact hall.out j hj2
        · obtain rfl : j = i := by omega
          exact h
      obtain ⟨x, hx⟩ : ∃ x, p.get i = x := ⟨_, rfl⟩
      rw [hx] at gix hbad hgood
      clear hx hall
      unfold flatC at hbad hgood
      have i1 : (i : Int) < 3 := by omega
      have hbt := fun V => schBetween_c (-9) x 9 V
      cases hb2 : bw (-9) x 9
      · rw [hb2] at hbt hbad
        obtain rfl := hbad rfl
        replace hbt := Lib.hid hbt
        clear hgood hb2
        go_wp2_with (first | (go_at_call 108; refine (hbt.out _).mono ?_; rintro e w' ⟨rfl, rfl⟩))
        go_ret
        exact ⟨rfl, hB⟩
      rw [hb2] at hbt hbad hgood
      replace hbt := Lib.hid hbt
      by_cases hin : (i : Int) < n
      · have hok := hgood (by rw [decide_eq_true hin]; rfl)
        have i2 : ¬ n ≤ (i : Int) := by omega
        replace hok := Lib.hid hok
        clear hbad hgood hb2 hin
        go_wp2_with (first | (go_at_call 108; refine (hbt.out _).mono ?_; rintro e w' ⟨rfl, rfl⟩))
        go_round
        case rel => exact ⟨i + 1, by omega, by go_num, hok⟩
        case measure => exact meas hlt
      · have i2 : n ≤ (i : Int) := by omega
        by_cases hx0 : x = 0
        · have hok := hgood (by rw [decide_eq_true hx0]; simp)
          have hz : (x != 0) = false := by rw [hx0]; rfl
          replace hok := Lib.hid hok
          clear hbad hgood hb2 hin hx0
          go_wp2_with (first | (go_at_call 108; refine (hbt.out _).mono ?_; rintro e w' ⟨rfl, rfl⟩))
          go_round
          case rel => exact ⟨i + 1, by omega, by go_num, hok⟩
          case measure => exact meas hlt
        · obtain rfl := hbad (by rw [decide_eq_false hx0, decide_eq_false hin]; rfl)
          have hz : (x != 0) = true := bne_iff_ne.2 hx0
          clear hgood hb2 hin hx0
          go_wp2_with (first | (go_at_call 108; refine (hbt.out _).mono ?_; rintro e w' ⟨rfl, rfl⟩))
          go_ret
          exact ⟨rfl, hB⟩
    · obtain rfl : i = 3 := by omega
      obtain rfl := hyes.out hall.out
      clear hall
      go_wp2
      go_ret
      exact ⟨rfl, hB⟩
set_option maxRecDepth 100000 in
set_option maxHeartbeats 1000000 in
theorem fits_c (n : Int) (s : Option Addr) (cap len : Nat) (s2 : Option Addr) (cq nv : Nat) (f : Pt) (so : Option Addr) (co : Nat) (off : List Int) (w : World) (ho : SlS intE w so off) (hol : off.length ≤ 9223372036854775807) (hnv : nv ≤ 9223372036854775807) :
    Calls Tryz.prog 78 #[.agg #[.int .i64 n, .slice s len cap, .slice s2 nv cq], .agg #[.int .i64 f.x, .int .i64 f.y, .int .i64 f.z, .slice so off.length co]] w fun e w' => e = .returned (.bool (fitB n nv f off)) ∧ Below w.heap.size w w' := by
  have hif := fun V => isForm_c f n V
  have hcf := fun V (h : SlS intE V so off) => int_containsf 118 #[] (fun _ _ => rfl) so co off (fun x => !bw 0 x 1000) V h hol (fun q _ W _ => fits1_c q W)
  have han : (off.any fun x => !bw 0 x 1000) = !offB off := by unfold offB; rw [← any_not]; simp
  simp only [han] at hcf
  unfold fitB
  obtain ⟨fb, hfb⟩ : ∃ x, flatB f n 9 = x := ⟨_, rfl⟩
  obtain ⟨ob, hob⟩ : ∃ x, offB off = x := ⟨_, rfl⟩
  simp only [hfb] at hif ⊢
  simp only [hob] at hcf ⊢
  clear hfb hob han
  replace hif := Lib.hid hif; replace hcf := Lib.hid hcf
  by_cases hl : off.length = nv
  · rw [decide_eq_true hl]
    have hl2 : ((off.length : Int) == (nv : Int)) = true := by rw [hl]; exact beq_self_eq_true _
    subst hl
    cases fb
    all_goals
      go_enter Tryz.func78, Tryz.ntmps78
      go_upto_region 1 with (fail)
      refine wp_world fun W HW => ?_
      have hB : Below w.heap.size w W := by rw [HW.out]; (repeat (first | exact Below.refl _ _ | refine Below.alloc ?_ (by simp; try omega) _ | refine Below.setCell ?_ (by simp) _ | refine Below.drew ?_))
      have d0 : W.cell? ⟨w.heap.size, 0, none⟩ = some (.int .i64 n) := by rw [HW.out]; simp [go_sem]
      have d1 : W.cell? ⟨w.heap.size, 1, none⟩ = some (.slice s len cap) := by rw [HW.out]; simp [go_sem]
      have d2 : W.cell? ⟨w.heap.size, 2, none⟩ = some (.slice s2 off.length cq) := by rw [HW.out]; simp [go_sem]
      have dl : w.heap.size < W.heap.size := World.block_lt_of_cell? W _ d0
      have g0 : W.cell? ⟨w.heap.size + 1, 0, none⟩ = some (.int .i64 f.x) := by rw [HW.out]; simp [go_sem]
      have g1 : W.cell? ⟨w.heap.size + 1, 1, none⟩ = some (.int .i64 f.y) := by rw [HW.out]; simp [go_sem]
      have g2 : W.cell? ⟨w.heap.size + 1, 2, none⟩ = some (.int .i64 f.z) := by rw [HW.out]; simp [go_sem]
      have g3 : W.cell? ⟨w.heap.size + 1, 3, none⟩ = some (.slice so off.length co) := by rw [HW.out]; simp [go_sem]
      have gl : w.heap.size + 1 < W.heap.size := World.block_lt_of_cell? W _ g0
      try replace ho := up_of hB ho
      go_wp2_with (first | (go_at_call 103; refine (hif.out _).mono ?_; rintro e W1 ⟨rfl, hb⟩; (try replace ho := up_of hb ho); (try replace hB := up_of hb hB); (try replace d0 := up_of hb d0); (try replace d1 := up_of hb d1); (try replace d2 := up_of hb d2); (try replace dl := up_of hb dl); (try replace g0 := up_of hb g0); (try replace g1 := up_of hb g1); (try replace g2 := up_of hb g2); (try replace g3 := up_of hb g3); (try replace gl := up_of hb gl)) | (go_at_call 72; refine (hcf.out _ ho).mono ?_; rintro e W1 ⟨rfl, hb⟩; (try replace ho := up_of hb ho); (try replace hB := up_of hb hB); (try replace d0 := up_of hb d0); (try replace d1 := up_of hb d1); (try replace d2 := up_of hb d2); (try replace dl := up_of hb dl); (try replace g0 := up_of hb g0); (try replace g1 := up_of hb g1); (try replace g2 := up_of hb g2); (try replace g3 := up_of hb g3); (try replace gl := up_of hb gl)))
      go_ret
      exact ⟨ret_bool (by simp), hB⟩
  · rw [decide_eq_false hl]
    have hl2 : ((off.length : Int) == (nv : Int)) = false := by simp; omega
    cases fb
    all_goals
      go_enter Tryz.func78, Tryz.ntmps78
      go_upto_region 1 with (fail)
      refine wp_world fun W HW => ?_
      have hB : Below w.heap.size w W := by rw [HW.out]; (repeat (first | exact Below.refl _ _ | refine Below.alloc ?_ (by simp; try omega) _ | refine Below.setCell ?_ (by simp) _ | refine Below.drew ?_))
      have d0 : W.cell? ⟨w.heap.size, 0, none⟩ = some (.int .i64 n) := by rw [HW.out]; simp [go_sem]
      have d1 : W.cell? ⟨w.heap.size, 1, none⟩ = some (.slice s len cap) := by rw [HW.out]; simp [go_sem]
      have d2 : W.cell? ⟨w.heap.size, 2, none⟩ = some (.slice s2 nv cq) := by rw [HW.out]; simp [go_sem]
      have dl : w.heap.size < W.heap.size := World.block_lt_of_cell? W _ d0
      have g0 : W.cell? ⟨w.heap.size + 1, 0, none⟩ = some (.int .i64 f.x) := by rw [HW.out]; simp [go_sem]
      have g1 : W.cell? ⟨w.heap.size + 1, 1, none⟩ = some (.int .i64 f.y) := by rw [HW.out]; simp [go_sem]
      have g2 : W.cell? ⟨w.heap.size + 1, 2, none⟩ = some (.int .i64 f.z) := by rw [HW.out]; simp [go_sem]
      have g3 : W.cell? ⟨w.heap.size + 1, 3, none⟩ = some (.slice so off.length co) := by rw [HW.out]; simp [go_sem]
      have gl : w.heap.size + 1 < W.heap.size := World.block_lt_of_cell? W _ g0
      try replace ho := up_of hB ho
      go_wp2_with (first | (go_at_call 103; refine (hif.out _).mono ?_; rintro e W1 ⟨rfl, hb⟩; (try replace ho := up_of hb ho); (try replace hB := up_of hb hB); (try replace d0 := up_of hb d0); (try replace d1 := up_of hb d1); (try replace d2 := up_of hb d2); (try replace dl := up_of hb dl); (try replace g0 := up_of hb g0); (try replace g1 := up_of hb g1); (try replace g2 := up_of hb g2); (try replace g3 := up_of hb g3); (try replace gl := up_of hb gl)) | (go_at_call 72; refine (hcf.out _ ho).mono ?_; rintro e W1 ⟨rfl, hb⟩; (try replace ho := up_of hb ho); (try replace hB := up_of hb hB); (try replace d0 := up_of hb d0); (try replace d1 := up_of hb d1); (try replace d2 := up_of hb d2); (try replace dl := up_of hb dl); (try replace g0 := up_of hb g0); (try replace g1 := up_of hb g1); (try replace g2 := up_of hb g2); (try replace g3 := up_of hb g3); (try replace gl := up_of hb gl)))
      go_ret
      exact ⟨ret_bool (by simp), hB⟩
end Go.Proofs.YtakbpjgnjfigcaaGreat

/- Recurrences and schedules that came in; what is asked of them: the program and the reference. -/
namespace Go.Proofs.YtakbpjgnjfigcaaGreat
open Go.RowKit

/-- A schedule: its form, its offsets, and where they lie. -/
structure Sd where
  f : Pt
  off : List Int
  s : Option Addr
  cap : Nat
def Sd.cells (a : Sd) : List Value := [.int .i64 a.f.x, .int .i64 a.f.y, .int .i64 a.f.z, .slice a.s a.off.length a.cap]
def sdE : Elt Sd := ⟨4, Sd.cells, by decide, fun _ => rfl, fun _ u h => by simp [Sd.cells] at h; rcases h with rfl | rfl | rfl | rfl <;> rfl⟩
theorem SlS.sd_at {w : World} {s : Option Addr} {l : List Sd} (c : SlS sdE w s l) {i : Nat} (h : i < l.length) :
    ∃ b off, s = some ⟨b, off, none⟩ ∧ b < w.heap.size ∧ w.cell? ⟨b, off + i * 4, none⟩ = some (.int .i64 l[i].f.x) ∧ w.cell? ⟨b, off + i * 4 + 1, none⟩ = some (.int .i64 l[i].f.y) ∧ w.cell? ⟨b, off + i * 4 + 2, none⟩ = some (.int .i64 l[i].f.z) ∧ w.cell? ⟨b, off + i * 4 + 3, none⟩ = some (.slice l[i].s l[i].off.length l[i].cap) := by
  obtain ⟨b, off, e, hb, hc⟩ := c.at h
  have h0 := hc 0 _ rfl
  have h1 := hc 1 _ rfl
  have h2 := hc 2 _ rfl
  have h3 := hc 3 _ rfl
  simp only [sdE, Nat.add_zero] at h0 h1 h2 h3
  exact ⟨b, off, e, hb, h0, h1, h2, h3⟩
/-- A schedule that came in. -/
structure SdM (w : World) (q : Sd) : Prop where
  off : SlS intE w q.s q.off
  len : q.off.length ≤ 9223372036854775807
theorem SdM.up {W W' : World} (h : Below W.heap.size W W') {q : Sd} (c : SdM W q) : SdM W' q := ⟨SlS.up h c.off, c.len⟩
instance {W W' : World} {q : Sd} : UpF W W' (SdM W q) (SdM W' q) := ⟨fun h c => SdM.up h c⟩
/-- Whether a schedule fits. -/
def Sd.fit (n : Int) (nv : Nat) (q : Sd) : Bool := fitB n nv q.f q.off

set_option maxRecDepth 100000 in
set_option maxHeartbeats 400000 in
theorem sd_indexf (f : Nat) (cs : Array Value) (hf : ∀ args w, (callFunc f args).run Tryz.prog w = .ok (.enter f args) w) (s : Option Addr) (cap : Nat) (l : List Sd) (pr : Sd → Bool) (w : World)
    (hs : SlS sdE w s l) (hl : l.length ≤ 9223372036854775807)
    (hc : ∀ q ∈ l, ∀ W, Below w.heap.size w W → Calls Tryz.prog f (#[.agg #[.int .i64 q.f.x, .int .i64 q.f.y, .int .i64 q.f.z, .slice q.s q.off.length q.cap]] ++ cs) W fun e w' => e = .returned (.bool (pr q)) ∧ Below W.heap.size W w') :
    Calls Tryz.prog 117 #[.slice s l.length cap, .func (.func f) #[] cs] w fun e w' => e = .returned (.int .i64 (fidx pr l)) ∧ Below w.heap.size w w' := by
  go_enter Tryz.func117, Tryz.ntmps117
  go_wp2
  go_loopw [8] (fun i wr => ∃ k : Nat, k ≤ l.length ∧ i = .int .i64 k ∧ Below w.heap.size w wr ∧ Hid (∀ j (hj : j < l.length), j < k → pr l[j] = false)) (fun i _ => l.length - (intOf i).toNat)
  case atStart => exact ⟨0, by omega, rfl, Below.refl _ _, fun j _ h => absurd h (by omega)⟩
  case round =>
    obtain ⟨k, hk, rfl, hB, hno⟩ := hrel
    by_cases hlt : k < l.length
    · obtain ⟨b, off, rfl, hb, h0, h1, h2, h3⟩ := (up_of hB hs).sd_at hlt
      have hcall := hc l[k] (List.getElem_mem hlt) wr hB
      have Hc := Lib.hid hcall
      clear hc hcall hs
      cases hp : pr l[k] with
      | true =>
        go_wp2_with (refine Hc.out.mono ?_; rintro e W1 ⟨rfl, hb1⟩; rw [hp])
        go_ret
        exact ⟨ret_int (fidx_at hlt (fun j hj => hno j _ hj) hp).symm, Up.to hB hb1 hB.size⟩
      | false =>
        go_wp2_with (refine Hc.out.mono ?_; rintro e W1 ⟨rfl, hb1⟩; rw [hp])
        go_roundw
        case rel => exact ⟨k + 1, by omega, by go_num, Up.to hB hb1 hB.size, fun j hj h => by rcases Nat.lt_succ_iff_lt_or_eq.1 h with h | rfl; exact hno j hj h; exact hp⟩
        case measure => simp [intOf]; omega
    · obtain rfl : k = l.length := by omega
      clear hc hs
      go_wp2
      go_ret
      exact ⟨ret_int (fidx_none fun j hj => hno j hj hj).symm, hB⟩

set_option maxRecDepth 100000 in
set_option maxHeartbeats 400000 in
theorem sd_containsf (f : Nat) (cs : Array Value) (hf : ∀ args w, (callFunc f args).run Tryz.prog w = .ok (.enter f args) w) (s : Option Addr) (cap : Nat) (l : List Sd) (pr : Sd → Bool) (w : World)
    (hs : SlS sdE w s l) (hl : l.length ≤ 9223372036854775807)
    (hc : ∀ q ∈ l, ∀ W, Below w.heap.size w W → Calls Tryz.prog f (#[.agg #[.int .i64 q.f.x, .int .i64 q.f.y, .int .i64 q.f.z, .slice q.s q.off.length q.cap]] ++ cs) W fun e w' => e = .returned (.bool (pr q)) ∧ Below W.heap.size W w') :
    Calls Tryz.prog 76 #[.slice s l.length cap, .func (.func f) #[] cs] w fun e w' => e = .returned (.bool (l.any pr)) ∧ Below w.heap.size w w' := by
  have H := Lib.hid (sd_indexf f cs hf s cap l pr w hs hl hc)
  clear hc hs hf
  go_enter Tryz.func76, Tryz.ntmps76
  go_wp2_with (go_at_call 117; refine H.out.mono ?_; rintro e W1 ⟨rfl, hb⟩)
  go_ret
  exact ⟨ret_bool (fidx_any pr l), hb⟩

set_option maxRecDepth 100000 in
set_option maxHeartbeats 1000000 in
theorem checked1_c (n : Int) (s : Option Addr) (cap len : Nat) (s2 : Option Addr) (cq nv : Nat) (q : Sd) (b : Nat) (w : World) (hq : SdM w q) (hnv : nv ≤ 9223372036854775807)
    (r0 : w.cell? ⟨b, 0, none⟩ = some (.int .i64 n)) (r1 : w.cell? ⟨b, 1, none⟩ = some (.slice s len cap)) (r2 : w.cell? ⟨b, 2, none⟩ = some (.slice s2 nv cq)) :
    Calls Tryz.prog 77 #[.agg #[.int .i64 q.f.x, .int .i64 q.f.y, .int .i64 q.f.z, .slice q.s q.off.length q.cap], .pointer (some ⟨b, 0, none⟩)] w fun e w' => e = .returned (.bool (!q.fit n nv)) ∧ Below w.heap.size w w' := by
  have hbl := World.block_lt_of_cell? _ _ r0
  have hf := fun V (h : SdM V q) => fits_c n s cap len s2 cq nv q.f q.s q.cap q.off V h.off h.len hnv
  unfold Sd.fit
  obtain ⟨B, hB0⟩ : ∃ x, fitB n nv q.f q.off = x := ⟨_, rfl⟩
  simp only [hB0] at hf ⊢
  clear hB0
  replace hf := Lib.hid hf
  go_enter Tryz.func77, Tryz.ntmps77
  go_upto_region 1 with (fail)
  refine wp_world fun W HW => ?_
  have hB : Below w.heap.size w W := by rw [HW.out]; (repeat (first | exact Below.refl _ _ | refine Below.alloc ?_ (by simp; try omega) _ | refine Below.setCell ?_ (by simp) _ | refine Below.drew ?_))
  have g0 : W.cell? ⟨w.heap.size, 0, none⟩ = some (.int .i64 q.f.x) := by rw [HW.out]; simp [go_sem]
  have g1 : W.cell? ⟨w.heap.size, 1, none⟩ = some (.int .i64 q.f.y) := by rw [HW.out]; simp [go_sem]
  have g2 : W.cell? ⟨w.heap.size, 2, none⟩ = some (.int .i64 q.f.z) := by rw [HW.out]; simp [go_sem]
  have g3 : W.cell? ⟨w.heap.size, 3, none⟩ = some (.slice q.s q.off.length q.cap) := by rw [HW.out]; simp [go_sem]
  have gl : w.heap.size < W.heap.size := World.block_lt_of_cell? W _ g0
  try replace hq := up_of hB hq
  try replace r0 := up_of hB r0
  try replace r1 := up_of hB r1
  try replace r2 := up_of hB r2
  go_wp2_with (first | (go_at_call 78; refine (hf.out _ hq).mono ?_; rintro e W1 ⟨rfl, hb⟩; (try replace hq := up_of hb hq); (try replace r0 := up_of hb r0); (try replace r1 := up_of hb r1); (try replace r2 := up_of hb r2); (try replace hB := up_of hb hB); (try replace g0 := up_of hb g0); (try replace g1 := up_of hb g1); (try replace g2 := up_of hb g2); (try replace g3 := up_of hb g3); (try replace gl := up_of hb gl)))
  go_ret
  exact ⟨rfl, hB⟩
/-- The first error of a recurrence and schedules. -/
def chkE (n : Int) (l : List Iq) (K : List Vv) (L : List Sd) : Int := if recB n l K then (if L.all (Sd.fit n K.length) then 0 else 30) else 20
set_option maxRecDepth 100000 in
set_option maxHeartbeats 1000000 in
theorem checked_c (n : Int) (s : Option Addr) (cap : Nat) (l : List Iq) (s2 : Option Addr) (cq : Nat) (K : List Vv) (sl : Option Addr) (cl : Nat) (L : List Sd) (w : World) (hr : RecM w s l s2 cq K) (hL : SlS sdE w sl L) (hl : L.length ≤ 9223372036854775807) (hm : ∀ q ∈ L, SdM w q) :
    Calls Tryz.prog 34 #[.agg #[.int .i64 n, .slice s l.length cap, .slice s2 K.length cq], .slice sl L.length cl] w fun e w' => e = .returned (.int .i64 (chkE n l K L)) ∧ Below w.heap.size w w' := by
  have hv := fun V (h : RecM V s l s2 cq K) => h.valid n cap
  have hkl := hr.len
  have hc := fun V b (r0 : V.cell? ⟨b, 0, none⟩ = some (.int .i64 n)) (r1 : V.cell? ⟨b, 1, none⟩ = some (.slice s l.length cap)) (r2 : V.cell? ⟨b, 2, none⟩ = some (.slice s2 K.length cq)) (hB : Below w.heap.size w V) (hL : SlS sdE V sl L) => sd_containsf 77 #[.pointer (some ⟨b, 0, none⟩)] (fun _ _ => by simp [go_sem]) sl cl L (fun q => !q.fit n K.length) V hL hl (fun q hq W hW => checked1_c n s cap l.length s2 cq K.length q b W (SdM.up (Up.to hB hW hB.size) (hm q hq)) hkl (Up.cell hW r0) (Up.cell hW r1) (Up.cell hW r2))
  have han : (L.any fun q => !q.fit n K.length) = !L.all (Sd.fit n K.length) := by rw [← any_not]; simp
  simp only [han] at hc
  unfold chkE
  obtain ⟨B, hB0⟩ : ∃ x, recB n l K = x := ⟨_, rfl⟩
  obtain ⟨C, hC0⟩ : ∃ x, L.all (Sd.fit n K.length) = x := ⟨_, rfl⟩
  simp only [hB0] at hv ⊢
  simp only [hC0] at hc ⊢
  clear hB0 hC0 han
  replace hv := Lib.hid hv; replace hc := Lib.hid hc; replace hm := Lib.hid hm
  cases B
  all_goals
    cases C
    all_goals
      go_enter Tryz.func34, Tryz.ntmps34
      go_upto_region 1 with (fail)
      refine wp_world fun W HW => ?_
      have hB : Below w.heap.size w W := by rw [HW.out]; (repeat (first | exact Below.refl _ _ | refine Below.alloc ?_ (by simp; try omega) _ | refine Below.setCell ?_ (by simp) _ | refine Below.drew ?_))
      have d0 : W.cell? ⟨w.heap.size, 0, none⟩ = some (.int .i64 n) := by rw [HW.out]; simp [go_sem]
      have d1 : W.cell? ⟨w.heap.size, 1, none⟩ = some (.slice s l.length cap) := by rw [HW.out]; simp [go_sem]
      have d2 : W.cell? ⟨w.heap.size, 2, none⟩ = some (.slice s2 K.length cq) := by rw [HW.out]; simp [go_sem]
      have dl : w.heap.size < W.heap.size := World.block_lt_of_cell? W _ d0
      try replace hr := up_of hB hr
      try replace hL := up_of hB hL
      go_wp2_with (first | (go_at_call 69; refine (hv.out _ hr).mono ?_; rintro e W1 ⟨rfl, hb⟩; (try replace hr := up_of hb hr); (try replace hL := up_of hb hL); (try replace hB := up_of hb hB); (try replace d0 := up_of hb d0); (try replace d1 := up_of hb d1); (try replace d2 := up_of hb d2); (try replace dl := up_of hb dl)) | (go_at_call 76; refine (hc.out _ _ d0 d1 d2 hB hL).mono ?_; rintro e W1 ⟨rfl, hb⟩; (try replace hr := up_of hb hr); (try replace hL := up_of hb hL); (try replace hB := up_of hb hB); (try replace d0 := up_of hb d0); (try replace d1 := up_of hb d1); (try replace d2 := up_of hb d2); (try replace dl := up_of hb dl)))
      go_ret
      exact ⟨rfl, hB⟩
end Go.Proofs.YtakbpjgnjfigcaaGreat

/- Schedules: what is asked, the reference; valid ones, both. -/
namespace Go.Proofs.YtakbpjgnjfigcaaGreat
open Go.RowKit

set_option maxRecDepth 100000 in
theorem rIsForm_c (n : Int) (s : Option Addr) (cap len : Nat) (s2 : Option Addr) (cq nv : Nat) (f : Pt) (w : World) :
    Calls Tryz.prog 102 #[.agg #[.int .i64 n, .slice s len cap, .slice s2 nv cq], .agg #[.int .i64 f.x, .int .i64 f.y, .int .i64 f.z]] w fun e w' => e = .returned (.bool (flatB f n 9)) ∧ Below w.heap.size w w' := by
  have hf := fun V => Flat_c f n 9 V (by omega) (by omega)
  replace hf := Lib.hid hf
  go_enter Tryz.func102, Tryz.ntmps102
  go_upto_region 1 with (fail)
  refine wp_world fun W HW => ?_
  have hB : Below w.heap.size w W := by rw [HW.out]; (repeat (first | exact Below.refl _ _ | refine Below.alloc ?_ (by simp; try omega) _ | refine Below.setCell ?_ (by simp) _ | refine Below.drew ?_))
  have d0 : W.cell? ⟨w.heap.size, 0, none⟩ = some (.int .i64 n) := by rw [HW.out]; simp [go_sem]
  have d1 : W.cell? ⟨w.heap.size, 1, none⟩ = some (.slice s len cap) := by rw [HW.out]; simp [go_sem]
  have d2 : W.cell? ⟨w.heap.size, 2, none⟩ = some (.slice s2 nv cq) := by rw [HW.out]; simp [go_sem]
  have dl : w.heap.size < W.heap.size := World.block_lt_of_cell? W _ d0
  have g0 : W.cell? ⟨w.heap.size + 1, 0, none⟩ = some (.int .i64 f.x) := by rw [HW.out]; simp [go_sem]
  have g1 : W.cell? ⟨w.heap.size + 1, 1, none⟩ = some (.int .i64 f.y) := by rw [HW.out]; simp [go_sem]
  have g2 : W.cell? ⟨w.heap.size + 1, 2, none⟩ = some (.int .i64 f.z) := by rw [HW.out]; simp [go_sem]
  have gl : w.heap.size + 1 < W.heap.size := World.block_lt_of_cell? W _ g0
  go_wp2_with (first | (go_at_call 135; refine (hf.out _).mono ?_; rintro e W1 ⟨rfl, hb⟩; (try replace hB := up_of hb hB); (try replace d0 := up_of hb d0); (try replace d1 := up_of hb d1); (try replace d2 := up_of hb d2); (try replace dl := up_of hb dl); (try replace g0 := up_of hb g0); (try replace g1 := up_of hb g1); (try replace g2 := up_of hb g2); (try replace gl := up_of hb gl)))
  go_ret
  exact ⟨rfl, hB⟩
theorem off_no {l : List Int} {j : Nat} (h : j < l.length) (hf : bw 0 l[j] 1000 = false) : offB l = false := by
  unfold offB
  cases hh : l.all fun x => bw 0 x 1000
  · rfl
  · rw [List.all_eq_true] at hh; rw [hh _ (List.getElem_mem h)] at hf; cases hf
theorem off_yes {l : List Int} (h : ∀ j (hj : j < l.length), bw 0 l[j] 1000 = true) : offB l = true := by
  unfold offB
  rw [List.all_eq_true]; intro x hx; obtain ⟨i, hi, rfl⟩ := List.getElem_of_mem hx; exact h i hi
set_option maxRecDepth 100000 in
set_option maxHeartbeats 1000000 in
theorem isSched_c (n : Int) (s : Option Addr) (cap len : Nat) (s2 : Option Addr) (cq nv : Nat) (q : Sd) (w : World) (hq : SdM w q) (_hnv : nv ≤ 9223372036854775807) :
    Calls Tryz.prog 57 #[.agg #[.int .i64 n, .slice s len cap, .slice s2 nv cq], .agg #[.int .i64 q.f.x, .int .i64 q.f.y, .int .i64 q.f.z, .slice q.s q.off.length q.cap]] w fun e w' => e = .returned (.bool (q.fit n nv)) ∧ Below w.heap.size w w' := by
  have hf := fun V => rIsForm_c n s cap len s2 cq nv q.f V
  unfold Sd.fit fitB
  have hno := fun (j : Nat) (hj : j < q.off.length) => off_no hj
  have hyes := off_yes (l := q.off)
  have hql := hq.len
  obtain ⟨FB, hF0⟩ : ∃ x, flatB q.f n 9 = x := ⟨_, rfl⟩
  obtain ⟨OB, hO0⟩ : ∃ x, offB q.off = x := ⟨_, rfl⟩
  simp only [hF0] at hf ⊢
  simp only [hO0] at hno hyes ⊢
  clear hF0 hO0
  replace hf := Lib.hid hf; replace hno := Lib.hid hno; replace hyes := Lib.hid hyes
  go_enter Tryz.func57, Tryz.ntmps57
  go_upto_region 1 with (fail)
  refine wp_world fun W HW => ?_
  have hB : Below w.heap.size w W := by rw [HW.out]; (repeat (first | exact Below.refl _ _ | refine Below.alloc ?_ (by simp; try omega) _ | refine Below.setCell ?_ (by simp) _ | refine Below.drew ?_))
  have d0 : W.cell? ⟨w.heap.size, 0, none⟩ = some (.int .i64 n) := by rw [HW.out]; simp [go_sem]
  have d1 : W.cell? ⟨w.heap.size, 1, none⟩ = some (.slice s len cap) := by rw [HW.out]; simp [go_sem]
  have d2 : W.cell? ⟨w.heap.size, 2, none⟩ = some (.slice s2 nv cq) := by rw [HW.out]; simp [go_sem]
  have dl : w.heap.size < W.heap.size := World.block_lt_of_cell? W _ d0
  have g0 : W.cell? ⟨w.heap.size + 1, 0, none⟩ = some (.int .i64 q.f.x) := by rw [HW.out]; simp [go_sem]
  have g1 : W.cell? ⟨w.heap.size + 1, 1, none⟩ = some (.int .i64 q.f.y) := by rw [HW.out]; simp [go_sem]
  have g2 : W.cell? ⟨w.heap.size + 1, 2, none⟩ = some (.int .i64 q.f.z) := by rw [HW.out]; simp [go_sem]
  have g3 : W.cell? ⟨w.heap.size + 1, 3, none⟩ = some (.slice q.s q.off.length q.cap) := by rw [HW.out]; simp [go_sem]
  have gl : w.heap.size + 1 < W.heap.size := World.block_lt_of_cell? W _ g0
  try replace hq := up_of hB hq
  go_wp2
  go_loop [10] (fun ii => ∃ i : Nat, i ≤ q.off.length ∧ ii = .int .i64 i ∧ Hid (∀ j (hj : j < q.off.length), j < i → bw 0 q.off[j] 1000 = true)) (fun ii => q.off.length - (intOf ii).toNat)
  case atStart => exact ⟨0, by omega, rfl, fun j hj h => absurd h (by omega)⟩
  case round =>
    obtain ⟨i, hi, rfl, hall⟩ := hrel
    by_cases hlt : i < q.off.length
    · obtain ⟨b, off, e1, hb, q0⟩ := hq.off.int_at hlt
      have hbad := hno.out i hlt
      have hgood : bw 0 q.off[i] 1000 = true → ∀ j (hj : j < q.off.length), j < i + 1 → bw 0 q.off[j] 1000 = true := fun h j hj hj2 => by
        by_cases hj3 : j < i
        · exact hall.out j hj hj3
        · obtain rfl : j = i := by omega
          exact h
      obtain ⟨x, hx⟩ : ∃ x, q.off[i] = x := ⟨_, rfl⟩
      rw [hx] at q0 hbad hgood
      clear hx hall
      have i1 : (i : Int) < (q.off.length : Int) := by omega
      have i0 : (0 : Int) ≤ (i : Int) := by omega
      rw [e1] at *
      by_cases hx0 : x < 0
      · obtain rfl := hbad (by simp [bw]; omega)
        clear hgood
        go_wp2
        go_ret
        exact ⟨ret_bool (by simp), hB⟩
      by_cases hx1 : 1000 < x
      · obtain rfl := hbad (by simp [bw]; omega)
        clear hgood
        go_wp2
        go_ret
        exact ⟨ret_bool (by simp), hB⟩
      have hok := Lib.hid (hgood (by rw [bw_iff]; omega))
      clear hbad hgood
      go_wp2
      go_round
      case rel => exact ⟨i + 1, by omega, by go_num, hok⟩
      case measure => exact meas hlt
    · obtain rfl : i = q.off.length := by omega
      obtain rfl := hyes.out (fun j hj => hall.out j hj hj)
      clear hall
      cases FB
      · go_wp2_with (first | (go_at_call 102; refine (hf.out _).mono ?_; rintro e W1 ⟨rfl, hb⟩; (try replace hq := up_of hb hq); (try replace hB := up_of hb hB); (try replace d0 := up_of hb d0); (try replace d1 := up_of hb d1); (try replace d2 := up_of hb d2); (try replace dl := up_of hb dl); (try replace g0 := up_of hb g0); (try replace g1 := up_of hb g1); (try replace g2 := up_of hb g2); (try replace g3 := up_of hb g3); (try replace gl := up_of hb gl)))
        go_ret
        exact ⟨ret_bool (by simp), hB⟩
      · go_wp2_with (first | (go_at_call 102; refine (hf.out _).mono ?_; rintro e W1 ⟨rfl, hb⟩; (try replace hq := up_of hb hq); (try replace hB := up_of hb hB); (try replace d0 := up_of hb d0); (try replace d1 := up_of hb d1); (try replace d2 := up_of hb d2); (try replace dl := up_of hb dl); (try replace g0 := up_of hb g0); (try replace g1 := up_of hb g1); (try replace g2 := up_of hb g2); (try replace g3 := up_of hb g3); (try replace gl := up_of hb gl)))
        go_ret
        exact ⟨ret_bool (by
          by_cases hl : q.off.length = nv
          · simp [hl]
          · have h2 : ¬ ((q.off.length : Int) = (nv : Int)) := by omega
            simp [hl]
            try exact h2), hB⟩
set_option maxRecDepth 100000 in
set_option maxHeartbeats 1000000 in
theorem rSchValid_c (n : Int) (s : Option Addr) (cap : Nat) (l : List Iq) (s2 : Option Addr) (cq : Nat) (K : List Vv) (q : Sd) (w : World) (hr : RecM w s l s2 cq K) (hq : SdM w q) :
    Calls Tryz.prog 20 #[.agg #[.int .i64 n, .slice s l.length cap, .slice s2 K.length cq], .agg #[.int .i64 q.f.x, .int .i64 q.f.y, .int .i64 q.f.z, .slice q.s q.off.length q.cap]] w fun e w' => e = .returned (.bool (recB n l K && q.fit n K.length)) ∧ Below w.heap.size w w' := by
  have hv := fun V (h : RecM V s l s2 cq K) => h.isRec n cap
  have hkl := hr.len
  have hc := fun V (h : SdM V q) => isSched_c n s cap l.length s2 cq K.length q V h hkl
  obtain ⟨B, hB0⟩ : ∃ x, recB n l K = x := ⟨_, rfl⟩
  obtain ⟨C, hC0⟩ : ∃ x, q.fit n K.length = x := ⟨_, rfl⟩
  simp only [hB0] at hv ⊢
  simp only [hC0] at hc ⊢
  clear hB0 hC0
  replace hv := Lib.hid hv; replace hc := Lib.hid hc
  cases B
  all_goals
    go_enter Tryz.func20, Tryz.ntmps20
    go_upto_region 1 with (fail)
    refine wp_world fun W HW => ?_
    have hB : Below w.heap.size w W := by rw [HW.out]; (repeat (first | exact Below.refl _ _ | refine Below.alloc ?_ (by simp; try omega) _ | refine Below.setCell ?_ (by simp) _ | refine Below.drew ?_))
    have d0 : W.cell? ⟨w.heap.size, 0, none⟩ = some (.int .i64 n) := by rw [HW.out]; simp [go_sem]
    have d1 : W.cell? ⟨w.heap.size, 1, none⟩ = some (.slice s l.length cap) := by rw [HW.out]; simp [go_sem]
    have d2 : W.cell? ⟨w.heap.size, 2, none⟩ = some (.slice s2 K.length cq) := by rw [HW.out]; simp [go_sem]
    have dl : w.heap.size < W.heap.size := World.block_lt_of_cell? W _ d0
    have g0 : W.cell? ⟨w.heap.size + 1, 0, none⟩ = some (.int .i64 q.f.x) := by rw [HW.out]; simp [go_sem]
    have g1 : W.cell? ⟨w.heap.size + 1, 1, none⟩ = some (.int .i64 q.f.y) := by rw [HW.out]; simp [go_sem]
    have g2 : W.cell? ⟨w.heap.size + 1, 2, none⟩ = some (.int .i64 q.f.z) := by rw [HW.out]; simp [go_sem]
    have g3 : W.cell? ⟨w.heap.size + 1, 3, none⟩ = some (.slice q.s q.off.length q.cap) := by rw [HW.out]; simp [go_sem]
    have gl : w.heap.size + 1 < W.heap.size := World.block_lt_of_cell? W _ g0
    try replace hr := up_of hB hr
    try replace hq := up_of hB hq
    go_wp2_with (first | (go_at_call 56; refine (hv.out _ hr).mono ?_; rintro e W1 ⟨rfl, hb⟩; (try replace hr := up_of hb hr); (try replace hq := up_of hb hq); (try replace hB := up_of hb hB); (try replace d0 := up_of hb d0); (try replace d1 := up_of hb d1); (try replace d2 := up_of hb d2); (try replace dl := up_of hb dl); (try replace g0 := up_of hb g0); (try replace g1 := up_of hb g1); (try replace g2 := up_of hb g2); (try replace g3 := up_of hb g3); (try replace gl := up_of hb gl)) | (go_at_call 57; refine (hc.out _ hq).mono ?_; rintro e W1 ⟨rfl, hb⟩; (try replace hr := up_of hb hr); (try replace hq := up_of hb hq); (try replace hB := up_of hb hB); (try replace d0 := up_of hb d0); (try replace d1 := up_of hb d1); (try replace d2 := up_of hb d2); (try replace dl := up_of hb dl); (try replace g0 := up_of hb g0); (try replace g1 := up_of hb g1); (try replace g2 := up_of hb g2); (try replace g3 := up_of hb g3); (try replace gl := up_of hb gl)))
    go_ret
    exact ⟨ret_bool (by simp), hB⟩
end Go.Proofs.YtakbpjgnjfigcaaGreat

/- The time of an element: the program and the reference. -/
namespace Go.Proofs.YtakbpjgnjfigcaaGreat
open Go.RowKit

theorem sd_new (W : World) (q : Sd) (t : TypeId) : SlS sdE (W.alloc (.cells #[.int .i64 q.f.x, .int .i64 q.f.y, .int .i64 q.f.z, .slice q.s q.off.length q.cap] t)) (some ⟨W.heap.size, 0, none⟩) [q] := by
  refine .inr ⟨W.heap.size, 0, rfl, by simp, fun j u hj => ?_⟩
  have e : sdE.all [q] = [.int .i64 q.f.x, .int .i64 q.f.y, .int .i64 q.f.z, .slice q.s q.off.length q.cap] := by simp [Elt.all, sdE, Sd.cells]
  rw [e] at hj
  match j, hj with
  | 0, hj => simp at hj; subst hj; simp [go_sem]
  | 1, hj => simp at hj; subst hj; simp [go_sem]
  | 2, hj => simp at hj; subst hj; simp [go_sem]
  | 3, hj => simp at hj; subst hj; simp [go_sem]
  | k + 4, hj => simp at hj
/-- checked of one schedule, handed over in a new slice. -/
theorem checkedN_c (n : Int) (s : Option Addr) (cap : Nat) (l : List Iq) (s2 : Option Addr) (cq : Nat) (K : List Vv) (q : Sd) (t : TypeId) (V : World) (hr : RecM V s l s2 cq K) (hq : SdM V q) :
    Calls Tryz.prog 34 #[.agg #[.int .i64 n, .slice s l.length cap, .slice s2 K.length cq], .slice (some ⟨V.heap.size, 0, none⟩) 1 1] (V.alloc (.cells #[.int .i64 q.f.x, .int .i64 q.f.y, .int .i64 q.f.z, .slice q.s q.off.length q.cap] t)) fun e w' => e = .returned (.int .i64 (chkE n l K [q])) ∧ Below V.heap.size V w' := by
  have hA : Below V.heap.size V (V.alloc (.cells #[.int .i64 q.f.x, .int .i64 q.f.y, .int .i64 q.f.z, .slice q.s q.off.length q.cap] t)) := (Below.refl _ V).alloc (Nat.le_refl _) _
  refine (checked_c n s cap l s2 cq K _ 1 [q] _ (hr.up hA) (sd_new V q t) (by simp) (fun x hx => by simp at hx; subst hx; exact hq.up hA)).mono ?_
  rintro e w' ⟨rfl, hb⟩
  exact ⟨rfl, Up.to hA hb hA.size⟩
def timeW (q : Sd) (v : Nat) (p : Pt) : Int := IntKind.i64.wrap (wrap64 (dotZ q.f p) + q.off.getD v 0)
def timeR (n : Int) (l : List Iq) (K : List Vv) (q : Sd) (v : Int) (p : Pt) : Value :=
  if chkE n l K [q] ≠ 0 then .tuple #[.int .i64 0, .int .i64 (chkE n l K [q])]
  else if hasB n l p && bw 0 v (K.length - 1) then .tuple #[.int .i64 (timeW q v.toNat p), .int .i64 0] else .tuple #[.int .i64 0, .int .i64 2]
theorem chk_ok {n : Int} {l : List Iq} {K : List Vv} {q : Sd} (h : chkE n l K [q] = 0) : recB n l K = true ∧ validB n l = true ∧ 1 ≤ K.length ∧ K.length ≤ 4 ∧ (1 ≤ n ∧ n ≤ 3) ∧ (pts n l).length ≤ 1000 ∧ flatB q.f n 9 = true ∧ q.off.length = K.length ∧ offB q.off = true := by
  unfold chkE at h
  by_cases hr : recB n l K = true
  · rw [if_pos hr] at h
    by_cases hf : ([q].all (Sd.fit n K.length)) = true
    · simp [Sd.fit, fitB] at hf
      have h1 := hr
      rw [recB_eq, Bool.and_eq_true, Bool.and_eq_true, Bool.and_eq_true] at h1
      have h2 := bw_iff.1 h1.2.2.1
      exact ⟨hr, h1.1, by omega, by omega, valid_n h1.1, of_decide_eq_true h1.2.1, hf.1, hf.2.1, hf.2.2⟩
    · rw [if_neg hf] at h; cases h
  · rw [if_neg hr] at h; cases h
end Go.Proofs.YtakbpjgnjfigcaaGreat
