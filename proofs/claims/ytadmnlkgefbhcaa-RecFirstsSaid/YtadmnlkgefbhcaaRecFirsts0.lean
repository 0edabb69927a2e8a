/- RecFirsts: the walk. -/
import Derived.Test.YtadmnlkgefbhcaaRVal
import Derived.Test.YtadmnlkgefbhcaaRecWide
namespace Go.Proofs.Ytadmnlkgefbhcaa
open Go.RowKit Go.Maps

theorem firV_two (n : Int) (l : List Iq) (K : List Vv) (x : Int) (p : Pt) : ∃ a c, firV n l K x p = .tuple #[.int .i64 a, .int .i64 c] := by
  unfold firV
  repeat' split
  all_goals exact ⟨_, _, rfl⟩
set_option maxRecDepth 100000 in
set_option maxHeartbeats 2000000 in
theorem RecFirsts_w (n : Int) (s : Option Addr) (cap : Nat) (l : List Iq) (s2 : Option Addr) (cq : Nat) (K : List Vv) (y : Ar) (w : World) (hr : RecM w s l s2 cq K) (hy : y.I64) :
    Calls Try.prog 4 #[.agg #[.int .i64 n, .slice s l.length cap, .slice s2 K.length cq], .agg #[.int .i64 y.v, .int .i64 y.p.x, .int .i64 y.p.y, .int .i64 y.p.z]] w fun e w' => e = .returned (.bool true) ∧ Below w.heap.size w w' := by
  have hwd := fun V (h : RecM V s l s2 cq K) => Wide2_c n s cap l s2 cq K 120 V h
  have hl1 := fun V (h : RecM V s l s2 cq K) => Value_c n s cap l s2 cq K y V h hy.2
  have hl2 := fun V (h : RecM V s l s2 cq K) => rValue_c n s cap l s2 cq K y V h hy.2
  have hf1 := fun V (h : RecM V s l s2 cq K) => First_c n s cap l s2 cq K y.v y.p V h
  have hf2 := fun V (h : RecM V s l s2 cq K) => rFirst_c n s cap l s2 cq K y.v y.p V h
  have hsn := fun V => Sane_c V
  obtain ⟨a, c, hac⟩ := firV_two n l K y.v y.p
  simp only [hac] at hf1 hf2
  unfold VaRet at hl1 hl2
  obtain ⟨a2, ha2⟩ : ∃ x, valA n l K y = x := ⟨_, rfl⟩
  obtain ⟨c2, hc2⟩ : ∃ x, valC n l K y = x := ⟨_, rfl⟩
  simp only [ha2, hc2] at hl1 hl2
  clear hac ha2 hc2 hy
  obtain ⟨v, ⟨x, yy, z⟩⟩ := y
  simp only at hl1 hl2 hf1 hf2 ⊢
  have e1 : (a == a) = true := by simp
  have e2 : (c == c) = true := by simp
  have e3 : (a2 == a2) = true := by simp
  have e4 : (c2 == c2) = true := by simp
  replace hwd := Lib.hid hwd; replace hl1 := Lib.hid hl1; replace hl2 := Lib.hid hl2; replace hsn := Lib.hid hsn; replace hf1 := Lib.hid hf1; replace hf2 := Lib.hid hf2
  go_enter Try.func4, Try.ntmps4
  go_upto_region 1 with (fail)
  refine wp_world fun W HW => ?_
  have hB : Below w.heap.size w W := by rw [HW.out]; (repeat (first | exact Below.refl _ _ | refine Below.alloc ?_ (by simp; try omega) _ | refine Below.setCell ?_ (by simp) _ | refine Below.drew ?_))
  have d0 : W.cell? ⟨w.heap.size, 0, none⟩ = some (.int .i64 n) := by rw [HW.out]; simp [go_sem]
  have d1 : W.cell? ⟨w.heap.size, 1, none⟩ = some (.slice s l.length cap) := by rw [HW.out]; simp [go_sem]
  have d2 : W.cell? ⟨w.heap.size, 2, none⟩ = some (.slice s2 K.length cq) := by rw [HW.out]; simp [go_sem]
  have dl : w.heap.size < W.heap.size := World.block_lt_of_cell? W _ d0
  have q0 : W.cell? ⟨w.heap.size + 1, 0, none⟩ = some (.int .i64 v) := by rw [HW.out]; simp [go_sem]
  have q1 : W.cell? ⟨w.heap.size + 1, 1, none⟩ = some (.int .i64 x) := by rw [HW.out]; simp [go_sem]
  have q2 : W.cell? ⟨w.heap.size + 1, 2, none⟩ = some (.int .i64 yy) := by rw [HW.out]; simp [go_sem]
  have q3 : W.cell? ⟨w.heap.size + 1, 3, none⟩ = some (.int .i64 z) := by rw [HW.out]; simp [go_sem]
  have ql : w.heap.size + 1 < W.heap.size := World.block_lt_of_cell? W _ q0
  try replace hr := up_of hB hr
  go_upto_region 3 with (first | (go_at_call 13; refine (hwd.out _ hr).mono ?_; rintro e W1 ⟨⟨b, rfl⟩, hb⟩; replace hB := up_of hb hB; replace hr := up_of hb hr; replace d0 := up_of hb d0; replace d1 := up_of hb d1; replace d2 := up_of hb d2; replace q0 := up_of hb q0; replace q1 := up_of hb q1; replace q2 := up_of hb q2; replace q3 := up_of hb q3; cases b))
  rotate_left
  · go_wp2_with (first | (go_at_call 14; refine (hsn.out _).mono ?_; rintro e W1 ⟨rfl, hb⟩; (try replace hr := up_of hb hr); (try replace hB := up_of hb hB); (try replace d0 := up_of hb d0); (try replace d1 := up_of hb d1); (try replace d2 := up_of hb d2); (try replace dl := up_of hb dl); (try replace q0 := up_of hb q0); (try replace q1 := up_of hb q1); (try replace q2 := up_of hb q2); (try replace q3 := up_of hb q3); (try replace ql := up_of hb ql)))
    go_ret
    exact ⟨rfl, hB⟩
  go_wp2_with (first | (go_at_call 18; refine (hl1.out _ hr).mono ?_; rintro e W1 ⟨rfl, hb⟩; (try replace hr := up_of hb hr); (try replace hB := up_of hb hB); (try replace d0 := up_of hb d0); (try replace d1 := up_of hb d1); (try replace d2 := up_of hb d2); (try replace dl := up_of hb dl); (try replace q0 := up_of hb q0); (try replace q1 := up_of hb q1); (try replace q2 := up_of hb q2); (try replace q3 := up_of hb q3); (try replace ql := up_of hb ql)) | (go_at_call 19; refine (hl2.out _ hr).mono ?_; rintro e W1 ⟨rfl, hb⟩; (try replace hr := up_of hb hr); (try replace hB := up_of hb hB); (try replace d0 := up_of hb d0); (try replace d1 := up_of hb d1); (try replace d2 := up_of hb d2); (try replace dl := up_of hb dl); (try replace q0 := up_of hb q0); (try replace q1 := up_of hb q1); (try replace q2 := up_of hb q2); (try replace q3 := up_of hb q3); (try replace ql := up_of hb ql)) | (go_at_call 20; refine (hf1.out _ hr).mono ?_; rintro e W1 ⟨rfl, hb⟩; (try replace hr := up_of hb hr); (try replace hB := up_of hb hB); (try replace d0 := up_of hb d0); (try replace d1 := up_of hb d1); (try replace d2 := up_of hb d2); (try replace dl := up_of hb dl); (try replace q0 := up_of hb q0); (try replace q1 := up_of hb q1); (try replace q2 := up_of hb q2); (try replace q3 := up_of hb q3); (try replace ql := up_of hb ql)) | (go_at_call 21; refine (hf2.out _ hr).mono ?_; rintro e W1 ⟨rfl, hb⟩; (try replace hr := up_of hb hr); (try replace hB := up_of hb hB); (try replace d0 := up_of hb d0); (try replace d1 := up_of hb d1); (try replace d2 := up_of hb d2); (try replace dl := up_of hb dl); (try replace q0 := up_of hb q0); (try replace q1 := up_of hb q1); (try replace q2 := up_of hb q2); (try replace q3 := up_of hb q3); (try replace ql := up_of hb ql)) | (go_at_call 14; refine (hsn.out _).mono ?_; rintro e W1 ⟨rfl, hb⟩; (try replace hr := up_of hb hr); (try replace hB := up_of hb hB); (try replace d0 := up_of hb d0); (try replace d1 := up_of hb d1); (try replace d2 := up_of hb d2); (try replace dl := up_of hb dl); (try replace q0 := up_of hb q0); (try replace q1 := up_of hb q1); (try replace q2 := up_of hb q2); (try replace q3 := up_of hb q3); (try replace ql := up_of hb ql)))
  go_ret
  exact ⟨rfl, hB⟩
end Go.Proofs.Ytadmnlkgefbhcaa
