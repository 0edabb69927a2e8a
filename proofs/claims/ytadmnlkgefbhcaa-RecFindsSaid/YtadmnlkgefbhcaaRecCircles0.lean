/- RecCircles: the walk. -/
import Derived.Test.YtadmnlkgefbhcaaRCirc
import Derived.Test.YtadmnlkgefbhcaaCircular
import Derived.Test.YtadmnlkgefbhcaaRecWide
import Derived.Test.YtadmnlkgefbhcaaRecFirs
namespace Go.Proofs.Ytadmnlkgefbhcaa
open Go.RowKit Go.Maps

set_option maxRecDepth 100000 in
set_option maxHeartbeats 4000000 in
theorem RecCircles_w (n : Int) (s : Option Addr) (cap : Nat) (l : List Iq) (s2 : Option Addr) (cq : Nat) (K : List Vv) (sl : Option Addr) (cl : Nat) (L : List Ar) (w : World) (hr : RecM w s l s2 cq K) (hs : SlS arE w sl L) (hll : L.length ≤ 9223372036854775807) (hI0 : ∀ y ∈ L, y.I64) :
    Calls Try.prog 12 #[.agg #[.int .i64 n, .slice s l.length cap, .slice s2 K.length cq], .slice sl L.length cl] w fun e w' => e = .returned (.bool true) ∧ Below w.heap.size w w' := by
  have hI : ∀ y ∈ L, y.p.I64 := fun y hy => (hI0 y hy).2
  have hwd := fun V (h : RecM V s l s2 cq K) => Wide2_c n s cap l s2 cq K 120 V h
  have hl1 := fun V (h : RecM V s l s2 cq K) (hs : SlS arE V sl L) => IsCircle_c n s cap l s2 cq K sl cl L V h hll hs hI
  have hl2 := fun V (h : RecM V s l s2 cq K) (hs : SlS arE V sl L) => rIsCircle_c n s cap l s2 cq K sl cl L V h hll hs hI0
  have hr1 := fun V (h : RecM V s l s2 cq K) => Circular_c n s cap l s2 cq K V h
  have hr2 := fun V (h : RecM V s l s2 cq K) => rCircular_c n s cap l s2 cq K V h
  have hsn := fun V => Sane_c V
  unfold CiRet at hr1 hr2
  obtain ⟨CA, hCA⟩ : ∃ x, icA n l K L = x := ⟨_, rfl⟩
  obtain ⟨CC, hCC⟩ : ∃ x, liC n l K L = x := ⟨_, rfl⟩
  simp only [hCA, hCC] at hl1 hl2
  obtain ⟨DA, hDA⟩ : ∃ x, ciA n l K = x := ⟨_, rfl⟩
  obtain ⟨DC, hDC⟩ : ∃ x, ciC n l K = x := ⟨_, rfl⟩
  simp only [hDA, hDC] at hr1 hr2
  clear hCA hCC hDA hDC hI0 hI
  have e1 : (CA == CA) = true := by simp
  have e2 : (CC == CC) = true := by simp
  have e3 : (DA == DA) = true := by simp
  have e4 : (DC == DC) = true := by simp
  replace hwd := Lib.hid hwd; replace hl1 := Lib.hid hl1; replace hl2 := Lib.hid hl2; replace hsn := Lib.hid hsn; replace hr1 := Lib.hid hr1; replace hr2 := Lib.hid hr2
  go_enter Try.func12, Try.ntmps12
  go_upto_region 1 with (fail)
  refine wp_world fun W HW => ?_
  have hB : Below w.heap.size w W := by rw [HW.out]; (repeat (first | exact Below.refl _ _ | refine Below.alloc ?_ (by simp; try omega) _ | refine Below.setCell ?_ (by simp) _ | refine Below.drew ?_))
  have d0 : W.cell? ⟨w.heap.size, 0, none⟩ = some (.int .i64 n) := by rw [HW.out]; simp [go_sem]
  have d1 : W.cell? ⟨w.heap.size, 1, none⟩ = some (.slice s l.length cap) := by rw [HW.out]; simp [go_sem]
  have d2 : W.cell? ⟨w.heap.size, 2, none⟩ = some (.slice s2 K.length cq) := by rw [HW.out]; simp [go_sem]
  have dl : w.heap.size < W.heap.size := World.block_lt_of_cell? W _ d0
  try replace hr := up_of hB hr
  try replace hs := up_of hB hs
  by_cases hbig : (300 : Int) < (L.length : Int) ∧ (L.length : Int) ≤ 5000 ∨ (6000 : Int) < (L.length : Int)
  · have hsplit : ((300 : Int) < (L.length : Int) ∧ (L.length : Int) ≤ 5000) ∨ (¬ (L.length : Int) ≤ 5000 ∧ (300 : Int) < (L.length : Int) ∧ (6000 : Int) < (L.length : Int)) := by omega
    clear hbig
    rcases hsplit with ⟨b1, b2⟩ | ⟨b1, b2, b3⟩
    all_goals
      go_upto_region 2 with (first | (go_at_call 13; refine (hwd.out _ hr).mono ?_; rintro e W1 ⟨⟨b, rfl⟩, hb⟩; replace hB := up_of hb hB; cases b))
      all_goals
        go_wp2_with (first | (go_at_call 14; refine (hsn.out _).mono ?_; rintro e W1 ⟨rfl, hb⟩; (try replace hr := up_of hb hr); (try replace hs := up_of hb hs); (try replace hB := up_of hb hB); (try replace d0 := up_of hb d0); (try replace d1 := up_of hb d1); (try replace d2 := up_of hb d2); (try replace dl := up_of hb dl)))
        go_ret
        exact ⟨rfl, hB⟩
  have hsplit : ¬ (6000 : Int) < (L.length : Int) ∧ (¬ (300 : Int) < (L.length : Int) ∨ ((300 : Int) < (L.length : Int) ∧ ¬ (L.length : Int) ≤ 5000)) := by omega
  obtain ⟨b3, hsplit⟩ := hsplit
  clear hbig
  rcases hsplit with b1 | ⟨b1, b2⟩
  all_goals
    go_upto_region 3 with (first | (go_at_call 13; refine (hwd.out _ hr).mono ?_; rintro e W1 ⟨⟨b, rfl⟩, hb⟩; replace hB := up_of hb hB; replace hr := up_of hb hr; replace hs := up_of hb hs; replace d0 := up_of hb d0; replace d1 := up_of hb d1; replace d2 := up_of hb d2; cases b))
    rotate_left
    · go_wp2_with (first | (go_at_call 14; refine (hsn.out _).mono ?_; rintro e W1 ⟨rfl, hb⟩; (try replace hr := up_of hb hr); (try replace hs := up_of hb hs); (try replace hB := up_of hb hB); (try replace d0 := up_of hb d0); (try replace d1 := up_of hb d1); (try replace d2 := up_of hb d2); (try replace dl := up_of hb dl)))
      go_ret
      exact ⟨rfl, hB⟩
    go_wp2_with (first | (go_at_call 39; refine (hr1.out _ hr).mono ?_; rintro e W1 ⟨rfl, hb⟩; (try replace hr := up_of hb hr); (try replace hs := up_of hb hs); (try replace hB := up_of hb hB); (try replace d0 := up_of hb d0); (try replace d1 := up_of hb d1); (try replace d2 := up_of hb d2); (try replace dl := up_of hb dl)) | (go_at_call 45; refine (hr2.out _ hr).mono ?_; rintro e W1 ⟨rfl, hb⟩; (try replace hr := up_of hb hr); (try replace hs := up_of hb hs); (try replace hB := up_of hb hB); (try replace d0 := up_of hb d0); (try replace d1 := up_of hb d1); (try replace d2 := up_of hb d2); (try replace dl := up_of hb dl)) | (go_at_call 46; refine (hl1.out _ hr hs).mono ?_; rintro e W1 ⟨rfl, hb⟩; (try replace hr := up_of hb hr); (try replace hs := up_of hb hs); (try replace hB := up_of hb hB); (try replace d0 := up_of hb d0); (try replace d1 := up_of hb d1); (try replace d2 := up_of hb d2); (try replace dl := up_of hb dl)) | (go_at_call 44; refine (hl2.out _ hr hs).mono ?_; rintro e W1 ⟨rfl, hb⟩; (try replace hr := up_of hb hr); (try replace hs := up_of hb hs); (try replace hB := up_of hb hB); (try replace d0 := up_of hb d0); (try replace d1 := up_of hb d1); (try replace d2 := up_of hb d2); (try replace dl := up_of hb dl)) | (go_at_call 14; refine (hsn.out _).mono ?_; rintro e W1 ⟨rfl, hb⟩; (try replace hr := up_of hb hr); (try replace hs := up_of hb hs); (try replace hB := up_of hb hB); (try replace d0 := up_of hb d0); (try replace d1 := up_of hb d1); (try replace d2 := up_of hb d2); (try replace dl := up_of hb dl)))
    go_ret
    exact ⟨rfl, hB⟩
end Go.Proofs.Ytadmnlkgefbhcaa
