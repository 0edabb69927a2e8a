/- What is too much for a statement; first values as exported; sanity. -/
import Derived.Test.YtakbpjgnjfigcaaGreatRLv2
namespace Go.Proofs.YtakbpjgnjfigcaaGreat
open Go.RowKit Go.Maps

set_option maxRecDepth 100000 in
set_option maxHeartbeats 2000000 in
theorem Wide2_c (n : Int) (s : Option Addr) (cap : Nat) (l : List Iq) (s2 : Option Addr) (cq : Nat) (K : List Vv) (pp : Int) (w : World) (hr : RecM w s l s2 cq K) :
    Calls Tryz.prog 26 #[.agg #[.int .i64 n, .slice s l.length cap, .slice s2 K.length cq], .int .i64 pp] w fun e w' => (∃ b : Bool, e = .returned (.bool b)) ∧ Below w.heap.size w w' := by
  have hkl := hr.len
  have hll := hr.dom.len
  have hv := fun V (h : RecM V s l s2 cq K) => rvalid_c n s cap l V h.dom.iq h.dom.len
  have hal := fun (hn : 1 ≤ n ∧ n ≤ 3) V (h : RecM V s l s2 cq K) => (All_c n s cap l V hn h.dom.iq h.dom.len h.dom.wf).mono fun e w' ⟨s', c', he, _, hb⟩ => (show (∃ s' c', e = Ending.returned (.slice s' (pts n l).length c')) ∧ Below V.heap.size V w' from ⟨⟨s', c', he⟩, hb⟩)
  have hdim := fun (h : validB n l = true) => (valid_n h : 1 ≤ n ∧ n ≤ 3)
  obtain ⟨P, hP⟩ : ∃ x, (pts n l).length = x := ⟨_, rfl⟩
  obtain ⟨vB, hvB⟩ : ∃ x, validB n l = x := ⟨_, rfl⟩
  simp only [hP] at hal
  simp only [hvB] at hv hdim
  clear hP hvB
  replace hv := Lib.hid hv; replace hal := Lib.hid hal; replace hdim := Lib.hid hdim
  go_enter Tryz.func26, Tryz.ntmps26
  go_upto_region 1 with (fail)
  refine wp_world fun W HW => ?_
  have hB : Below w.heap.size w W := by rw [HW.out]; (repeat (first | exact Below.refl _ _ | refine Below.alloc ?_ (by simp; try omega) _ | refine Below.setCell ?_ (by simp) _ | refine Below.drew ?_))
  have d0 : W.cell? ⟨w.heap.size, 0, none⟩ = some (.int .i64 n) := by rw [HW.out]; simp [go_sem]
  have d1 : W.cell? ⟨w.heap.size, 1, none⟩ = some (.slice s l.length cap) := by rw [HW.out]; simp [go_sem]
  have d2 : W.cell? ⟨w.heap.size, 2, none⟩ = some (.slice s2 K.length cq) := by rw [HW.out]; simp [go_sem]
  have dl : w.heap.size < W.heap.size := World.block_lt_of_cell? W _ d0
  try replace hr := up_of hB hr
  by_cases h1 : 8 < K.length
  · have h1' : (8 : Int) < (K.length : Int) := by omega
    go_wp2
    go_ret
    first | exact ⟨⟨_, rfl⟩, hB⟩ | exact ⟨.inr rfl, hB⟩ | exact ⟨.inl rfl, hB⟩
  have h1' : ¬ (8 : Int) < (K.length : Int) := by omega
  by_cases h2 : 12 < l.length
  · have h2' : (12 : Int) < (l.length : Int) := by omega
    go_wp2
    go_ret
    first | exact ⟨⟨_, rfl⟩, hB⟩ | exact ⟨.inr rfl, hB⟩ | exact ⟨.inl rfl, hB⟩
  have h2' : ¬ (12 : Int) < (l.length : Int) := by omega
  go_wp2
  go_loopw [5] (fun ii V => ∃ i : Nat, i ≤ K.length ∧ ii = .int .i64 i ∧ Below W.heap.size W V) (fun ii _ => K.length - (intOf ii).toNat)
  case atStart => exact ⟨0, by omega, rfl, Below.refl _ _⟩
  case round =>
    obtain ⟨i, hi, rfl, hBV⟩ := hrel
    try replace hr := up_of hBV hr
    try replace hB := up_of hBV hB
    try replace d0 := up_of hBV d0
    try replace d1 := up_of hBV d1
    try replace d2 := up_of hBV d2
    try replace dl := up_of hBV dl
    by_cases hlt : i < K.length
    · obtain ⟨b, off, sa, ca, rfl, hb, q0, q1, q2, q3, q4, q5, q6, hsl, hla, -, -⟩ := hr.vars.at hlt
      obtain ⟨x, hx⟩ : ∃ x, K[i] = x := ⟨_, rfl⟩
      simp only [hx] at q0 q1 q2 q3 q4 q5 q6 hla
      clear hx hsl
      have i1 : (i : Int) < (K.length : Int) := by omega
      have i0 : (0 : Int) ≤ (i : Int) := by omega
      by_cases h3 : 8 < x.args.length
      · have h3' : (8 : Int) < (x.args.length : Int) := by omega
        go_wp2
        go_ret
        first | exact ⟨⟨_, rfl⟩, hB⟩ | exact ⟨.inr rfl, hB⟩ | exact ⟨.inl rfl, hB⟩
      have h3' : ¬ (8 : Int) < (x.args.length : Int) := by omega
      by_cases h4 : 20 < x.name.size
      · have h4' : (20 : Int) < (x.name.size : Int) := by omega
        go_wp2
        go_ret
        first | exact ⟨⟨_, rfl⟩, hB⟩ | exact ⟨.inr rfl, hB⟩ | exact ⟨.inl rfl, hB⟩
      have h4' : ¬ (20 : Int) < (x.name.size : Int) := by omega
      go_wp2
      go_roundw
      case rel => exact ⟨i + 1, by omega, rfl, hBV⟩
      case measure => exact meas hlt
    · obtain rfl : i = K.length := by omega
      cases vB
      · go_wp2_with (first | (go_at_call 27; refine (hv.out _ hr).mono ?_; rintro e W1 ⟨rfl, hb⟩; (try replace hr := up_of hb hr); (try replace hB := up_of hb hB); (try replace d0 := up_of hb d0); (try replace d1 := up_of hb d1); (try replace d2 := up_of hb d2); (try replace dl := up_of hb dl)))
        go_ret
        first | exact ⟨⟨_, rfl⟩, hB⟩ | exact ⟨.inr rfl, hB⟩ | exact ⟨.inl rfl, hB⟩
      have hn := hdim.out rfl
      by_cases h5 : pp < (P : Int)
      · by_cases h6 : (P : Int) ≤ 1000
        · go_wp2_with (first | (go_at_call 27; refine (hv.out _ hr).mono ?_; rintro e W1 ⟨rfl, hb⟩; (try replace hr := up_of hb hr); (try replace hB := up_of hb hB); (try replace d0 := up_of hb d0); (try replace d1 := up_of hb d1); (try replace d2 := up_of hb d2); (try replace dl := up_of hb dl)) | (go_at_call 28; refine (hal.out hn _ hr).mono ?_; rintro e W1 ⟨⟨s', c', rfl⟩, hb⟩; (try replace hr := up_of hb hr); (try replace hB := up_of hb hB); (try replace d0 := up_of hb d0); (try replace d1 := up_of hb d1); (try replace d2 := up_of hb d2); (try replace dl := up_of hb dl)))
          go_ret
          first | exact ⟨⟨_, rfl⟩, hB⟩ | exact ⟨.inr rfl, hB⟩ | exact ⟨.inl rfl, hB⟩
        · go_wp2_with (first | (go_at_call 27; refine (hv.out _ hr).mono ?_; rintro e W1 ⟨rfl, hb⟩; (try replace hr := up_of hb hr); (try replace hB := up_of hb hB); (try replace d0 := up_of hb d0); (try replace d1 := up_of hb d1); (try replace d2 := up_of hb d2); (try replace dl := up_of hb dl)) | (go_at_call 28; refine (hal.out hn _ hr).mono ?_; rintro e W1 ⟨⟨s', c', rfl⟩, hb⟩; (try replace hr := up_of hb hr); (try replace hB := up_of hb hB); (try replace d0 := up_of hb d0); (try replace d1 := up_of hb d1); (try replace d2 := up_of hb d2); (try replace dl := up_of hb dl)))
          go_ret
          first | exact ⟨⟨_, rfl⟩, hB⟩ | exact ⟨.inr rfl, hB⟩ | exact ⟨.inl rfl, hB⟩
      · go_wp2_with (first | (go_at_call 27; refine (hv.out _ hr).mono ?_; rintro e W1 ⟨rfl, hb⟩; (try replace hr := up_of hb hr); (try replace hB := up_of hb hB); (try replace d0 := up_of hb d0); (try replace d1 := up_of hb d1); (try replace d2 := up_of hb d2); (try replace dl := up_of hb dl)) | (go_at_call 28; refine (hal.out hn _ hr).mono ?_; rintro e W1 ⟨⟨s', c', rfl⟩, hb⟩; (try replace hr := up_of hb hr); (try replace hB := up_of hb hB); (try replace d0 := up_of hb d0); (try replace d1 := up_of hb d1); (try replace d2 := up_of hb d2); (try replace dl := up_of hb dl)))
        go_ret
        first | exact ⟨⟨_, rfl⟩, hB⟩ | exact ⟨.inr rfl, hB⟩ | exact ⟨.inl rfl, hB⟩
end Go.Proofs.YtakbpjgnjfigcaaGreat
