/- RecChains: the walk. -/
import Derived.Test.YtadmnlkgefbhcaaChains
import Derived.Test.YtadmnlkgefbhcaaRReads
import Derived.Test.YtadmnlkgefbhcaaRecLevels0
namespace Go.Proofs.Ytadmnlkgefbhcaa
open Go.RowKit Go.Maps

set_option maxRecDepth 100000 in
set_option maxHeartbeats 4000000 in
theorem RecChains_w (n : Int) (s : Option Addr) (cap : Nat) (l : List Iq) (s2 : Option Addr) (cq : Nat) (K : List Vv) (sl : Option Addr) (cl : Nat) (L : List Ar) (w : World) (hr : RecM w s l s2 cq K) (hs : SlS arE w sl L) (hll : L.length ≤ 9223372036854775807) (hI0 : ∀ y ∈ L, y.I64) :
    Calls Try.prog 5 #[.agg #[.int .i64 n, .slice s l.length cap, .slice s2 K.length cq], .slice sl L.length cl] w fun e w' => e = .returned (.bool true) ∧ Below w.heap.size w w' := by
  have hI : ∀ y ∈ L, y.p.I64 := fun y hy => (hI0 y hy).2
  have hwd := fun V (h : RecM V s l s2 cq K) => Wide2_c n s cap l s2 cq K 120 V h
  have hl1 := fun V (h : RecM V s l s2 cq K) (hs : SlS arE V sl L) => IsChain_c n s cap l s2 cq K sl cl L V h hll hs hI
  have hl2 := fun V (h : RecM V s l s2 cq K) (hs : SlS arE V sl L) => rIsChain_c n s cap l s2 cq K sl cl L V h hll hs hI
  have hr1 := fun V (h : RecM V s l s2 cq K) => Reads_c n s cap l s2 cq K V h
  have hr2 := fun V (h : RecM V s l s2 cq K) => rReads_c n s cap l s2 cq K V h
  have hsn := fun V => Sane_c V
  have hsa : ∀ (T : List (List Int)) V s1 s2 c1 c2, T.length ≤ 9223372036854775807 → (∀ r ∈ T, r.length ≤ 9223372036854775807) → SlSS intE V s1 T → SlSS intE V s2 T → Calls Try.prog 26 #[.slice s1 T.length c1, .slice s2 T.length c2] V fun e w' => e = .returned (.bool true) ∧ Below V.heap.size V w' := fun T V s1 s2 c1 c2 hT hrw h1 h2 => SameAll_eq s1 s2 c1 c2 T V h1 h2 hT hrw
  have hs0 : ∀ V, Calls Try.prog 26 #[.slice none 0 0, .slice none 0 0] V fun e w' => e = .returned (.bool true) ∧ Below V.heap.size V w' := fun V => SameAll_eq none none 0 0 [] V SlSS.nil SlSS.nil (by simp) (by simp)
  have hT1 : recB n l K = true → (rdT K (pts n l)).length ≤ 9223372036854775807 := fun h => by rw [rdT_len]; have := (netOk h).vars; omega
  have hT2 := fun (h : recB n l K = true) => rdT_bd (P := pts n l) (netOk h).args
  unfold RdRet at hr1 hr2
  obtain ⟨CA, hCA⟩ : ∃ x, chA n l K L = x := ⟨_, rfl⟩
  obtain ⟨CC, hCC⟩ : ∃ x, liC n l K L = x := ⟨_, rfl⟩
  simp only [hCA, hCC] at hl1 hl2
  obtain ⟨T, hT⟩ : ∃ T, rdT K (pts n l) = T := ⟨_, rfl⟩
  simp only [hT] at hr1 hr2 hT1 hT2
  have hsT := fun (h : recB n l K = true) V s1 s2 c1 c2 => hsa T V s1 s2 c1 c2 (hT1 h) (hT2 h)
  obtain ⟨RB, hRB⟩ : ∃ T, recB n l K = T := ⟨_, rfl⟩
  simp only [hRB] at hr1 hr2 hsT
  clear hsa hT1 hT2 hT hRB hCA hCC hI0 hI
  have e1 : (CA == CA) = true := by simp
  have e2 : (CC == CC) = true := by simp
  replace hwd := Lib.hid hwd; replace hl1 := Lib.hid hl1; replace hl2 := Lib.hid hl2; replace hsn := Lib.hid hsn; replace hsT := Lib.hid hsT; replace hs0 := Lib.hid hs0; replace hr1 := Lib.hid hr1; replace hr2 := Lib.hid hr2
  go_enter Try.func5, Try.ntmps5
  go_upto_region 1 with (fail)
  refine wp_world fun W HW => ?_
  have hB : Below w.heap.size w W := by rw [HW.out]; (repeat (first | exact Below.refl _ _ | refine Below.alloc ?_ (by simp; try omega) _ | refine Below.setCell ?_ (by simp) _ | refine Below.drew ?_))
  have d0 : W.cell? ⟨w.heap.size, 0, none⟩ = some (.int .i64 n) := by rw [HW.out]; simp [go_sem]
  have d1 : W.cell? ⟨w.heap.size, 1, none⟩ = some (.slice s l.length cap) := by rw [HW.out]; simp [go_sem]
  have d2 : W.cell? ⟨w.heap.size, 2, none⟩ = some (.slice s2 K.length cq) := by rw [HW.out]; simp [go_sem]
  have dl : w.heap.size < W.heap.size := World.block_lt_of_cell? W _ d0
  try replace hr := up_of hB hr
  try replace hs := up_of hB hs
  by_cases hbig : (300 : Int) < (L.length : Int) ∧ (L.length : Int) ≤ 5000 ∨ (6000 : Int) < (L.length : Int)
  · have hsplit : ((300 : Int) < (L.length : Int) ∧ (L.length : Int) ≤ 5000) ∨ (¬ (L.length : Int) ≤ 5000 ∧ (300 : Int) < (L.length : Int) ∧ (6000 : Int) < (L.length : Int)) := by omega
    clear hbig
    rcases hsplit with ⟨b1, b2⟩ | ⟨b1, b2, b3⟩
    all_goals
      go_upto_region 2 with (first | (go_at_call 13; refine (hwd.out _ hr).mono ?_; rintro e W1 ⟨⟨b, rfl⟩, hb⟩; replace hB := up_of hb hB; cases b))
      all_goals
        go_wp2_with (first | (go_at_call 14; refine (hsn.out _).mono ?_; rintro e W1 ⟨rfl, hb⟩; (try replace hr := up_of hb hr); (try replace hs := up_of hb hs); (try replace hB := up_of hb hB); (try replace d0 := up_of hb d0); (try replace d1 := up_of hb d1); (try replace d2 := up_of hb d2); (try replace dl := up_of hb dl)))
        go_ret
        exact ⟨rfl, hB⟩
  have hsplit : ¬ (6000 : Int) < (L.length : Int) ∧ (¬ (300 : Int) < (L.length : Int) ∨ ((300 : Int) < (L.length : Int) ∧ ¬ (L.length : Int) ≤ 5000)) := by omega
  obtain ⟨b3, hsplit⟩ := hsplit
  clear hbig
  have key : ∀ V, RecM V s l s2 cq K → SlS arE V sl L → True := fun _ _ _ => trivial
  clear key
  rcases hsplit with b1 | ⟨b1, b2⟩
  all_goals
    go_upto_region 3 with (first | (go_at_call 13; refine (hwd.out _ hr).mono ?_; rintro e W1 ⟨⟨b, rfl⟩, hb⟩; replace hB := up_of hb hB; replace hr := up_of hb hr; replace hs := up_of hb hs; replace d0 := up_of hb d0; replace d1 := up_of hb d1; replace d2 := up_of hb d2; cases b))
    rotate_left
    · go_wp2_with (first | (go_at_call 14; refine (hsn.out _).mono ?_; rintro e W1 ⟨rfl, hb⟩; (try replace hr := up_of hb hr); (try replace hs := up_of hb hs); (try replace hB := up_of hb hB); (try replace d0 := up_of hb d0); (try replace d1 := up_of hb d1); (try replace d2 := up_of hb d2); (try replace dl := up_of hb dl)))
      go_ret
      exact ⟨rfl, hB⟩
    go_upto_region 5 with (first | (go_at_call 22; refine (hl1.out _ hr hs).mono ?_; rintro e W1 ⟨rfl, hb⟩; (try replace hr := up_of hb hr); (try replace hs := up_of hb hs); (try replace hB := up_of hb hB); (try replace d0 := up_of hb d0); (try replace d1 := up_of hb d1); (try replace d2 := up_of hb d2); (try replace dl := up_of hb dl)) | (go_at_call 23; refine (hl2.out _ hr hs).mono ?_; rintro e W1 ⟨rfl, hb⟩; (try replace hr := up_of hb hr); (try replace hs := up_of hb hs); (try replace hB := up_of hb hB); (try replace d0 := up_of hb d0); (try replace d1 := up_of hb d1); (try replace d2 := up_of hb d2); (try replace dl := up_of hb dl)))
    go_upto_region 6 with (first | (go_at_call 24; refine (hr1.out _ hr).mono ?_; rintro e W2 ⟨h1, hb⟩; replace hB := up_of hb hB; replace hr := up_of hb hr; replace d0 := up_of hb d0; replace d1 := up_of hb d1; replace d2 := up_of hb d2; rcases h1 with ⟨h1, rfl⟩ | ⟨h1, s', c', rfl, hss⟩))
    · go_wp2_with (first | (go_at_call 25; refine (hr2.out _ hr).mono ?_; rintro e W3 ⟨h3, hb⟩; replace hB := up_of hb hB; replace hr := up_of hb hr; obtain ⟨h3, rfl⟩ : _ ∧ _ := h3.resolve_right (fun hh => by rw [h1] at hh; cases hh.1)) | (go_at_call 26; refine (hs0.out _).mono ?_; rintro e W1 ⟨rfl, hb⟩; (try replace hr := up_of hb hr); (try replace hs := up_of hb hs); (try replace hB := up_of hb hB); (try replace d0 := up_of hb d0); (try replace d1 := up_of hb d1); (try replace d2 := up_of hb d2); (try replace dl := up_of hb dl)) | (go_at_call 14; refine (hsn.out _).mono ?_; rintro e W1 ⟨rfl, hb⟩; (try replace hr := up_of hb hr); (try replace hs := up_of hb hs); (try replace hB := up_of hb hB); (try replace d0 := up_of hb d0); (try replace d1 := up_of hb d1); (try replace d2 := up_of hb d2); (try replace dl := up_of hb dl)))
      go_ret
      exact ⟨rfl, hB⟩
    · have hsT2 := fun V s1 s2 c1 c2 => hsT.out h1 V s1 s2 c1 c2
      replace hsT2 := Lib.hid hsT2
      go_wp2_with (first | (go_at_call 25; refine (hr2.out _ hr).mono ?_; rintro e W3 ⟨h3, hb⟩; (try replace hr := up_of hb hr); (try replace hs := up_of hb hs); (try replace hB := up_of hb hB); (try replace d0 := up_of hb d0); (try replace d1 := up_of hb d1); (try replace d2 := up_of hb d2); (try replace dl := up_of hb dl); (try replace hss := up_of hb hss); obtain ⟨h4, s3, c3, rfl, hss2⟩ : _ ∧ _ := h3.resolve_left (fun hh => by rw [h1] at hh; cases hh.1)) | (go_at_call 26; refine (hsT2.out _ _ _ _ _ hss hss2).mono ?_; rintro e W1 ⟨rfl, hb⟩; (try replace hr := up_of hb hr); (try replace hs := up_of hb hs); (try replace hB := up_of hb hB); (try replace d0 := up_of hb d0); (try replace d1 := up_of hb d1); (try replace d2 := up_of hb d2); (try replace dl := up_of hb dl); (try replace hss := up_of hb hss)) | (go_at_call 14; refine (hsn.out _).mono ?_; rintro e W1 ⟨rfl, hb⟩; (try replace hr := up_of hb hr); (try replace hs := up_of hb hs); (try replace hB := up_of hb hB); (try replace d0 := up_of hb d0); (try replace d1 := up_of hb d1); (try replace d2 := up_of hb d2); (try replace dl := up_of hb dl); (try replace hss := up_of hb hss)))
      go_ret
      exact ⟨rfl, hB⟩
end Go.Proofs.Ytadmnlkgefbhcaa
