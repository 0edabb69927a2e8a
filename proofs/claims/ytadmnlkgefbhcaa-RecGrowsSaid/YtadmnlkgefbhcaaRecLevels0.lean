/- RecLevels: the walk. -/
import Derived.Test.YtadmnlkgefbhcaaRecSame
import Derived.Test.YtadmnlkgefbhcaaRecWide
import Derived.Test.YtadmnlkgefbhcaaRecFirs
namespace Go.Proofs.Ytadmnlkgefbhcaa
open Go.RowKit Go.Maps

theorem rowsN_bd (m : Nat) (l : List Int) (v : Nat) (hm : m ≤ 68921) : ∀ r ∈ rowsN m l v, r.length ≤ 9223372036854775807 := by
  intro r hr
  unfold rowsN at hr
  obtain ⟨i, -, rfl⟩ := List.mem_map.1 hr
  rw [List.length_take]; omega
set_option maxRecDepth 100000 in
set_option maxHeartbeats 2000000 in
theorem RecLevels_w (n : Int) (s : Option Addr) (cap : Nat) (l : List Iq) (s2 : Option Addr) (cq : Nat) (K : List Vv) (w : World) (hr : RecM w s l s2 cq K) :
    Calls Try.prog 6 #[.agg #[.int .i64 n, .slice s l.length cap, .slice s2 K.length cq]] w fun e w' => e = .returned (.bool true) ∧ Below w.heap.size w w' := by
  have hwd := fun V (h : RecM V s l s2 cq K) => Wide2_c n s cap l s2 cq K 120 V h
  have hl1 := fun V (h : RecM V s l s2 cq K) => Levels_c n s cap l s2 cq K V h
  have hl2 := fun V (h : RecM V s l s2 cq K) => rLevels_c n s cap l s2 cq K V h
  have hsn := fun V => Sane_c V
  have hkl := hr.len
  have hsa : ∀ (T : List (List Int)) V s1 s2 c1 c2, T.length = K.length → (∀ r ∈ T, r.length ≤ 9223372036854775807) → SlSS intE V s1 T → SlSS intE V s2 T → Calls Try.prog 26 #[.slice s1 K.length c1, .slice s2 K.length c2] V fun e w' => e = .returned (.bool true) ∧ Below V.heap.size V w' := fun T V s1 s2 c1 c2 hT hrw h1 h2 => by
    rw [← hT]; exact SameAll_eq s1 s2 c1 c2 T V h1 h2 (by omega) hrw
  have hs0 : ∀ V, Calls Try.prog 26 #[.slice none 0 0, .slice none 0 0] V fun e w' => e = .returned (.bool true) ∧ Below V.heap.size V w' := fun V => SameAll_eq none none 0 0 [] V SlSS.nil SlSS.nil (by simp) (by simp)
  have hT1 := rowsN_len (pts n l).length (lvsL K (pts n l)) K.length
  have hT2 := rowsN_bd (pts n l).length (lvsL K (pts n l)) K.length (pts_len n l)
  unfold LvRet at hl1 hl2
  obtain ⟨T, hT⟩ : ∃ T, rowsN (pts n l).length (lvsL K (pts n l)) K.length = T := ⟨_, rfl⟩
  simp only [hT] at hl1 hl2 hT1 hT2
  obtain ⟨RB, hRB⟩ : ∃ T, recB n l K = T := ⟨_, rfl⟩
  simp only [hRB] at hl1 hl2
  obtain ⟨OK, hOK⟩ : ∃ T, okN2 K (pts n l) = T := ⟨_, rfl⟩
  simp only [hOK] at hl1 hl2
  clear hT hRB hOK
  have hsT := fun V s1 s2 c1 c2 => hsa T V s1 s2 c1 c2 hT1 hT2
  clear hsa hT1 hT2
  replace hwd := Lib.hid hwd; replace hl1 := Lib.hid hl1; replace hl2 := Lib.hid hl2; replace hsn := Lib.hid hsn; replace hsT := Lib.hid hsT; replace hs0 := Lib.hid hs0
  go_enter Try.func6, Try.ntmps6
  go_upto_region 1 with (fail)
  refine wp_world fun W HW => ?_
  have hB : Below w.heap.size w W := by rw [HW.out]; (repeat (first | exact Below.refl _ _ | refine Below.alloc ?_ (by simp; try omega) _ | refine Below.setCell ?_ (by simp) _ | refine Below.drew ?_))
  have d0 : W.cell? ⟨w.heap.size, 0, none⟩ = some (.int .i64 n) := by rw [HW.out]; simp [go_sem]
  have d1 : W.cell? ⟨w.heap.size, 1, none⟩ = some (.slice s l.length cap) := by rw [HW.out]; simp [go_sem]
  have d2 : W.cell? ⟨w.heap.size, 2, none⟩ = some (.slice s2 K.length cq) := by rw [HW.out]; simp [go_sem]
  have dl : w.heap.size < W.heap.size := World.block_lt_of_cell? W _ d0
  try replace hr := up_of hB hr
  go_upto_region 3 with (first | (go_at_call 13; refine (hwd.out _ hr).mono ?_; rintro e W1 ⟨⟨b, rfl⟩, hb⟩; replace hB := up_of hb hB; replace hr := up_of hb hr; replace d0 := up_of hb d0; replace d1 := up_of hb d1; replace d2 := up_of hb d2; cases b))
  rotate_left
  · go_wp2_with (first | (go_at_call 14; refine (hsn.out _).mono ?_; rintro e W1 ⟨rfl, hb⟩; (try replace hr := up_of hb hr); (try replace hB := up_of hb hB); (try replace d0 := up_of hb d0); (try replace d1 := up_of hb d1); (try replace d2 := up_of hb d2); (try replace dl := up_of hb dl)))
    go_ret
    exact ⟨rfl, hB⟩
  go_upto_region 4 with (first | (go_at_call 27; refine (hl1.out _ hr).mono ?_; rintro e W2 ⟨h1, hb⟩; replace hB := up_of hb hB; replace hr := up_of hb hr; replace d0 := up_of hb d0; replace d1 := up_of hb d1; replace d2 := up_of hb d2; rcases h1 with ⟨h1, rfl⟩ | ⟨h1, h2, rfl⟩ | ⟨h1, h2, s', c', rfl, hss⟩))
  · go_wp2_with (first | (go_at_call 28; refine (hl2.out _ hr).mono ?_; rintro e W3 ⟨h3, hb⟩; replace hB := up_of hb hB; replace hr := up_of hb hr; obtain ⟨h3, rfl⟩ : _ ∧ _ := h3.resolve_right (fun hh => by rcases hh with ⟨hh, -⟩ | ⟨hh, -⟩ <;> (rw [h1] at hh; cases hh))) | (go_at_call 26; refine (hs0.out _).mono ?_; rintro e W1 ⟨rfl, hb⟩; (try replace hr := up_of hb hr); (try replace hB := up_of hb hB); (try replace d0 := up_of hb d0); (try replace d1 := up_of hb d1); (try replace d2 := up_of hb d2); (try replace dl := up_of hb dl)) | (go_at_call 14; refine (hsn.out _).mono ?_; rintro e W1 ⟨rfl, hb⟩; (try replace hr := up_of hb hr); (try replace hB := up_of hb hB); (try replace d0 := up_of hb d0); (try replace d1 := up_of hb d1); (try replace d2 := up_of hb d2); (try replace dl := up_of hb dl)))
    go_ret
    exact ⟨rfl, hB⟩
  · go_wp2_with (first | (go_at_call 28; refine (hl2.out _ hr).mono ?_; rintro e W3 ⟨h3, hb⟩; replace hB := up_of hb hB; replace hr := up_of hb hr; obtain ⟨h4, h5, rfl⟩ : _ ∧ _ ∧ _ := (h3.resolve_left (fun hh => by rw [h1] at hh; cases hh.1)).resolve_right (fun hh => h2 hh.2.1)) | (go_at_call 26; refine (hs0.out _).mono ?_; rintro e W1 ⟨rfl, hb⟩; (try replace hr := up_of hb hr); (try replace hB := up_of hb hB); (try replace d0 := up_of hb d0); (try replace d1 := up_of hb d1); (try replace d2 := up_of hb d2); (try replace dl := up_of hb dl)) | (go_at_call 14; refine (hsn.out _).mono ?_; rintro e W1 ⟨rfl, hb⟩; (try replace hr := up_of hb hr); (try replace hB := up_of hb hB); (try replace d0 := up_of hb d0); (try replace d1 := up_of hb d1); (try replace d2 := up_of hb d2); (try replace dl := up_of hb dl)))
    go_ret
    exact ⟨rfl, hB⟩
  · skip
    go_wp2_with (first | (go_at_call 28; refine (hl2.out _ hr).mono ?_; rintro e W3 ⟨h3, hb⟩; (try replace hr := up_of hb hr); (try replace hB := up_of hb hB); (try replace d0 := up_of hb d0); (try replace d1 := up_of hb d1); (try replace d2 := up_of hb d2); (try replace dl := up_of hb dl); (try replace hss := up_of hb hss); obtain ⟨h4, h5, s3, c3, rfl, hss2⟩ : _ ∧ _ ∧ _ := (h3.resolve_left (fun hh => by rw [h1] at hh; cases hh.1)).resolve_left (fun hh => hh.2.1 h2)) | (go_at_call 26; refine (hsT.out _ _ _ _ _ hss hss2).mono ?_; rintro e W1 ⟨rfl, hb⟩; (try replace hr := up_of hb hr); (try replace hB := up_of hb hB); (try replace d0 := up_of hb d0); (try replace d1 := up_of hb d1); (try replace d2 := up_of hb d2); (try replace dl := up_of hb dl); (try replace hss := up_of hb hss)) | (go_at_call 14; refine (hsn.out _).mono ?_; rintro e W1 ⟨rfl, hb⟩; (try replace hr := up_of hb hr); (try replace hB := up_of hb hB); (try replace d0 := up_of hb d0); (try replace d1 := up_of hb d1); (try replace d2 := up_of hb d2); (try replace dl := up_of hb dl); (try replace hss := up_of hb hss)))
    go_ret
    exact ⟨rfl, hB⟩
end Go.Proofs.Ytadmnlkgefbhcaa
