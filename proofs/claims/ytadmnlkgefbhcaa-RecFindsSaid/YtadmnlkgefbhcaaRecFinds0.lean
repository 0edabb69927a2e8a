/- RecFinds: the walk. -/
import Derived.Test.YtadmnlkgefbhcaaFndChn
import Derived.Test.YtadmnlkgefbhcaaMost
import Derived.Test.YtadmnlkgefbhcaaRecCircles0
import Derived.Test.YtadmnlkgefbhcaaRChain2
import Derived.Test.YtadmnlkgefbhcaaRecFirs
import Derived.Test.YtadmnlkgefbhcaaRecWide
namespace Go.Proofs.Ytadmnlkgefbhcaa
open Go.RowKit Go.Maps

set_option maxRecDepth 100000 in
set_option maxHeartbeats 4000000 in
theorem RecFinds_w (n : Int) (s : Option Addr) (cap : Nat) (l : List Iq) (s2 : Option Addr) (cq : Nat) (K : List Vv) (w : World) (hr : RecM w s l s2 cq K) :
    Calls Try.prog 11 #[.agg #[.int .i64 n, .slice s l.length cap, .slice s2 K.length cq]] w fun e w' => e = .returned (.bool true) ∧ Below w.heap.size w w' := by
  have hwd := fun V (h : RecM V s l s2 cq K) => Wide2_c n s cap l s2 cq K 120 V h
  have hva := fun V (h : RecM V s l s2 cq K) => h.valid2 n cap
  have hsn := fun V => Sane_c V
  cases hb : recB n l K
  · rw [hb] at hva
    replace hwd := Lib.hid hwd; replace hva := Lib.hid hva; replace hsn := Lib.hid hsn
    clear hb
    go_enter Try.func11, Try.ntmps11
    go_upto_region 1 with (fail)
    refine wp_world fun W HW => ?_
    have hB : Below w.heap.size w W := by rw [HW.out]; (repeat (first | exact Below.refl _ _ | refine Below.alloc ?_ (by simp; try omega) _ | refine Below.setCell ?_ (by simp) _ | refine Below.drew ?_))
    have d0 : W.cell? ⟨w.heap.size, 0, none⟩ = some (.int .i64 n) := by rw [HW.out]; simp [go_sem]
    have d1 : W.cell? ⟨w.heap.size, 1, none⟩ = some (.slice s l.length cap) := by rw [HW.out]; simp [go_sem]
    have d2 : W.cell? ⟨w.heap.size, 2, none⟩ = some (.slice s2 K.length cq) := by rw [HW.out]; simp [go_sem]
    have dl : w.heap.size < W.heap.size := World.block_lt_of_cell? W _ d0
    try replace hr := up_of hB hr
    go_upto_region 2 with (first | (go_at_call 13; refine (hwd.out _ hr).mono ?_; rintro e W1 ⟨⟨b, rfl⟩, hb⟩; replace hB := up_of hb hB; replace hr := up_of hb hr; replace d0 := up_of hb d0; replace d1 := up_of hb d1; replace d2 := up_of hb d2; cases b) | (go_at_call 31; refine (hva.out _ hr).mono ?_; rintro e W2 ⟨rfl, hb⟩; replace hB := up_of hb hB))
    all_goals
      go_wp2_with (first | (go_at_call 14; refine (hsn.out _).mono ?_; rintro e W1 ⟨rfl, hb⟩; (try replace hr := up_of hb hr); (try replace hB := up_of hb hB); (try replace d0 := up_of hb d0); (try replace d1 := up_of hb d1); (try replace d2 := up_of hb d2); (try replace dl := up_of hb dl)))
      go_ret
      exact ⟨rfl, hB⟩
  rw [hb] at hva
  have hcir := fun V (h : RecM V s l s2 cq K) => Circle_c n s cap l s2 cq K V h hb
  have hchn := fun V (h : RecM V s l s2 cq K) => Chain_c n s cap l s2 cq K V h hb
  have hlvl := fun V (h : RecM V s l s2 cq K) => Levels_c n s cap l s2 cq K V h
  by_cases hyes : okN2 K (pts n l)
  case neg =>
    have hl1 := fun V (h : RecM V s l s2 cq K) => (hlvl V h).mono (R' := fun e w' => e = .returned (.tuple #[.slice none 0 0, .int .i64 21]) ∧ Below V.heap.size V w') (fun e w' ⟨h1, h2⟩ => ⟨by
      rcases h1 with ⟨h1, -⟩ | ⟨-, -, h1⟩ | ⟨-, h1, -⟩
      · rw [hb] at h1; cases h1
      · exact h1
      · exact absurd h1 hyes, h2⟩)
    have hc1 := fun V (h : RecM V s l s2 cq K) => (hchn V h).mono (R' := fun e w' => e = .returned (.tuple #[.slice none 0 0, .int .i64 21]) ∧ Below V.heap.size V w') (fun e w' ⟨h1, h2⟩ => ⟨by
      rcases h1 with ⟨-, h1⟩ | ⟨h1, -⟩
      · exact h1
      · exact absurd h1 hyes, h2⟩)
    have hi1 := fun V (h : RecM V s l s2 cq K) => (hcir V h).mono (R' := fun e w' => (∃ so co L, e = .returned (.tuple #[.slice so (L : List Ar).length co, .int .i64 0]) ∧ SlS arE w' so L ∧ Hid (icB K (pts n l) L = true ∧ L.length ≤ 4000 ∧ ∀ y ∈ L, y.I64)) ∧ Below V.heap.size V w') (fun e w' ⟨h1, h2⟩ => ⟨by
      rcases h1 with ⟨h1, -⟩ | ⟨-, h1⟩
      · exact absurd h1 hyes
      · exact h1, h2⟩)
    have hci := fun V (h : RecM V s l s2 cq K) => (Circular_c n s cap l s2 cq K V h).mono (R' := fun e w' => e = .returned (.tuple #[.bool true, .int .i64 0]) ∧ Below V.heap.size V w') (fun e w' ⟨h1, h2⟩ => ⟨by
      rw [h1]; unfold ciA ciC; rw [hb]; simp [hyes], h2⟩)
    have hic := fun (sl : Option Addr) (cl : Nat) (L : List Ar) V (h : RecM V s l s2 cq K) (hs : SlS arE V sl L) (hL : icB K (pts n l) L = true ∧ L.length ≤ 4000 ∧ ∀ y ∈ L, y.I64) => (rIsCircle_c n s cap l s2 cq K sl cl L V h (by omega) hs hL.2.2).mono (R' := fun e w' => e = .returned (.tuple #[.bool true, .int .i64 0]) ∧ Below V.heap.size V w') (fun e w' ⟨h1, h2⟩ => ⟨by
      rw [h1]; unfold icA liC; rw [hb, hL.1]; simp; omega, h2⟩)
    clear hcir hchn hlvl hb hyes
    obtain ⟨GL, hGL⟩ : ∃ G : List Ar → Prop, ∀ L, (icB K (pts n l) L = true ∧ L.length ≤ 4000 ∧ ∀ y ∈ L, y.I64) = G L := ⟨_, fun _ => rfl⟩
    simp only [hGL] at hi1 hic
    clear hGL
    replace hwd := Lib.hid hwd; replace hva := Lib.hid hva; replace hsn := Lib.hid hsn; replace hl1 := Lib.hid hl1; replace hc1 := Lib.hid hc1; replace hi1 := Lib.hid hi1; replace hci := Lib.hid hci; replace hic := Lib.hid hic
    go_enter Try.func11, Try.ntmps11
    go_upto_region 1 with (fail)
    refine wp_world fun W HW => ?_
    have hB : Below w.heap.size w W := by rw [HW.out]; (repeat (first | exact Below.refl _ _ | refine Below.alloc ?_ (by simp; try omega) _ | refine Below.setCell ?_ (by simp) _ | refine Below.drew ?_))
    have d0 : W.cell? ⟨w.heap.size, 0, none⟩ = some (.int .i64 n) := by rw [HW.out]; simp [go_sem]
    have d1 : W.cell? ⟨w.heap.size, 1, none⟩ = some (.slice s l.length cap) := by rw [HW.out]; simp [go_sem]
    have d2 : W.cell? ⟨w.heap.size, 2, none⟩ = some (.slice s2 K.length cq) := by rw [HW.out]; simp [go_sem]
    have dl : w.heap.size < W.heap.size := World.block_lt_of_cell? W _ d0
    try replace hr := up_of hB hr
    go_upto_region 2 with (first | (go_at_call 13; refine (hwd.out _ hr).mono ?_; rintro e W1 ⟨⟨b, rfl⟩, hb⟩; replace hB := up_of hb hB; replace hr := up_of hb hr; replace d0 := up_of hb d0; replace d1 := up_of hb d1; replace d2 := up_of hb d2; cases b) | (go_at_call 31; refine (hva.out _ hr).mono ?_; rintro e W2 ⟨rfl, hb⟩; replace hB := up_of hb hB; replace hr := up_of hb hr; replace d0 := up_of hb d0; replace d1 := up_of hb d1; replace d2 := up_of hb d2))
    rotate_left
    · go_wp2_with (first | (go_at_call 14; refine (hsn.out _).mono ?_; rintro e W1 ⟨rfl, hb⟩; (try replace hr := up_of hb hr); (try replace hB := up_of hb hB); (try replace d0 := up_of hb d0); (try replace d1 := up_of hb d1); (try replace d2 := up_of hb d2); (try replace dl := up_of hb dl)))
      go_ret
      exact ⟨rfl, hB⟩
    go_upto_region 4 with (first | (go_at_call 39; refine (hci.out _ hr).mono ?_; rintro e W1 ⟨rfl, hb⟩; (try replace hr := up_of hb hr); (try replace hB := up_of hb hB); (try replace d0 := up_of hb d0); (try replace d1 := up_of hb d1); (try replace d2 := up_of hb d2); (try replace dl := up_of hb dl)))
    go_upto_region 5 with (first | (go_at_call 42; refine (hi1.out _ hr).mono ?_; rintro e W4 ⟨⟨so1, co1, L1, rfl, hL1, hG1⟩, hb⟩; (try replace hr := up_of hb hr); (try replace hB := up_of hb hB); (try replace d0 := up_of hb d0); (try replace d1 := up_of hb d1); (try replace d2 := up_of hb d2); (try replace dl := up_of hb dl)))
    go_upto_region 6 with (first | (go_at_call 43; refine (hc1.out _ hr).mono ?_; rintro e W1 ⟨rfl, hb⟩; (try replace hr := up_of hb hr); (try replace hB := up_of hb hB); (try replace d0 := up_of hb d0); (try replace d1 := up_of hb d1); (try replace d2 := up_of hb d2); (try replace dl := up_of hb dl); (try replace hL1 := up_of hb hL1)))
    go_upto_region 7 with (first | (go_at_call 27; refine (hl1.out _ hr).mono ?_; rintro e W1 ⟨rfl, hb⟩; (try replace hr := up_of hb hr); (try replace hB := up_of hb hB); (try replace d0 := up_of hb d0); (try replace d1 := up_of hb d1); (try replace d2 := up_of hb d2); (try replace dl := up_of hb dl); (try replace hL1 := up_of hb hL1)))
    go_wp2_with (first | (go_at_call 44; refine (hic.out _ _ _ _ hr hL1 hG1.out).mono ?_; rintro e W1 ⟨rfl, hb⟩; (try replace hr := up_of hb hr); (try replace hB := up_of hb hB); (try replace d0 := up_of hb d0); (try replace d1 := up_of hb d1); (try replace d2 := up_of hb d2); (try replace dl := up_of hb dl); (try replace hL1 := up_of hb hL1)) | (go_at_call 14; refine (hsn.out _).mono ?_; rintro e W1 ⟨rfl, hb⟩; (try replace hr := up_of hb hr); (try replace hB := up_of hb hB); (try replace d0 := up_of hb d0); (try replace d1 := up_of hb d1); (try replace d2 := up_of hb d2); (try replace dl := up_of hb dl); (try replace hL1 := up_of hb hL1)))
    go_ret
    exact ⟨rfl, hB⟩
  have hl1 := fun V (h : RecM V s l s2 cq K) => (hlvl V h).mono (R' := fun e w' => (∃ s' c', e = .returned (.tuple #[.slice s' K.length c', .int .i64 0]) ∧ SlSS intE w' s' (rowsN (pts n l).length (lvsL K (pts n l)) K.length)) ∧ Below V.heap.size V w') (fun e w' ⟨h1, h2⟩ => ⟨by
    rcases h1 with ⟨h1, -⟩ | ⟨-, h1, -⟩ | ⟨-, -, h1⟩
    · rw [hb] at h1; cases h1
    · exact absurd hyes h1
    · exact h1, h2⟩)
  have hc1 := fun V (h : RecM V s l s2 cq K) => (hchn V h).mono (R' := fun e w' => (∃ so co L, e = .returned (.tuple #[.slice so (L : List Ar).length co, .int .i64 0]) ∧ SlS arE w' so L ∧ Hid (chB K (pts n l) L = true ∧ L.length = mostL (rowsN (pts n l).length (lvsL K (pts n l)) K.length) ∧ L.length ≤ 4000 ∧ ∀ y ∈ L, y.I64)) ∧ Below V.heap.size V w') (fun e w' ⟨h1, h2⟩ => ⟨by
    rcases h1 with ⟨h1, -⟩ | ⟨-, h1⟩
    · exact absurd hyes h1
    · exact h1, h2⟩)
  have hi1 := fun V (h : RecM V s l s2 cq K) => (hcir V h).mono (R' := fun e w' => e = .returned (.tuple #[.slice none 0 0, .int .i64 5]) ∧ Below V.heap.size V w') (fun e w' ⟨h1, h2⟩ => ⟨by
    rcases h1 with ⟨-, h1⟩ | ⟨h1, -⟩
    · exact h1
    · exact absurd hyes h1, h2⟩)
  have hci := fun V (h : RecM V s l s2 cq K) => (Circular_c n s cap l s2 cq K V h).mono (R' := fun e w' => e = .returned (.tuple #[.bool false, .int .i64 0]) ∧ Below V.heap.size V w') (fun e w' ⟨h1, h2⟩ => ⟨by
    rw [h1]; unfold ciA ciC; rw [hb]; simp [hyes], h2⟩)
  have hic := fun (sl : Option Addr) (cl : Nat) (L : List Ar) V (h : RecM V s l s2 cq K) (hs : SlS arE V sl L) (hL : chB K (pts n l) L = true ∧ L.length = mostL (rowsN (pts n l).length (lvsL K (pts n l)) K.length) ∧ L.length ≤ 4000 ∧ ∀ y ∈ L, y.I64) => (rIsChain_c n s cap l s2 cq K sl cl L V h (by omega) hs (fun y hy => (hL.2.2.2 y hy).2)).mono (R' := fun e w' => e = .returned (.tuple #[.bool true, .int .i64 0]) ∧ Below V.heap.size V w') (fun e w' ⟨h1, h2⟩ => ⟨by
    rw [h1]; unfold chA liC; rw [hb, hL.1]; simp; omega, h2⟩)
  have hLE := fun L : List Ar => fun (hL : chB K (pts n l) L = true ∧ L.length = mostL (rowsN (pts n l).length (lvsL K (pts n l)) K.length) ∧ L.length ≤ 4000 ∧ ∀ y ∈ L, y.I64) => hL.2.1
  have hmo := fun V s1 c1 (h : SlSS intE V s1 (rowsN (pts n l).length (lvsL K (pts n l)) K.length)) => most_c s1 c1 _ V h (by rw [rowsN_len]; have := (netOk hb).vars; omega) (fun r hr => by
    obtain ⟨v, hv, rfl⟩ := List.getElem_of_mem hr
    rw [rowsN_len] at hv
    have h1 := (rowsN_part (lvsL_len K (pts n l)) hv (by rw [rowsN_len]; exact hv)).1
    have := (netOk hb).len
    omega)
  simp only [rowsN_len] at hmo
  obtain ⟨GL, hGL⟩ : ∃ G : List Ar → Prop, ∀ L, (chB K (pts n l) L = true ∧ L.length = mostL (rowsN (pts n l).length (lvsL K (pts n l)) K.length) ∧ L.length ≤ 4000 ∧ ∀ y ∈ L, y.I64) = G L := ⟨_, fun _ => rfl⟩
  simp only [hGL] at hc1 hic hLE
  obtain ⟨MM, hMM⟩ : ∃ x, mostL (rowsN (pts n l).length (lvsL K (pts n l)) K.length) = x := ⟨_, rfl⟩
  simp only [hMM] at hLE hmo
  clear hGL hMM hcir hchn hlvl hb hyes
  obtain ⟨RW, hRW⟩ : ∃ x, rowsN (pts n l).length (lvsL K (pts n l)) K.length = x := ⟨_, rfl⟩
  simp only [hRW] at hl1 hmo
  clear hRW
  replace hwd := Lib.hid hwd; replace hva := Lib.hid hva; replace hsn := Lib.hid hsn; replace hl1 := Lib.hid hl1; replace hc1 := Lib.hid hc1; replace hi1 := Lib.hid hi1; replace hci := Lib.hid hci; replace hic := Lib.hid hic; replace hLE := Lib.hid hLE; replace hmo := Lib.hid hmo
  go_enter Try.func11, Try.ntmps11
  go_upto_region 1 with (fail)
  refine wp_world fun W HW => ?_
  have hB : Below w.heap.size w W := by rw [HW.out]; (repeat (first | exact Below.refl _ _ | refine Below.alloc ?_ (by simp; try omega) _ | refine Below.setCell ?_ (by simp) _ | refine Below.drew ?_))
  have d0 : W.cell? ⟨w.heap.size, 0, none⟩ = some (.int .i64 n) := by rw [HW.out]; simp [go_sem]
  have d1 : W.cell? ⟨w.heap.size, 1, none⟩ = some (.slice s l.length cap) := by rw [HW.out]; simp [go_sem]
  have d2 : W.cell? ⟨w.heap.size, 2, none⟩ = some (.slice s2 K.length cq) := by rw [HW.out]; simp [go_sem]
  have dl : w.heap.size < W.heap.size := World.block_lt_of_cell? W _ d0
  try replace hr := up_of hB hr
  go_upto_region 2 with (first | (go_at_call 13; refine (hwd.out _ hr).mono ?_; rintro e W1 ⟨⟨b, rfl⟩, hb⟩; replace hB := up_of hb hB; replace hr := up_of hb hr; replace d0 := up_of hb d0; replace d1 := up_of hb d1; replace d2 := up_of hb d2; cases b) | (go_at_call 31; refine (hva.out _ hr).mono ?_; rintro e W2 ⟨rfl, hb⟩; replace hB := up_of hb hB; replace hr := up_of hb hr; replace d0 := up_of hb d0; replace d1 := up_of hb d1; replace d2 := up_of hb d2))
  rotate_left
  · go_wp2_with (first | (go_at_call 14; refine (hsn.out _).mono ?_; rintro e W1 ⟨rfl, hb⟩; (try replace hr := up_of hb hr); (try replace hB := up_of hb hB); (try replace d0 := up_of hb d0); (try replace d1 := up_of hb d1); (try replace d2 := up_of hb d2); (try replace dl := up_of hb dl)))
    go_ret
    exact ⟨rfl, hB⟩
  go_upto_region 4 with (first | (go_at_call 39; refine (hci.out _ hr).mono ?_; rintro e W1 ⟨rfl, hb⟩; (try replace hr := up_of hb hr); (try replace hB := up_of hb hB); (try replace d0 := up_of hb d0); (try replace d1 := up_of hb d1); (try replace d2 := up_of hb d2); (try replace dl := up_of hb dl)))
  go_upto_region 5 with (first | (go_at_call 42; refine (hi1.out _ hr).mono ?_; rintro e W1 ⟨rfl, hb⟩; (try replace hr := up_of hb hr); (try replace hB := up_of hb hB); (try replace d0 := up_of hb d0); (try replace d1 := up_of hb d1); (try replace d2 := up_of hb d2); (try replace dl := up_of hb dl)))
  go_upto_region 6 with (first | (go_at_call 43; refine (hc1.out _ hr).mono ?_; rintro e W4 ⟨⟨so1, co1, L1, rfl, hL1, hG1⟩, hb⟩; (try replace hr := up_of hb hr); (try replace hB := up_of hb hB); (try replace d0 := up_of hb d0); (try replace d1 := up_of hb d1); (try replace d2 := up_of hb d2); (try replace dl := up_of hb dl)))
  go_upto_region 7 with (first | (go_at_call 27; refine (hl1.out _ hr).mono ?_; rintro e W5 ⟨⟨s5, c5, rfl, hlv⟩, hb⟩; (try replace hr := up_of hb hr); (try replace hB := up_of hb hB); (try replace d0 := up_of hb d0); (try replace d1 := up_of hb d1); (try replace d2 := up_of hb d2); (try replace dl := up_of hb dl); (try replace hL1 := up_of hb hL1)))
  have hLL := hLE.out L1 hG1.out
  have hb9 : ((L1.length : Int) == MM) = true := beq_iff_eq.2 hLL
  replace hLL := Lib.hid hLL
  go_wp2_with (first | (go_at_call 23; refine (hic.out _ _ _ _ hr hL1 hG1.out).mono ?_; rintro e W1 ⟨rfl, hb⟩; (try replace hr := up_of hb hr); (try replace hB := up_of hb hB); (try replace d0 := up_of hb d0); (try replace d1 := up_of hb d1); (try replace d2 := up_of hb d2); (try replace dl := up_of hb dl); (try replace hL1 := up_of hb hL1); (try replace hlv := up_of hb hlv)) | (go_at_call 33; refine (hmo.out _ _ _ hlv).mono ?_; rintro e W1 ⟨rfl, hb⟩; (try replace hr := up_of hb hr); (try replace hB := up_of hb hB); (try replace d0 := up_of hb d0); (try replace d1 := up_of hb d1); (try replace d2 := up_of hb d2); (try replace dl := up_of hb dl); (try replace hL1 := up_of hb hL1); (try replace hlv := up_of hb hlv)) | (go_at_call 14; refine (hsn.out _).mono ?_; rintro e W1 ⟨rfl, hb⟩; (try replace hr := up_of hb hr); (try replace hB := up_of hb hB); (try replace d0 := up_of hb d0); (try replace d1 := up_of hb d1); (try replace d2 := up_of hb d2); (try replace dl := up_of hb dl); (try replace hL1 := up_of hb hL1); (try replace hlv := up_of hb hlv)))
  go_ret
  exact ⟨rfl, hB⟩
end Go.Proofs.Ytadmnlkgefbhcaa
