/- MixShifts returns true for all inputs, and the input reads as it did. -/
import Derived.Test.YtgeoehokojijdaaMixOpen
import Derived.Test.YtgeoehokojijdaaMix47
namespace Go.Proofs.Ytgeoehokojijdaa
open Go.ChangeShapes Go.WideShapes Go.ChangeAt Go.RowKit Go.Joins Go.Deep

theorem MixShifts_w (s : Option Addr) (cap : Nat) (k : List (List Clm)) (q d : Int) (t : Option Addr) (ct : Nat) (one : List Clm) (w : World) (h : Ker w s cap k) (hq : -9223372036854775808 ≤ q ∧ q ≤ 9223372036854775807) (hd : -9223372036854775808 ≤ d ∧ d ≤ 9223372036854775807)
    (g : SlS clmE w t one) (gl : one.length ≤ 9223372036854775807) (_gn : t = none → ct = 0) (gc : one.length ≤ ct) :
    Calls Try.prog 13 #[.slice s k.length cap, .int .i64 q, .int .i64 d, .slice t one.length ct] w fun e w' => e = .returned (.bool true) ∧ Below w.heap.size w w' := MixShifts_c s cap k q d t ct one w h hq hd g gl gc
set_option maxRecDepth 100000 in
theorem mixShifts_lifted (os : Os) (started : os.Started) (H : Type) (enc : TypeId × Value → H) :
    ReturnsInHanded {} Try.checked os 13 .any (Rows.mixShiftsSpec.pre6 enc Try.prog Try.f13 Rows.mixShiftsRow.domain false) (Rows.mixShiftsSpec.post enc Try.prog Try.f13 false true false false) := by
  refine returnsInHanded_of_change (C := Try.checked) Try.own started (by kernel_rfl) Try.func13
    (ChangeSpec.witness6 (enc := enc) (C := Try.checked) false ⟨#[], #[(.slice none 0 0), (.int .i64 0), (.int .i64 0), (.slice none 0 0)], []⟩ 8 (by kernel_rfl) (by kernel_rfl) (by kernel_rfl) (by kernel_rfl)) ?_
  intro W base args ds gs before hval0 hW hcnd _
  have hval : ∀ (j : Nat) t v, Try.f13.params[j]? = some t → args[j]? = some v → Value.okWide Try.prog W .any base t v := hval0
  have hW' := hW
  obtain ⟨p, q, hA0, hV, rfl, hfz, hnd⟩ := hW
  have hA : DataW.TrodAll enc Try.prog W 0 (fun _ => true) true Try.f13.params.toList args.toList ds p := hA0
  rw [Try.params13] at hA hval
  obtain ⟨v0, vs0, d0, ds0, p0, q0, hargs, rfl, rfl, h0, r0⟩ := trodAll_cons hA
  obtain ⟨v1, vs1, d1, ds1, p1, q1, rfl, rfl, rfl, h1, r1⟩ := trodAll_cons r0
  obtain ⟨v2, vs2, d2, ds2, p2, q2, rfl, rfl, rfl, h2, r2⟩ := trodAll_cons r1
  obtain ⟨v3, vs3, d3, ds3, p3, q3, rfl, rfl, rfl, h3, r3⟩ := trodAll_cons r2
  obtain ⟨rfl, rfl, rfl⟩ := trodAll_nil r3
  obtain rfl : args = #[v0, v1, v2, v3] := by cases args; simp_all
  obtain ⟨rfl, rfl⟩ := trodVars_none hV
  have lt0 : ∀ x ∈ p0, x.block < W.heap.size := by obtain ⟨m, hm⟩ := h0; exact DataW.trod_lt m _ _ _ hm
  have lt1 : ∀ x ∈ p1, x.block < W.heap.size := by obtain ⟨m, hm⟩ := h1; exact DataW.trod_lt m _ _ _ hm
  have lt2 : ∀ x ∈ p2, x.block < W.heap.size := by obtain ⟨m, hm⟩ := h2; exact DataW.trod_lt m _ _ _ hm
  have lt3 : ∀ x ∈ p3, x.block < W.heap.size := by obtain ⟨m, hm⟩ := h3; exact DataW.trod_lt m _ _ _ hm
  obtain ⟨s0, cap0, k0, rfl, hk0⟩ := open_ker (hval 0 _ v0 rfl rfl) h0
  obtain ⟨n1, rfl, hn1⟩ := open_intv (hval 1 _ v1 rfl rfl) h1
  obtain ⟨n2, rfl, hn2⟩ := open_intv (hval 2 _ v2 rfl rfl) h2
  obtain ⟨s3, cap3, l3, rfl, hs3, hl3, hc3, hq3⟩ := open_clms (hval 3 _ v3 rfl rfl) h3
  clear hA0 hval0
  refine (MixShifts_w s0 cap0 k0 n1 n2 s3 cap3 l3 W hk0 hn1 hn2 hs3 hl3 hc3 hq3).mono fun e W' ⟨he, bel⟩ => ?_
  subst he
  exact ⟨_, rfl, _, _, _, [], _, [], hW', trodAll_mk1 (shut_bool Try.underlying4 _), (trodAll_cons_mk (Below.trod Try.laidOut (by kernel_rfl) (of_decide_eq_true (by kernel_rfl)) h0 bel lt0) (trodAll_cons_mk (Below.trod Try.laidOut (by kernel_rfl) (of_decide_eq_true (by kernel_rfl)) h1 bel lt1) (trodAll_cons_mk (Below.trod Try.laidOut (by kernel_rfl) (of_decide_eq_true (by kernel_rfl)) h2 bel lt2) (trodAll_cons_mk (Below.trod Try.laidOut (by kernel_rfl) (of_decide_eq_true (by kernel_rfl)) h3 bel lt3) trodAll_mk0)))), rfl, bel.frame _, fun h => by cases h⟩

theorem mixShifts_over : Rows.mixShiftsRow.holds Try.pinned (OpenSpec.ofChange Rows.mixShiftsSpec) :=
  OpenClaim.holds_of_wide 13 Try.f13 rfl rfl rfl rfl rfl rfl rfl ⟨rfl, rfl, rfl, rfl, rfl⟩ rfl rfl rfl rfl rfl (by kernel_rfl) Try.func13 (by kernel_rfl)
    (of_decide_eq_true (by kernel_rfl)) (by unfold Func.isWrapper; first | (rw [if_pos (by decide +kernel)]; kernel_rfl) | (rw [if_neg (by decide +kernel)]; exact ⟨rfl, rfl⟩))
    (fun os started H enc _ => mixShifts_lifted os started H enc)

theorem mixShifts_proved : Rows.MixShiftsSaid := mixShifts_over
#print axioms mixShifts_proved
end Go.Proofs.Ytgeoehokojijdaa
