/- MixPeriods returns true for all inputs, and the input reads as it did. -/
import Derived.Test.YtgeoehokojijdaaMixOpen
import Derived.Test.YtgeoehokojijdaaOpenU8
import Derived.Test.YtgeoehokojijdaaMix43
namespace Go.Proofs.Ytgeoehokojijdaa
open Go.ChangeShapes Go.WideShapes Go.ChangeAt Go.RowKit Go.Joins Go.Deep

theorem MixPeriods_w (s : Option Addr) (cap : Nat) (k : List (List Clm)) (q1 q2 : Nat) (w : World) (h : Ker w s cap k) (hq1 : q1 ≤ 255) (hq2 : q2 ≤ 255) :
    Calls Try.prog 15 #[.slice s k.length cap, .int .u8 q1, .int .u8 q2] w fun e w' => e = .returned (.bool true) ∧ Below w.heap.size w w' := MixPeriods_c s cap k q1 q2 w h hq1 hq2
set_option maxRecDepth 100000 in
theorem mixPeriods_lifted (os : Os) (started : os.Started) (H : Type) (enc : TypeId × Value → H) :
    ReturnsInHanded {} Try.checked os 15 .any (Rows.mixPeriodsSpec.pre6 enc Try.prog Try.f15 Rows.mixPeriodsRow.domain false) (Rows.mixPeriodsSpec.post enc Try.prog Try.f15 false true false false) := by
  refine returnsInHanded_of_change (C := Try.checked) Try.own started (by kernel_rfl) Try.func15
    (ChangeSpec.witness6 (enc := enc) (C := Try.checked) false ⟨#[], #[(.slice none 0 0), (.int .u8 0), (.int .u8 0)], []⟩ 8 (by kernel_rfl) (by kernel_rfl) (by kernel_rfl) (by kernel_rfl)) ?_
  intro W base args ds gs before hval0 hW hcnd _
  have hval : ∀ (j : Nat) t v, Try.f15.params[j]? = some t → args[j]? = some v → Value.okWide Try.prog W .any base t v := hval0
  have hW' := hW
  obtain ⟨p, q, hA0, hV, rfl, hfz, hnd⟩ := hW
  have hA : DataW.TrodAll enc Try.prog W 0 (fun _ => true) true Try.f15.params.toList args.toList ds p := hA0
  rw [Try.params15] at hA hval
  obtain ⟨v0, vs0, d0, ds0, p0, q0, hargs, rfl, rfl, h0, r0⟩ := trodAll_cons hA
  obtain ⟨v1, vs1, d1, ds1, p1, q1, rfl, rfl, rfl, h1, r1⟩ := trodAll_cons r0
  obtain ⟨v2, vs2, d2, ds2, p2, q2, rfl, rfl, rfl, h2, r2⟩ := trodAll_cons r1
  obtain ⟨rfl, rfl, rfl⟩ := trodAll_nil r2
  obtain rfl : args = #[v0, v1, v2] := by cases args; simp_all
  obtain ⟨rfl, rfl⟩ := trodVars_none hV
  have lt0 : ∀ x ∈ p0, x.block < W.heap.size := by obtain ⟨m, hm⟩ := h0; exact DataW.trod_lt m _ _ _ hm
  have lt1 : ∀ x ∈ p1, x.block < W.heap.size := by obtain ⟨m, hm⟩ := h1; exact DataW.trod_lt m _ _ _ hm
  have lt2 : ∀ x ∈ p2, x.block < W.heap.size := by obtain ⟨m, hm⟩ := h2; exact DataW.trod_lt m _ _ _ hm
  obtain ⟨s0, cap0, k0, rfl, hk0⟩ := open_ker (hval 0 _ v0 rfl rfl) h0
  obtain ⟨n1, rfl, hn1⟩ := open_u8 (hval 1 _ v1 rfl rfl) h1
  obtain ⟨n2, rfl, hn2⟩ := open_u8 (hval 2 _ v2 rfl rfl) h2
  clear hA0 hval0
  refine (MixPeriods_w s0 cap0 k0 n1 n2 W hk0 hn1 hn2).mono fun e W' ⟨he, bel⟩ => ?_
  subst he
  exact ⟨_, rfl, _, _, _, [], _, [], hW', trodAll_mk1 (shut_bool Try.underlying4 _), (trodAll_cons_mk (Below.trod Try.laidOut (by kernel_rfl) (of_decide_eq_true (by kernel_rfl)) h0 bel lt0) (trodAll_cons_mk (Below.trod Try.laidOut (by kernel_rfl) (of_decide_eq_true (by kernel_rfl)) h1 bel lt1) (trodAll_cons_mk (Below.trod Try.laidOut (by kernel_rfl) (of_decide_eq_true (by kernel_rfl)) h2 bel lt2) trodAll_mk0))), rfl, bel.frame _, fun h => by cases h⟩

theorem mixPeriods_over : Rows.mixPeriodsRow.holds Try.pinned (OpenSpec.ofChange Rows.mixPeriodsSpec) :=
  OpenClaim.holds_of_wide 15 Try.f15 rfl rfl rfl rfl rfl rfl rfl ⟨rfl, rfl, rfl, rfl, rfl⟩ rfl rfl rfl rfl rfl (by kernel_rfl) Try.func15 (by kernel_rfl)
    (of_decide_eq_true (by kernel_rfl)) (by unfold Func.isWrapper; first | (rw [if_pos (by decide +kernel)]; kernel_rfl) | (rw [if_neg (by decide +kernel)]; exact ⟨rfl, rfl⟩))
    (fun os started H enc _ => mixPeriods_lifted os started H enc)

theorem mixPeriods_proved : Rows.MixPeriodsSaid := mixPeriods_over
#print axioms mixPeriods_proved
end Go.Proofs.Ytgeoehokojijdaa
