/- All elements, as the reference lists them. -/
import Derived.Test.YtbpdgoedglkefaaB5
namespace Go.Proofs.Ytbpdgoedglkefaa
open Go.RowKit

/-- An element. -/
structure El where
  v : Nat
  p : Pt
def elE : Elt El := ⟨4, fun a => [.int .i64 a.v, .int .i64 a.p.x, .int .i64 a.p.y, .int .i64 a.p.z], by decide, fun _ => rfl, fun _ u h => by simp at h; rcases h with rfl | rfl | rfl | rfl <;> rfl⟩
theorem info_el : (Try.prog.info? 34).map (fun i => (i.zero, i.size, i.bytes)) = some (some (.agg #[.int .i64 0, .int .i64 0, .int .i64 0, .int .i64 0]), 4, 32) := by kernel_rfl
/-- All elements of the first nv variables. -/
def els (P : List Pt) (nv : Nat) : List El := (List.range nv).flatMap fun v => P.map (El.mk v)
theorem els_succ (P : List Pt) (k : Nat) : els P (k + 1) = els P k ++ P.map (El.mk k) := by simp [els, List.range_succ]
theorem els_len (P : List Pt) : ∀ k, (els P k).length = k * P.length
  | 0 => by simp [els]
  | k + 1 => by rw [els_succ, List.length_append, els_len P k, List.length_map]; rw [Nat.succ_mul]
theorem el_snoc (pre : List El) (x : El) : elE.all (pre ++ [x]) = elE.all pre ++ [.int .i64 x.v, .int .i64 x.p.x, .int .i64 x.p.y, .int .i64 x.p.z] := by simp [Elt.all, elE]
set_option maxRecDepth 100000 in
set_option maxHeartbeats 2000000 in
theorem elements_c (n : Int) (s : Option Addr) (cap : Nat) (l : List Iq) (s2 : Option Addr) (cq nv : Nat) (w : World) (hd : Dom w s l) (hn : 1 ≤ n ∧ n ≤ 3) (hnv : nv ≤ 4) (hpl : (pts n l).length ≤ 1000) :
    Calls Try.prog 66 #[.agg #[.int .i64 n, .slice s l.length cap, .slice s2 nv cq]] w fun e w' => ∃ s' c', e = .returned (.slice s' (els (pts n l) nv).length c') ∧ SlS elE w' s' (els (pts n l) nv) ∧ Below w.heap.size w w' := by
  have hall := fun V (h : Dom V s l) => (All_c n s cap l V hn h.iq h.len h.wf).mono (R' := fun e w' => ∃ s' cap', e = .returned (.slice s' (pts n l).length cap') ∧ PtS w' s' (pts n l) ∧ Below V.heap.size V w') (fun e w' ⟨s', c', he, ho, hb⟩ => ⟨s', c', he, owns_pt ho, hb⟩)
  obtain ⟨P, hP⟩ : ∃ x, pts n l = x := ⟨_, rfl⟩
  simp only [hP] at hall hpl ⊢
  clear hP
  replace hall := Lib.hid hall
  go_enter Try.func66, Try.ntmps66
  go_upto_region 1 with (fail)
  refine wp_world fun W HW => ?_
  have hB : Below w.heap.size w W := by rw [HW.out]; (repeat (first | exact Below.refl _ _ | refine Below.alloc ?_ (by simp; try omega) _ | refine Below.setCell ?_ (by simp) _ | refine Below.drew ?_))
  have d0 : W.cell? ⟨w.heap.size, 0, none⟩ = some (.int .i64 n) := by rw [HW.out]; simp [go_sem]
  have d1 : W.cell? ⟨w.heap.size, 1, none⟩ = some (.slice s l.length cap) := by rw [HW.out]; simp [go_sem]
  have d2 : W.cell? ⟨w.heap.size, 2, none⟩ = some (.slice s2 nv cq) := by rw [HW.out]; simp [go_sem]
  have dl : w.heap.size < W.heap.size := World.block_lt_of_cell? W _ d0
  try replace hd := up_of hB hd
  go_upto_region 3 with (first | (go_at_call 55; refine (hall.out _ hd).mono ?_; rintro e W2 ⟨sp, cp, rfl, hps, hb⟩; (try replace hd := up_of hb hd); (try replace hB := up_of hb hB); (try replace d0 := up_of hb d0); (try replace d1 := up_of hb d1); (try replace d2 := up_of hb d2); (try replace dl := up_of hb dl)))
  go_wp2
  go_loopw [3, 14] (fun out i V => ∃ (k : Nat) (pre : List El), k ≤ nv ∧ i = .int .i64 k ∧ Hid (pre = els P k) ∧ V.ownsRow W2.heap.size 34 4 out pre.length (elE.all pre) ∧ Below W2.heap.size W2 V) (fun _ i _ => nv - (intOf i).toNat)
  case atStart => exact ⟨0, [], by omega, rfl, rfl, World.ownsRow_nil _ _ _ _, Below.refl _ _⟩
  case round =>
    obtain ⟨k, pre, hk, rfl, hpre, hown, hBV⟩ := hrel
    by_cases hlt : k < nv
    · have i4 : (0 : Int) ≤ (k : Int) := by omega
      have i5 : (k : Int) < (nv : Int) := by omega
      go_wp2
      go_loopw [3, 19] (fun out i V => ∃ (j : Nat) (pre : List El), j ≤ P.length ∧ i = .int .i64 j ∧ Hid (pre = els P k ++ (P.take j).map (El.mk k)) ∧ V.ownsRow W2.heap.size 34 4 out pre.length (elE.all pre) ∧ Below W2.heap.size W2 V) (fun _ i _ => P.length - (intOf i).toNat)
      case atStart => exact ⟨0, pre, by omega, rfl, Lib.hid (by rw [hpre.out]; simp), hown, hBV⟩
      case round =>
        clear hown hBV hpre pre
        obtain ⟨j, pre, hj, rfl, hpre, hown, hBV⟩ := hrel
        try replace hd := up_of hBV hd
        try replace hB := up_of hBV hB
        try replace d0 := up_of hBV d0
        try replace d1 := up_of hBV d1
        try replace d2 := up_of hBV d2
        try replace dl := up_of hBV dl
        try replace hps := up_of hBV hps
        by_cases hlj : j < P.length
        · obtain ⟨b', off', e', hb', z0, z1, z2⟩ := hps.at hlj
          subst e'
          have hpl2 : pre.length ≤ 4000 := by
            have h1 := congrArg List.length hpre.out
            rw [List.length_append, els_len, List.length_map, List.length_take] at h1
            have h2 : k * P.length ≤ 3 * 1000 := Nat.mul_le_mul (by omega) hpl
            omega
          have hpn : pre ++ [⟨k, P[j]⟩] = els P k ++ (P.take (j + 1)).map (El.mk k) := by
            rw [hpre.out, List.take_succ_eq_append_getElem hlj, List.map_append, List.append_assoc]; rfl
          obtain ⟨pj, hpj⟩ : ∃ x, P[j] = x := ⟨_, rfl⟩
          rw [hpj] at z0 z1 z2 hpn
          replace hpn := Lib.hid hpn; replace hpj := Lib.hid hpj
          have i6 : (0 : Int) ≤ (j : Int) := by omega
          have i7 : (j : Int) < (P.length : Int) := by omega
          go_upto_region 9 with (fail)
          refine wp_world fun Y HY => ?_
          have hY : Below wr.heap.size wr Y := by rw [HY.out]; (repeat (first | exact Below.refl _ _ | refine Below.alloc ?_ (by simp; try omega) _ | refine Below.setCell ?_ (by simp) _ | refine Below.drew ?_))
          have x0 : Y.cell? ⟨wr.heap.size, 0, none⟩ = some (.int .i64 pj.x) := by rw [HY.out]; simp [go_sem]
          have x1 : Y.cell? ⟨wr.heap.size, 1, none⟩ = some (.int .i64 pj.y) := by rw [HY.out]; simp [go_sem]
          have x2 : Y.cell? ⟨wr.heap.size, 2, none⟩ = some (.int .i64 pj.z) := by rw [HY.out]; simp [go_sem]
          have xl : wr.heap.size < Y.heap.size := World.block_lt_of_cell? Y _ x0
          try replace hd := up_of hY hd
          try replace hB := up_of hY hB
          try replace d0 := up_of hY d0
          try replace d1 := up_of hY d1
          try replace d2 := up_of hY d2
          try replace dl := up_of hY dl
          try replace hps := up_of hY hps
          try replace hown := up_of hY hown
          try replace hBV := up_of hY hBV
          have hYs := hBV.size
          go_wp2_with (first | (at_builtin; obtain ⟨i0, hi, hz0, hz1, hz2⟩ := info_parts info_el; refine wpList_append_own _ rfl _ _ 75 rfl W2.heap.size 34 i0 (.agg #[.int .i64 0, .int .i64 0, .int .i64 0, .int .i64 0]) 4 32 Try.underlying75 hi hz0 hz1 hz2 rfl (by decide) _ _ _ rfl (hown.alloc _) ⟨Y.heap.size, 0, none⟩ 1 1 [.int .i64 k, .int .i64 pj.x, .int .i64 pj.y, .int .i64 pj.z] rfl rfl (news_new _ _ _) (by simp [Value.oneCell']) (by unfold maxLen; omega) (by omega) (by simp; omega) ?_; intro v1 w1 hown1 hgrow hnil))
          go_roundw
          case rel => exact ⟨j + 1, pre ++ [⟨k, pj⟩], by omega, rfl, hpn, by rw [el_snoc]; simpa using hown1, Up.grown hBV hYs hown hgrow⟩
          case measure => exact meas hlj
        · obtain rfl : j = P.length := by omega
          go_wp2
          go_roundw
          case rel => exact ⟨k + 1, pre, by omega, rfl, Lib.hid (by rw [hpre.out, List.take_length, els_succ]), hown, hBV⟩
          case measure => exact meas hlt
    · obtain rfl : k = nv := by omega
      try replace hd := up_of hBV hd
      try replace hB := up_of hBV hB
      try replace d0 := up_of hBV d0
      try replace d1 := up_of hBV d1
      try replace d2 := up_of hBV d2
      try replace dl := up_of hBV dl
      try replace hps := up_of hBV hps
      try replace hown := up_of hBV hown
      try replace hBV := up_of hBV hBV
      try replace hY := up_of hBV hY
      try replace x0 := up_of hBV x0
      try replace x1 := up_of hBV x1
      try replace x2 := up_of hBV x2
      try replace xl := up_of hBV xl
      have hp2 := hpre.out
      subst hp2
      obtain ⟨s', c', rfl, _⟩ := owns_shape hown
      go_wp2
      go_ret
      first | exact ⟨s', ⟨c', rfl⟩, SlS.of_own (E := elE) hown, hB⟩ | exact ⟨s', c', rfl, SlS.of_own (E := elE) hown, hB⟩
end Go.Proofs.Ytbpdgoedglkefaa
