/- The search for a circle of uses: the program. -/
import Derived.Test.YtbpdgoedglkefaaSch19
import Derived.Test.YtbpdgoedglkefaaSchOff
import Derived.Test.YtbpdgoedglkefaaSchUse
import Derived.Lib.SliceRun
namespace Go.Proofs.Ytbpdgoedglkefaa
open Go.RowKit

theorem info_use : (Try.prog.info? 103).map (fun i => (i.zero, i.size, i.bytes)) = some (some (.agg #[.int .i64 0, .int .i64 0]), 2, 16) := by kernel_rfl
set_option maxRecDepth 100000 in
set_option maxHeartbeats 400000 in
theorem us_clone (s : Option Addr) (cap : Nat) (l : List Us) (w : World) (hs : SlS usE w s l) (hc : s = none → cap = 0) (hl : l.length ≤ 1099511627776) :
    Calls Try.prog 124 #[.slice s l.length cap] w (RetS usE 103 l w) := by
  have hml : l.length ≤ maxLen := by unfold maxLen; omega
  have hin := hs
  cases s with
  | none =>
    obtain rfl := hs.none_nil
    obtain rfl := hc rfl
    clear hs hin hml hc
    have hq : ∀ w : World, (binOp .eql 52 (.slice none 0 0) (.slice none 0 0)).run Try.prog w = .ok (.bool true) w := fun w => Lib.run_eql_slice_nil w 52 103 _ _ _ _ _ Try.underlying52
    go_enter Try.func124, Try.ntmps124
    go_wp2
    go_ret
    exact ⟨none, 0, rfl, World.ownsRow_nil _ _ _ _, Below.refl _ _⟩
  | some a =>
    have hs2 := Lib.hid (up_of ((Below.refl w.heap.size w).alloc (Nat.le_refl _) (.cells #[] 103)) hs)
    replace hs := Lib.hid hs
    clear hin hc
    have hq : ∀ w : World, (binOp .eql 52 (.slice (some a) l.length cap) (.slice none 0 0)).run Try.prog w = .ok (.bool false) w := fun w => Lib.run_eql_slice_nil w 52 103 _ _ _ _ _ Try.underlying52
    go_enter Try.func124, Try.ntmps124
    obtain ⟨i0, hi, hz0, hz1, hz2⟩ := info_parts info_use
    go_wp2_with (first | (at_builtin; refine wpList_append_own _ rfl _ _ 52 rfl w.heap.size 103 i0 (.agg #[.int .i64 0, .int .i64 0]) 2 16 Try.underlying52 hi hz0 hz1 hz2 rfl (by decide) _ _ _ rfl (owns_built w 103 2) a l.length cap (Elt.all usE l) rfl (Elt.all_len _ _) (SlS.news hs2.out) (Elt.all_one _ _) (by unfold maxLen; omega) (by omega) (by simp) ?_; intro v1 w1 hown1 hgrow hnil))
    simp only [Nat.zero_add, List.nil_append] at hown1
    obtain ⟨s', c', rfl, _⟩ := owns_shape hown1
    go_wp2
    go_ret
    exact ⟨s', c', rfl, hown1, ((Below.refl _ w).alloc (Nat.le_refl _) _).grown hgrow (by simp) (fun k hk => by cases hk; exact Nat.le_refl _)⟩

set_option maxRecDepth 100000 in
set_option maxHeartbeats 400000 in
theorem us_indexf (f : Nat) (cs : Array Value) (hf : ∀ args w, (callFunc f args).run Try.prog w = .ok (.enter f args) w) (s : Option Addr) (cap : Nat) (l : List Us) (pr : Us → Bool) (w : World)
    (hs : SlS usE w s l) (hl : l.length ≤ 9223372036854775807)
    (hc : ∀ q ∈ l, ∀ W, Below w.heap.size w W → Calls Try.prog f (#[.agg #[.int .i64 q.v, .int .i64 q.a]] ++ cs) W fun e w' => e = .returned (.bool (pr q)) ∧ Below W.heap.size W w') :
    Calls Try.prog 148 #[.slice s l.length cap, .func (.func f) #[] cs] w fun e w' => e = .returned (.int .i64 (fidx pr l)) ∧ Below w.heap.size w w' := by
  go_enter Try.func148, Try.ntmps148
  go_wp2
  go_loopw [8] (fun i wr => ∃ k : Nat, k ≤ l.length ∧ i = .int .i64 k ∧ Below w.heap.size w wr ∧ Hid (∀ j (hj : j < l.length), j < k → pr l[j] = false)) (fun i _ => l.length - (intOf i).toNat)
  case atStart => exact ⟨0, by omega, rfl, Below.refl _ _, fun j _ h => absurd h (by omega)⟩
  case round =>
    obtain ⟨k, hk, rfl, hB, hno⟩ := hrel
    by_cases hlt : k < l.length
    · obtain ⟨b, off, rfl, hb, h0, h1⟩ := (up_of hB hs).us_at hlt
      have hcall := hc l[k] (List.getElem_mem hlt) wr hB
      have Hc := Lib.hid hcall
      clear hc hcall hs
      cases hp : pr l[k] with
      | true =>
        go_wp2_with (refine Hc.out.mono ?_; rintro e W1 ⟨rfl, hb1⟩; rw [hp])
        go_ret
        exact ⟨ret_int (fidx_at hlt (fun j hj => hno j _ hj) hp).symm, Up.to hB hb1 hB.size⟩
      | false =>
        go_wp2_with (refine Hc.out.mono ?_; rintro e W1 ⟨rfl, hb1⟩; rw [hp])
        go_roundw
        case rel => exact ⟨k + 1, by omega, by go_num, Up.to hB hb1 hB.size, fun j hj h => by rcases Nat.lt_succ_iff_lt_or_eq.1 h with h | rfl; exact hno j hj h; exact hp⟩
        case measure => simp [intOf]; omega
    · obtain rfl : k = l.length := by omega
      clear hc hs
      go_wp2
      go_ret
      exact ⟨ret_int (fidx_none fun j hj => hno j hj hj).symm, hB⟩

set_option maxRecDepth 100000 in
set_option maxHeartbeats 400000 in
theorem us_containsf (f : Nat) (cs : Array Value) (hf : ∀ args w, (callFunc f args).run Try.prog w = .ok (.enter f args) w) (s : Option Addr) (cap : Nat) (l : List Us) (pr : Us → Bool) (w : World)
    (hs : SlS usE w s l) (hl : l.length ≤ 9223372036854775807)
    (hc : ∀ q ∈ l, ∀ W, Below w.heap.size w W → Calls Try.prog f (#[.agg #[.int .i64 q.v, .int .i64 q.a]] ++ cs) W fun e w' => e = .returned (.bool (pr q)) ∧ Below W.heap.size W w') :
    Calls Try.prog 122 #[.slice s l.length cap, .func (.func f) #[] cs] w fun e w' => e = .returned (.bool (l.any pr)) ∧ Below w.heap.size w w' := by
  have H := Lib.hid (us_indexf f cs hf s cap l pr w hs hl hc)
  clear hc hs hf
  go_enter Try.func122, Try.ntmps122
  go_wp2_with (go_at_call 148; refine H.out.mono ?_; rintro e W1 ⟨rfl, hb⟩)
  go_ret
  exact ⟨ret_bool (fidx_any pr l), hb⟩

theorem us_clone2 (s : Option Addr) (cap : Nat) (l : List Us) (w : World) (hs : SlS usE w s l) (hc : s = none → cap = 0) (hl : l.length ≤ 1099511627776) :
    Calls Try.prog 124 #[.slice s l.length cap] w fun e w' => (∃ s' c', e = .returned (.slice s' l.length c') ∧ w'.ownsRow w.heap.size 103 2 (.slice s' l.length c') l.length (usE.all l)) ∧ Below w.heap.size w w' :=
  (us_clone s cap l w hs hc hl).mono (fun e w' ⟨s', c', he, ho, hb⟩ => ⟨⟨s', c', he, ho⟩, hb⟩)
theorem us_snoc (pre : List Us) (x : Us) : usE.all (pre ++ [x]) = usE.all pre ++ [.int .i64 x.v, .int .i64 x.a] := by simp [Elt.all, usE]
set_option maxRecDepth 100000 in
theorem circle1_c (u : Us) (v : Int) (b : Nat) (w : World) (r0 : w.cell? ⟨b, 0, none⟩ = some (.int .i64 v)) :
    Calls Try.prog 123 #[.agg #[.int .i64 u.v, .int .i64 u.a], .pointer (some ⟨b, 0, none⟩)] w fun e w' => e = .returned (.bool (decide (u.v = v))) ∧ Below w.heap.size w w' := by
  have hbl := World.block_lt_of_cell? _ _ r0
  by_cases h : u.v = v
  · rw [decide_eq_true h]
    have h2 : (u.v == v) = true := by simp [h]
    replace h := Lib.hid h
    go_enter Try.func123, Try.ntmps123
    go_upto_region 1 with (fail)
    refine wp_world fun W HW => ?_
    have hB : Below w.heap.size w W := by rw [HW.out]; (repeat (first | exact Below.refl _ _ | refine Below.alloc ?_ (by simp; try omega) _ | refine Below.setCell ?_ (by simp) _ | refine Below.drew ?_))
    have g0 : W.cell? ⟨w.heap.size, 0, none⟩ = some (.int .i64 u.v) := by rw [HW.out]; simp [go_sem]
    have g1 : W.cell? ⟨w.heap.size, 1, none⟩ = some (.int .i64 u.a) := by rw [HW.out]; simp [go_sem]
    have gl : w.heap.size < W.heap.size := World.block_lt_of_cell? W _ g0
    try replace r0 := up_of hB r0
    go_wp2
    go_ret
    exact ⟨rfl, hB⟩
  · rw [decide_eq_false h]
    have h2 : (u.v == v) = false := by simp [h]
    replace h := Lib.hid h
    go_enter Try.func123, Try.ntmps123
    go_upto_region 1 with (fail)
    refine wp_world fun W HW => ?_
    have hB : Below w.heap.size w W := by rw [HW.out]; (repeat (first | exact Below.refl _ _ | refine Below.alloc ?_ (by simp; try omega) _ | refine Below.setCell ?_ (by simp) _ | refine Below.drew ?_))
    have g0 : W.cell? ⟨w.heap.size, 0, none⟩ = some (.int .i64 u.v) := by rw [HW.out]; simp [go_sem]
    have g1 : W.cell? ⟨w.heap.size, 1, none⟩ = some (.int .i64 u.a) := by rw [HW.out]; simp [go_sem]
    have gl : w.heap.size < W.heap.size := World.block_lt_of_cell? W _ g0
    try replace r0 := up_of hB r0
    go_wp2
    go_ret
    exact ⟨rfl, hB⟩
/-! ### The search, a step -/
theorem fs_range {β : Type} {f : Nat → Option β} {o : β} : ∀ (n : Nat) {i : Nat}, i < n → (∀ j, j < i → f j = none) → f i = some o → (List.range n).findSome? f = some o
  | 0, i, h, _, _ => absurd h (by omega)
  | n + 1, i, h, hno, hs => by
    rw [List.range_succ, List.findSome?_append]
    by_cases hi : i < n
    · rw [fs_range n hi hno hs]; rfl
    · obtain rfl : i = n := by omega
      rw [List.findSome?_eq_none_iff.2 (fun x hx => hno x (List.mem_range.1 hx))]
      simp [hs]
theorem fs_none {β : Type} {f : Nat → Option β} {n : Nat} (h : ∀ j, j < n → f j = none) : (List.range n).findSome? f = none :=
  List.findSome?_eq_none_iff.2 fun x hx => h x (List.mem_range.1 hx)
theorem srch_back {G : Gr} {chk : List (Nat × Nat) → Bool} {k : Nat} {l : List (Nat × Nat)} {v : Nat} (h : l.head?.map Prod.fst = some v) : srch G chk (k + 1) l v = if chk l then some l else none := by
  rw [srch, if_pos h]
theorem srch_met {G : Gr} {chk : List (Nat × Nat) → Bool} {k : Nat} {l : List (Nat × Nat)} {v : Nat} (h : ¬ l.head?.map Prod.fst = some v) (h2 : v ∈ l.map Prod.fst) : srch G chk (k + 1) l v = none := by
  rw [srch, if_neg h, if_pos h2]
theorem srch_on {G : Gr} {chk : List (Nat × Nat) → Bool} {k : Nat} {l : List (Nat × Nat)} {v : Nat} (h : ¬ l.head?.map Prod.fst = some v) (h2 : v ∉ l.map Prod.fst) : srch G chk (k + 1) l v = (List.range (G.getD v []).length).findSome? fun i => srch G chk k (l ++ [(v, i)]) ((G.getD v []).getD i (0, 0)).1 := by
  rw [srch, if_neg h, if_neg h2]
theorem mem_any {l : List (Nat × Nat)} {v : Nat} : ((UL l).any fun u => decide (u.v = (v : Int))) = decide (v ∈ l.map Prod.fst) := by
  unfold UL
  rw [Bool.eq_iff_iff, List.any_eq_true, decide_eq_true_eq]
  constructor
  · rintro ⟨u, hu, h⟩
    obtain ⟨x, hx, rfl⟩ := List.mem_map.1 hu
    have : (x.1 : Int) = v := of_decide_eq_true h
    exact List.mem_map.2 ⟨x, hx, by omega⟩
  · intro h
    obtain ⟨x, hx, rfl⟩ := List.mem_map.1 h
    exact ⟨toU x, List.mem_map.2 ⟨x, hx, rfl⟩, decide_eq_true rfl⟩
/-- What the search returns. -/
def CirR (R : Option (List (Nat × Nat))) (w : World) (e : Ending) (w' : World) : Prop :=
  (∃ s' c' O ok, e = .returned (.tuple #[.slice s' (O : List Us).length c', .bool ok]) ∧ ok = R.isSome ∧ ∀ o, R = some o → O = UL o ∧ SlS usE w' s' O ∧ O.length ≤ c' ∧ c' ≤ 9223372036854775807) ∧ Below w.heap.size w w'
theorem own_capm {w : World} {base e size n cap : Nat} {s : Option Addr} {xs : List Value} (h : w.ownsRow base e size (.slice s n cap) n xs) : n ≤ cap ∧ cap ≤ 9223372036854775807 := by
  refine ⟨(own_cap h).1, ?_⟩
  rcases h.2 with ⟨h1, h2⟩ | ⟨g, c, cur, h1, _, _, _, h2, _⟩
  · simp only [Value.slice.injEq] at h1
    obtain ⟨_, _, rfl⟩ := h1
    omega
  · simp only [Value.slice.injEq] at h1
    obtain ⟨_, _, rfl⟩ := h1
    simpa [maxLen] using h2
set_option maxRecDepth 100000 in
set_option maxHeartbeats 4000000 in
theorem circle_c (n : Int) (s : Option Addr) (cap len : Nat) (s2 : Option Addr) (cq : Nat) (K : List Vv) (f : Pt) (hK4 : K.length ≤ 4) (hA : ∀ v ∈ K, v.args.length ≤ 3 ∧ ∀ a ∈ v.args, bw 0 a.v (K.length - 1) = true) (hN : NearK K) (hf : f.x.natAbs ≤ 9 ∧ f.y.natAbs ≤ 9 ∧ f.z.natAbs ≤ 9) :
    ∀ (k : Nat) (l : List (Nat × Nat)) (v : Nat) (t : Option Addr) (ct : Nat) (w : World), VarsM w s2 K → SlS usE w t (UL l) → (t = none → ct = 0) → ((UL l).length ≤ ct ∧ ct ≤ 9223372036854775807) → (l.map Prod.fst).Nodup → (∀ x ∈ l.map Prod.fst, x < K.length) → v < K.length → K.length + 1 ≤ l.length + k →
      Calls Try.prog 88 #[.agg #[.int .i64 n, .slice s len cap, .slice s2 K.length cq], .agg #[.int .i64 f.x, .int .i64 f.y, .int .i64 f.z], .slice t (UL l).length ct, .int .i64 v] w (CirR (srch (grG K f) (fun l => circB K f (UL l)) k l v) w) := by
  intro k
  induction k with
  | zero =>
    intro l v t ct w _ _ _ _ hnd hlt _ hk
    have := nodup_len K.length _ hnd hlt
    rw [List.length_map] at this
    omega
  | succ k ih =>
    intro l v t ct w hK hU hct hcb hnd hlt hv hk
    have hl4 := nodup_len K.length _ hnd hlt
    rw [List.length_map] at hl4
    have hUl := UL_len l
    have hci := fun V (h : VarsM V s2 K) (h2 : SlS usE V t (UL l)) => isCircle_c n s cap len s2 cq K f t ct (UL l) V h hK4 h2 (by omega) hN (fun v hv => (hA v hv).1) hf
    by_cases hh : l.head?.map Prod.fst = some v
    · rw [srch_back hh]
      have hne : 0 < (UL l).length := by
        rw [hUl]; cases l with
        | nil => simp at hh
        | cons y l => simp
      have h0 : (UL l)[0].v = (v : Int) := by
        cases l with
        | nil => simp at hh
        | cons y l => simp at hh; simp [UL, toU, hh]
      obtain ⟨B, hB0⟩ : ∃ x, circB K f (UL l) = x := ⟨_, rfl⟩
      rw [hB0]
      simp only [hB0] at hci
      obtain ⟨R, hR⟩ : ∃ R, (if B = true then some l else none) = R := ⟨_, rfl⟩
      rw [hR]
      obtain ⟨U, hUe⟩ : ∃ x, UL l = x := ⟨_, rfl⟩
      simp only [hUe] at hci hU hne h0 hcb ⊢
      have k1 : (0 : Int) < (U.length : Int) := by omega
      have k2 : U ≠ [] := by rintro rfl; simp at hne
      obtain ⟨b, o, et, hb0, y0, y1⟩ := hU.us_at hne
      rw [h0] at y0
      cases et
      simp only [Nat.zero_mul, Nat.add_zero] at y0
      have z1 : ((v : Int) == (v : Int)) = true := by simp
      replace hci := Lib.hid hci; replace hcb := Lib.hid hcb; replace hUe := Lib.hid hUe; replace h0 := Lib.hid h0; replace hUl := Lib.hid hUl; replace hR := Lib.hid hR
      clear hB0 ih hA hN hf hnd hlt hh
      go_enter Try.func88, Try.ntmps88
      go_upto_region 1 with (fail)
      refine wp_world fun W HW => ?_
      have hB : Below w.heap.size w W := by rw [HW.out]; (repeat (first | exact Below.refl _ _ | refine Below.alloc ?_ (by simp; try omega) _ | refine Below.setCell ?_ (by simp) _ | refine Below.drew ?_))
      have d0 : W.cell? ⟨w.heap.size, 0, none⟩ = some (.int .i64 n) := by rw [HW.out]; simp [go_sem]
      have d1 : W.cell? ⟨w.heap.size, 1, none⟩ = some (.slice s len cap) := by rw [HW.out]; simp [go_sem]
      have d2 : W.cell? ⟨w.heap.size, 2, none⟩ = some (.slice s2 K.length cq) := by rw [HW.out]; simp [go_sem]
      have dl : w.heap.size < W.heap.size := World.block_lt_of_cell? W _ d0
      have g0 : W.cell? ⟨w.heap.size + 1, 0, none⟩ = some (.int .i64 f.x) := by rw [HW.out]; simp [go_sem]
      have g1 : W.cell? ⟨w.heap.size + 1, 1, none⟩ = some (.int .i64 f.y) := by rw [HW.out]; simp [go_sem]
      have g2 : W.cell? ⟨w.heap.size + 1, 2, none⟩ = some (.int .i64 f.z) := by rw [HW.out]; simp [go_sem]
      have gl : w.heap.size + 1 < W.heap.size := World.block_lt_of_cell? W _ g0
      have x0 : W.cell? ⟨w.heap.size + 2, 0, none⟩ = some (.int .i64 v) := by rw [HW.out]; simp [go_sem]
      have xl : w.heap.size + 2 < W.heap.size := World.block_lt_of_cell? W _ x0
      try replace hK := up_of hB hK
      try replace hU := up_of hB hU
      try replace y0 := up_of hB y0
      try have ld_y0 := World.block_lt_of_cell? _ _ y0
      try have ld_d0 := World.block_lt_of_cell? _ _ d0
      try have ld_g0 := World.block_lt_of_cell? _ _ g0
      try have ld_x0 := World.block_lt_of_cell? _ _ x0
      refine region_q (by kernel_rfl) (by kernel_rfl) ?_
      dsimp only [List.toList_toArray]
      repeat (first
       | go_big_quiet_skip
       | (go_big_quiet_want
          first
          | (refine qq_det ?_
             apply Exists.intro; refine ⟨fun W' hW' => ?_, ?_⟩
             (· have hk := cellB hW'; go_simp; try (first | rfl | rw [if_pos (by omega)]))
             simp only [Act.put, List.setIfInBounds_toArray, List.set_cons_zero, List.set_cons_succ]; go_big_quiet_on)))
      refine wpQuiet_nil ?_
      intro Z hb
      try replace hK := up_of hb hK
      try replace hU := up_of hb hU
      try replace y0 := up_of hb y0
      try replace hB := up_of hb hB
      try replace d0 := up_of hb d0
      try replace d1 := up_of hb d1
      try replace d2 := up_of hb d2
      try replace dl := up_of hb dl
      try replace g0 := up_of hb g0
      try replace g1 := up_of hb g1
      try replace g2 := up_of hb g2
      try replace gl := up_of hb gl
      try replace x0 := up_of hb x0
      try replace xl := up_of hb xl
      go_wp2_with (first | (go_at_call 76; refine (hci.out _ hK hU).mono ?_; rintro e W1 ⟨rfl, hb⟩; (try replace hK := up_of hb hK); (try replace hU := up_of hb hU); (try replace y0 := up_of hb y0); (try replace hB := up_of hb hB); (try replace d0 := up_of hb d0); (try replace d1 := up_of hb d1); (try replace d2 := up_of hb d2); (try replace dl := up_of hb dl); (try replace g0 := up_of hb g0); (try replace g1 := up_of hb g1); (try replace g2 := up_of hb g2); (try replace gl := up_of hb gl); (try replace x0 := up_of hb x0); (try replace xl := up_of hb xl)))
      go_ret2
      refine ⟨⟨_, ct, U, B, rfl, by rw [← hR.out]; cases B <;> rfl, fun o ho => ?_⟩, hB⟩
      have hR2 := hR.out
      cases B
      · rw [← hR2] at ho; cases ho
      · rw [← hR2] at ho; cases ho; exact ⟨hUe.out.symm, hU, hcb.out⟩
    have hci1 := fun V b (h : V.cell? ⟨b, 0, none⟩ = some (.int .i64 v)) (h2 : SlS usE V t (UL l)) => us_containsf 123 #[.pointer (some ⟨b, 0, none⟩)] (fun _ _ => by simp [go_sem]) t ct (UL l) (fun u => decide (u.v = (v : Int))) V h2 (by omega) (fun u _ W hW => circle1_c u v b W (Up.cell hW h))
    simp only [mem_any] at hci1
    have hfirst : l = [] ∨ ∃ b o x, t = some ⟨b, o, none⟩ ∧ w.cell? ⟨b, o, none⟩ = some (.int .i64 x) ∧ ((x == (v : Int)) = false) ∧ 0 < (UL l).length := by
      cases l with
      | nil => exact .inl rfl
      | cons y l =>
        have h1 : 0 < (UL (y :: l)).length := by simp [UL]
        obtain ⟨b, o, et, hb0, y0, y1⟩ := hU.us_at h1
        refine .inr ⟨b, o, _, et, by simpa using y0, ?_, h1⟩
        have : ¬ y.1 = v := by simpa using hh
        simp [UL, toU]; omega
    by_cases hm : v ∈ l.map Prod.fst
    · rw [srch_met hh hm]
      rw [decide_eq_true hm] at hci1
      obtain ⟨U, hUe⟩ : ∃ x, UL l = x := ⟨_, rfl⟩
      clear hcb
      simp only [hUe] at hci1 hU hUl hfirst ⊢
      rcases hfirst with e | ⟨b, o, x, et, y0, z1, hne⟩
      · subst e; simp at hm
      cases et
      have k1 : (0 : Int) < (U.length : Int) := by omega
      have k2 : U ≠ [] := by rintro rfl; simp at hne
      replace hci1 := Lib.hid hci1; replace hUe := Lib.hid hUe; replace hUl := Lib.hid hUl
      clear hci ih hA hN hf hnd hlt hh hm
      go_enter Try.func88, Try.ntmps88
      go_upto_region 1 with (fail)
      refine wp_world fun W HW => ?_
      have hB : Below w.heap.size w W := by rw [HW.out]; (repeat (first | exact Below.refl _ _ | refine Below.alloc ?_ (by simp; try omega) _ | refine Below.setCell ?_ (by simp) _ | refine Below.drew ?_))
      have d0 : W.cell? ⟨w.heap.size, 0, none⟩ = some (.int .i64 n) := by rw [HW.out]; simp [go_sem]
      have d1 : W.cell? ⟨w.heap.size, 1, none⟩ = some (.slice s len cap) := by rw [HW.out]; simp [go_sem]
      have d2 : W.cell? ⟨w.heap.size, 2, none⟩ = some (.slice s2 K.length cq) := by rw [HW.out]; simp [go_sem]
      have dl : w.heap.size < W.heap.size := World.block_lt_of_cell? W _ d0
      have g0 : W.cell? ⟨w.heap.size + 1, 0, none⟩ = some (.int .i64 f.x) := by rw [HW.out]; simp [go_sem]
      have g1 : W.cell? ⟨w.heap.size + 1, 1, none⟩ = some (.int .i64 f.y) := by rw [HW.out]; simp [go_sem]
      have g2 : W.cell? ⟨w.heap.size + 1, 2, none⟩ = some (.int .i64 f.z) := by rw [HW.out]; simp [go_sem]
      have gl : w.heap.size + 1 < W.heap.size := World.block_lt_of_cell? W _ g0
      have x0 : W.cell? ⟨w.heap.size + 2, 0, none⟩ = some (.int .i64 v) := by rw [HW.out]; simp [go_sem]
      have xl : w.heap.size + 2 < W.heap.size := World.block_lt_of_cell? W _ x0
      try replace hK := up_of hB hK
      try replace hU := up_of hB hU
      try replace y0 := up_of hB y0
      try have ld_y0 := World.block_lt_of_cell? _ _ y0
      try have ld_d0 := World.block_lt_of_cell? _ _ d0
      try have ld_g0 := World.block_lt_of_cell? _ _ g0
      try have ld_x0 := World.block_lt_of_cell? _ _ x0
      refine region_q (by kernel_rfl) (by kernel_rfl) ?_
      dsimp only [List.toList_toArray]
      repeat (first
       | go_big_quiet_skip
       | (go_big_quiet_want
          first
          | (refine qq_det ?_
             apply Exists.intro; refine ⟨fun W' hW' => ?_, ?_⟩
             (· have hk := cellB hW'; go_simp; try (first | rfl | rw [if_pos (by omega)]))
             simp only [Act.put, List.setIfInBounds_toArray, List.set_cons_zero, List.set_cons_succ]; go_big_quiet_on)))
      refine wpQuiet_nil ?_
      intro Z hb
      try replace hK := up_of hb hK
      try replace hU := up_of hb hU
      try replace y0 := up_of hb y0
      try replace hB := up_of hb hB
      try replace d0 := up_of hb d0
      try replace d1 := up_of hb d1
      try replace d2 := up_of hb d2
      try replace dl := up_of hb dl
      try replace g0 := up_of hb g0
      try replace g1 := up_of hb g1
      try replace g2 := up_of hb g2
      try replace gl := up_of hb gl
      try replace x0 := up_of hb x0
      try replace xl := up_of hb xl
      go_wp2_with (first | (go_at_call 122; refine (hci1.out _ _ x0 hU).mono ?_; rintro e W1 ⟨rfl, hb⟩; (try replace hK := up_of hb hK); (try replace hU := up_of hb hU); (try replace y0 := up_of hb y0); (try replace hB := up_of hb hB); (try replace d0 := up_of hb d0); (try replace d1 := up_of hb d1); (try replace d2 := up_of hb d2); (try replace dl := up_of hb dl); (try replace g0 := up_of hb g0); (try replace g1 := up_of hb g1); (try replace g2 := up_of hb g2); (try replace gl := up_of hb gl); (try replace x0 := up_of hb x0); (try replace xl := up_of hb xl)))
      go_ret2
      exact ⟨⟨none, 0, [], false, rfl, rfl, fun o ho => by cases ho⟩, hB⟩
    rw [srch_on hh hm]
    rw [decide_eq_false hm] at hci1
    obtain ⟨bk, ok, sa, ca, ek, hbk, q0, q1, q2, q3, q4, q5, q6, hsa, hal, -, -⟩ := hK.at hv
    replace ek := Lib.hid ek
    have hGl : ((grG K f).getD v []).length = K[v].args.length := by rw [gr_row f hv, List.length_map]
    rw [hGl]
    have hX3 := (hA _ (List.getElem_mem hv)).1
    have hF : ∀ i (hi : i < K[v].args.length), ∃ u : Nat, K[v].args[i].v = u ∧ u < K.length ∧ (((grG K f).getD v []).getD i (0, 0)).1 = u := fun i hi => by
      have h1 := bw_iff.1 ((hA _ (List.getElem_mem hv)).2 _ (List.getElem_mem hi))
      refine ⟨K[v].args[i].v.toNat, by omega, by omega, ?_⟩
      rw [List.getD_eq_getElem?_getD, List.getElem?_eq_getElem (by rw [hGl]; exact hi)]
      simp only [gr_row f hv, List.getElem_map, Option.getD_some]
    obtain ⟨F, hFe, hFF⟩ : ∃ F : Nat → Option (List (Nat × Nat)), (fun i => srch (grG K f) (fun l => circB K f (UL l)) k (l ++ [(v, i)]) (((grG K f).getD v []).getD i (0, 0)).1) = F ∧ ∀ i (hi : i < K[v].args.length), ∃ u : Nat, K[v].args[i].v = u ∧ u < K.length ∧ F i = srch (grG K f) (fun l => circB K f (UL l)) k (l ++ [(v, i)]) u := ⟨_, rfl, fun i hi => by
      obtain ⟨u, h1, h2, h3⟩ := hF i hi
      exact ⟨u, h1, h2, by show srch _ _ _ _ _ = _; rw [h3]⟩⟩
    rw [hFe]
    have hyes := fun i o => fs_range (f := F) (o := o) K[v].args.length (i := i)
    have hnone := fs_none (f := F) (n := K[v].args.length)
    obtain ⟨R, hR⟩ : ∃ R, (List.range K[v].args.length).findSome? F = R := ⟨_, rfl⟩
    rw [hR] at hnone ⊢
    simp only [hR] at hyes
    have hih : ∀ i (hi : i < K[v].args.length), ∃ u : Nat, K[v].args[i].v = u ∧ ∀ V t ct, VarsM V s2 K → SlS usE V (some t) (UL l ++ [⟨v, i⟩]) → ((UL l).length + 1 ≤ ct ∧ ct ≤ 9223372036854775807) → Calls Try.prog 88 #[.agg #[.int .i64 n, .slice s len cap, .slice s2 K.length cq], .agg #[.int .i64 f.x, .int .i64 f.y, .int .i64 f.z], .slice (some t) ((UL l).length + 1) ct, .int .i64 u] V (CirR (F i) V) := fun i hi => by
      obtain ⟨u, h1, h2, h3⟩ := hFF i hi
      refine ⟨u, h1, fun V t ct hV ht hc9 => ?_⟩
      rw [h3]
      have e1 : UL (l ++ [(v, i)]) = UL l ++ [⟨v, i⟩] := by simp [UL, toU]
      have e2 : (UL (l ++ [(v, i)])).length = (UL l).length + 1 := by rw [e1]; simp
      rw [← e2]
      refine ih (l ++ [(v, i)]) u (some t) ct V hV (by rw [e1]; exact ht) (fun e => by cases e) (by rw [e2]; exact hc9) ?_ ?_ h2 (by simp; omega)
      · rw [List.map_append, List.nodup_append]
        refine ⟨hnd, by simp, fun a ha b hb e => ?_⟩
        simp at hb; subst hb; subst e; exact hm ha
      · intro x hx
        rw [List.map_append, List.mem_append] at hx
        rcases hx with hx | hx
        · exact hlt x hx
        · simp at hx; omega
    unfold CirR at hih
    have hcl := fun V (h : SlS usE V t (UL l)) => us_clone2 t ct (UL l) V h hct (by omega)
    obtain ⟨X, hX⟩ : ∃ x, K[v] = x := ⟨_, rfl⟩
    rw [hX] at q0 q1 q2 q3 q4 q5 q6 hsa hal hX3
    have hih2 : ∀ i (hi : i < X.args.length), ∃ u : Nat, X.args[i].v = u ∧ ∀ V t ct, VarsM V s2 K → SlS usE V (some t) (UL l ++ [⟨v, i⟩]) → ((UL l).length + 1 ≤ ct ∧ ct ≤ 9223372036854775807) → Calls Try.prog 88 #[.agg #[.int .i64 n, .slice s len cap, .slice s2 K.length cq], .agg #[.int .i64 f.x, .int .i64 f.y, .int .i64 f.z], .slice (some t) ((UL l).length + 1) ct, .int .i64 u] V fun e w' => (∃ s' c' O ok, e = .returned (.tuple #[.slice s' (O : List Us).length c', .bool ok]) ∧ ok = (F i).isSome ∧ ∀ o, F i = some o → O = UL o ∧ SlS usE w' s' O ∧ O.length ≤ c' ∧ c' ≤ 9223372036854775807) ∧ Below V.heap.size V w' := by subst hX; exact hih
    have hyes2 : ∀ i o, i < X.args.length → (∀ j, j < i → F j = none) → F i = some o → R = some o := by subst hX; exact hyes
    have hnone2 : (∀ j, j < X.args.length → F j = none) → R = none := by subst hX; exact hnone
    have us_mk : ∀ (W : World) base c i (g : Nat), W.ownsRow base 103 2 (.slice (some ⟨g, 0, none⟩) ((UL l).length + 1) c) ((UL l).length + 1) (usE.all (UL l) ++ [.int .i64 (v : Int), .int .i64 (i : Int)]) → SlS usE W (some ⟨g, 0, none⟩) (UL l ++ [⟨v, i⟩]) := fun W base c i g h => by
      refine SlS.of_own (E := usE) (base := base) (e := 103) (cap := c) ?_
      rw [us_snoc, List.length_append]; exact h
    obtain ⟨U, hUe⟩ : ∃ x, UL l = x := ⟨_, rfl⟩
    simp only [hUe] at hci1 hU hUl hfirst hih2 hcl us_mk ⊢
    have hU4 : U.length ≤ 4 := by omega
    clear hGl hF hFe hFF hyes hnone hR hih hci ih hA hN hf hnd hlt hm hcb
    replace hci1 := Lib.hid hci1; replace hUe := Lib.hid hUe; replace hUl := Lib.hid hUl; replace hih2 := Lib.hid hih2; replace hyes2 := Lib.hid hyes2; replace hnone2 := Lib.hid hnone2; replace hcl := Lib.hid hcl; replace hX := Lib.hid hX; replace us_mk := Lib.hid us_mk; replace hct := Lib.hid hct
    have hh1 := Lib.hid hh
    clear hh
    obtain ⟨i0, hi0, hz0, hz1, hz2⟩ := info_parts info_use
    have gv1 : (0 : Int) ≤ (v : Int) := by omega
    have gv2 : (v : Int) < (K.length : Int) := by omega
    have hkey : Hid (l = [] → U.length = 0) := Lib.hid (fun e => by rw [hUl.out, e]; rfl)
    rcases hfirst with e | ⟨b, o, x, et, y0, z1, hne⟩
    · have hU0 : U.length = 0 := hkey.out e
      have k1 : ¬ (0 : Int) < (U.length : Int) := by omega
      have k3 : decide (0 < U.length) = false := decide_eq_false (by omega)
      replace hU0 := Lib.hid hU0
      clear e
      go_enter Try.func88, Try.ntmps88
      go_upto_region 1 with (fail)
      refine wp_world fun W HW => ?_
      have hB : Below w.heap.size w W := by rw [HW.out]; (repeat (first | exact Below.refl _ _ | refine Below.alloc ?_ (by simp; try omega) _ | refine Below.setCell ?_ (by simp) _ | refine Below.drew ?_))
      have d0 : W.cell? ⟨w.heap.size, 0, none⟩ = some (.int .i64 n) := by rw [HW.out]; simp [go_sem]
      have d1 : W.cell? ⟨w.heap.size, 1, none⟩ = some (.slice s len cap) := by rw [HW.out]; simp [go_sem]
      have d2 : W.cell? ⟨w.heap.size, 2, none⟩ = some (.slice s2 K.length cq) := by rw [HW.out]; simp [go_sem]
      have dl : w.heap.size < W.heap.size := World.block_lt_of_cell? W _ d0
      have g0 : W.cell? ⟨w.heap.size + 1, 0, none⟩ = some (.int .i64 f.x) := by rw [HW.out]; simp [go_sem]
      have g1 : W.cell? ⟨w.heap.size + 1, 1, none⟩ = some (.int .i64 f.y) := by rw [HW.out]; simp [go_sem]
      have g2 : W.cell? ⟨w.heap.size + 1, 2, none⟩ = some (.int .i64 f.z) := by rw [HW.out]; simp [go_sem]
      have gl : w.heap.size + 1 < W.heap.size := World.block_lt_of_cell? W _ g0
      have x0 : W.cell? ⟨w.heap.size + 2, 0, none⟩ = some (.int .i64 v) := by rw [HW.out]; simp [go_sem]
      have xl : w.heap.size + 2 < W.heap.size := World.block_lt_of_cell? W _ x0
      try replace hK := up_of hB hK
      try replace hU := up_of hB hU
      try replace q2 := up_of hB q2
      try replace hsa := up_of hB hsa
      have ek1 := ek.out
      cases ek1
      try have ld_d0 := World.block_lt_of_cell? _ _ d0
      try have ld_g0 := World.block_lt_of_cell? _ _ g0
      try have ld_x0 := World.block_lt_of_cell? _ _ x0
      refine region_q (by kernel_rfl) (by kernel_rfl) ?_
      dsimp only [List.toList_toArray]
      repeat (first
       | go_big_quiet_skip
       | (go_big_quiet_want
          first
          | (refine qq_det ?_
             apply Exists.intro; refine ⟨fun W' hW' => ?_, ?_⟩
             (· have hk := cellB hW'; go_simp; try (first | rfl | rw [if_pos (by omega)]))
             simp only [Act.put, List.setIfInBounds_toArray, List.set_cons_zero, List.set_cons_succ]; go_big_quiet_on)))
      refine wpQuiet_nil ?_
      intro Z hb
      try replace hK := up_of hb hK
      try replace hU := up_of hb hU
      try replace q2 := up_of hb q2
      try replace hsa := up_of hb hsa
      try replace hB := up_of hb hB
      try replace d0 := up_of hb d0
      try replace d1 := up_of hb d1
      try replace d2 := up_of hb d2
      try replace dl := up_of hb dl
      try replace g0 := up_of hb g0
      try replace g1 := up_of hb g1
      try replace g2 := up_of hb g2
      try replace gl := up_of hb gl
      try replace x0 := up_of hb x0
      try replace xl := up_of hb xl
      go_upto_region 5 with (first | (go_at_call 122; refine (hci1.out _ _ x0 hU).mono ?_; rintro e W1 ⟨rfl, hb⟩; (try replace hK := up_of hb hK); (try replace hU := up_of hb hU); (try replace q2 := up_of hb q2); (try replace hsa := up_of hb hsa); (try replace hB := up_of hb hB); (try replace d0 := up_of hb d0); (try replace d1 := up_of hb d1); (try replace d2 := up_of hb d2); (try replace dl := up_of hb dl); (try replace g0 := up_of hb g0); (try replace g1 := up_of hb g1); (try replace g2 := up_of hb g2); (try replace gl := up_of hb gl); (try replace x0 := up_of hb x0); (try replace xl := up_of hb xl)))
      have hsa0 := Lib.hid hsa; have hU0 := Lib.hid hU; have hK0 := Lib.hid hK
      go_wp2
      go_loopw [40] (fun ii V => ∃ i : Nat, i ≤ X.args.length ∧ ii = .int .i64 i ∧ Hid (∀ j, j < i → F j = none) ∧ Below W1.heap.size W1 V) (fun ii _ => X.args.length - (intOf ii).toNat)
      case atStart => exact ⟨0, by omega, rfl, fun j h => absurd h (by omega), Below.refl _ _⟩
      case round =>
        obtain ⟨i, hi, rfl, hno, hBV⟩ := hrel
        try replace hK := up_of hBV hK
        try replace hU := up_of hBV hU
        try replace q2 := up_of hBV q2
        try replace hsa := up_of hBV hsa
        try replace hB := up_of hBV hB
        try replace d0 := up_of hBV d0
        try replace d1 := up_of hBV d1
        try replace d2 := up_of hBV d2
        try replace dl := up_of hBV dl
        try replace g0 := up_of hBV g0
        try replace g1 := up_of hBV g1
        try replace g2 := up_of hBV g2
        try replace gl := up_of hBV gl
        try replace x0 := up_of hBV x0
        try replace xl := up_of hBV xl
        by_cases hli : i < X.args.length
        · obtain ⟨ba, oa, ea, hba, z0, z1, z2, z3⟩ := hsa.ar_at hli
          cases ea
          obtain ⟨u, hu, hcir⟩ := hih2.out i hli
          rw [hu] at z0
          obtain ⟨a, ha⟩ : ∃ x, X.args[i] = x := ⟨_, rfl⟩
          rw [ha] at z1 z2 z3
          have hy9 := fun o => hyes2.out i o hli hno.out
          have hn9 : F i = none → ∀ j, j < i + 1 → F j = none := fun h => upto_succ hno.out h
          replace ha := Lib.hid ha; replace hu := Lib.hid hu; replace hcir := Lib.hid hcir; replace hy9 := Lib.hid hy9; replace hn9 := Lib.hid hn9
          clear hno
          have gi1 : (0 : Int) ≤ (i : Int) := by omega
          have gi2 : (i : Int) < (X.args.length : Int) := by omega
          go_upto_region 8 with (fail)
          refine wp_world fun Y HY => ?_
          have hY : Below wr.heap.size wr Y := by rw [HY.out]; (repeat (first | exact Below.refl _ _ | refine Below.alloc ?_ (by simp; try omega) _ | refine Below.setCell ?_ (by simp) _ | refine Below.drew ?_))
          have e0 : Y.cell? ⟨wr.heap.size, 0, none⟩ = some (.int .i64 u) := by rw [HY.out]; simp [go_sem]
          have e1 : Y.cell? ⟨wr.heap.size, 1, none⟩ = some (.int .i64 a.p.x) := by rw [HY.out]; simp [go_sem]
          have e2 : Y.cell? ⟨wr.heap.size, 2, none⟩ = some (.int .i64 a.p.y) := by rw [HY.out]; simp [go_sem]
          have e3 : Y.cell? ⟨wr.heap.size, 3, none⟩ = some (.int .i64 a.p.z) := by rw [HY.out]; simp [go_sem]
          have el : wr.heap.size < Y.heap.size := World.block_lt_of_cell? Y _ e0
          try replace hK := up_of hY hK
          try replace hU := up_of hY hU
          try replace q2 := up_of hY q2
          try replace hsa := up_of hY hsa
          try replace hB := up_of hY hB
          try replace d0 := up_of hY d0
          try replace d1 := up_of hY d1
          try replace d2 := up_of hY d2
          try replace dl := up_of hY dl
          try replace g0 := up_of hY g0
          try replace g1 := up_of hY g1
          try replace g2 := up_of hY g2
          try replace gl := up_of hY gl
          try replace x0 := up_of hY x0
          try replace xl := up_of hY xl
          try replace hBV := up_of hY hBV
          have hYY := Below.refl Y.heap.size Y
          have yK := Lib.hid hK
          have hWY := hBV.size
          have yd0 := d0; have yd1 := d1; have yd2 := d2; have yg0 := g0; have yg1 := g1; have yg2 := g2; have yx0 := x0; have ye0 := e0
          have yB := hB; have yBV := hBV
          go_region_held3 (fun V => V.cell? ⟨w.heap.size, 0, none⟩ = some (.int .i64 n) ∧ V.cell? ⟨w.heap.size, 1, none⟩ = some (.slice s len cap) ∧ V.cell? ⟨w.heap.size, 2, none⟩ = some (.slice (some ⟨bk, ok, none⟩) K.length cq) ∧ V.cell? ⟨w.heap.size + 1, 0, none⟩ = some (.int .i64 f.x) ∧ V.cell? ⟨w.heap.size + 1, 1, none⟩ = some (.int .i64 f.y) ∧ V.cell? ⟨w.heap.size + 1, 2, none⟩ = some (.int .i64 f.z) ∧ V.cell? ⟨w.heap.size + 2, 0, none⟩ = some (.int .i64 v) ∧ V.cell? ⟨wr.heap.size, 0, none⟩ = some (.int .i64 u)) ((first | (with_reducible exact ⟨d0, d1, d2, g0, g1, g2, x0, e0⟩) | ((try dsimp only); (repeat' apply And.intro) <;> (repeat (first | (with_reducible assumption) | (with_reducible refine cell_set (by simp; try omega) ?_) | (with_reducible refine cell_drew ?_) | (with_reducible refine cell_alloc ?_ _)))))) ((first | (go_at_call 124; refine calls_below (W0 := Y) ?_ fun hpre => ?_; (repeat (first | exact Below.refl _ _ | refine Below.alloc ?_ (by simp; try omega) _ | refine Below.drew ?_)); refine (hcl.out _ (up_of hpre hU)).mono ?_; rintro e N1 ⟨⟨s3, c3, rfl, hown⟩, hb1⟩; have hcc := cellB hb1; have hff := frozB hb1; have hb := Up.trans hpre hb1; clear hpre; (first | have hs_N1 := below_alloc_lt hb1 | have hs_N1 := below_alloc_lt (drewB hb1) | skip); have dl_N1 := dl; have gl_N1 := gl; have xl_N1 := xl; have el_N1 := el; (try replace hK := up_of hb hK); (try replace hU := up_of hb hU); (try replace q2 := up_of hb q2); (try replace hsa := up_of hb hsa); (try replace hB := up_of hb hB); (try replace d0 := up_of hb d0); (try replace d1 := up_of hb d1); (try replace d2 := up_of hb d2); (try replace dl := up_of hb dl); (try replace g0 := up_of hb g0); (try replace g1 := up_of hb g1); (try replace g2 := up_of hb g2); (try replace gl := up_of hb gl); (try replace x0 := up_of hb x0); (try replace xl := up_of hb xl); (try replace hBV := up_of hb hBV); (try replace hY := up_of hb hY); (try replace e0 := up_of hb e0); (try replace e1 := up_of hb e1); (try replace e2 := up_of hb e2); (try replace e3 := up_of hb e3); (try replace el := up_of hb el); (try replace hYY := up_of hb hYY); (try replace hK1 := up_of hb hK1); (try replace hU1 := up_of hb hU1); (try replace hY1 := up_of hb hY1); (first | have nB := new_up hb1 | have nB := new_up (drewB hb1) | (try replace nB := up_of hb nB))) | (refine step_append_lies _ (by rfl) _ _ 52 (by rfl) Y.heap.size 103 i0 (.agg #[.int .i64 0, .int .i64 0]) 2 16 Try.underlying52 hi0 hz0 hz1 hz2 rfl (by decide) _ _ _ (by rfl) (hown.alloc _) ⟨N1.heap.size, 0, none⟩ 1 1 [.int .i64 v, .int .i64 i] (by rfl) (by rfl) (news_new _ _ _) (by simp [Value.oneCell']) (by decide) (by unfold maxLen; omega) (by omega) (by first | omega | (have := hYY.size; simp; omega)) (N1.heap.size + 1) (by simp) ?_; intro gg cap1 w1 hown1 hgrow hat hlt2; have hY1 : Below Y.heap.size Y w1 := (hYY.alloc hYY.size _).grown hgrow (by have := hYY.size; first | omega | (simp; omega)) (fun g e => (hown.lt g e).1); have hU1 := us_mk.out _ _ _ _ _ hown1; have hC1 := own_capm hown1; have hK1 := up_of hY1 yK.out; replace d0 := up_of hY1 yd0; replace d1 := up_of hY1 yd1; replace d2 := up_of hY1 yd2; replace g0 := up_of hY1 yg0; replace g1 := up_of hY1 yg1; replace g2 := up_of hY1 yg2; replace x0 := up_of hY1 yx0; replace e0 := up_of hY1 ye0) | (have hown := owns_mono (b' := Y.heap.size) hown (by simp); refine step_append_lies _ (by rfl) _ _ 52 (by rfl) Y.heap.size 103 i0 (.agg #[.int .i64 0, .int .i64 0]) 2 16 Try.underlying52 hi0 hz0 hz1 hz2 rfl (by decide) _ _ _ (by rfl) (hown) ⟨Y.heap.size, 0, none⟩ 1 1 [.int .i64 v, .int .i64 i] (by rfl) (by rfl) (World.news_of_block nB) (by simp [Value.oneCell']) (by decide) (by unfold maxLen; omega) (by omega) (by first | omega | (have := hYY.size; simp; omega)) (N1.heap.size) (rfl) ?_; intro gg cap1 w1 hown1 hgrow hat hlt2; have hY1 : Below Y.heap.size Y w1 := (hYY).grown hgrow (by have := hYY.size; first | omega | (simp; omega)) (fun g e => (hown.lt g e).1); have hU1 := us_mk.out _ _ _ _ _ hown1; have hC1 := own_capm hown1; have hK1 := up_of hY1 yK.out; replace d0 := up_of hY1 yd0; replace d1 := up_of hY1 yd1; replace d2 := up_of hY1 yd2; replace g0 := up_of hY1 yg0; replace g1 := up_of hY1 yg1; replace g2 := up_of hY1 yg2; replace x0 := up_of hY1 yx0; replace e0 := up_of hY1 ye0) | (go_at_call 88; refine calls_below (W0 := w1) ?_ fun hpre => ?_; (repeat (first | exact Below.refl _ _ | refine Below.alloc ?_ (by simp; try omega) _ | refine Below.drew ?_)); refine (hcir.out _ _ cap1 (up_of hpre hK1) (up_of hpre hU1) hC1).mono ?_; rintro e N2 ⟨⟨s4, c4, O, okb, rfl, hok, hO⟩, hb1⟩; have hcc := cellB hb1; have hff := frozB hb1; have hb := Up.trans hpre hb1; clear hpre; (first | have hs_N2 := below_alloc_lt hb1 | have hs_N2 := below_alloc_lt (drewB hb1) | skip); have dl_N2 := dl; have gl_N2 := gl; have xl_N2 := xl; have el_N2 := el; (try replace hK := up_of hb hK); (try replace hU := up_of hb hU); (try replace q2 := up_of hb q2); (try replace hsa := up_of hb hsa); (try replace hB := up_of hb hB); (try replace d0 := up_of hb d0); (try replace d1 := up_of hb d1); (try replace d2 := up_of hb d2); (try replace dl := up_of hb dl); (try replace g0 := up_of hb g0); (try replace g1 := up_of hb g1); (try replace g2 := up_of hb g2); (try replace gl := up_of hb gl); (try replace x0 := up_of hb x0); (try replace xl := up_of hb xl); (try replace hBV := up_of hb hBV); (try replace hY := up_of hb hY); (try replace e0 := up_of hb e0); (try replace e1 := up_of hb e1); (try replace e2 := up_of hb e2); (try replace e3 := up_of hb e3); (try replace el := up_of hb el); (try replace hYY := up_of hb hYY); (try replace hK1 := up_of hb hK1); (try replace hU1 := up_of hb hU1); (try replace hY1 := up_of hb hY1); (first | have nB := new_up hb1 | have nB := new_up (drewB hb1) | (try replace nB := up_of hb nB)))))
          all_goals
            have hBN := yB.trans (hY1.mono yB.size)
            have hBN1 := yBV.trans (hY1.mono hWY)
            clear hYY hY1 hU1 hK1 hown1 hgrow hat hlt2 hown d0 d1 d2 g0 g1 g2 x0 e0 yd0 yd1 yd2 yg0 yg1 yg2 yx0 ye0
            rcases hFi : F i with _ | o
            · rw [hFi] at hok hO
              obtain rfl : okb = false := hok
              have hn8 := Lib.hid (hn9.out hFi)
              replace hFi := Lib.hid hFi; replace hO := Lib.hid hO
              go_wp2
              go_roundw
              case rel => exact ⟨i + 1, by omega, rfl, hn8, hBN1⟩
              case measure => exact meas hli
            · rw [hFi] at hok hO
              obtain rfl : okb = true := hok
              obtain ⟨hO1, hO2⟩ := hO o rfl
              have hR2 := hy9.out o hFi
              obtain rfl := hR2
              replace hFi := Lib.hid hFi; replace hO1 := Lib.hid hO1
              go_wp2
              go_ret2
              exact ⟨⟨s4, c4, O, true, rfl, rfl, fun o' ho' => by cases ho'; exact ⟨hO1.out, hO2⟩⟩, hBN⟩
        · obtain rfl : i = X.args.length := by omega
          obtain rfl := hnone2.out hno.out
          clear hno
          go_wp2
          go_ret2
          exact ⟨⟨none, 0, [], false, rfl, rfl, fun o ho => by cases ho⟩, hB⟩

    · cases et
      have k1 : (0 : Int) < (U.length : Int) := by omega
      have k2 : U ≠ [] := by rintro rfl; simp at hne
      go_enter Try.func88, Try.ntmps88
      go_upto_region 1 with (fail)
      refine wp_world fun W HW => ?_
      have hB : Below w.heap.size w W := by rw [HW.out]; (repeat (first | exact Below.refl _ _ | refine Below.alloc ?_ (by simp; try omega) _ | refine Below.setCell ?_ (by simp) _ | refine Below.drew ?_))
      have d0 : W.cell? ⟨w.heap.size, 0, none⟩ = some (.int .i64 n) := by rw [HW.out]; simp [go_sem]
      have d1 : W.cell? ⟨w.heap.size, 1, none⟩ = some (.slice s len cap) := by rw [HW.out]; simp [go_sem]
      have d2 : W.cell? ⟨w.heap.size, 2, none⟩ = some (.slice s2 K.length cq) := by rw [HW.out]; simp [go_sem]
      have dl : w.heap.size < W.heap.size := World.block_lt_of_cell? W _ d0
      have g0 : W.cell? ⟨w.heap.size + 1, 0, none⟩ = some (.int .i64 f.x) := by rw [HW.out]; simp [go_sem]
      have g1 : W.cell? ⟨w.heap.size + 1, 1, none⟩ = some (.int .i64 f.y) := by rw [HW.out]; simp [go_sem]
      have g2 : W.cell? ⟨w.heap.size + 1, 2, none⟩ = some (.int .i64 f.z) := by rw [HW.out]; simp [go_sem]
      have gl : w.heap.size + 1 < W.heap.size := World.block_lt_of_cell? W _ g0
      have x0 : W.cell? ⟨w.heap.size + 2, 0, none⟩ = some (.int .i64 v) := by rw [HW.out]; simp [go_sem]
      have xl : w.heap.size + 2 < W.heap.size := World.block_lt_of_cell? W _ x0
      try replace hK := up_of hB hK
      try replace hU := up_of hB hU
      try replace y0 := up_of hB y0
      try replace q2 := up_of hB q2
      try replace hsa := up_of hB hsa
      have ek1 := ek.out
      cases ek1
      try have ld_y0 := World.block_lt_of_cell? _ _ y0
      try have ld_d0 := World.block_lt_of_cell? _ _ d0
      try have ld_g0 := World.block_lt_of_cell? _ _ g0
      try have ld_x0 := World.block_lt_of_cell? _ _ x0
      refine region_q (by kernel_rfl) (by kernel_rfl) ?_
      dsimp only [List.toList_toArray]
      repeat (first
       | go_big_quiet_skip
       | (go_big_quiet_want
          first
          | (refine qq_det ?_
             apply Exists.intro; refine ⟨fun W' hW' => ?_, ?_⟩
             (· have hk := cellB hW'; go_simp; try (first | rfl | rw [if_pos (by omega)]))
             simp only [Act.put, List.setIfInBounds_toArray, List.set_cons_zero, List.set_cons_succ]; go_big_quiet_on)))
      refine wpQuiet_nil ?_
      intro Z hb
      try replace hK := up_of hb hK
      try replace hU := up_of hb hU
      try replace y0 := up_of hb y0
      try replace q2 := up_of hb q2
      try replace hsa := up_of hb hsa
      try replace hB := up_of hb hB
      try replace d0 := up_of hb d0
      try replace d1 := up_of hb d1
      try replace d2 := up_of hb d2
      try replace dl := up_of hb dl
      try replace g0 := up_of hb g0
      try replace g1 := up_of hb g1
      try replace g2 := up_of hb g2
      try replace gl := up_of hb gl
      try replace x0 := up_of hb x0
      try replace xl := up_of hb xl
      go_upto_region 5 with (first | (go_at_call 122; refine (hci1.out _ _ x0 hU).mono ?_; rintro e W1 ⟨rfl, hb⟩; (try replace hK := up_of hb hK); (try replace hU := up_of hb hU); (try replace y0 := up_of hb y0); (try replace q2 := up_of hb q2); (try replace hsa := up_of hb hsa); (try replace hB := up_of hb hB); (try replace d0 := up_of hb d0); (try replace d1 := up_of hb d1); (try replace d2 := up_of hb d2); (try replace dl := up_of hb dl); (try replace g0 := up_of hb g0); (try replace g1 := up_of hb g1); (try replace g2 := up_of hb g2); (try replace gl := up_of hb gl); (try replace x0 := up_of hb x0); (try replace xl := up_of hb xl)))
      have hsa0 := Lib.hid hsa; have hU0 := Lib.hid hU; have hK0 := Lib.hid hK
      go_wp2
      go_loopw [40] (fun ii V => ∃ i : Nat, i ≤ X.args.length ∧ ii = .int .i64 i ∧ Hid (∀ j, j < i → F j = none) ∧ Below W1.heap.size W1 V) (fun ii _ => X.args.length - (intOf ii).toNat)
      case atStart => exact ⟨0, by omega, rfl, fun j h => absurd h (by omega), Below.refl _ _⟩
      case round =>
        obtain ⟨i, hi, rfl, hno, hBV⟩ := hrel
        try replace hK := up_of hBV hK
        try replace hU := up_of hBV hU
        try replace y0 := up_of hBV y0
        try replace q2 := up_of hBV q2
        try replace hsa := up_of hBV hsa
        try replace hB := up_of hBV hB
        try replace d0 := up_of hBV d0
        try replace d1 := up_of hBV d1
        try replace d2 := up_of hBV d2
        try replace dl := up_of hBV dl
        try replace g0 := up_of hBV g0
        try replace g1 := up_of hBV g1
        try replace g2 := up_of hBV g2
        try replace gl := up_of hBV gl
        try replace x0 := up_of hBV x0
        try replace xl := up_of hBV xl
        by_cases hli : i < X.args.length
        · obtain ⟨ba, oa, ea, hba, z0, z1, z2, z3⟩ := hsa.ar_at hli
          cases ea
          obtain ⟨u, hu, hcir⟩ := hih2.out i hli
          rw [hu] at z0
          obtain ⟨a, ha⟩ : ∃ x, X.args[i] = x := ⟨_, rfl⟩
          rw [ha] at z1 z2 z3
          have hy9 := fun o => hyes2.out i o hli hno.out
          have hn9 : F i = none → ∀ j, j < i + 1 → F j = none := fun h => upto_succ hno.out h
          replace ha := Lib.hid ha; replace hu := Lib.hid hu; replace hcir := Lib.hid hcir; replace hy9 := Lib.hid hy9; replace hn9 := Lib.hid hn9
          clear hno
          have gi1 : (0 : Int) ≤ (i : Int) := by omega
          have gi2 : (i : Int) < (X.args.length : Int) := by omega
          go_upto_region 8 with (fail)
          refine wp_world fun Y HY => ?_
          have hY : Below wr.heap.size wr Y := by rw [HY.out]; (repeat (first | exact Below.refl _ _ | refine Below.alloc ?_ (by simp; try omega) _ | refine Below.setCell ?_ (by simp) _ | refine Below.drew ?_))
          have e0 : Y.cell? ⟨wr.heap.size, 0, none⟩ = some (.int .i64 u) := by rw [HY.out]; simp [go_sem]
          have e1 : Y.cell? ⟨wr.heap.size, 1, none⟩ = some (.int .i64 a.p.x) := by rw [HY.out]; simp [go_sem]
          have e2 : Y.cell? ⟨wr.heap.size, 2, none⟩ = some (.int .i64 a.p.y) := by rw [HY.out]; simp [go_sem]
          have e3 : Y.cell? ⟨wr.heap.size, 3, none⟩ = some (.int .i64 a.p.z) := by rw [HY.out]; simp [go_sem]
          have el : wr.heap.size < Y.heap.size := World.block_lt_of_cell? Y _ e0
          try replace hK := up_of hY hK
          try replace hU := up_of hY hU
          try replace y0 := up_of hY y0
          try replace q2 := up_of hY q2
          try replace hsa := up_of hY hsa
          try replace hB := up_of hY hB
          try replace d0 := up_of hY d0
          try replace d1 := up_of hY d1
          try replace d2 := up_of hY d2
          try replace dl := up_of hY dl
          try replace g0 := up_of hY g0
          try replace g1 := up_of hY g1
          try replace g2 := up_of hY g2
          try replace gl := up_of hY gl
          try replace x0 := up_of hY x0
          try replace xl := up_of hY xl
          try replace hBV := up_of hY hBV
          have hYY := Below.refl Y.heap.size Y
          have yK := Lib.hid hK
          have hWY := hBV.size
          have yd0 := d0; have yd1 := d1; have yd2 := d2; have yg0 := g0; have yg1 := g1; have yg2 := g2; have yx0 := x0; have ye0 := e0
          have yB := hB; have yBV := hBV
          go_region_held3 (fun V => V.cell? ⟨w.heap.size, 0, none⟩ = some (.int .i64 n) ∧ V.cell? ⟨w.heap.size, 1, none⟩ = some (.slice s len cap) ∧ V.cell? ⟨w.heap.size, 2, none⟩ = some (.slice (some ⟨bk, ok, none⟩) K.length cq) ∧ V.cell? ⟨w.heap.size + 1, 0, none⟩ = some (.int .i64 f.x) ∧ V.cell? ⟨w.heap.size + 1, 1, none⟩ = some (.int .i64 f.y) ∧ V.cell? ⟨w.heap.size + 1, 2, none⟩ = some (.int .i64 f.z) ∧ V.cell? ⟨w.heap.size + 2, 0, none⟩ = some (.int .i64 v) ∧ V.cell? ⟨wr.heap.size, 0, none⟩ = some (.int .i64 u)) ((first | (with_reducible exact ⟨d0, d1, d2, g0, g1, g2, x0, e0⟩) | ((try dsimp only); (repeat' apply And.intro) <;> (repeat (first | (with_reducible assumption) | (with_reducible refine cell_set (by simp; try omega) ?_) | (with_reducible refine cell_drew ?_) | (with_reducible refine cell_alloc ?_ _)))))) ((first | (go_at_call 124; refine calls_below (W0 := Y) ?_ fun hpre => ?_; (repeat (first | exact Below.refl _ _ | refine Below.alloc ?_ (by simp; try omega) _ | refine Below.drew ?_)); refine (hcl.out _ (up_of hpre hU)).mono ?_; rintro e N1 ⟨⟨s3, c3, rfl, hown⟩, hb1⟩; have hcc := cellB hb1; have hff := frozB hb1; have hb := Up.trans hpre hb1; clear hpre; (first | have hs_N1 := below_alloc_lt hb1 | have hs_N1 := below_alloc_lt (drewB hb1) | skip); have dl_N1 := dl; have gl_N1 := gl; have xl_N1 := xl; have el_N1 := el; (try replace hK := up_of hb hK); (try replace hU := up_of hb hU); (try replace y0 := up_of hb y0); (try replace q2 := up_of hb q2); (try replace hsa := up_of hb hsa); (try replace hB := up_of hb hB); (try replace d0 := up_of hb d0); (try replace d1 := up_of hb d1); (try replace d2 := up_of hb d2); (try replace dl := up_of hb dl); (try replace g0 := up_of hb g0); (try replace g1 := up_of hb g1); (try replace g2 := up_of hb g2); (try replace gl := up_of hb gl); (try replace x0 := up_of hb x0); (try replace xl := up_of hb xl); (try replace hBV := up_of hb hBV); (try replace hY := up_of hb hY); (try replace e0 := up_of hb e0); (try replace e1 := up_of hb e1); (try replace e2 := up_of hb e2); (try replace e3 := up_of hb e3); (try replace el := up_of hb el); (try replace hYY := up_of hb hYY); (try replace hK1 := up_of hb hK1); (try replace hU1 := up_of hb hU1); (try replace hY1 := up_of hb hY1); (first | have nB := new_up hb1 | have nB := new_up (drewB hb1) | (try replace nB := up_of hb nB))) | (refine step_append_lies _ (by rfl) _ _ 52 (by rfl) Y.heap.size 103 i0 (.agg #[.int .i64 0, .int .i64 0]) 2 16 Try.underlying52 hi0 hz0 hz1 hz2 rfl (by decide) _ _ _ (by rfl) (hown.alloc _) ⟨N1.heap.size, 0, none⟩ 1 1 [.int .i64 v, .int .i64 i] (by rfl) (by rfl) (news_new _ _ _) (by simp [Value.oneCell']) (by decide) (by unfold maxLen; omega) (by omega) (by first | omega | (have := hYY.size; simp; omega)) (N1.heap.size + 1) (by simp) ?_; intro gg cap1 w1 hown1 hgrow hat hlt2; have hY1 : Below Y.heap.size Y w1 := (hYY.alloc hYY.size _).grown hgrow (by have := hYY.size; first | omega | (simp; omega)) (fun g e => (hown.lt g e).1); have hU1 := us_mk.out _ _ _ _ _ hown1; have hC1 := own_capm hown1; have hK1 := up_of hY1 yK.out; replace d0 := up_of hY1 yd0; replace d1 := up_of hY1 yd1; replace d2 := up_of hY1 yd2; replace g0 := up_of hY1 yg0; replace g1 := up_of hY1 yg1; replace g2 := up_of hY1 yg2; replace x0 := up_of hY1 yx0; replace e0 := up_of hY1 ye0) | (have hown := owns_mono (b' := Y.heap.size) hown (by simp); refine step_append_lies _ (by rfl) _ _ 52 (by rfl) Y.heap.size 103 i0 (.agg #[.int .i64 0, .int .i64 0]) 2 16 Try.underlying52 hi0 hz0 hz1 hz2 rfl (by decide) _ _ _ (by rfl) (hown) ⟨Y.heap.size, 0, none⟩ 1 1 [.int .i64 v, .int .i64 i] (by rfl) (by rfl) (World.news_of_block nB) (by simp [Value.oneCell']) (by decide) (by unfold maxLen; omega) (by omega) (by first | omega | (have := hYY.size; simp; omega)) (N1.heap.size) (rfl) ?_; intro gg cap1 w1 hown1 hgrow hat hlt2; have hY1 : Below Y.heap.size Y w1 := (hYY).grown hgrow (by have := hYY.size; first | omega | (simp; omega)) (fun g e => (hown.lt g e).1); have hU1 := us_mk.out _ _ _ _ _ hown1; have hC1 := own_capm hown1; have hK1 := up_of hY1 yK.out; replace d0 := up_of hY1 yd0; replace d1 := up_of hY1 yd1; replace d2 := up_of hY1 yd2; replace g0 := up_of hY1 yg0; replace g1 := up_of hY1 yg1; replace g2 := up_of hY1 yg2; replace x0 := up_of hY1 yx0; replace e0 := up_of hY1 ye0) | (go_at_call 88; refine calls_below (W0 := w1) ?_ fun hpre => ?_; (repeat (first | exact Below.refl _ _ | refine Below.alloc ?_ (by simp; try omega) _ | refine Below.drew ?_)); refine (hcir.out _ _ cap1 (up_of hpre hK1) (up_of hpre hU1) hC1).mono ?_; rintro e N2 ⟨⟨s4, c4, O, okb, rfl, hok, hO⟩, hb1⟩; have hcc := cellB hb1; have hff := frozB hb1; have hb := Up.trans hpre hb1; clear hpre; (first | have hs_N2 := below_alloc_lt hb1 | have hs_N2 := below_alloc_lt (drewB hb1) | skip); have dl_N2 := dl; have gl_N2 := gl; have xl_N2 := xl; have el_N2 := el; (try replace hK := up_of hb hK); (try replace hU := up_of hb hU); (try replace y0 := up_of hb y0); (try replace q2 := up_of hb q2); (try replace hsa := up_of hb hsa); (try replace hB := up_of hb hB); (try replace d0 := up_of hb d0); (try replace d1 := up_of hb d1); (try replace d2 := up_of hb d2); (try replace dl := up_of hb dl); (try replace g0 := up_of hb g0); (try replace g1 := up_of hb g1); (try replace g2 := up_of hb g2); (try replace gl := up_of hb gl); (try replace x0 := up_of hb x0); (try replace xl := up_of hb xl); (try replace hBV := up_of hb hBV); (try replace hY := up_of hb hY); (try replace e0 := up_of hb e0); (try replace e1 := up_of hb e1); (try replace e2 := up_of hb e2); (try replace e3 := up_of hb e3); (try replace el := up_of hb el); (try replace hYY := up_of hb hYY); (try replace hK1 := up_of hb hK1); (try replace hU1 := up_of hb hU1); (try replace hY1 := up_of hb hY1); (first | have nB := new_up hb1 | have nB := new_up (drewB hb1) | (try replace nB := up_of hb nB)))))
          all_goals
            have hBN := yB.trans (hY1.mono yB.size)
            have hBN1 := yBV.trans (hY1.mono hWY)
            clear hYY hY1 hU1 hK1 hown1 hgrow hat hlt2 hown d0 d1 d2 g0 g1 g2 x0 e0 yd0 yd1 yd2 yg0 yg1 yg2 yx0 ye0
            rcases hFi : F i with _ | o
            · rw [hFi] at hok hO
              obtain rfl : okb = false := hok
              have hn8 := Lib.hid (hn9.out hFi)
              replace hFi := Lib.hid hFi; replace hO := Lib.hid hO
              go_wp2
              go_roundw
              case rel => exact ⟨i + 1, by omega, rfl, hn8, hBN1⟩
              case measure => exact meas hli
            · rw [hFi] at hok hO
              obtain rfl : okb = true := hok
              obtain ⟨hO1, hO2⟩ := hO o rfl
              have hR2 := hy9.out o hFi
              obtain rfl := hR2
              replace hFi := Lib.hid hFi; replace hO1 := Lib.hid hO1
              go_wp2
              go_ret2
              exact ⟨⟨s4, c4, O, true, rfl, rfl, fun o' ho' => by cases ho'; exact ⟨hO1.out, hO2⟩⟩, hBN⟩
        · obtain rfl : i = X.args.length := by omega
          obtain rfl := hnone2.out hno.out
          clear hno
          go_wp2
          go_ret2
          exact ⟨⟨none, 0, [], false, rfl, rfl, fun o ho => by cases ho⟩, hB⟩

end Go.Proofs.Ytbpdgoedglkefaa
