/- Whether a schedule is legal: the program and the reference; both as exported. -/
import Derived.Test.YtbpdgoedglkefaaSch13
import Derived.Test.YtbpdgoedglkefaaSch14
import Derived.Test.YtbpdgoedglkefaaSchArg
namespace Go.Proofs.Ytbpdgoedglkefaa
open Go.RowKit

set_option maxRecDepth 100000 in
set_option maxHeartbeats 400000 in
theorem rows_indexf (f : Nat) (cs : Array Value) (hf : ∀ args w, (callFunc f args).run Try.prog w = .ok (.enter f args) w) (s : Option Addr) (cap : Nat) (l : List (List Int)) (pr : List Int → Bool) (w : World)
    (hs : SlSS intE w s l) (hl : l.length ≤ 9223372036854775807)
    (hc : ∀ q ∈ l, ∀ W ta tc, Below w.heap.size w W → SlS intE W ta q → Calls Try.prog f (#[.slice ta q.length tc] ++ cs) W fun e w' => e = .returned (.bool (pr q)) ∧ Below W.heap.size W w') :
    Calls Try.prog 140 #[.slice s l.length cap, .func (.func f) #[] cs] w fun e w' => e = .returned (.int .i64 (fidx pr l)) ∧ Below w.heap.size w w' := by
  go_enter Try.func140, Try.ntmps140
  go_wp2
  go_loopw [8] (fun i wr => ∃ k : Nat, k ≤ l.length ∧ i = .int .i64 k ∧ Below w.heap.size w wr ∧ Hid (∀ j (hj : j < l.length), j < k → pr l[j] = false)) (fun i _ => l.length - (intOf i).toNat)
  case atStart => exact ⟨0, by omega, rfl, Below.refl _ _, fun j _ h => absurd h (by omega)⟩
  case round =>
    obtain ⟨k, hk, rfl, hB, hno⟩ := hrel
    by_cases hlt : k < l.length
    · obtain ⟨b, off, ta, tc, rfl, hb, h0, hrow, -, -⟩ := (up_of hB hs).at hlt
      have hcall := hc l[k] (List.getElem_mem hlt) wr ta tc hB hrow
      have Hc := Lib.hid hcall
      clear hc hcall hs hrow
      cases hp : pr l[k] with
      | true =>
        go_wp2_with (refine Hc.out.mono ?_; rintro e W1 ⟨rfl, hb1⟩; rw [hp])
        go_ret
        exact ⟨ret_int (fidx_at hlt (fun j hj => hno j _ hj) hp).symm, Up.to hB hb1 hB.size⟩
      | false =>
        go_wp2_with (refine Hc.out.mono ?_; rintro e W1 ⟨rfl, hb1⟩; rw [hp])
        go_roundw
        case rel => exact ⟨k + 1, by omega, by go_num, Up.to hB hb1 hB.size, fun j hj h => by rcases Nat.lt_succ_iff_lt_or_eq.1 h with h | rfl; exact hno j hj h; exact hp⟩
        case measure => simp [intOf]; omega
    · obtain rfl : k = l.length := by omega
      clear hc hs
      go_wp2
      go_ret
      exact ⟨ret_int (fidx_none fun j hj => hno j hj hj).symm, hB⟩

set_option maxRecDepth 100000 in
set_option maxHeartbeats 400000 in
theorem rows_containsf (f : Nat) (cs : Array Value) (hf : ∀ args w, (callFunc f args).run Try.prog w = .ok (.enter f args) w) (s : Option Addr) (cap : Nat) (l : List (List Int)) (pr : List Int → Bool) (w : World)
    (hs : SlSS intE w s l) (hl : l.length ≤ 9223372036854775807)
    (hc : ∀ q ∈ l, ∀ W ta tc, Below w.heap.size w W → SlS intE W ta q → Calls Try.prog f (#[.slice ta q.length tc] ++ cs) W fun e w' => e = .returned (.bool (pr q)) ∧ Below W.heap.size W w') :
    Calls Try.prog 109 #[.slice s l.length cap, .func (.func f) #[] cs] w fun e w' => e = .returned (.bool (l.any pr)) ∧ Below w.heap.size w w' := by
  have H := Lib.hid (rows_indexf f cs hf s cap l pr w hs hl hc)
  clear hc hs hf
  go_enter Try.func109, Try.ntmps109
  go_wp2_with (go_at_call 140; refine H.out.mono ?_; rintro e W1 ⟨rfl, hb⟩)
  go_ret
  exact ⟨ret_bool (fidx_any pr l), hb⟩


def lt1 (n : Int) : Bool := decide (n < 1)
/-- Whether a schedule is legal. -/
def legB (K : List Vv) (q : Sd) : Bool := (delT K q).all fun l => l.all fun n => !lt1 n
theorem any_not2 {α : Type} (pr : α → Bool) (l : List α) : (!l.any pr) = l.all fun x => !pr x := by
  induction l with
  | nil => rfl
  | cons x l ih => simp only [List.any_cons, List.all_cons, Bool.not_or, ih]
theorem legB_any (K : List Vv) (q : Sd) : (!(delT K q).any fun l => l.any lt1) = legB K q := by
  rw [any_not2]; unfold legB; congr 1; funext l; exact any_not2 _ _
set_option maxRecDepth 100000 in
theorem legal11_c (x : Int) (w : World) : Calls Try.prog 112 #[.int .i64 x] w fun e w' => e = .returned (.bool (lt1 x)) ∧ Below w.heap.size w w' := by
  unfold lt1
  by_cases h : x < 1
  all_goals
    go_enter Try.func112, Try.ntmps112
    go_wp2
    go_ret
    exact ⟨ret_bool (by simp [h]), Below.refl _ _⟩
set_option maxRecDepth 100000 in
theorem legal1_c (s : Option Addr) (cap : Nat) (l : List Int) (w : World) (h : SlS intE w s l) (hl : l.length ≤ 9223372036854775807) :
    Calls Try.prog 110 #[.slice s l.length cap] w fun e w' => e = .returned (.bool (l.any lt1)) ∧ Below w.heap.size w w' := by
  have hc := int_containsf 112 #[] (fun _ _ => rfl) s cap l lt1 w h hl (fun q _ W _ => legal11_c q W)
  obtain ⟨B, hB0⟩ : ∃ x, l.any lt1 = x := ⟨_, rfl⟩
  simp only [hB0] at hc ⊢
  clear hB0
  replace hc := Lib.hid hc
  go_enter Try.func110, Try.ntmps110
  go_wp2_with (first | (go_at_call 111; refine hc.out.mono ?_; rintro e W1 ⟨rfl, hb⟩))
  go_ret
  exact ⟨rfl, hb⟩
theorem delT_bd {n : Int} {l : List Iq} {K : List Vv} (h : recB n l K = true) (q : Sd) : ∀ r ∈ delT K q, r.length ≤ 3 := by
  intro r hr
  obtain ⟨k, hk, rfl⟩ := List.getElem_of_mem hr
  have hk2 : k < K.length := by rw [delT_len] at hk; exact hk
  rw [delT_row hk2 hk, List.length_map]
  exact (rec_args h _ (List.getElem_mem hk2)).1
set_option maxRecDepth 100000 in
set_option maxHeartbeats 1000000 in
theorem legal_c (n : Int) (s : Option Addr) (cap : Nat) (l : List Iq) (s2 : Option Addr) (cq : Nat) (K : List Vv) (q : Sd) (w : World) (hr : RecM w s l s2 cq K) (hq : SdM w q) (h0 : recB n l K = true) (hol : q.off.length = K.length) (hk4 : K.length ≤ 4) :
    Calls Try.prog 67 #[.agg #[.int .i64 n, .slice s l.length cap, .slice s2 K.length cq], .agg #[.int .i64 q.f.x, .int .i64 q.f.y, .int .i64 q.f.z, .slice q.s q.off.length q.cap]] w fun e w' => e = .returned (.bool (legB K q)) ∧ Below w.heap.size w w' := by
  have hd := fun V (h : RecM V s l s2 cq K) (h2 : SdM V q) => delays_c n s cap l s2 cq K q V h h2 hol hk4 (rec_args h0)
  have hcf := fun V t c (h : SlSS intE V t (delT K q)) => rows_containsf 110 #[] (fun _ _ => rfl) t c (delT K q) (fun l => l.any lt1) V h (by rw [delT_len]; omega) (fun r hr W ta tc _ hs => legal1_c ta tc r W hs (by have := delT_bd h0 q r hr; omega))
  have hle := legB_any K q
  obtain ⟨B, hB0⟩ : ∃ x, legB K q = x := ⟨_, rfl⟩
  obtain ⟨T, hT⟩ : ∃ x, delT K q = x := ⟨_, rfl⟩
  simp only [hB0, hT] at hd hcf hle ⊢
  clear hB0 hT
  obtain ⟨C, hC⟩ : ∃ x, (T.any fun l => l.any lt1) = x := ⟨_, rfl⟩
  simp only [hC] at hcf hle
  subst hle
  clear hC
  replace hd := Lib.hid hd; replace hcf := Lib.hid hcf; replace hol := Lib.hid hol
  go_enter Try.func67, Try.ntmps67
  go_upto_region 1 with (fail)
  refine wp_world fun W HW => ?_
  have hB : Below w.heap.size w W := by rw [HW.out]; (repeat (first | exact Below.refl _ _ | refine Below.alloc ?_ (by simp; try omega) _ | refine Below.setCell ?_ (by simp) _ | refine Below.drew ?_))
  have d0 : W.cell? ⟨w.heap.size, 0, none⟩ = some (.int .i64 n) := by rw [HW.out]; simp [go_sem]
  have d1 : W.cell? ⟨w.heap.size, 1, none⟩ = some (.slice s l.length cap) := by rw [HW.out]; simp [go_sem]
  have d2 : W.cell? ⟨w.heap.size, 2, none⟩ = some (.slice s2 K.length cq) := by rw [HW.out]; simp [go_sem]
  have dl : w.heap.size < W.heap.size := World.block_lt_of_cell? W _ d0
  have g0 : W.cell? ⟨w.heap.size + 1, 0, none⟩ = some (.int .i64 q.f.x) := by rw [HW.out]; simp [go_sem]
  have g1 : W.cell? ⟨w.heap.size + 1, 1, none⟩ = some (.int .i64 q.f.y) := by rw [HW.out]; simp [go_sem]
  have g2 : W.cell? ⟨w.heap.size + 1, 2, none⟩ = some (.int .i64 q.f.z) := by rw [HW.out]; simp [go_sem]
  have g3 : W.cell? ⟨w.heap.size + 1, 3, none⟩ = some (.slice q.s q.off.length q.cap) := by rw [HW.out]; simp [go_sem]
  have gl : w.heap.size + 1 < W.heap.size := World.block_lt_of_cell? W _ g0
  try replace hr := up_of hB hr
  try replace hq := up_of hB hq
  go_wp2_with (first | (go_at_call 69; refine (hd.out _ hr hq).mono ?_; rintro e A1 ⟨⟨s1, k1, rfl, hv⟩, hb⟩; (try replace hr := up_of hb hr); (try replace hq := up_of hb hq); (try replace hB := up_of hb hB); (try replace d0 := up_of hb d0); (try replace d1 := up_of hb d1); (try replace d2 := up_of hb d2); (try replace dl := up_of hb dl); (try replace g0 := up_of hb g0); (try replace g1 := up_of hb g1); (try replace g2 := up_of hb g2); (try replace g3 := up_of hb g3); (try replace gl := up_of hb gl)) | (go_at_call 109; refine (hcf.out _ s1 k1 hv).mono ?_; rintro e W1 ⟨rfl, hb⟩; (try replace hr := up_of hb hr); (try replace hq := up_of hb hq); (try replace hB := up_of hb hB); (try replace d0 := up_of hb d0); (try replace d1 := up_of hb d1); (try replace d2 := up_of hb d2); (try replace dl := up_of hb dl); (try replace g0 := up_of hb g0); (try replace g1 := up_of hb g1); (try replace g2 := up_of hb g2); (try replace g3 := up_of hb g3); (try replace gl := up_of hb gl)))
  go_ret
  exact ⟨rfl, hB⟩
theorem leg_no {K : List Vv} {q : Sd} {k j : Nat} (hk : k < (delT K q).length) (hj : j < (delT K q)[k].length) (h : (delT K q)[k][j] < 1) : legB K q = false := by
  cases hh : legB K q
  · rfl
  · unfold legB at hh
    have h1 := List.all_eq_true.1 (List.all_eq_true.1 hh _ (List.getElem_mem hk)) _ (List.getElem_mem hj)
    simp [lt1, h] at h1
theorem leg_yes {K : List Vv} {q : Sd} (h : ∀ k (hk : k < (delT K q).length) j (hj : j < (delT K q)[k].length), 1 ≤ (delT K q)[k][j]) : legB K q = true := by
  unfold legB
  rw [List.all_eq_true]; intro r hr
  obtain ⟨k, hk, rfl⟩ := List.getElem_of_mem hr
  rw [List.all_eq_true]; intro x hx
  obtain ⟨j, hj, rfl⟩ := List.getElem_of_mem hx
  have := h k hk j hj
  simp [lt1]; omega
set_option maxRecDepth 100000 in
set_option maxHeartbeats 2000000 in
theorem IsLegal_c (n : Int) (s : Option Addr) (cap : Nat) (l : List Iq) (s2 : Option Addr) (cq : Nat) (K : List Vv) (q : Sd) (w : World) (hr : RecM w s l s2 cq K) (hq : SdM w q) (h0 : recB n l K = true) (hol : q.off.length = K.length) (hk4 : K.length ≤ 4) :
    Calls Try.prog 68 #[.agg #[.int .i64 n, .slice s l.length cap, .slice s2 K.length cq], .agg #[.int .i64 q.f.x, .int .i64 q.f.y, .int .i64 q.f.z, .slice q.s q.off.length q.cap]] w fun e w' => e = .returned (.bool (legB K q)) ∧ Below w.heap.size w w' := by
  have hd := fun V (h : RecM V s l s2 cq K) (h2 : SdM V q) => rDelays_c n s cap l s2 cq K q V h h2 hol hk4 (rec_args h0)
  obtain ⟨T, B, hT, hB0, hno, hyes, hTl, hTr⟩ : ∃ (T : List (List Int)) (B : Bool), delT K q = T ∧ legB K q = B ∧ (∀ k j (hk : k < T.length) (hj : j < T[k].length), T[k][j] < 1 → B = false) ∧ ((∀ k (hk : k < T.length) j (hj : j < T[k].length), 1 ≤ T[k][j]) → B = true) ∧ T.length = K.length ∧ ∀ r ∈ T, r.length ≤ 3 :=
    ⟨_, _, rfl, rfl, fun k j hk hj h => leg_no hk hj h, leg_yes, delT_len K q, delT_bd h0 q⟩
  simp only [hT] at hd
  rw [hB0]
  clear hT hB0
  replace hd := Lib.hid hd; replace hol := Lib.hid hol; replace hno := Lib.hid hno; replace hyes := Lib.hid hyes; replace hTl := Lib.hid hTl; replace hTr := Lib.hid hTr
  go_enter Try.func68, Try.ntmps68
  go_upto_region 1 with (fail)
  refine wp_world fun W HW => ?_
  have hB : Below w.heap.size w W := by rw [HW.out]; (repeat (first | exact Below.refl _ _ | refine Below.alloc ?_ (by simp; try omega) _ | refine Below.setCell ?_ (by simp) _ | refine Below.drew ?_))
  have d0 : W.cell? ⟨w.heap.size, 0, none⟩ = some (.int .i64 n) := by rw [HW.out]; simp [go_sem]
  have d1 : W.cell? ⟨w.heap.size, 1, none⟩ = some (.slice s l.length cap) := by rw [HW.out]; simp [go_sem]
  have d2 : W.cell? ⟨w.heap.size, 2, none⟩ = some (.slice s2 K.length cq) := by rw [HW.out]; simp [go_sem]
  have dl : w.heap.size < W.heap.size := World.block_lt_of_cell? W _ d0
  have g0 : W.cell? ⟨w.heap.size + 1, 0, none⟩ = some (.int .i64 q.f.x) := by rw [HW.out]; simp [go_sem]
  have g1 : W.cell? ⟨w.heap.size + 1, 1, none⟩ = some (.int .i64 q.f.y) := by rw [HW.out]; simp [go_sem]
  have g2 : W.cell? ⟨w.heap.size + 1, 2, none⟩ = some (.int .i64 q.f.z) := by rw [HW.out]; simp [go_sem]
  have g3 : W.cell? ⟨w.heap.size + 1, 3, none⟩ = some (.slice q.s q.off.length q.cap) := by rw [HW.out]; simp [go_sem]
  have gl : w.heap.size + 1 < W.heap.size := World.block_lt_of_cell? W _ g0
  try replace hr := up_of hB hr
  try replace hq := up_of hB hq
  go_upto_region 2 with (first | (go_at_call 70; refine (hd.out _ hr hq).mono ?_; rintro e A1 ⟨⟨s1, k1, rfl, hv⟩, hb⟩; (try replace hr := up_of hb hr); (try replace hq := up_of hb hq); (try replace hB := up_of hb hB); (try replace d0 := up_of hb d0); (try replace d1 := up_of hb d1); (try replace d2 := up_of hb d2); (try replace dl := up_of hb dl); (try replace g0 := up_of hb g0); (try replace g1 := up_of hb g1); (try replace g2 := up_of hb g2); (try replace g3 := up_of hb g3); (try replace gl := up_of hb gl)))
  have hT4 : T.length ≤ 4 := by have := hTl.out; omega
  replace hv := Lib.hid hv
  go_wp2
  go_loop [13] (fun ii => ∃ k : Nat, k ≤ T.length ∧ ii = .int .i64 k ∧ Hid (∀ i (hi : i < T.length) j (hj : j < T[i].length), i < k → 1 ≤ T[i][j])) (fun ii => T.length - (intOf ii).toNat)
  case atStart => exact ⟨0, by omega, rfl, fun i hi j hj h => absurd h (by omega)⟩
  case round =>
    obtain ⟨k, hk, rfl, hall⟩ := hrel
    by_cases hlt : k < T.length
    · obtain ⟨b, off, ta, tc, e1, hb', x0, hsl, -, -⟩ := hv.out.at hlt
      have hr3 := hTr.out _ (List.getElem_mem hlt)
      obtain ⟨c, hc⟩ : ∃ x, T[k] = x := ⟨_, rfl⟩
      have hbad : ∀ j (hj : j < c.length), c[j] < 1 → B = false := by subst hc; exact fun j hj => hno.out k j hlt hj
      have hnx : (∀ j (hj : j < c.length), 1 ≤ c[j]) → ∀ i (hi : i < T.length) j (hj : j < T[i].length), i < k + 1 → 1 ≤ T[i][j] := by
        subst hc
        exact fun h i hi j hj h2 => by
          by_cases h3 : i < k
          · exact hall.out i hi j hj h3
          · obtain rfl : i = k := by omega
            exact h j hj
      rw [hc] at x0 hsl hr3
      replace hbad := Lib.hid hbad; replace hnx := Lib.hid hnx; replace hsl := Lib.hid hsl
      clear hc hall
      have i1 : (0 : Int) ≤ (k : Int) := by omega
      have i2 : (k : Int) < (T.length : Int) := by omega
      subst e1
      go_wp2
      go_loop [19] (fun ii => ∃ j : Nat, j ≤ c.length ∧ ii = .int .i64 j ∧ Hid (∀ i (hi : i < c.length), i < j → 1 ≤ c[i])) (fun ii => c.length - (intOf ii).toNat)
      case atStart => exact ⟨0, by omega, rfl, fun i hi h => absurd h (by omega)⟩
      case round =>
        obtain ⟨j, hj, rfl, hall⟩ := hrel
        by_cases hlj : j < c.length
        · obtain ⟨b2, off2, e2, hb2, y0⟩ := hsl.out.int_at hlj
          have hb3 := hbad.out j hlj
          have hn3 : 1 ≤ c[j] → ∀ i (hi : i < c.length), i < j + 1 → 1 ≤ c[i] := fun h i hi h2 => by
            by_cases h3 : i < j
            · exact hall.out i hi h3
            · obtain rfl : i = j := by omega
              exact h
          obtain ⟨x, hx⟩ : ∃ x, c[j] = x := ⟨_, rfl⟩
          simp only [hx] at y0 hb3 hn3
          clear hx hall
          have j1 : (0 : Int) ≤ (j : Int) := by omega
          have j2 : (j : Int) < (c.length : Int) := by omega
          subst e2
          by_cases hx1 : x < 1
          · obtain rfl := hb3 hx1
            clear hn3
            go_wp2
            go_ret
            exact ⟨rfl, hB⟩
          · have hn4 := Lib.hid (hn3 (by omega))
            clear hb3 hn3
            go_wp2
            go_round
            case rel => exact ⟨j + 1, by omega, rfl, hn4⟩
            case measure => exact meas hlj
        · obtain rfl : j = c.length := by omega
          have hn4 := Lib.hid (hnx.out (fun i hi => hall.out i hi hi))
          clear hall
          go_wp2
          go_round
          case rel => exact ⟨k + 1, by omega, rfl, hn4⟩
          case measure => exact meas hlt
    · obtain rfl : k = T.length := by omega
      obtain rfl := hyes.out (fun i hi j hj => by have := hall.out i hi j hj hi; omega)
      clear hall
      go_wp2
      go_ret
      exact ⟨rfl, hB⟩
end Go.Proofs.Ytbpdgoedglkefaa
