/- Valid variables: the program's arguments and variables. -/
import Derived.Test.YtbpdgoedglkefaaRec1
import Derived.BigRegion
namespace Go.Proofs.Ytbpdgoedglkefaa
open Go.RowKit

set_option maxRecDepth 100000 in
set_option maxHeartbeats 400000 in
theorem int_indexf (f : Nat) (cs : Array Value) (hf : ∀ args w, (callFunc f args).run Try.prog w = .ok (.enter f args) w) (s : Option Addr) (cap : Nat) (l : List Int) (pr : Int → Bool) (w : World)
    (hs : SlS intE w s l) (hl : l.length ≤ 9223372036854775807)
    (hc : ∀ q ∈ l, ∀ W, Below w.heap.size w W → Calls Try.prog f (#[.int .i64 q] ++ cs) W fun e w' => e = .returned (.bool (pr q)) ∧ Below W.heap.size W w') :
    Calls Try.prog 141 #[.slice s l.length cap, .func (.func f) #[] cs] w fun e w' => e = .returned (.int .i64 (fidx pr l)) ∧ Below w.heap.size w w' := by
  go_enter Try.func141, Try.ntmps141
  go_wp2
  go_loopw [8] (fun i wr => ∃ k : Nat, k ≤ l.length ∧ i = .int .i64 k ∧ Below w.heap.size w wr ∧ Hid (∀ j (hj : j < l.length), j < k → pr l[j] = false)) (fun i _ => l.length - (intOf i).toNat)
  case atStart => exact ⟨0, by omega, rfl, Below.refl _ _, fun j _ h => absurd h (by omega)⟩
  case round =>
    obtain ⟨k, hk, rfl, hB, hno⟩ := hrel
    by_cases hlt : k < l.length
    · obtain ⟨b, off, rfl, hb, hcl⟩ := (up_of hB hs).at hlt
      have h0 := hcl 0 _ rfl
      simp only [intE, Nat.mul_one, Nat.add_zero] at h0
      have hcall := hc l[k] (List.getElem_mem hlt) wr hB
      have Hc := Lib.hid hcall
      clear hc hcall hs hcl
      cases hp : pr l[k] with
      | true =>
        go_wp2_with (refine Hc.out.mono ?_; rintro e W1 ⟨rfl, hb1⟩; rw [hp])
        go_ret
        exact ⟨ret_int (fidx_at hlt (fun j hj => hno j _ hj) hp).symm, Up.to hB hb1 hB.size⟩
      | false =>
        go_wp2_with (refine Hc.out.mono ?_; rintro e W1 ⟨rfl, hb1⟩; rw [hp])
        go_roundw
        case rel => exact ⟨k + 1, by omega, by go_num, Up.to hB hb1 hB.size, fun j hj h => by rcases Nat.lt_succ_iff_lt_or_eq.1 h with h | rfl; exact hno j hj h; exact hp⟩
        case measure => simp [intOf]; omega
    · obtain rfl : k = l.length := by omega
      clear hc hs
      go_wp2
      go_ret
      exact ⟨ret_int (fidx_none fun j hj => hno j hj hj).symm, hB⟩

set_option maxRecDepth 100000 in
set_option maxHeartbeats 400000 in
theorem int_containsf (f : Nat) (cs : Array Value) (hf : ∀ args w, (callFunc f args).run Try.prog w = .ok (.enter f args) w) (s : Option Addr) (cap : Nat) (l : List Int) (pr : Int → Bool) (w : World)
    (hs : SlS intE w s l) (hl : l.length ≤ 9223372036854775807)
    (hc : ∀ q ∈ l, ∀ W, Below w.heap.size w W → Calls Try.prog f (#[.int .i64 q] ++ cs) W fun e w' => e = .returned (.bool (pr q)) ∧ Below W.heap.size W w') :
    Calls Try.prog 111 #[.slice s l.length cap, .func (.func f) #[] cs] w fun e w' => e = .returned (.bool (l.any pr)) ∧ Below w.heap.size w w' := by
  have H := Lib.hid (int_indexf f cs hf s cap l pr w hs hl hc)
  clear hc hs hf
  go_enter Try.func111, Try.ntmps111
  go_wp2_with (go_at_call 141; refine H.out.mono ?_; rintro e W1 ⟨rfl, hb⟩)
  go_ret
  exact ⟨ret_bool (fidx_any pr l), hb⟩

set_option maxRecDepth 100000 in
set_option maxHeartbeats 400000 in
theorem arg_indexf (f : Nat) (cs : Array Value) (hf : ∀ args w, (callFunc f args).run Try.prog w = .ok (.enter f args) w) (s : Option Addr) (cap : Nat) (l : List Ar) (pr : Ar → Bool) (w : World)
    (hs : SlS arE w s l) (hl : l.length ≤ 9223372036854775807)
    (hc : ∀ q ∈ l, ∀ W, Below w.heap.size w W → Calls Try.prog f (#[.agg #[.int .i64 q.v, .int .i64 q.p.x, .int .i64 q.p.y, .int .i64 q.p.z]] ++ cs) W fun e w' => e = .returned (.bool (pr q)) ∧ Below W.heap.size W w') :
    Calls Try.prog 165 #[.slice s l.length cap, .func (.func f) #[] cs] w fun e w' => e = .returned (.int .i64 (fidx pr l)) ∧ Below w.heap.size w w' := by
  go_enter Try.func165, Try.ntmps165
  go_wp2
  go_loopw [8] (fun i wr => ∃ k : Nat, k ≤ l.length ∧ i = .int .i64 k ∧ Below w.heap.size w wr ∧ Hid (∀ j (hj : j < l.length), j < k → pr l[j] = false)) (fun i _ => l.length - (intOf i).toNat)
  case atStart => exact ⟨0, by omega, rfl, Below.refl _ _, fun j _ h => absurd h (by omega)⟩
  case round =>
    obtain ⟨k, hk, rfl, hB, hno⟩ := hrel
    by_cases hlt : k < l.length
    · obtain ⟨b, off, rfl, hb, h0, h1, h2, h3⟩ := (up_of hB hs).ar_at hlt
      have hcall := hc l[k] (List.getElem_mem hlt) wr hB
      have Hc := Lib.hid hcall
      clear hc hcall hs
      cases hp : pr l[k] with
      | true =>
        go_wp2_with (refine Hc.out.mono ?_; rintro e W1 ⟨rfl, hb1⟩; rw [hp])
        go_ret
        exact ⟨ret_int (fidx_at hlt (fun j hj => hno j _ hj) hp).symm, Up.to hB hb1 hB.size⟩
      | false =>
        go_wp2_with (refine Hc.out.mono ?_; rintro e W1 ⟨rfl, hb1⟩; rw [hp])
        go_roundw
        case rel => exact ⟨k + 1, by omega, by go_num, Up.to hB hb1 hB.size, fun j hj h => by rcases Nat.lt_succ_iff_lt_or_eq.1 h with h | rfl; exact hno j hj h; exact hp⟩
        case measure => simp [intOf]; omega
    · obtain rfl : k = l.length := by omega
      clear hc hs
      go_wp2
      go_ret
      exact ⟨ret_int (fidx_none fun j hj => hno j hj hj).symm, hB⟩

set_option maxRecDepth 100000 in
set_option maxHeartbeats 400000 in
theorem arg_containsf (f : Nat) (cs : Array Value) (hf : ∀ args w, (callFunc f args).run Try.prog w = .ok (.enter f args) w) (s : Option Addr) (cap : Nat) (l : List Ar) (pr : Ar → Bool) (w : World)
    (hs : SlS arE w s l) (hl : l.length ≤ 9223372036854775807)
    (hc : ∀ q ∈ l, ∀ W, Below w.heap.size w W → Calls Try.prog f (#[.agg #[.int .i64 q.v, .int .i64 q.p.x, .int .i64 q.p.y, .int .i64 q.p.z]] ++ cs) W fun e w' => e = .returned (.bool (pr q)) ∧ Below W.heap.size W w') :
    Calls Try.prog 143 #[.slice s l.length cap, .func (.func f) #[] cs] w fun e w' => e = .returned (.bool (l.any pr)) ∧ Below w.heap.size w w' := by
  have H := Lib.hid (arg_indexf f cs hf s cap l pr w hs hl hc)
  clear hc hs hf
  go_enter Try.func143, Try.ntmps143
  go_wp2_with (go_at_call 165; refine H.out.mono ?_; rintro e W1 ⟨rfl, hb⟩)
  go_ret
  exact ⟨ret_bool (fidx_any pr l), hb⟩

theorem sl_ints {W : World} {b o : Nat} {l : List Int} (hb : b < W.heap.size) (h : ∀ j (hj : j < l.length), W.cell? ⟨b, o + j, none⟩ = some (.int .i64 l[j])) : SlS intE W (some ⟨b, o, none⟩) l := by
  refine .inr ⟨b, o, rfl, hb, fun j u hj => ?_⟩
  have hl := (List.getElem?_eq_some_iff.1 hj).1
  rw [Elt.all_len] at hl
  have hl2 : j < l.length := by simpa [intE] using hl
  have h2 := intE.all_at l j 0 hl2 (by decide)
  have h3 : (intE.all l)[j]? = some (.int .i64 l[j]) := by simpa [intE] using h2
  rw [h3] at hj
  cases hj
  exact h j hl2
set_option maxRecDepth 100000 in
theorem beyond1_c (x : Int) (w : World) : Calls Try.prog 166 #[.int .i64 x] w fun e w' => e = .returned (.bool (x != 0)) ∧ Below w.heap.size w w' := by
  go_enter Try.func166, Try.ntmps166
  go_wp2
  go_ret
  exact ⟨rfl, Below.refl _ _⟩
set_option maxRecDepth 100000 in
theorem valid11_c (x : Int) (w : World) : Calls Try.prog 145 #[.int .i64 x] w fun e w' => e = .returned (.bool (!bw (-3) x 3)) ∧ Below w.heap.size w w' := by
  go_enter Try.func145, Try.ntmps145
  go_wp2_with (first | (go_at_call 114; refine (recBetween_c _ _ _ _).mono ?_; rintro e w' ⟨rfl, rfl⟩))
  go_ret
  exact ⟨rfl, Below.refl _ _⟩
def beyB (p : Pt) (n : Nat) : Bool := ([p.x, p.y, p.z].drop n).any fun x => x != 0
set_option maxRecDepth 100000 in
set_option maxHeartbeats 1000000 in
theorem beyond_c (p : Pt) (n : Nat) (w : World) (hn : 1 ≤ n ∧ n ≤ 3) :
    Calls Try.prog 146 #[.agg #[.int .i64 p.x, .int .i64 p.y, .int .i64 p.z], .int .i64 n] w fun e w' => e = .returned (.bool (beyB p n)) ∧ Below w.heap.size w w' := by
  have hcs : n = 1 ∨ n = 2 ∨ n = 3 := by omega
  have H := Lib.hid fun V s c (l : List Int) (h : SlS intE V s l) (hl : l.length ≤ 3) => int_containsf 166 #[] (fun _ _ => rfl) s c l (fun x => x != 0) V h (by omega) (fun q _ W _ => beyond1_c q W)
  rcases hcs with rfl | rfl | rfl
  · have H1 := Lib.hid fun V b (hb : b < V.heap.size) (h1 : V.cell? ⟨b, 1, none⟩ = some (.int .i64 p.y)) (h2 : V.cell? ⟨b, 2, none⟩ = some (.int .i64 p.z)) => H.out V (some ⟨b, 1, none⟩) 2 [p.y, p.z] (sl_ints hb fun j hj => by
      simp only [List.length_cons, List.length_nil] at hj
      have : j = 0 ∨ j = 1 := by omega
      rcases this with rfl | rfl
      · exact h1
      · exact h2) (by simp)
    go_enter Try.func146, Try.ntmps146
    go_upto_region 1 with (fail)
    refine wp_world fun W HW => ?_
    have hB : Below w.heap.size w W := by rw [HW.out]; (repeat (first | exact Below.refl _ _ | refine Below.alloc ?_ (by simp; try omega) _ | refine Below.setCell ?_ (by simp) _ | refine Below.drew ?_))
    have b0 : W.cell? ⟨w.heap.size, 0, none⟩ = some (.int .i64 p.x) := by rw [HW.out]; simp [go_sem]
    have b1 : W.cell? ⟨w.heap.size, 1, none⟩ = some (.int .i64 p.y) := by rw [HW.out]; simp [go_sem]
    have b2 : W.cell? ⟨w.heap.size, 2, none⟩ = some (.int .i64 p.z) := by rw [HW.out]; simp [go_sem]
    have bl : w.heap.size < W.heap.size := World.block_lt_of_cell? W _ b0
    go_wp2_with (first | (go_at_call 111; refine (H1.out _ _ bl b1 b2).mono ?_; rintro e W2 ⟨rfl, hb2⟩))
    go_ret
    exact ⟨ret_bool (by simp [beyB]), hB.trans (hb2.mono hB.size)⟩
  · have H1 := Lib.hid fun V b (hb : b < V.heap.size) (h2 : V.cell? ⟨b, 2, none⟩ = some (.int .i64 p.z)) => H.out V (some ⟨b, 2, none⟩) 1 [p.z] (sl_ints hb fun j hj => by
      simp only [List.length_cons, List.length_nil] at hj
      obtain rfl : j = 0 := by omega
      exact h2) (by simp)
    go_enter Try.func146, Try.ntmps146
    go_upto_region 1 with (fail)
    refine wp_world fun W HW => ?_
    have hB : Below w.heap.size w W := by rw [HW.out]; (repeat (first | exact Below.refl _ _ | refine Below.alloc ?_ (by simp; try omega) _ | refine Below.setCell ?_ (by simp) _ | refine Below.drew ?_))
    have b0 : W.cell? ⟨w.heap.size, 0, none⟩ = some (.int .i64 p.x) := by rw [HW.out]; simp [go_sem]
    have b1 : W.cell? ⟨w.heap.size, 1, none⟩ = some (.int .i64 p.y) := by rw [HW.out]; simp [go_sem]
    have b2 : W.cell? ⟨w.heap.size, 2, none⟩ = some (.int .i64 p.z) := by rw [HW.out]; simp [go_sem]
    have bl : w.heap.size < W.heap.size := World.block_lt_of_cell? W _ b0
    go_wp2_with (first | (go_at_call 111; refine (H1.out _ _ bl b2).mono ?_; rintro e W2 ⟨rfl, hb2⟩))
    go_ret
    exact ⟨ret_bool (by simp [beyB]), hB.trans (hb2.mono hB.size)⟩
  · have H1 := Lib.hid fun V s => H.out V s 0 [] SlS.nil (by simp)
    go_enter Try.func146, Try.ntmps146
    go_upto_region 1 with (fail)
    refine wp_world fun W HW => ?_
    have hB : Below w.heap.size w W := by rw [HW.out]; (repeat (first | exact Below.refl _ _ | refine Below.alloc ?_ (by simp; try omega) _ | refine Below.setCell ?_ (by simp) _ | refine Below.drew ?_))
    have b0 : W.cell? ⟨w.heap.size, 0, none⟩ = some (.int .i64 p.x) := by rw [HW.out]; simp [go_sem]
    have b1 : W.cell? ⟨w.heap.size, 1, none⟩ = some (.int .i64 p.y) := by rw [HW.out]; simp [go_sem]
    have b2 : W.cell? ⟨w.heap.size, 2, none⟩ = some (.int .i64 p.z) := by rw [HW.out]; simp [go_sem]
    have bl : w.heap.size < W.heap.size := World.block_lt_of_cell? W _ b0
    go_wp2_with (first | (go_at_call 111; refine (H1.out _ _).mono ?_; rintro e W2 ⟨rfl, hb2⟩))
    go_ret
    exact ⟨ret_bool (by simp [beyB]), hB.trans (hb2.mono hB.size)⟩
theorem argC_eq {vars : Int} {n : Nat} {a : Ar} (hn : 1 ≤ n ∧ n ≤ 3) : argC vars n a = !(([a.p.x, a.p.y, a.p.z].any fun x => !bw (-3) x 3) || (beyB a.p n || !bw 0 a.v (vars - 1))) := by
  have hcs : n = 1 ∨ n = 2 ∨ n = 3 := by omega
  unfold argC flatB flatC beyB
  rcases hcs with rfl | rfl | rfl
  all_goals
    cases h1 : bw (-3) a.p.x 3 <;> cases h2 : bw (-3) a.p.y 3 <;> cases h3 : bw (-3) a.p.z 3 <;> simp [h1, h2, h3]
  all_goals
    try (cases h4 : bw 0 a.v (vars - 1) <;> by_cases h5 : a.p.y = 0 <;> by_cases h6 : a.p.z = 0 <;> simp [h5, h6])
set_option maxRecDepth 100000 in
set_option maxHeartbeats 2000000 in
theorem validVar1_c (bn bv : Nat) (n : Nat) (vars : Int) (a : Ar) (w : World) (hn : 1 ≤ n ∧ n ≤ 3) (hv : 1 ≤ vars ∧ vars ≤ 1000) (gn0 : w.cell? ⟨bn, 0, none⟩ = some (.int .i64 n)) (gv0 : w.cell? ⟨bv, 0, none⟩ = some (.int .i64 vars)) :
    Calls Try.prog 144 #[.agg #[.int .i64 a.v, .int .i64 a.p.x, .int .i64 a.p.y, .int .i64 a.p.z], .pointer (some ⟨bn, 0, none⟩), .pointer (some ⟨bv, 0, none⟩)] w fun e w' => e = .returned (.bool (!argC vars n a)) ∧ Below w.heap.size w w' := by
  rw [argC_eq hn, Bool.not_not]
  have hgn := World.block_lt_of_cell? w _ gn0
  have hgv := World.block_lt_of_cell? w _ gv0
  have w1 : IntKind.i64.wrap (vars - 1) = vars - 1 := i64_small (by omega)
  have H := Lib.hid fun V b (hb : b < V.heap.size) (h1 : V.cell? ⟨b, 1, none⟩ = some (.int .i64 a.p.x)) (h2 : V.cell? ⟨b, 2, none⟩ = some (.int .i64 a.p.y)) (h3 : V.cell? ⟨b, 3, none⟩ = some (.int .i64 a.p.z)) => int_containsf 145 #[] (fun _ _ => rfl) (some ⟨b, 1, none⟩) 3 [a.p.x, a.p.y, a.p.z] (fun x => !bw (-3) x 3) V (sl_ints hb fun j hj => by
      simp only [List.length_cons, List.length_nil] at hj
      have : j = 0 ∨ j = 1 ∨ j = 2 := by omega
      rcases this with rfl | rfl | rfl
      · exact h1
      · exact h2
      · exact h3) (by simp) (fun q _ W _ => valid11_c q W)
  have Hb := fun V => beyond_c a.p n V hn
  have Hv := fun V => recBetween_c 0 a.v (vars - 1) V
  obtain ⟨A, hA⟩ : ∃ x, ([a.p.x, a.p.y, a.p.z].any fun x => !bw (-3) x 3) = x := ⟨_, rfl⟩
  obtain ⟨B, hB0⟩ : ∃ x, beyB a.p n = x := ⟨_, rfl⟩
  obtain ⟨C, hC⟩ : ∃ x, bw 0 a.v (vars - 1) = x := ⟨_, rfl⟩
  have H2 := H.out
  simp only [hA] at H2 ⊢
  rw [hB0] at Hb ⊢
  rw [hC] at Hv ⊢
  replace H2 := Lib.hid H2; replace Hb := Lib.hid Hb; replace Hv := Lib.hid Hv
  clear H hA hB0 hC
  go_enter Try.func144, Try.ntmps144
  go_upto_region 1 with (fail)
  refine wp_world fun W HW => ?_
  have hB : Below w.heap.size w W := by rw [HW.out]; (repeat (first | exact Below.refl _ _ | refine Below.alloc ?_ (by simp; try omega) _ | refine Below.setCell ?_ (by simp) _ | refine Below.drew ?_))
  have b0 : W.cell? ⟨w.heap.size, 0, none⟩ = some (.int .i64 a.v) := by rw [HW.out]; simp [go_sem]
  have b1 : W.cell? ⟨w.heap.size, 1, none⟩ = some (.int .i64 a.p.x) := by rw [HW.out]; simp [go_sem]
  have b2 : W.cell? ⟨w.heap.size, 2, none⟩ = some (.int .i64 a.p.y) := by rw [HW.out]; simp [go_sem]
  have b3 : W.cell? ⟨w.heap.size, 3, none⟩ = some (.int .i64 a.p.z) := by rw [HW.out]; simp [go_sem]
  have bl : w.heap.size < W.heap.size := World.block_lt_of_cell? W _ b0
  try replace gn0 := up_of hB gn0
  try replace gv0 := up_of hB gv0
  cases A <;> cases B <;> cases C
  all_goals
    go_wp2_with (first | (go_at_call 111; refine (H2.out _ _ bl b1 b2 b3).mono ?_; rintro e W1 ⟨rfl, hb⟩; (try replace gn0 := up_of hb gn0); (try replace gv0 := up_of hb gv0); (try replace hB := up_of hb hB); (try replace b0 := up_of hb b0); (try replace b1 := up_of hb b1); (try replace b2 := up_of hb b2); (try replace b3 := up_of hb b3); (try replace bl := up_of hb bl)) | (go_at_call 146; refine (Hb.out _).mono ?_; rintro e W1 ⟨rfl, hb⟩; (try replace gn0 := up_of hb gn0); (try replace gv0 := up_of hb gv0); (try replace hB := up_of hb hB); (try replace b0 := up_of hb b0); (try replace b1 := up_of hb b1); (try replace b2 := up_of hb b2); (try replace b3 := up_of hb b3); (try replace bl := up_of hb bl)) | (go_at_call 114; refine (Hv.out _).mono ?_; rintro e w' ⟨rfl, rfl⟩))
    go_ret
    exact ⟨rfl, hB⟩
end Go.Proofs.Ytbpdgoedglkefaa
