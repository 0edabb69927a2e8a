/- The walk of PolyTurns. -/
import Derived.Test.YtfebkccdcbkdiaaPoly36
import Derived.Test.YtfebkccdcbkdiaaTurnLaw
namespace Go.Proofs.Ytfebkccdcbkdiaa
open Go.RowKit

theorem TurnPoint_v (n : Int) (a p : Pt) (w : World) (hn : 0 ≤ n ∧ n ≤ 3) (hp : ∀ i : Nat, (i : Int) < n → 0 ≤ p.get i ∧ p.get i < 3) {q : Pt} (hq : turnP n p a = q) :
    Calls Try.prog 34 #[.agg #[.int .i64 a.x, .int .i64 a.y, .int .i64 a.z], .agg #[.int .i64 p.x, .int .i64 p.y, .int .i64 p.z], .int .i64 n] w fun e w' => e = .returned (.agg #[.int .i64 q.x, .int .i64 q.y, .int .i64 q.z]) ∧ Below w.heap.size w w' := by
  subst hq; exact TurnPoint_c n a p w hn hp
theorem Flat_v (p : Pt) (n m : Int) (w : World) (h0 : 0 ≤ m) (h1 : m ≤ 1000000000) {v : Bool} (hv : flatB p n m = v) :
    Calls Try.prog 33 #[.agg #[.int .i64 p.x, .int .i64 p.y, .int .i64 p.z], .int .i64 n, .int .i64 m] w fun e w' => e = .returned (.bool v) ∧ Below w.heap.size w w' := hv ▸ Flat_c p n m w h0 h1
theorem back_step {p : Pt} {k : Nat} (hk : k < 3) : turnTo p ⟨0, 1, 2⟩ (k + 1) = setP (turnTo p ⟨0, 1, 2⟩ k) (p.get k).toNat k := by
  have h : k = 0 ∨ k = 1 ∨ k = 2 := by omega
  rcases h with rfl | rfl | rfl <;> rfl
theorem wf_turn {n : Int} {p : Pt} {l : List Iq} (h : ∀ q ∈ l, -9223372036854775808 ≤ q.b ∧ q.b ≤ 9223372036854775807) : ∀ q ∈ turnL n p l, -9223372036854775808 ≤ q.b ∧ q.b ≤ 9223372036854775807 := fun q hq => by
  obtain ⟨x, hx, rfl⟩ := List.mem_map.1 hq
  exact h x hx
set_option maxRecDepth 100000 in
set_option maxHeartbeats 4000000 in
theorem PolyTurns_w (n : Int) (s : Option Addr) (cs : Nat) (l : List Iq) (o p : Pt) (w : World) (h : Dom w s l) (hc : s = none → cs = 0) :
    Calls Try.prog 7 #[.agg #[.int .i64 n, .slice s l.length cs], .agg #[.int .i64 o.x, .int .i64 o.y, .int .i64 o.z], .agg #[.int .i64 p.x, .int .i64 p.y, .int .i64 p.z]] w fun e w' => e = .returned (.bool true) ∧ Below w.heap.size w w' := by
  have hlen := h.len
  replace hc := Lib.hid hc
  cases h1 : decide ((40 : Int) < (l.length : Int))
  case true =>
    go_enter Try.func7, Try.ntmps7
    go_upto_region 1 with (fail)
    refine wp_world fun W HW => ?_
    have hB : Below w.heap.size w W := by rw [HW.out]; (repeat (first | exact Below.refl _ _ | refine Below.alloc ?_ (by simp; try omega) _ | refine Below.setCell ?_ (by simp) _ | refine Below.drew ?_))
    have d0 : W.cell? ⟨w.heap.size, 0, none⟩ = some (.int .i64 n) := by rw [HW.out]; simp [go_sem]
    have d1 : W.cell? ⟨w.heap.size, 1, none⟩ = some (.slice s l.length cs) := by rw [HW.out]; simp [go_sem]
    have dl : w.heap.size < W.heap.size := World.block_lt_of_cell? W _ d0
    have o0 : W.cell? ⟨w.heap.size + 1, 0, none⟩ = some (.int .i64 o.x) := by rw [HW.out]; simp [go_sem]
    have o1 : W.cell? ⟨w.heap.size + 1, 1, none⟩ = some (.int .i64 o.y) := by rw [HW.out]; simp [go_sem]
    have o2 : W.cell? ⟨w.heap.size + 1, 2, none⟩ = some (.int .i64 o.z) := by rw [HW.out]; simp [go_sem]
    have ol : w.heap.size + 1 < W.heap.size := World.block_lt_of_cell? W _ o0
    have p0 : W.cell? ⟨w.heap.size + 2, 0, none⟩ = some (.int .i64 p.x) := by rw [HW.out]; simp [go_sem]
    have p1 : W.cell? ⟨w.heap.size + 2, 1, none⟩ = some (.int .i64 p.y) := by rw [HW.out]; simp [go_sem]
    have p2 : W.cell? ⟨w.heap.size + 2, 2, none⟩ = some (.int .i64 p.z) := by rw [HW.out]; simp [go_sem]
    have pl : w.heap.size + 2 < W.heap.size := World.block_lt_of_cell? W _ p0
    try replace h := up_of hB h
    go_wp2_with (first | (go_at_call 13; refine (wide_c _ _ _ _ _ hlen).mono ?_; rintro e W1 ⟨rfl, hb⟩; (try replace h := up_of hb h); (try replace hB := up_of hb hB); (try replace d0 := up_of hb d0); (try replace d1 := up_of hb d1); (try replace dl := up_of hb dl); (try replace o0 := up_of hb o0); (try replace o1 := up_of hb o1); (try replace o2 := up_of hb o2); (try replace ol := up_of hb ol); (try replace p0 := up_of hb p0); (try replace p1 := up_of hb p1); (try replace p2 := up_of hb p2); (try replace pl := up_of hb pl)) | (go_at_call 14; refine (awake_c _).mono ?_; rintro e W1 ⟨rfl, hb⟩; (try replace h := up_of hb h); (try replace hB := up_of hb hB); (try replace d0 := up_of hb d0); (try replace d1 := up_of hb d1); (try replace dl := up_of hb dl); (try replace o0 := up_of hb o0); (try replace o1 := up_of hb o1); (try replace o2 := up_of hb o2); (try replace ol := up_of hb ol); (try replace p0 := up_of hb p0); (try replace p1 := up_of hb p1); (try replace p2 := up_of hb p2); (try replace pl := up_of hb pl)))
    go_ret
    exact ⟨rfl, hB⟩
  by_cases h3 : turnE n l o = 0
  case neg =>
    have hN : turnN n l o = 0 := by simp [turnN, h3]
    have b3 := fun W (h : Dom W s l) => Turned_c n s cs l o W h hc.out
    rw [hN] at b3
    obtain ⟨er, her⟩ : ∃ er, turnE n l o = er := ⟨_, rfl⟩
    obtain ⟨L, hL⟩ : ∃ L, turnR n l o = L := ⟨_, rfl⟩
    rw [her] at h3 b3
    rw [hL] at b3
    have h3' : (er != 0) = true := by simpa using h3
    replace b3 := Lib.hid b3
    clear h3 her hL hN
    go_enter Try.func7, Try.ntmps7
    go_upto_region 1 with (fail)
    refine wp_world fun W HW => ?_
    have hB : Below w.heap.size w W := by rw [HW.out]; (repeat (first | exact Below.refl _ _ | refine Below.alloc ?_ (by simp; try omega) _ | refine Below.setCell ?_ (by simp) _ | refine Below.drew ?_))
    have d0 : W.cell? ⟨w.heap.size, 0, none⟩ = some (.int .i64 n) := by rw [HW.out]; simp [go_sem]
    have d1 : W.cell? ⟨w.heap.size, 1, none⟩ = some (.slice s l.length cs) := by rw [HW.out]; simp [go_sem]
    have dl : w.heap.size < W.heap.size := World.block_lt_of_cell? W _ d0
    have o0 : W.cell? ⟨w.heap.size + 1, 0, none⟩ = some (.int .i64 o.x) := by rw [HW.out]; simp [go_sem]
    have o1 : W.cell? ⟨w.heap.size + 1, 1, none⟩ = some (.int .i64 o.y) := by rw [HW.out]; simp [go_sem]
    have o2 : W.cell? ⟨w.heap.size + 1, 2, none⟩ = some (.int .i64 o.z) := by rw [HW.out]; simp [go_sem]
    have ol : w.heap.size + 1 < W.heap.size := World.block_lt_of_cell? W _ o0
    have p0 : W.cell? ⟨w.heap.size + 2, 0, none⟩ = some (.int .i64 p.x) := by rw [HW.out]; simp [go_sem]
    have p1 : W.cell? ⟨w.heap.size + 2, 1, none⟩ = some (.int .i64 p.y) := by rw [HW.out]; simp [go_sem]
    have p2 : W.cell? ⟨w.heap.size + 2, 2, none⟩ = some (.int .i64 p.z) := by rw [HW.out]; simp [go_sem]
    have pl : w.heap.size + 2 < W.heap.size := World.block_lt_of_cell? W _ p0
    try replace h := up_of hB h
    go_upto_region 4 with (first | (go_at_call 13; refine (wide_c _ _ _ _ _ hlen).mono ?_; rintro e W1 ⟨rfl, hb⟩; (try replace h := up_of hb h); (try replace hB := up_of hb hB); (try replace d0 := up_of hb d0); (try replace d1 := up_of hb d1); (try replace dl := up_of hb dl); (try replace o0 := up_of hb o0); (try replace o1 := up_of hb o1); (try replace o2 := up_of hb o2); (try replace ol := up_of hb ol); (try replace p0 := up_of hb p0); (try replace p1 := up_of hb p1); (try replace p2 := up_of hb p2); (try replace pl := up_of hb pl)) | (go_at_call 31; refine (b3.out _ h).mono ?_; rintro e A1 ⟨⟨s3, c3, rfl, hown⟩, hb⟩; (try replace h := up_of hb h); (try replace hB := up_of hb hB); (try replace d0 := up_of hb d0); (try replace d1 := up_of hb d1); (try replace dl := up_of hb dl); (try replace o0 := up_of hb o0); (try replace o1 := up_of hb o1); (try replace o2 := up_of hb o2); (try replace ol := up_of hb ol); (try replace p0 := up_of hb p0); (try replace p1 := up_of hb p1); (try replace p2 := up_of hb p2); (try replace pl := up_of hb pl)))
    refine wp_world fun X HX => ?_
    have hX : Below A1.heap.size A1 X := by rw [HX.out]; (repeat (first | exact Below.refl _ _ | refine Below.alloc ?_ (by simp; try omega) _ | refine Below.setCell ?_ (by simp) _ | refine Below.drew ?_))
    have b0 : X.cell? ⟨A1.heap.size, 0, none⟩ = some (.int .i64 0) := by rw [HX.out]; simp [go_sem]
    have b1 : X.cell? ⟨A1.heap.size, 1, none⟩ = some (.slice s3 L.length c3) := by rw [HX.out]; simp [go_sem]
    have bl : A1.heap.size < X.heap.size := World.block_lt_of_cell? X _ b0
    try replace h := up_of hX h
    try replace hB := up_of hX hB
    try replace d0 := up_of hX d0
    try replace d1 := up_of hX d1
    try replace dl := up_of hX dl
    try replace o0 := up_of hX o0
    try replace o1 := up_of hX o1
    try replace o2 := up_of hX o2
    try replace ol := up_of hX ol
    try replace p0 := up_of hX p0
    try replace p1 := up_of hX p1
    try replace p2 := up_of hX p2
    try replace pl := up_of hX pl
    go_wp2_with (first | (go_at_call 14; refine (awake_c _).mono ?_; rintro e W1 ⟨rfl, hb⟩; (try replace h := up_of hb h); (try replace hB := up_of hb hB); (try replace d0 := up_of hb d0); (try replace d1 := up_of hb d1); (try replace dl := up_of hb dl); (try replace o0 := up_of hb o0); (try replace o1 := up_of hb o1); (try replace o2 := up_of hb o2); (try replace ol := up_of hb ol); (try replace p0 := up_of hb p0); (try replace p1 := up_of hb p1); (try replace p2 := up_of hb p2); (try replace pl := up_of hb pl); (try replace hX := up_of hb hX); (try replace b0 := up_of hb b0); (try replace b1 := up_of hb b1); (try replace bl := up_of hb bl)))
    go_ret
    exact ⟨rfl, hB⟩
  have hv : validB n l = true := by cases hv : validB n l; (simp [turnE, hv] at h3); rfl
  have ho : isOrd n o = true := by cases ho : isOrd n o; (simp [turnE, hv, ho] at h3); rfl
  have hn : 1 ≤ n ∧ n ≤ 3 := by simp only [validB, Bool.and_eq_true, bw_iff] at hv; exact hv.1
  obtain ⟨N, rfl⟩ : ∃ N : Nat, n = N := ⟨n.toNat, by omega⟩
  have hN : 1 ≤ N ∧ N ≤ 3 := by omega
  have hbk := back_ord hn ho
  have hv2 := turn_valid ho hv
  have e1 : turnN N l o = N := by simp [turnN, h3]
  have e2 : turnR N l o = turnL N o l := by simp [turnR, h3]
  have e3 : turnE N (turnL N o l) (backP N o) = 0 := by simp [turnE, hv2, hbk]
  have e4 : turnN N (turnL N o l) (backP N o) = N := by simp [turnN, e3]
  have e5 : turnR N (turnL N o l) (backP N o) = l := by simp [turnR, e3, turn_again ho hv]
  have hcnt := turn_count ho hv
  have hcb := pts_len (N : Int) l
  have b1 := fun W (h : Dom W s l) => Turned_c N s cs l o W h hc.out
  rw [h3, e1, e2] at b1
  have b2 := fun s2 cs2 W (h : Dom W s2 (turnL N o l)) hc => Turned_c N s2 cs2 (turnL N o l) (backP N o) W h hc
  rw [e3, e4, e5] at b2
  have hwf := wf_turn (n := (N : Int)) (p := o) h.wf
  have hlt2 : (turnL N o l).length ≤ 9223372036854775807 := by rw [turn_len]; exact hlen
  have hhas : flatB p N 1000 = true → hasB N (turnL N o l) (turnP N o p) = hasB N l p := fun hf => turn_has ho hv hf
  have hog : ∀ i : Nat, (i : Int) < N → 0 ≤ o.get i ∧ o.get i < 3 := fun i hi => by have := ord_get hn ho hi; omega
  have hbP : backP N o = turnTo o ⟨0, 1, 2⟩ N := by simp [backP, turnP]
  rw [hbP] at b2
  clear e1 e2 e3 e4 e5 h3 hbk hbP
  obtain ⟨L, hL⟩ : ∃ L, turnL N o l = L := ⟨_, rfl⟩
  rw [hL] at b1 b2 hwf hlt2 hhas hcnt hv2
  clear hL
  obtain ⟨P1, hP1⟩ : ∃ P1, pts N l = P1 := ⟨_, rfl⟩
  obtain ⟨P2, hP2⟩ : ∃ P2, pts N L = P2 := ⟨_, rfl⟩
  rw [hP1, hP2] at hcnt
  rw [hP1] at hcb
  obtain ⟨C, hC1⟩ : ∃ C, P1.length = C := ⟨_, rfl⟩
  rw [hC1] at hcb
  have hC2 := hcnt.trans hC1
  replace hP1 := Lib.hid hP1; replace hP2 := Lib.hid hP2; replace b1 := Lib.hid b1; replace b2 := Lib.hid b2; replace hwf := Lib.hid hwf; replace hlt2 := Lib.hid hlt2
  replace hC1 := Lib.hid hC1; replace hC2 := Lib.hid hC2; replace hog := Lib.hid hog
  replace hv := Lib.hid hv; replace hv2 := Lib.hid hv2
  clear hcnt ho
  have cn1 := fun W (h : Dom W s l) => Count_v N s cs l W h hv.out P1 hP1.out
  have cn2 := fun s2 c2 W (h : Dom W s2 L) => Count_v N s2 c2 L W h hv2.out P2 hP2.out
  rw [hC1.out] at cn1
  rw [hC2.out] at cn2
  replace cn1 := Lib.hid cn1; replace cn2 := Lib.hid cn2
  obtain ⟨bp, hbp⟩ : ∃ x, turnTo o ⟨0, 1, 2⟩ N = x := ⟨_, rfl⟩
  rw [hbp] at b2
  replace hbp := Lib.hid hbp
  have hn3 : (0 : Int) ≤ (N : Int) ∧ (N : Int) ≤ 3 := by omega
  cases hf : flatB p N 1000
  case false =>
    clear hhas
    replace hf := Lib.hid hf
    go_enter Try.func7, Try.ntmps7
    go_upto_region 1 with (fail)
    refine wp_world fun W HW => ?_
    have hB : Below w.heap.size w W := by rw [HW.out]; (repeat (first | exact Below.refl _ _ | refine Below.alloc ?_ (by simp; try omega) _ | refine Below.setCell ?_ (by simp) _ | refine Below.drew ?_))
    have d0 : W.cell? ⟨w.heap.size, 0, none⟩ = some (.int .i64 N) := by rw [HW.out]; simp [go_sem]
    have d1 : W.cell? ⟨w.heap.size, 1, none⟩ = some (.slice s l.length cs) := by rw [HW.out]; simp [go_sem]
    have dl : w.heap.size < W.heap.size := World.block_lt_of_cell? W _ d0
    have oB : Row W (w.heap.size + 1) 26 #[.int .i64 o.x, .int .i64 o.y, .int .i64 o.z] := (by rw [HW.out]; (repeat (first | (refine blk_new ?_; simp; done) | refine blk_old ?_ _)) : W.heap[w.heap.size + 1]? = some (.cells #[.int .i64 o.x, .int .i64 o.y, .int .i64 o.z] 26 (0, 0)))
    have o0 : W.cell? ⟨w.heap.size + 1, 0, none⟩ = some (.int .i64 o.x) := by rw [HW.out]; simp [go_sem]
    have o1 : W.cell? ⟨w.heap.size + 1, 1, none⟩ = some (.int .i64 o.y) := by rw [HW.out]; simp [go_sem]
    have o2 : W.cell? ⟨w.heap.size + 1, 2, none⟩ = some (.int .i64 o.z) := by rw [HW.out]; simp [go_sem]
    have ol : w.heap.size + 1 < W.heap.size := World.block_lt_of_cell? W _ o0
    have p0 : W.cell? ⟨w.heap.size + 2, 0, none⟩ = some (.int .i64 p.x) := by rw [HW.out]; simp [go_sem]
    have p1 : W.cell? ⟨w.heap.size + 2, 1, none⟩ = some (.int .i64 p.y) := by rw [HW.out]; simp [go_sem]
    have p2 : W.cell? ⟨w.heap.size + 2, 2, none⟩ = some (.int .i64 p.z) := by rw [HW.out]; simp [go_sem]
    have pl : w.heap.size + 2 < W.heap.size := World.block_lt_of_cell? W _ p0
    try replace h := up_of hB h
    go_upto_region 4 with (first | (go_at_call 13; refine (wide_c _ _ _ _ _ hlen).mono ?_; rintro e W1 ⟨rfl, hb⟩; (try replace h := up_of hb h); (try replace hB := up_of hb hB); (try replace d0 := up_of hb d0); (try replace d1 := up_of hb d1); (try replace dl := up_of hb dl); (try replace oB := up_of hb oB); (try replace o0 := up_of hb o0); (try replace o1 := up_of hb o1); (try replace o2 := up_of hb o2); (try replace ol := up_of hb ol); (try replace p0 := up_of hb p0); (try replace p1 := up_of hb p1); (try replace p2 := up_of hb p2); (try replace pl := up_of hb pl)) | (go_at_call 31; refine (b1.out _ h).mono ?_; rintro e A1 ⟨⟨s3, c3, rfl, hown⟩, hb⟩; (try replace h := up_of hb h); (try replace hB := up_of hb hB); (try replace d0 := up_of hb d0); (try replace d1 := up_of hb d1); (try replace dl := up_of hb dl); (try replace oB := up_of hb oB); (try replace o0 := up_of hb o0); (try replace o1 := up_of hb o1); (try replace o2 := up_of hb o2); (try replace ol := up_of hb ol); (try replace p0 := up_of hb p0); (try replace p1 := up_of hb p1); (try replace p2 := up_of hb p2); (try replace pl := up_of hb pl)))
    have hd3 : Dom A1 s3 L := Dom.of_own hown hlt2.out hwf.out
    have hc3 := Lib.hid (owns_cap hown)
    refine wp_world fun X HX => ?_
    have hX : Below A1.heap.size A1 X := by rw [HX.out]; (repeat (first | exact Below.refl _ _ | refine Below.alloc ?_ (by simp; try omega) _ | refine Below.setCell ?_ (by simp) _ | refine Below.drew ?_))
    have t0 : X.cell? ⟨A1.heap.size, 0, none⟩ = some (.int .i64 N) := by rw [HX.out]; simp [go_sem]
    have t1 : X.cell? ⟨A1.heap.size, 1, none⟩ = some (.slice s3 L.length c3) := by rw [HX.out]; simp [go_sem]
    have tl : A1.heap.size < X.heap.size := World.block_lt_of_cell? X _ t0
    try replace h := up_of hX h
    try replace hB := up_of hX hB
    try replace d0 := up_of hX d0
    try replace d1 := up_of hX d1
    try replace dl := up_of hX dl
    try replace oB := up_of hX oB
    try replace o0 := up_of hX o0
    try replace o1 := up_of hX o1
    try replace o2 := up_of hX o2
    try replace ol := up_of hX ol
    try replace p0 := up_of hX p0
    try replace p1 := up_of hX p1
    try replace p2 := up_of hX p2
    try replace pl := up_of hX pl
    try replace hd3 := up_of hX hd3
    clear hown
    go_upto_region 7 with (fail)
    refine wp_world fun Y HY => ?_
    have hY : Below X.heap.size X Y := by
      rw [HY.out]
      repeat (first | (with_reducible exact Below.refl _ _) | (with_reducible refine Below.drew ?_) | ((with_reducible refine Below.setC ?_ ?_); (focus (first | omega | (simp; done) | (simp; omega)))) | ((with_reducible refine Below.allo ?_ ?_); (focus (first | omega | (simp; done) | (simp; omega)))))
    have uB : Row Y X.heap.size 26 #[.int .i64 0, .int .i64 0, .int .i64 0] := by
      rw [HY.out]
      refine Row.of ?_
      repeat (first | (with_reducible refine RowG.new ?_) | (with_reducible refine RowG.drew ?_) | (with_reducible refine RowG.set ?_) | ((with_reducible refine RowG.other ?_ ?_); (focus (first | omega | (simp; done) | (simp; omega)))) | ((with_reducible refine RowG.new' ?_ ?_); (focus (first | omega | (simp; done) | (simp; omega)))) | (with_reducible refine RowG.alloc ?_))
      rfl
    have dY := up_of hY d0
    go_wp2
    go_loopw [38] (fun i V => ∃ k : Nat, k ≤ N ∧ i = .int .i64 k ∧ Chg (fun j => j = X.heap.size) Y V ∧ Row V X.heap.size 26 (ptA (turnTo o ⟨0, 1, 2⟩ k))) (fun i _ => N - (intOf i).toNat)
    case atStart => exact ⟨0, by omega, rfl, Chg.refl _ _, uB⟩
    case round =>
      clear uB
      obtain ⟨k, hk, rfl, hC, rU⟩ := hrel
      have hXr := hC.below (n := X.heap.size) (fun j hj => by omega) hY.size hY
      try replace h := up_of hXr h
      try replace hB := up_of hXr hB
      try replace d0 := up_of hXr d0
      try replace d1 := up_of hXr d1
      try replace dl := up_of hXr dl
      try replace oB := up_of hXr oB
      try replace o0 := up_of hXr o0
      try replace o1 := up_of hXr o1
      try replace o2 := up_of hXr o2
      try replace ol := up_of hXr ol
      try replace p0 := up_of hXr p0
      try replace p1 := up_of hXr p1
      try replace p2 := up_of hXr p2
      try replace pl := up_of hXr pl
      try replace hd3 := up_of hXr hd3
      try replace hX := up_of hXr hX
      try replace t0 := up_of hXr t0
      try replace t1 := up_of hXr t1
      try replace tl := up_of hXr tl
      by_cases hlt : k < N
      · have hv := hog.out k (by omega)
        have ok := oB.cell (ptA_at o (k := k) (by omega))
        obtain ⟨v, hv2, hv3⟩ : ∃ v : Nat, o.get k = v ∧ v < 3 := ⟨(o.get k).toNat, by omega, by omega⟩
        rw [hv2] at ok
        have uk := rU.cell (ptA_at (turnTo o ⟨0, 1, 2⟩ k) hv3)
        have uf := rU.frozen v
        have hst := Lib.hid (back_step (p := o) (k := k) (by omega))
        replace hv2 := Lib.hid hv2
        go_wp2
        go_roundw
        case rel =>
          refine ⟨k + 1, by omega, rfl, ?_, ?_⟩
          · repeat (first | (with_reducible exact hC) | (with_reducible refine Chg.setCell ?_ (by simp) _) | (with_reducible refine Chg.drew ?_) | (with_reducible refine Chg.alloc ?_ _))
          · refine Row.of ?_
            repeat (first | (with_reducible refine RowG.base rU ?_) | (with_reducible refine RowG.drew ?_) | (with_reducible refine RowG.set ?_) | ((with_reducible refine RowG.other ?_ ?_); (focus (first | omega | (simp; done) | (simp; omega)))) | (with_reducible refine RowG.alloc ?_))
            (simp only [ptA_set hv3]; rw [hst.out, hv2.out, Int.toNat_natCast])
        case measure => exact meas hlt
      · obtain rfl : k = N := by omega
        rw [hbp.out] at rU
        obtain ⟨u0, u1, u2⟩ := rU.three
        go_upto_region 13 with (first | (go_at_call 31; refine (b2.out _ _ _ hd3 hc3.out).mono ?_; rintro e A2 ⟨⟨s4, c4, rfl, hown⟩, hb⟩; (try replace h := up_of hb h); (try replace d0 := up_of hb d0); (try replace d1 := up_of hb d1); (try replace o0 := up_of hb o0); (try replace o1 := up_of hb o1); (try replace o2 := up_of hb o2); (try replace p0 := up_of hb p0); (try replace p1 := up_of hb p1); (try replace p2 := up_of hb p2); (try replace dl := up_of hb dl); (try replace ol := up_of hb ol); (try replace pl := up_of hb pl); (try replace hB := up_of hb hB); (try replace hX := up_of hb hX); (try replace hd3 := up_of hb hd3); (try replace t0 := up_of hb t0); (try replace t1 := up_of hb t1); (try replace tl := up_of hb tl)))
        have hd4 := owns_iq hown
        refine wp_world fun Z HZ => ?_
        have hZ : Below A2.heap.size A2 Z := by rw [HZ.out]; (repeat (first | exact Below.refl _ _ | refine Below.alloc ?_ (by simp; try omega) _ | refine Below.setCell ?_ (by simp) _ | refine Below.drew ?_))
        have a0 : Z.cell? ⟨A2.heap.size, 0, none⟩ = some (.int .i64 k) := by rw [HZ.out]; simp [go_sem]
        have a1 : Z.cell? ⟨A2.heap.size, 1, none⟩ = some (.slice s4 l.length c4) := by rw [HZ.out]; simp [go_sem]
        have al : A2.heap.size < Z.heap.size := World.block_lt_of_cell? Z _ a0
        try replace h := up_of hZ h
        try replace d0 := up_of hZ d0
        try replace d1 := up_of hZ d1
        try replace o0 := up_of hZ o0
        try replace o1 := up_of hZ o1
        try replace o2 := up_of hZ o2
        try replace p0 := up_of hZ p0
        try replace p1 := up_of hZ p1
        try replace p2 := up_of hZ p2
        try replace dl := up_of hZ dl
        try replace ol := up_of hZ ol
        try replace pl := up_of hZ pl
        try replace hB := up_of hZ hB
        try replace hX := up_of hZ hX
        try replace hd3 := up_of hZ hd3
        try replace t0 := up_of hZ t0
        try replace t1 := up_of hZ t1
        try replace tl := up_of hZ tl
        try replace hd4 := up_of hZ hd4
        clear hown
        go_upto_region 14 with (first | (go_at_call 21; refine (cn1.out _ h).mono ?_; rintro e W1 ⟨rfl, hb⟩; (try replace h := up_of hb h); (try replace d0 := up_of hb d0); (try replace d1 := up_of hb d1); (try replace o0 := up_of hb o0); (try replace o1 := up_of hb o1); (try replace o2 := up_of hb o2); (try replace p0 := up_of hb p0); (try replace p1 := up_of hb p1); (try replace p2 := up_of hb p2); (try replace dl := up_of hb dl); (try replace ol := up_of hb ol); (try replace pl := up_of hb pl); (try replace hB := up_of hb hB); (try replace hX := up_of hb hX); (try replace hd3 := up_of hb hd3); (try replace t0 := up_of hb t0); (try replace t1 := up_of hb t1); (try replace tl := up_of hb tl); (try replace hd4 := up_of hb hd4); (try replace hZ := up_of hb hZ); (try replace a0 := up_of hb a0); (try replace a1 := up_of hb a1); (try replace al := up_of hb al)))
        go_upto_region 15 with (first | (go_at_call 21; refine (cn2.out _ _ _ hd3).mono ?_; rintro e W1 ⟨rfl, hb⟩; (try replace h := up_of hb h); (try replace d0 := up_of hb d0); (try replace d1 := up_of hb d1); (try replace o0 := up_of hb o0); (try replace o1 := up_of hb o1); (try replace o2 := up_of hb o2); (try replace p0 := up_of hb p0); (try replace p1 := up_of hb p1); (try replace p2 := up_of hb p2); (try replace dl := up_of hb dl); (try replace ol := up_of hb ol); (try replace pl := up_of hb pl); (try replace hB := up_of hb hB); (try replace hX := up_of hb hX); (try replace hd3 := up_of hb hd3); (try replace t0 := up_of hb t0); (try replace t1 := up_of hb t1); (try replace tl := up_of hb tl); (try replace hd4 := up_of hb hd4); (try replace hZ := up_of hb hZ); (try replace a0 := up_of hb a0); (try replace a1 := up_of hb a1); (try replace al := up_of hb al)))
        go_wp2_with (first | (go_at_call 32; refine (Same_eq _ _ _ _ _ _ _ hd4 h.iq hlen).mono ?_; rintro e W1 ⟨rfl, hb⟩; (try replace h := up_of hb h); (try replace d0 := up_of hb d0); (try replace d1 := up_of hb d1); (try replace o0 := up_of hb o0); (try replace o1 := up_of hb o1); (try replace o2 := up_of hb o2); (try replace p0 := up_of hb p0); (try replace p1 := up_of hb p1); (try replace p2 := up_of hb p2); (try replace dl := up_of hb dl); (try replace ol := up_of hb ol); (try replace pl := up_of hb pl); (try replace hB := up_of hb hB); (try replace hX := up_of hb hX); (try replace hd3 := up_of hb hd3); (try replace t0 := up_of hb t0); (try replace t1 := up_of hb t1); (try replace tl := up_of hb tl); (try replace hd4 := up_of hb hd4); (try replace hZ := up_of hb hZ); (try replace a0 := up_of hb a0); (try replace a1 := up_of hb a1); (try replace al := up_of hb al)) | (go_at_call 33; refine (Flat_v p k 1000 _ (by omega) (by omega) hf.out).mono ?_; rintro e W1 ⟨rfl, hb⟩; (try replace h := up_of hb h); (try replace d0 := up_of hb d0); (try replace d1 := up_of hb d1); (try replace o0 := up_of hb o0); (try replace o1 := up_of hb o1); (try replace o2 := up_of hb o2); (try replace p0 := up_of hb p0); (try replace p1 := up_of hb p1); (try replace p2 := up_of hb p2); (try replace dl := up_of hb dl); (try replace ol := up_of hb ol); (try replace pl := up_of hb pl); (try replace hB := up_of hb hB); (try replace hX := up_of hb hX); (try replace hd3 := up_of hb hd3); (try replace t0 := up_of hb t0); (try replace t1 := up_of hb t1); (try replace tl := up_of hb tl); (try replace hd4 := up_of hb hd4); (try replace hZ := up_of hb hZ); (try replace a0 := up_of hb a0); (try replace a1 := up_of hb a1); (try replace al := up_of hb al)) | (go_at_call 14; refine (awake_c _).mono ?_; rintro e W1 ⟨rfl, hb⟩; (try replace h := up_of hb h); (try replace d0 := up_of hb d0); (try replace d1 := up_of hb d1); (try replace o0 := up_of hb o0); (try replace o1 := up_of hb o1); (try replace o2 := up_of hb o2); (try replace p0 := up_of hb p0); (try replace p1 := up_of hb p1); (try replace p2 := up_of hb p2); (try replace dl := up_of hb dl); (try replace ol := up_of hb ol); (try replace pl := up_of hb pl); (try replace hB := up_of hb hB); (try replace hX := up_of hb hX); (try replace hd3 := up_of hb hd3); (try replace t0 := up_of hb t0); (try replace t1 := up_of hb t1); (try replace tl := up_of hb tl); (try replace hd4 := up_of hb hd4); (try replace hZ := up_of hb hZ); (try replace a0 := up_of hb a0); (try replace a1 := up_of hb a1); (try replace al := up_of hb al)))
        go_ret
        exact ⟨rfl, hB⟩
  case true =>
    have hz := hhas hf
    clear hhas
    replace hf := Lib.hid hf
    obtain ⟨q, hq⟩ : ∃ q, turnP N o p = q := ⟨_, rfl⟩
    rw [hq] at hz
    replace hq := Lib.hid hq
    obtain ⟨b, hx⟩ : ∃ b, hasB N l p = b := ⟨_, rfl⟩
    rw [hx] at hz
    replace hx := Lib.hid hx; replace hz := Lib.hid hz
    cases b
    all_goals
      go_enter Try.func7, Try.ntmps7
      go_upto_region 1 with (fail)
      refine wp_world fun W HW => ?_
      have hB : Below w.heap.size w W := by rw [HW.out]; (repeat (first | exact Below.refl _ _ | refine Below.alloc ?_ (by simp; try omega) _ | refine Below.setCell ?_ (by simp) _ | refine Below.drew ?_))
      have d0 : W.cell? ⟨w.heap.size, 0, none⟩ = some (.int .i64 N) := by rw [HW.out]; simp [go_sem]
      have d1 : W.cell? ⟨w.heap.size, 1, none⟩ = some (.slice s l.length cs) := by rw [HW.out]; simp [go_sem]
      have dl : w.heap.size < W.heap.size := World.block_lt_of_cell? W _ d0
      have oB : Row W (w.heap.size + 1) 26 #[.int .i64 o.x, .int .i64 o.y, .int .i64 o.z] := (by rw [HW.out]; (repeat (first | (refine blk_new ?_; simp; done) | refine blk_old ?_ _)) : W.heap[w.heap.size + 1]? = some (.cells #[.int .i64 o.x, .int .i64 o.y, .int .i64 o.z] 26 (0, 0)))
      have o0 : W.cell? ⟨w.heap.size + 1, 0, none⟩ = some (.int .i64 o.x) := by rw [HW.out]; simp [go_sem]
      have o1 : W.cell? ⟨w.heap.size + 1, 1, none⟩ = some (.int .i64 o.y) := by rw [HW.out]; simp [go_sem]
      have o2 : W.cell? ⟨w.heap.size + 1, 2, none⟩ = some (.int .i64 o.z) := by rw [HW.out]; simp [go_sem]
      have ol : w.heap.size + 1 < W.heap.size := World.block_lt_of_cell? W _ o0
      have p0 : W.cell? ⟨w.heap.size + 2, 0, none⟩ = some (.int .i64 p.x) := by rw [HW.out]; simp [go_sem]
      have p1 : W.cell? ⟨w.heap.size + 2, 1, none⟩ = some (.int .i64 p.y) := by rw [HW.out]; simp [go_sem]
      have p2 : W.cell? ⟨w.heap.size + 2, 2, none⟩ = some (.int .i64 p.z) := by rw [HW.out]; simp [go_sem]
      have pl : w.heap.size + 2 < W.heap.size := World.block_lt_of_cell? W _ p0
      try replace h := up_of hB h
      go_upto_region 4 with (first | (go_at_call 13; refine (wide_c _ _ _ _ _ hlen).mono ?_; rintro e W1 ⟨rfl, hb⟩; (try replace h := up_of hb h); (try replace hB := up_of hb hB); (try replace d0 := up_of hb d0); (try replace d1 := up_of hb d1); (try replace dl := up_of hb dl); (try replace oB := up_of hb oB); (try replace o0 := up_of hb o0); (try replace o1 := up_of hb o1); (try replace o2 := up_of hb o2); (try replace ol := up_of hb ol); (try replace p0 := up_of hb p0); (try replace p1 := up_of hb p1); (try replace p2 := up_of hb p2); (try replace pl := up_of hb pl)) | (go_at_call 31; refine (b1.out _ h).mono ?_; rintro e A1 ⟨⟨s3, c3, rfl, hown⟩, hb⟩; (try replace h := up_of hb h); (try replace hB := up_of hb hB); (try replace d0 := up_of hb d0); (try replace d1 := up_of hb d1); (try replace dl := up_of hb dl); (try replace oB := up_of hb oB); (try replace o0 := up_of hb o0); (try replace o1 := up_of hb o1); (try replace o2 := up_of hb o2); (try replace ol := up_of hb ol); (try replace p0 := up_of hb p0); (try replace p1 := up_of hb p1); (try replace p2 := up_of hb p2); (try replace pl := up_of hb pl)))
      have hd3 : Dom A1 s3 L := Dom.of_own hown hlt2.out hwf.out
      have hc3 := Lib.hid (owns_cap hown)
      refine wp_world fun X HX => ?_
      have hX : Below A1.heap.size A1 X := by rw [HX.out]; (repeat (first | exact Below.refl _ _ | refine Below.alloc ?_ (by simp; try omega) _ | refine Below.setCell ?_ (by simp) _ | refine Below.drew ?_))
      have t0 : X.cell? ⟨A1.heap.size, 0, none⟩ = some (.int .i64 N) := by rw [HX.out]; simp [go_sem]
      have t1 : X.cell? ⟨A1.heap.size, 1, none⟩ = some (.slice s3 L.length c3) := by rw [HX.out]; simp [go_sem]
      have tl : A1.heap.size < X.heap.size := World.block_lt_of_cell? X _ t0
      try replace h := up_of hX h
      try replace hB := up_of hX hB
      try replace d0 := up_of hX d0
      try replace d1 := up_of hX d1
      try replace dl := up_of hX dl
      try replace oB := up_of hX oB
      try replace o0 := up_of hX o0
      try replace o1 := up_of hX o1
      try replace o2 := up_of hX o2
      try replace ol := up_of hX ol
      try replace p0 := up_of hX p0
      try replace p1 := up_of hX p1
      try replace p2 := up_of hX p2
      try replace pl := up_of hX pl
      try replace hd3 := up_of hX hd3
      clear hown
      go_upto_region 7 with (fail)
      refine wp_world fun Y HY => ?_
      have hY : Below X.heap.size X Y := by
        rw [HY.out]
        repeat (first | (with_reducible exact Below.refl _ _) | (with_reducible refine Below.drew ?_) | ((with_reducible refine Below.setC ?_ ?_); (focus (first | omega | (simp; done) | (simp; omega)))) | ((with_reducible refine Below.allo ?_ ?_); (focus (first | omega | (simp; done) | (simp; omega)))))
      have uB : Row Y X.heap.size 26 #[.int .i64 0, .int .i64 0, .int .i64 0] := by
        rw [HY.out]
        refine Row.of ?_
        repeat (first | (with_reducible refine RowG.new ?_) | (with_reducible refine RowG.drew ?_) | (with_reducible refine RowG.set ?_) | ((with_reducible refine RowG.other ?_ ?_); (focus (first | omega | (simp; done) | (simp; omega)))) | ((with_reducible refine RowG.new' ?_ ?_); (focus (first | omega | (simp; done) | (simp; omega)))) | (with_reducible refine RowG.alloc ?_))
        rfl
      have dY := up_of hY d0
      go_wp2
      go_loopw [38] (fun i V => ∃ k : Nat, k ≤ N ∧ i = .int .i64 k ∧ Chg (fun j => j = X.heap.size) Y V ∧ Row V X.heap.size 26 (ptA (turnTo o ⟨0, 1, 2⟩ k))) (fun i _ => N - (intOf i).toNat)
      case atStart => exact ⟨0, by omega, rfl, Chg.refl _ _, uB⟩
      case round =>
        clear uB
        obtain ⟨k, hk, rfl, hC, rU⟩ := hrel
        have hXr := hC.below (n := X.heap.size) (fun j hj => by omega) hY.size hY
        try replace h := up_of hXr h
        try replace hB := up_of hXr hB
        try replace d0 := up_of hXr d0
        try replace d1 := up_of hXr d1
        try replace dl := up_of hXr dl
        try replace oB := up_of hXr oB
        try replace o0 := up_of hXr o0
        try replace o1 := up_of hXr o1
        try replace o2 := up_of hXr o2
        try replace ol := up_of hXr ol
        try replace p0 := up_of hXr p0
        try replace p1 := up_of hXr p1
        try replace p2 := up_of hXr p2
        try replace pl := up_of hXr pl
        try replace hd3 := up_of hXr hd3
        try replace hX := up_of hXr hX
        try replace t0 := up_of hXr t0
        try replace t1 := up_of hXr t1
        try replace tl := up_of hXr tl
        by_cases hlt : k < N
        · have hv := hog.out k (by omega)
          have ok := oB.cell (ptA_at o (k := k) (by omega))
          obtain ⟨v, hv2, hv3⟩ : ∃ v : Nat, o.get k = v ∧ v < 3 := ⟨(o.get k).toNat, by omega, by omega⟩
          rw [hv2] at ok
          have uk := rU.cell (ptA_at (turnTo o ⟨0, 1, 2⟩ k) hv3)
          have uf := rU.frozen v
          have hst := Lib.hid (back_step (p := o) (k := k) (by omega))
          replace hv2 := Lib.hid hv2
          go_wp2
          go_roundw
          case rel =>
            refine ⟨k + 1, by omega, rfl, ?_, ?_⟩
            · repeat (first | (with_reducible exact hC) | (with_reducible refine Chg.setCell ?_ (by simp) _) | (with_reducible refine Chg.drew ?_) | (with_reducible refine Chg.alloc ?_ _))
            · refine Row.of ?_
              repeat (first | (with_reducible refine RowG.base rU ?_) | (with_reducible refine RowG.drew ?_) | (with_reducible refine RowG.set ?_) | ((with_reducible refine RowG.other ?_ ?_); (focus (first | omega | (simp; done) | (simp; omega)))) | (with_reducible refine RowG.alloc ?_))
              (simp only [ptA_set hv3]; rw [hst.out, hv2.out, Int.toNat_natCast])
          case measure => exact meas hlt
        · obtain rfl : k = N := by omega
          rw [hbp.out] at rU
          obtain ⟨u0, u1, u2⟩ := rU.three
          go_upto_region 13 with (first | (go_at_call 31; refine (b2.out _ _ _ hd3 hc3.out).mono ?_; rintro e A2 ⟨⟨s4, c4, rfl, hown⟩, hb⟩; (try replace h := up_of hb h); (try replace d0 := up_of hb d0); (try replace d1 := up_of hb d1); (try replace o0 := up_of hb o0); (try replace o1 := up_of hb o1); (try replace o2 := up_of hb o2); (try replace p0 := up_of hb p0); (try replace p1 := up_of hb p1); (try replace p2 := up_of hb p2); (try replace dl := up_of hb dl); (try replace ol := up_of hb ol); (try replace pl := up_of hb pl); (try replace hB := up_of hb hB); (try replace hX := up_of hb hX); (try replace hd3 := up_of hb hd3); (try replace t0 := up_of hb t0); (try replace t1 := up_of hb t1); (try replace tl := up_of hb tl)))
          have hd4 := owns_iq hown
          refine wp_world fun Z HZ => ?_
          have hZ : Below A2.heap.size A2 Z := by rw [HZ.out]; (repeat (first | exact Below.refl _ _ | refine Below.alloc ?_ (by simp; try omega) _ | refine Below.setCell ?_ (by simp) _ | refine Below.drew ?_))
          have a0 : Z.cell? ⟨A2.heap.size, 0, none⟩ = some (.int .i64 k) := by rw [HZ.out]; simp [go_sem]
          have a1 : Z.cell? ⟨A2.heap.size, 1, none⟩ = some (.slice s4 l.length c4) := by rw [HZ.out]; simp [go_sem]
          have al : A2.heap.size < Z.heap.size := World.block_lt_of_cell? Z _ a0
          try replace h := up_of hZ h
          try replace d0 := up_of hZ d0
          try replace d1 := up_of hZ d1
          try replace o0 := up_of hZ o0
          try replace o1 := up_of hZ o1
          try replace o2 := up_of hZ o2
          try replace p0 := up_of hZ p0
          try replace p1 := up_of hZ p1
          try replace p2 := up_of hZ p2
          try replace dl := up_of hZ dl
          try replace ol := up_of hZ ol
          try replace pl := up_of hZ pl
          try replace hB := up_of hZ hB
          try replace hX := up_of hZ hX
          try replace hd3 := up_of hZ hd3
          try replace t0 := up_of hZ t0
          try replace t1 := up_of hZ t1
          try replace tl := up_of hZ tl
          try replace hd4 := up_of hZ hd4
          clear hown
          go_upto_region 14 with (first | (go_at_call 21; refine (cn1.out _ h).mono ?_; rintro e W1 ⟨rfl, hb⟩; (try replace h := up_of hb h); (try replace d0 := up_of hb d0); (try replace d1 := up_of hb d1); (try replace o0 := up_of hb o0); (try replace o1 := up_of hb o1); (try replace o2 := up_of hb o2); (try replace p0 := up_of hb p0); (try replace p1 := up_of hb p1); (try replace p2 := up_of hb p2); (try replace dl := up_of hb dl); (try replace ol := up_of hb ol); (try replace pl := up_of hb pl); (try replace hB := up_of hb hB); (try replace hX := up_of hb hX); (try replace hd3 := up_of hb hd3); (try replace t0 := up_of hb t0); (try replace t1 := up_of hb t1); (try replace tl := up_of hb tl); (try replace hd4 := up_of hb hd4); (try replace hZ := up_of hb hZ); (try replace a0 := up_of hb a0); (try replace a1 := up_of hb a1); (try replace al := up_of hb al)))
          go_upto_region 15 with (first | (go_at_call 21; refine (cn2.out _ _ _ hd3).mono ?_; rintro e W1 ⟨rfl, hb⟩; (try replace h := up_of hb h); (try replace d0 := up_of hb d0); (try replace d1 := up_of hb d1); (try replace o0 := up_of hb o0); (try replace o1 := up_of hb o1); (try replace o2 := up_of hb o2); (try replace p0 := up_of hb p0); (try replace p1 := up_of hb p1); (try replace p2 := up_of hb p2); (try replace dl := up_of hb dl); (try replace ol := up_of hb ol); (try replace pl := up_of hb pl); (try replace hB := up_of hb hB); (try replace hX := up_of hb hX); (try replace hd3 := up_of hb hd3); (try replace t0 := up_of hb t0); (try replace t1 := up_of hb t1); (try replace tl := up_of hb tl); (try replace hd4 := up_of hb hd4); (try replace hZ := up_of hb hZ); (try replace a0 := up_of hb a0); (try replace a1 := up_of hb a1); (try replace al := up_of hb al)))
          go_upto_region 19 with (first | (go_at_call 32; refine (Same_eq _ _ _ _ _ _ _ hd4 h.iq hlen).mono ?_; rintro e W1 ⟨rfl, hb⟩; (try replace h := up_of hb h); (try replace d0 := up_of hb d0); (try replace d1 := up_of hb d1); (try replace o0 := up_of hb o0); (try replace o1 := up_of hb o1); (try replace o2 := up_of hb o2); (try replace p0 := up_of hb p0); (try replace p1 := up_of hb p1); (try replace p2 := up_of hb p2); (try replace dl := up_of hb dl); (try replace ol := up_of hb ol); (try replace pl := up_of hb pl); (try replace hB := up_of hb hB); (try replace hX := up_of hb hX); (try replace hd3 := up_of hb hd3); (try replace t0 := up_of hb t0); (try replace t1 := up_of hb t1); (try replace tl := up_of hb tl); (try replace hd4 := up_of hb hd4); (try replace hZ := up_of hb hZ); (try replace a0 := up_of hb a0); (try replace a1 := up_of hb a1); (try replace al := up_of hb al)) | (go_at_call 33; refine (Flat_v p k 1000 _ (by omega) (by omega) hf.out).mono ?_; rintro e W1 ⟨rfl, hb⟩; (try replace h := up_of hb h); (try replace d0 := up_of hb d0); (try replace d1 := up_of hb d1); (try replace o0 := up_of hb o0); (try replace o1 := up_of hb o1); (try replace o2 := up_of hb o2); (try replace p0 := up_of hb p0); (try replace p1 := up_of hb p1); (try replace p2 := up_of hb p2); (try replace dl := up_of hb dl); (try replace ol := up_of hb ol); (try replace pl := up_of hb pl); (try replace hB := up_of hb hB); (try replace hX := up_of hb hX); (try replace hd3 := up_of hb hd3); (try replace t0 := up_of hb t0); (try replace t1 := up_of hb t1); (try replace tl := up_of hb tl); (try replace hd4 := up_of hb hd4); (try replace hZ := up_of hb hZ); (try replace a0 := up_of hb a0); (try replace a1 := up_of hb a1); (try replace al := up_of hb al)))
          go_upto_region 20 with (first | (go_at_call 15; refine (Has_b k s cs l p _ h hv.out hx.out).mono ?_; rintro e W1 ⟨rfl, hb⟩; (try replace h := up_of hb h); (try replace d0 := up_of hb d0); (try replace d1 := up_of hb d1); (try replace o0 := up_of hb o0); (try replace o1 := up_of hb o1); (try replace o2 := up_of hb o2); (try replace p0 := up_of hb p0); (try replace p1 := up_of hb p1); (try replace p2 := up_of hb p2); (try replace dl := up_of hb dl); (try replace ol := up_of hb ol); (try replace pl := up_of hb pl); (try replace hB := up_of hb hB); (try replace hX := up_of hb hX); (try replace hd3 := up_of hb hd3); (try replace t0 := up_of hb t0); (try replace t1 := up_of hb t1); (try replace tl := up_of hb tl); (try replace hd4 := up_of hb hd4); (try replace hZ := up_of hb hZ); (try replace a0 := up_of hb a0); (try replace a1 := up_of hb a1); (try replace al := up_of hb al)))
          try have ld_d0 := World.block_lt_of_cell? _ _ d0
          try have ld_o0 := World.block_lt_of_cell? _ _ o0
          try have ld_p0 := World.block_lt_of_cell? _ _ p0
          try have ld_t0 := World.block_lt_of_cell? _ _ t0
          try have ld_a0 := World.block_lt_of_cell? _ _ a0
          refine region_q (by kernel_rfl) (by kernel_rfl) ?_
          dsimp only [List.toList_toArray]
          repeat (first
           | go_big_quiet_skip
           | (go_big_quiet_want
              first
              | (refine qq_det ?_
                 apply Exists.intro; refine ⟨fun W' hW' => ?_, ?_⟩
                 (· have hk := cellB hW'; go_simp; try (first | rfl | rw [if_pos (by omega)]))
                 simp only [Act.put, List.setIfInBounds_toArray, List.set_cons_zero, List.set_cons_succ]; go_big_quiet_on)
              | (refine qq_call ?_
                 apply Exists.intro; apply Exists.intro; refine ⟨fun W' hW' => ?_, ?_⟩
                 (· have hk := cellB hW'; go_simp; exact ⟨rfl, rfl⟩)
                 apply Exists.intro; refine ⟨fun W' hW' => ?_, ?_⟩
                 (· first | (go_at_call 34; exact qc hW' (TurnPoint_v k p o _ hn3 hog.out hq.out)) | (go_at_call 15; exact qc hW' (Has_b k s3 c3 L q _ (up_of hW' hd3) hv2.out hz.out)))
                 simp only [Act.put, List.setIfInBounds_toArray, List.set_cons_zero, List.set_cons_succ]; go_big_quiet_on)))
          refine wpQuiet_nil ?_
          intro W1 hb
          try replace h := up_of hb h
          try replace d0 := up_of hb d0
          try replace d1 := up_of hb d1
          try replace o0 := up_of hb o0
          try replace o1 := up_of hb o1
          try replace o2 := up_of hb o2
          try replace p0 := up_of hb p0
          try replace p1 := up_of hb p1
          try replace p2 := up_of hb p2
          try replace dl := up_of hb dl
          try replace ol := up_of hb ol
          try replace pl := up_of hb pl
          try replace hB := up_of hb hB
          try replace hX := up_of hb hX
          try replace hd3 := up_of hb hd3
          try replace t0 := up_of hb t0
          try replace t1 := up_of hb t1
          try replace tl := up_of hb tl
          try replace hd4 := up_of hb hd4
          try replace hZ := up_of hb hZ
          try replace a0 := up_of hb a0
          try replace a1 := up_of hb a1
          try replace al := up_of hb al
          go_wp2_with (first | (go_at_call 14; refine (awake_c _).mono ?_; rintro e W1 ⟨rfl, hb⟩; (try replace h := up_of hb h); (try replace d0 := up_of hb d0); (try replace d1 := up_of hb d1); (try replace o0 := up_of hb o0); (try replace o1 := up_of hb o1); (try replace o2 := up_of hb o2); (try replace p0 := up_of hb p0); (try replace p1 := up_of hb p1); (try replace p2 := up_of hb p2); (try replace dl := up_of hb dl); (try replace ol := up_of hb ol); (try replace pl := up_of hb pl); (try replace hB := up_of hb hB); (try replace hX := up_of hb hX); (try replace hd3 := up_of hb hd3); (try replace t0 := up_of hb t0); (try replace t1 := up_of hb t1); (try replace tl := up_of hb tl); (try replace hd4 := up_of hb hd4); (try replace hZ := up_of hb hZ); (try replace a0 := up_of hb a0); (try replace a1 := up_of hb a1); (try replace al := up_of hb al)))
          go_ret
          exact ⟨rfl, hB⟩
end Go.Proofs.Ytfebkccdcbkdiaa
