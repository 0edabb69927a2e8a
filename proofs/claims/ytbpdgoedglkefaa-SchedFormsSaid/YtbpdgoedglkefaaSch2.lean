/- Recurrences and schedules that came in; what is asked of them: the program and the reference. -/
import Derived.Test.YtbpdgoedglkefaaSch1
namespace Go.Proofs.Ytbpdgoedglkefaa
open Go.RowKit

/-- A recurrence that came in. -/
structure RecM (w : World) (s : Option Addr) (l : List Iq) (s2 : Option Addr) (cq : Nat) (K : List Vv) : Prop where
  dom : Dom w s l
  vars : VarsM w s2 K
  len : K.length ≤ 9223372036854775807
  cap : K.length ≤ cq
  capm : cq ≤ 9223372036854775807
theorem RecM.up {W W' : World} (h : Below W.heap.size W W') {s : Option Addr} {l : List Iq} {s2 : Option Addr} {cq : Nat} {K : List Vv} (c : RecM W s l s2 cq K) : RecM W' s l s2 cq K := ⟨Up.dom h c.dom, VarsM.up h c.vars, c.len, c.cap, c.capm⟩
instance {W W' : World} {s : Option Addr} {l : List Iq} {s2 : Option Addr} {cq : Nat} {K : List Vv} : UpF W W' (RecM W s l s2 cq K) (RecM W' s l s2 cq K) := ⟨fun h c => RecM.up h c⟩
theorem RecM.valid {w : World} {s : Option Addr} {l : List Iq} {s2 : Option Addr} {cq : Nat} {K : List Vv} (c : RecM w s l s2 cq K) (n : Int) (cap : Nat) :
    Calls Try.prog 71 #[.agg #[.int .i64 n, .slice s l.length cap, .slice s2 K.length cq]] w fun e w' => e = .returned (.bool (recB n l K)) ∧ Below w.heap.size w w' := recValid_c n s cap l s2 cq K w c.dom c.vars c.len
theorem RecM.isRec {w : World} {s : Option Addr} {l : List Iq} {s2 : Option Addr} {cq : Nat} {K : List Vv} (c : RecM w s l s2 cq K) (n : Int) (cap : Nat) :
    Calls Try.prog 73 #[.agg #[.int .i64 n, .slice s l.length cap, .slice s2 K.length cq]] w fun e w' => e = .returned (.bool (recB n l K)) ∧ Below w.heap.size w w' := IsRec_c n s cap l s2 cq K w c.dom c.vars c.len c.cap c.capm

/-- A schedule: its form, its offsets, and where they lie. -/
structure Sd where
  f : Pt
  off : List Int
  s : Option Addr
  cap : Nat
def Sd.cells (a : Sd) : List Value := [.int .i64 a.f.x, .int .i64 a.f.y, .int .i64 a.f.z, .slice a.s a.off.length a.cap]
def sdE : Elt Sd := ⟨4, Sd.cells, by decide, fun _ => rfl, fun _ u h => by simp [Sd.cells] at h; rcases h with rfl | rfl | rfl | rfl <;> rfl⟩
theorem SlS.sd_at {w : World} {s : Option Addr} {l : List Sd} (c : SlS sdE w s l) {i : Nat} (h : i < l.length) :
    ∃ b off, s = some ⟨b, off, none⟩ ∧ b < w.heap.size ∧ w.cell? ⟨b, off + i * 4, none⟩ = some (.int .i64 l[i].f.x) ∧ w.cell? ⟨b, off + i * 4 + 1, none⟩ = some (.int .i64 l[i].f.y) ∧ w.cell? ⟨b, off + i * 4 + 2, none⟩ = some (.int .i64 l[i].f.z) ∧ w.cell? ⟨b, off + i * 4 + 3, none⟩ = some (.slice l[i].s l[i].off.length l[i].cap) := by
  obtain ⟨b, off, e, hb, hc⟩ := c.at h
  have h0 := hc 0 _ rfl
  have h1 := hc 1 _ rfl
  have h2 := hc 2 _ rfl
  have h3 := hc 3 _ rfl
  simp only [sdE, Nat.add_zero] at h0 h1 h2 h3
  exact ⟨b, off, e, hb, h0, h1, h2, h3⟩
/-- A schedule that came in. -/
structure SdM (w : World) (q : Sd) : Prop where
  off : SlS intE w q.s q.off
  len : q.off.length ≤ 9223372036854775807
theorem SdM.up {W W' : World} (h : Below W.heap.size W W') {q : Sd} (c : SdM W q) : SdM W' q := ⟨SlS.up h c.off, c.len⟩
instance {W W' : World} {q : Sd} : UpF W W' (SdM W q) (SdM W' q) := ⟨fun h c => SdM.up h c⟩
/-- Whether a schedule fits. -/
def Sd.fit (n : Int) (nv : Nat) (q : Sd) : Bool := fitB n nv q.f q.off

set_option maxRecDepth 100000 in
set_option maxHeartbeats 400000 in
theorem sd_indexf (f : Nat) (cs : Array Value) (hf : ∀ args w, (callFunc f args).run Try.prog w = .ok (.enter f args) w) (s : Option Addr) (cap : Nat) (l : List Sd) (pr : Sd → Bool) (w : World)
    (hs : SlS sdE w s l) (hl : l.length ≤ 9223372036854775807)
    (hc : ∀ q ∈ l, ∀ W, Below w.heap.size w W → Calls Try.prog f (#[.agg #[.int .i64 q.f.x, .int .i64 q.f.y, .int .i64 q.f.z, .slice q.s q.off.length q.cap]] ++ cs) W fun e w' => e = .returned (.bool (pr q)) ∧ Below W.heap.size W w') :
    Calls Try.prog 133 #[.slice s l.length cap, .func (.func f) #[] cs] w fun e w' => e = .returned (.int .i64 (fidx pr l)) ∧ Below w.heap.size w w' := by
  go_enter Try.func133, Try.ntmps133
  go_wp2
  go_loopw [8] (fun i wr => ∃ k : Nat, k ≤ l.length ∧ i = .int .i64 k ∧ Below w.heap.size w wr ∧ Hid (∀ j (hj : j < l.length), j < k → pr l[j] = false)) (fun i _ => l.length - (intOf i).toNat)
  case atStart => exact ⟨0, by omega, rfl, Below.refl _ _, fun j _ h => absurd h (by omega)⟩
  case round =>
    obtain ⟨k, hk, rfl, hB, hno⟩ := hrel
    by_cases hlt : k < l.length
    · obtain ⟨b, off, rfl, hb, h0, h1, h2, h3⟩ := (up_of hB hs).sd_at hlt
      have hcall := hc l[k] (List.getElem_mem hlt) wr hB
      have Hc := Lib.hid hcall
      clear hc hcall hs
      cases hp : pr l[k] with
      | true =>
        go_wp2_with (refine Hc.out.mono ?_; rintro e W1 ⟨rfl, hb1⟩; rw [hp])
        go_ret
        exact ⟨ret_int (fidx_at hlt (fun j hj => hno j _ hj) hp).symm, Up.to hB hb1 hB.size⟩
      | false =>
        go_wp2_with (refine Hc.out.mono ?_; rintro e W1 ⟨rfl, hb1⟩; rw [hp])
        go_roundw
        case rel => exact ⟨k + 1, by omega, by go_num, Up.to hB hb1 hB.size, fun j hj h => by rcases Nat.lt_succ_iff_lt_or_eq.1 h with h | rfl; exact hno j hj h; exact hp⟩
        case measure => simp [intOf]; omega
    · obtain rfl : k = l.length := by omega
      clear hc hs
      go_wp2
      go_ret
      exact ⟨ret_int (fidx_none fun j hj => hno j hj hj).symm, hB⟩

set_option maxRecDepth 100000 in
set_option maxHeartbeats 400000 in
theorem sd_containsf (f : Nat) (cs : Array Value) (hf : ∀ args w, (callFunc f args).run Try.prog w = .ok (.enter f args) w) (s : Option Addr) (cap : Nat) (l : List Sd) (pr : Sd → Bool) (w : World)
    (hs : SlS sdE w s l) (hl : l.length ≤ 9223372036854775807)
    (hc : ∀ q ∈ l, ∀ W, Below w.heap.size w W → Calls Try.prog f (#[.agg #[.int .i64 q.f.x, .int .i64 q.f.y, .int .i64 q.f.z, .slice q.s q.off.length q.cap]] ++ cs) W fun e w' => e = .returned (.bool (pr q)) ∧ Below W.heap.size W w') :
    Calls Try.prog 101 #[.slice s l.length cap, .func (.func f) #[] cs] w fun e w' => e = .returned (.bool (l.any pr)) ∧ Below w.heap.size w w' := by
  have H := Lib.hid (sd_indexf f cs hf s cap l pr w hs hl hc)
  clear hc hs hf
  go_enter Try.func101, Try.ntmps101
  go_wp2_with (go_at_call 133; refine H.out.mono ?_; rintro e W1 ⟨rfl, hb⟩)
  go_ret
  exact ⟨ret_bool (fidx_any pr l), hb⟩

set_option maxRecDepth 100000 in
set_option maxHeartbeats 1000000 in
theorem checked1_c (n : Int) (s : Option Addr) (cap len : Nat) (s2 : Option Addr) (cq nv : Nat) (q : Sd) (b : Nat) (w : World) (hq : SdM w q) (hnv : nv ≤ 9223372036854775807)
    (r0 : w.cell? ⟨b, 0, none⟩ = some (.int .i64 n)) (r1 : w.cell? ⟨b, 1, none⟩ = some (.slice s len cap)) (r2 : w.cell? ⟨b, 2, none⟩ = some (.slice s2 nv cq)) :
    Calls Try.prog 102 #[.agg #[.int .i64 q.f.x, .int .i64 q.f.y, .int .i64 q.f.z, .slice q.s q.off.length q.cap], .pointer (some ⟨b, 0, none⟩)] w fun e w' => e = .returned (.bool (!q.fit n nv)) ∧ Below w.heap.size w w' := by
  have hbl := World.block_lt_of_cell? _ _ r0
  have hf := fun V (h : SdM V q) => fits_c n s cap len s2 cq nv q.f q.s q.cap q.off V h.off h.len hnv
  unfold Sd.fit
  obtain ⟨B, hB0⟩ : ∃ x, fitB n nv q.f q.off = x := ⟨_, rfl⟩
  simp only [hB0] at hf ⊢
  clear hB0
  replace hf := Lib.hid hf
  go_enter Try.func102, Try.ntmps102
  go_upto_region 1 with (fail)
  refine wp_world fun W HW => ?_
  have hB : Below w.heap.size w W := by rw [HW.out]; (repeat (first | exact Below.refl _ _ | refine Below.alloc ?_ (by simp; try omega) _ | refine Below.setCell ?_ (by simp) _ | refine Below.drew ?_))
  have g0 : W.cell? ⟨w.heap.size, 0, none⟩ = some (.int .i64 q.f.x) := by rw [HW.out]; simp [go_sem]
  have g1 : W.cell? ⟨w.heap.size, 1, none⟩ = some (.int .i64 q.f.y) := by rw [HW.out]; simp [go_sem]
  have g2 : W.cell? ⟨w.heap.size, 2, none⟩ = some (.int .i64 q.f.z) := by rw [HW.out]; simp [go_sem]
  have g3 : W.cell? ⟨w.heap.size, 3, none⟩ = some (.slice q.s q.off.length q.cap) := by rw [HW.out]; simp [go_sem]
  have gl : w.heap.size < W.heap.size := World.block_lt_of_cell? W _ g0
  try replace hq := up_of hB hq
  try replace r0 := up_of hB r0
  try replace r1 := up_of hB r1
  try replace r2 := up_of hB r2
  go_wp2_with (first | (go_at_call 72; refine (hf.out _ hq).mono ?_; rintro e W1 ⟨rfl, hb⟩; (try replace hq := up_of hb hq); (try replace r0 := up_of hb r0); (try replace r1 := up_of hb r1); (try replace r2 := up_of hb r2); (try replace hB := up_of hb hB); (try replace g0 := up_of hb g0); (try replace g1 := up_of hb g1); (try replace g2 := up_of hb g2); (try replace g3 := up_of hb g3); (try replace gl := up_of hb gl)))
  go_ret
  exact ⟨rfl, hB⟩
/-- The first error of a recurrence and schedules. -/
def chkE (n : Int) (l : List Iq) (K : List Vv) (L : List Sd) : Int := if recB n l K then (if L.all (Sd.fit n K.length) then 0 else 30) else 20
set_option maxRecDepth 100000 in
set_option maxHeartbeats 1000000 in
theorem checked_c (n : Int) (s : Option Addr) (cap : Nat) (l : List Iq) (s2 : Option Addr) (cq : Nat) (K : List Vv) (sl : Option Addr) (cl : Nat) (L : List Sd) (w : World) (hr : RecM w s l s2 cq K) (hL : SlS sdE w sl L) (hl : L.length ≤ 9223372036854775807) (hm : ∀ q ∈ L, SdM w q) :
    Calls Try.prog 57 #[.agg #[.int .i64 n, .slice s l.length cap, .slice s2 K.length cq], .slice sl L.length cl] w fun e w' => e = .returned (.int .i64 (chkE n l K L)) ∧ Below w.heap.size w w' := by
  have hv := fun V (h : RecM V s l s2 cq K) => h.valid n cap
  have hkl := hr.len
  have hc := fun V b (r0 : V.cell? ⟨b, 0, none⟩ = some (.int .i64 n)) (r1 : V.cell? ⟨b, 1, none⟩ = some (.slice s l.length cap)) (r2 : V.cell? ⟨b, 2, none⟩ = some (.slice s2 K.length cq)) (hB : Below w.heap.size w V) (hL : SlS sdE V sl L) => sd_containsf 102 #[.pointer (some ⟨b, 0, none⟩)] (fun _ _ => by simp [go_sem]) sl cl L (fun q => !q.fit n K.length) V hL hl (fun q hq W hW => checked1_c n s cap l.length s2 cq K.length q b W (SdM.up (Up.to hB hW hB.size) (hm q hq)) hkl (Up.cell hW r0) (Up.cell hW r1) (Up.cell hW r2))
  have han : (L.any fun q => !q.fit n K.length) = !L.all (Sd.fit n K.length) := by rw [← any_not]; simp
  simp only [han] at hc
  unfold chkE
  obtain ⟨B, hB0⟩ : ∃ x, recB n l K = x := ⟨_, rfl⟩
  obtain ⟨C, hC0⟩ : ∃ x, L.all (Sd.fit n K.length) = x := ⟨_, rfl⟩
  simp only [hB0] at hv ⊢
  simp only [hC0] at hc ⊢
  clear hB0 hC0 han
  replace hv := Lib.hid hv; replace hc := Lib.hid hc; replace hm := Lib.hid hm
  cases B
  all_goals
    cases C
    all_goals
      go_enter Try.func57, Try.ntmps57
      go_upto_region 1 with (fail)
      refine wp_world fun W HW => ?_
      have hB : Below w.heap.size w W := by rw [HW.out]; (repeat (first | exact Below.refl _ _ | refine Below.alloc ?_ (by simp; try omega) _ | refine Below.setCell ?_ (by simp) _ | refine Below.drew ?_))
      have d0 : W.cell? ⟨w.heap.size, 0, none⟩ = some (.int .i64 n) := by rw [HW.out]; simp [go_sem]
      have d1 : W.cell? ⟨w.heap.size, 1, none⟩ = some (.slice s l.length cap) := by rw [HW.out]; simp [go_sem]
      have d2 : W.cell? ⟨w.heap.size, 2, none⟩ = some (.slice s2 K.length cq) := by rw [HW.out]; simp [go_sem]
      have dl : w.heap.size < W.heap.size := World.block_lt_of_cell? W _ d0
      try replace hr := up_of hB hr
      try replace hL := up_of hB hL
      go_wp2_with (first | (go_at_call 71; refine (hv.out _ hr).mono ?_; rintro e W1 ⟨rfl, hb⟩; (try replace hr := up_of hb hr); (try replace hL := up_of hb hL); (try replace hB := up_of hb hB); (try replace d0 := up_of hb d0); (try replace d1 := up_of hb d1); (try replace d2 := up_of hb d2); (try replace dl := up_of hb dl)) | (go_at_call 101; refine (hc.out _ _ d0 d1 d2 hB hL).mono ?_; rintro e W1 ⟨rfl, hb⟩; (try replace hr := up_of hb hr); (try replace hL := up_of hb hL); (try replace hB := up_of hb hB); (try replace d0 := up_of hb d0); (try replace d1 := up_of hb d1); (try replace d2 := up_of hb d2); (try replace dl := up_of hb dl)))
      go_ret
      exact ⟨rfl, hB⟩
end Go.Proofs.Ytbpdgoedglkefaa
