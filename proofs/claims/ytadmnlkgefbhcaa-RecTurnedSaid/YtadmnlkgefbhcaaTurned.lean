/- The turned recurrence: the program. -/
import Derived.Test.YtadmnlkgefbhcaaTrnM
import Derived.Test.YtadmnlkgefbhcaaB7
import Derived.Deep.RegionLaw
import Derived.Laws.CopyOwn
namespace Go.Proofs.Ytadmnlkgefbhcaa
open Go.RowKit

def zRec : Value := .agg #[.int .i64 0, .slice none 0 0, .slice none 0 0]
/-- What Turned hands back. -/
def TuRet (n : Int) (l : List Iq) (K : List Vv) (p : Pt) (e : Ending) (w' : World) : Prop :=
  (recB n l K = false ∧ e = .returned (.tuple #[zRec, .int .i64 20])) ∨ (recB n l K = true ∧ isOrd n p = false ∧ e = .returned (.tuple #[zRec, .int .i64 2])) ∨
  (recB n l K = true ∧ isOrd n p = true ∧ ∃ s c s2 cq, e = .returned (.tuple #[.agg #[.int .i64 n, .slice s (turnL n p l).length c, .slice s2 (turnK n p K).length cq], .int .i64 0]) ∧ IqS w' s (turnL n p l) ∧ VarsM w' s2 (turnK n p K))
theorem load_rec {X : World} {b1 : Nat} {cs : Array Value} (rl : Row X b1 27 cs) (h3 : cs.size = 3) : (loadVar 27 ⟨b1, 0, none⟩).run Try.prog X = .ok (.agg cs) X :=
  run_loadVar_row X b1 _ _ cs (0, 0) _ rl Try.underlying27 rfl (by rw [h3]; kernel_rfl)
theorem flat_get {p : Pt} {n m : Int} (h : flatB p n m = true) : ∀ i : Nat, i < 3 → n ≤ (i : Int) → p.get i = 0 := by
  simp only [flatB, flatC, Bool.and_eq_true, Bool.or_eq_true, decide_eq_true_eq] at h
  obtain ⟨⟨-, a1⟩, ⟨-, a2⟩, -, a3⟩ := h
  intro i hi hn
  have h3 : i = 0 ∨ i = 1 ∨ i = 2 := by omega
  rcases h3 with rfl | rfl | rfl
  · exact a1.resolve_left (by omega)
  · exact a2.resolve_left (by omega)
  · exact a3.resolve_left (by omega)
/-- What the program turns is what the document turns. -/
theorem tnz_rec {n : Int} {l : List Iq} {K : List Vv} {o : Pt} (h : recB n l K = true) (ho : isOrd n o = true) : ∀ v ∈ K, (∀ a ∈ v.args, tnz o a.p 3 = turnP n o a.p) ∧ tnz o ⟨v.i1, v.i2, v.i3⟩ 3 = turnI n o v := by
  have hd := (netOk h).dim
  rw [recB_eq] at h
  simp only [Bool.and_eq_true, decide_eq_true_eq, recS] at h
  obtain ⟨h1, h2, h3, h4, -⟩ := h
  rw [List.all_eq_true] at h4
  intro v hv
  have h5 := h4 v hv
  simp only [varB, Bool.and_eq_true, decide_eq_true_eq, List.all_eq_true] at h5
  refine ⟨fun a ha => ?_, ?_⟩
  · have h6 := h5.2.2.2.2 a ha
    simp only [argC, Bool.and_eq_true] at h6
    exact tnz_eq hd ho (flat_get h6.1)
  · have h6 := h5.2.2.2.1
    refine tnz_eq hd ho fun i hi hn => ?_
    simp only [initB, initC, Bool.and_eq_true, Bool.or_eq_true, decide_eq_true_eq] at h6
    obtain ⟨-, ⟨-, a1⟩, ⟨-, a2⟩, -, a3⟩ := h6
    have h3' : i = 0 ∨ i = 1 ∨ i = 2 := by omega
    rcases h3' with rfl | rfl | rfl
    · exact a1.resolve_left (by omega)
    · exact a2.resolve_left (by omega)
    · exact a3.resolve_left (by omega)
theorem arA_at {l : List Ar} {k : Nat} (hk : k < l.length) : (arE.all l)[k * 4 + 1]? = some (.int .i64 l[k].p.x) ∧ (arE.all l)[k * 4 + 2]? = some (.int .i64 l[k].p.y) ∧ (arE.all l)[k * 4 + 3]? = some (.int .i64 l[k].p.z) := by
  refine ⟨?_, ?_, ?_⟩
  · exact (arE.all_at l k 1 hk (by decide)).trans rfl
  · exact (arE.all_at l k 2 hk (by decide)).trans rfl
  · exact (arE.all_at l k 3 hk (by decide)).trans rfl
theorem mixA_get {n : Int} {o : Pt} {l : List Ar} {k : Nat} (hk : k < l.length) (h : k < (mixA n o l k).length) : (mixA n o l k)[k] = l[k] := by
  have h1 := mixA_at n o l k k
  rw [if_neg (by omega), List.getElem?_eq_getElem h, List.getElem?_eq_getElem hk] at h1
  exact Option.some.inj h1
theorem recB_valid {n : Int} {l : List Iq} {K : List Vv} (h : recB n l K = true) : validB n l = true := by
  rw [recB_eq] at h
  simp only [Bool.and_eq_true] at h
  exact h.1
theorem info_var : (Try.prog.info? 57).map (fun i => (i.zero, i.size, i.bytes)) = some (some (.agg #[.string ⟨#[]⟩, .int .i64 0, .slice none 0 0, .int .i64 0, .int .i64 0, .int .i64 0, .int .i64 0]), 7, 80) := by kernel_rfl
theorem step_copy_row {P : Program} {ops : Array Oper} {o : Oper} {a : Act} {w : World} {K : Act → World → Prop} {Q : Exit → Act → World → Prop} {E : Prop} (hgd : o.guard = none) (d s : Operand) (dT sT : TypeId)
    (ho : o.op = .call { callee := .builtin .copy, args := #[d, s], argTypes := #[dT, sT] }) (elem : TypeId) (hu : P.underlying dT = some (.slice elem)) (hsz : (P.info? elem).map (·.size) = some 1)
    (g off dLen dCap : Nat) (ad : Addr) (sLen sCap : Nat) (hd : a.eval d = .slice (some ⟨g, off, none⟩) dLen dCap) (hs : a.eval s = .slice (some ad) sLen sCap)
    (cur : Array Value) (t : TypeId) (hg : w.heap[g]? = some (.cells cur t (0, 0))) (cs : List Value) (hn : cs.length = Nat.min sLen dLen)
    (hsrc : ∀ j v, cs[j]? = some v → w.cell? (ad.add j) = some v) (hfit : off + cs.length ≤ cur.size) (h1 : ∀ v ∈ cs, v.oneCell' = true)
    (h : K (a.put o.dst (goInt cs.length)) (w.setRow g (cur.toList.take off ++ (cs ++ cur.toList.drop (off + cs.length))).toArray)) :
    if Region.wanted o (yielded ops a.tmps) = true then Oper.wp P o a w K Q else E := by
  have hw : Region.wanted o (yielded ops a.tmps) = true := by simp [Region.wanted, hgd]
  rw [if_pos hw]
  have hrun := run_copy_row (P := P) w dT sT o.type elem g off dLen dCap ad sLen sCap cur t cs hu hsz hg hn hsrc hfit h1
  unfold Oper.wp
  simp [execOp, ho, resolve, invoke, builtin, hd, hs, hrun, Result.andThen]
  exact h
theorem arr_at (b o c : Nat) (V : World) : (Instr.arrayAt 29 (.slice (some ⟨b, o, none⟩) 3 c)).run Try.prog V = .ok (.pointer (some ⟨b, o, none⟩)) V := by
  kernel_rfl
/-- What Turned hands back, with the recurrence as one that comes in. -/
def TuR3 (n : Int) (l : List Iq) (K : List Vv) (p : Pt) (e : Ending) (w' : World) : Prop :=
  (recB n l K = false ∧ e = .returned (.tuple #[zRec, .int .i64 20])) ∨ (recB n l K = true ∧ isOrd n p = false ∧ e = .returned (.tuple #[zRec, .int .i64 2])) ∨
  (recB n l K = true ∧ isOrd n p = true ∧ ∃ s c s2 cq, e = .returned (.tuple #[.agg #[.int .i64 n, .slice s (turnL n p l).length c, .slice s2 (turnK n p K).length cq], .int .i64 0]) ∧ RecM w' s (turnL n p l) s2 cq (turnK n p K))
theorem TuR3.ret {n : Int} {l : List Iq} {K : List Vv} {p : Pt} {e : Ending} {w' : World} (h : TuR3 n l K p e w') : TuRet n l K p e w' := by
  rcases h with h | h | ⟨h1, h2, s, c, s2, cq, h3, h4⟩
  · exact .inl h
  · exact .inr (.inl h)
  · exact .inr (.inr ⟨h1, h2, s, c, s2, cq, h3, h4.dom.iq, h4.vars⟩)
theorem own_capm2 {w : World} {base e size n cap : Nat} {s : Option Addr} {xs : List Value} (h : w.ownsRow base e size (.slice s n cap) n xs) : n ≤ cap ∧ cap ≤ 9223372036854775807 := by
  refine ⟨(own_cap h).1, ?_⟩
  rcases h.2 with ⟨h1, h2⟩ | ⟨g, c, cur, h1, _, _, _, h2, _⟩
  · simp only [Value.slice.injEq] at h1
    obtain ⟨_, _, rfl⟩ := h1
    omega
  · simp only [Value.slice.injEq] at h1
    obtain ⟨_, _, rfl⟩ := h1
    simpa [maxLen] using h2
theorem wf_turn2 {n : Int} {p : Pt} {l : List Iq} (h : ∀ q ∈ l, -9223372036854775808 ≤ q.b ∧ q.b ≤ 9223372036854775807) : ∀ q ∈ turnL n p l, -9223372036854775808 ≤ q.b ∧ q.b ≤ 9223372036854775807 := fun q hq => by
  unfold turnL at hq
  obtain ⟨q0, h0, rfl⟩ := List.mem_map.1 hq
  exact h q0 h0
set_option maxRecDepth 100000 in
set_option maxHeartbeats 4000000 in
theorem Turned3_c (n : Int) (s : Option Addr) (cap : Nat) (l : List Iq) (s2 : Option Addr) (cq : Nat) (K : List Vv) (p : Pt) (w : World) (hr : RecM w s l s2 cq K) (hcs : s = none → cap = 0) :
    Calls Try.prog 15 #[.agg #[.int .i64 n, .slice s l.length cap, .slice s2 K.length cq], .agg #[.int .i64 p.x, .int .i64 p.y, .int .i64 p.z]] w fun e w' => TuR3 n l K p e w' ∧ Below w.heap.size w w' := by
  have hv := fun V (h : RecM V s l s2 cq K) => h.valid n cap
  cases hb : recB n l K
  · rw [hb] at hv
    have hend : ∀ w' : World, TuR3 n l K p (.returned (.tuple #[zRec, .int .i64 20])) w' := fun w' => .inl ⟨hb, rfl⟩
    obtain ⟨R, hR⟩ : ∃ R, TuR3 n l K p = R := ⟨_, rfl⟩
    simp only [hR] at hend ⊢
    replace hv := Lib.hid hv; replace hend := Lib.hid hend
    clear hb hR
    go_enter Try.func15, Try.ntmps15
    go_upto_region 1 with (fail)
    refine wp_world fun W HW => ?_
    have hB : Below w.heap.size w W := by rw [HW.out]; (repeat (first | exact Below.refl _ _ | refine Below.alloc ?_ (by simp; try omega) _ | refine Below.setCell ?_ (by simp) _ | refine Below.drew ?_))
    have d0 : W.cell? ⟨w.heap.size, 0, none⟩ = some (.int .i64 n) := by rw [HW.out]; simp [go_sem]
    have d1 : W.cell? ⟨w.heap.size, 1, none⟩ = some (.slice s l.length cap) := by rw [HW.out]; simp [go_sem]
    have d2 : W.cell? ⟨w.heap.size, 2, none⟩ = some (.slice s2 K.length cq) := by rw [HW.out]; simp [go_sem]
    have dl : w.heap.size < W.heap.size := World.block_lt_of_cell? W _ d0
    have o0 : W.cell? ⟨w.heap.size + 1, 0, none⟩ = some (.int .i64 p.x) := by rw [HW.out]; simp [go_sem]
    have o1 : W.cell? ⟨w.heap.size + 1, 1, none⟩ = some (.int .i64 p.y) := by rw [HW.out]; simp [go_sem]
    have o2 : W.cell? ⟨w.heap.size + 1, 2, none⟩ = some (.int .i64 p.z) := by rw [HW.out]; simp [go_sem]
    have ol : w.heap.size + 1 < W.heap.size := World.block_lt_of_cell? W _ o0
    have rB : Row W (w.heap.size + 2) 27 #[.int .i64 0, .slice none 0 0, .slice none 0 0] := (by rw [HW.out]; (repeat (first | (refine blk_new ?_; simp; done) | refine blk_old ?_ _)) : W.heap[w.heap.size + 2]? = some (.cells #[.int .i64 0, .slice none 0 0, .slice none 0 0] 27 (0, 0)))
    have r0 : W.cell? ⟨w.heap.size + 2, 0, none⟩ = some (.int .i64 0) := by rw [HW.out]; simp [go_sem]
    have r1 : W.cell? ⟨w.heap.size + 2, 1, none⟩ = some (.slice none 0 0) := by rw [HW.out]; simp [go_sem]
    have r2 : W.cell? ⟨w.heap.size + 2, 2, none⟩ = some (.slice none 0 0) := by rw [HW.out]; simp [go_sem]
    have rl : w.heap.size + 2 < W.heap.size := World.block_lt_of_cell? W _ r0
    try replace hr := up_of hB hr
    go_upto_region 2 with (first | (go_at_call 49; refine (hv.out _ hr).mono ?_; rintro e W1 ⟨rfl, hb⟩; (try replace hr := up_of hb hr); (try replace hB := up_of hb hB); (try replace d0 := up_of hb d0); (try replace d1 := up_of hb d1); (try replace d2 := up_of hb d2); (try replace dl := up_of hb dl); (try replace o0 := up_of hb o0); (try replace o1 := up_of hb o1); (try replace o2 := up_of hb o2); (try replace ol := up_of hb ol); (try replace rB := up_of hb rB); (try replace r0 := up_of hb r0); (try replace r1 := up_of hb r1); (try replace r2 := up_of hb r2); (try replace rl := up_of hb rl)))
    have rf := fun i => Row.frozen rB i
    go_wp2
    refine bodyPost_ret (results_cs rfl rfl rfl (load_rec (b1 := w.heap.size + 2) (cs := #[.int .i64 0, .slice none 0 0, .slice none 0 0]) ?_ rfl)) rfl ⟨hend.out _, ?_⟩
    · refine Row.of ?_
      repeat (first | (with_reducible refine RowG.base rB ?_) | (with_reducible refine RowG.drew ?_) | (with_reducible refine RowG.set ?_) | ((with_reducible refine RowG.other ?_ ?_); (focus (first | omega | (simp; done) | (simp; omega)))) | (with_reducible refine RowG.alloc ?_))
      rfl
    · repeat (first | (with_reducible exact hB) | (with_reducible refine Below.drew ?_) | ((with_reducible refine Below.setC ?_ ?_); (focus (first | omega | (simp; done) | (simp; omega)))) | ((with_reducible refine Below.allo ?_ ?_); (focus (first | omega | (simp; done) | (simp; omega)))))
  rw [hb] at hv
  have ok := netOk hb
  have hvd := recB_valid hb
  have htu := fun V (h : RecM V s l s2 cq K) => Turned_c n s cap l p V h.dom hcs
  cases ho : isOrd n p
  · have hend : ∀ w' : World, TuR3 n l K p (.returned (.tuple #[zRec, .int .i64 2])) w' := fun w' => .inr (.inl ⟨hb, ho, rfl⟩)
    simp only [show turnN n l p = 0 by simp [turnN, turnE, hvd, ho], show turnR n l p = [] by simp [turnR, turnE, hvd, ho], show turnE n l p = 2 by simp [turnE, hvd, ho]] at htu
    have htu2 := fun V (h : RecM V s l s2 cq K) => (htu V h).mono (R' := fun e w' => (∃ s cap, e = .returned (.tuple #[.agg #[.int .i64 0, .slice s 0 cap], .int .i64 2])) ∧ Below V.heap.size V w') (fun e w' ⟨⟨s, cap, h1, _⟩, h2⟩ => ⟨⟨s, cap, h1⟩, h2⟩)
    obtain ⟨R, hR⟩ : ∃ R, TuR3 n l K p = R := ⟨_, rfl⟩
    simp only [hR] at hend ⊢
    replace hv := Lib.hid hv; replace hend := Lib.hid hend; replace htu2 := Lib.hid htu2
    clear hb hR ho hvd ok htu
    go_enter Try.func15, Try.ntmps15
    go_upto_region 1 with (fail)
    refine wp_world fun W HW => ?_
    have hB : Below w.heap.size w W := by rw [HW.out]; (repeat (first | exact Below.refl _ _ | refine Below.alloc ?_ (by simp; try omega) _ | refine Below.setCell ?_ (by simp) _ | refine Below.drew ?_))
    have d0 : W.cell? ⟨w.heap.size, 0, none⟩ = some (.int .i64 n) := by rw [HW.out]; simp [go_sem]
    have d1 : W.cell? ⟨w.heap.size, 1, none⟩ = some (.slice s l.length cap) := by rw [HW.out]; simp [go_sem]
    have d2 : W.cell? ⟨w.heap.size, 2, none⟩ = some (.slice s2 K.length cq) := by rw [HW.out]; simp [go_sem]
    have dl : w.heap.size < W.heap.size := World.block_lt_of_cell? W _ d0
    have o0 : W.cell? ⟨w.heap.size + 1, 0, none⟩ = some (.int .i64 p.x) := by rw [HW.out]; simp [go_sem]
    have o1 : W.cell? ⟨w.heap.size + 1, 1, none⟩ = some (.int .i64 p.y) := by rw [HW.out]; simp [go_sem]
    have o2 : W.cell? ⟨w.heap.size + 1, 2, none⟩ = some (.int .i64 p.z) := by rw [HW.out]; simp [go_sem]
    have ol : w.heap.size + 1 < W.heap.size := World.block_lt_of_cell? W _ o0
    have rB : Row W (w.heap.size + 2) 27 #[.int .i64 0, .slice none 0 0, .slice none 0 0] := (by rw [HW.out]; (repeat (first | (refine blk_new ?_; simp; done) | refine blk_old ?_ _)) : W.heap[w.heap.size + 2]? = some (.cells #[.int .i64 0, .slice none 0 0, .slice none 0 0] 27 (0, 0)))
    have r0 : W.cell? ⟨w.heap.size + 2, 0, none⟩ = some (.int .i64 0) := by rw [HW.out]; simp [go_sem]
    have r1 : W.cell? ⟨w.heap.size + 2, 1, none⟩ = some (.slice none 0 0) := by rw [HW.out]; simp [go_sem]
    have r2 : W.cell? ⟨w.heap.size + 2, 2, none⟩ = some (.slice none 0 0) := by rw [HW.out]; simp [go_sem]
    have rl : w.heap.size + 2 < W.heap.size := World.block_lt_of_cell? W _ r0
    try replace hr := up_of hB hr
    go_upto_region 3 with (first | (go_at_call 49; refine (hv.out _ hr).mono ?_; rintro e W1 ⟨rfl, hb⟩; (try replace hr := up_of hb hr); (try replace hB := up_of hb hB); (try replace d0 := up_of hb d0); (try replace d1 := up_of hb d1); (try replace d2 := up_of hb d2); (try replace dl := up_of hb dl); (try replace o0 := up_of hb o0); (try replace o1 := up_of hb o1); (try replace o2 := up_of hb o2); (try replace ol := up_of hb ol); (try replace rB := up_of hb rB); (try replace r0 := up_of hb r0); (try replace r1 := up_of hb r1); (try replace r2 := up_of hb r2); (try replace rl := up_of hb rl)))
    go_upto_region 4 with (first | (go_at_call 50; refine (htu2.out _ hr).mono ?_; rintro e W2 ⟨⟨s3, c3, rfl⟩, hb⟩; (try replace hr := up_of hb hr); (try replace hB := up_of hb hB); (try replace d0 := up_of hb d0); (try replace d1 := up_of hb d1); (try replace d2 := up_of hb d2); (try replace dl := up_of hb dl); (try replace o0 := up_of hb o0); (try replace o1 := up_of hb o1); (try replace o2 := up_of hb o2); (try replace ol := up_of hb ol); (try replace rB := up_of hb rB); (try replace r0 := up_of hb r0); (try replace r1 := up_of hb r1); (try replace r2 := up_of hb r2); (try replace rl := up_of hb rl)))
    have rf := fun i => Row.frozen rB i
    go_wp2
    refine bodyPost_ret (results_cs rfl rfl rfl (load_rec (b1 := w.heap.size + 2) (cs := #[.int .i64 0, .slice none 0 0, .slice none 0 0]) ?_ rfl)) rfl ⟨hend.out _, ?_⟩
    · refine Row.of ?_
      repeat (first | (with_reducible refine RowG.base rB ?_) | (with_reducible refine RowG.drew ?_) | (with_reducible refine RowG.set ?_) | ((with_reducible refine RowG.other ?_ ?_); (focus (first | omega | (simp; done) | (simp; omega)))) | (with_reducible refine RowG.alloc ?_))
      rfl
    · repeat (first | (with_reducible exact hB) | (with_reducible refine Below.drew ?_) | ((with_reducible refine Below.setC ?_ ?_); (focus (first | omega | (simp; done) | (simp; omega)))) | ((with_reducible refine Below.allo ?_ ?_); (focus (first | omega | (simp; done) | (simp; omega)))))
  have hend : ∀ (w' : World) s c s2 cq, RecM w' s (turnL n p l) s2 cq (turnK n p K) → TuR3 n l K p (.returned (.tuple #[.agg #[.int .i64 n, .slice s (turnL n p l).length c, .slice s2 (turnK n p K).length cq], .int .i64 0])) w' := fun w' s c s2 cq h1 => .inr (.inr ⟨hb, ho, s, c, s2, cq, rfl, h1⟩)
  simp only [show turnN n l p = n by simp [turnN, turnE, hvd, ho], show turnR n l p = turnL n p l by simp [turnR, turnE, hvd, ho], show turnE n l p = 0 by simp [turnE, hvd, ho]] at htu
  obtain ⟨R, hR⟩ : ∃ R, TuR3 n l K p = R := ⟨_, rfl⟩
  simp only [hR] at hend ⊢
  have hdim := ok.dim
  have hoa := ord_all hdim ho
  have htz := tnz_rec hb ho
  have htc := fun (a : Pt) V => turned_c a p V hoa
  have hKl := ok.vars
  have hLw := wf_turn2 (n := n) (p := p) hr.dom.wf
  have hLl : (turnL n p l).length ≤ 9223372036854775807 := by rw [turn_len]; exact hr.dom.len
  obtain ⟨LL, hLL⟩ : ∃ x, turnL n p l = x := ⟨_, rfl⟩
  simp only [hLL] at hend htu hLw hLl
  have hTl := turnK_len n p K
  obtain ⟨T, hT, hTl, hTa⟩ : ∃ T, turnK n p K = T ∧ T.length = K.length ∧ ∀ i (h : i < K.length) (h' : i < T.length), T[i] = turnV n p K[i] := ⟨_, rfl, hTl, fun i h h' => turnK_at h h'⟩
  simp only [hT] at hend
  have har := ok.args
  clear hb hR hvd hLL hT
  replace hv := Lib.hid hv; replace hend := Lib.hid hend; replace htu := Lib.hid htu; replace htc := Lib.hid htc; replace hTl := Lib.hid hTl; replace hTa := Lib.hid hTa; replace ok := Lib.hid ok; replace har := Lib.hid har; replace ho := Lib.hid ho; replace hLw := Lib.hid hLw; replace hLl := Lib.hid hLl; replace hoa := Lib.hid hoa; replace htz := Lib.hid htz
  go_enter Try.func15, Try.ntmps15
  go_upto_region 1 with (fail)
  refine wp_world fun W HW => ?_
  have hB : Below w.heap.size w W := by rw [HW.out]; (repeat (first | exact Below.refl _ _ | refine Below.alloc ?_ (by simp; try omega) _ | refine Below.setCell ?_ (by simp) _ | refine Below.drew ?_))
  have d0 : W.cell? ⟨w.heap.size, 0, none⟩ = some (.int .i64 n) := by rw [HW.out]; simp [go_sem]
  have d1 : W.cell? ⟨w.heap.size, 1, none⟩ = some (.slice s l.length cap) := by rw [HW.out]; simp [go_sem]
  have d2 : W.cell? ⟨w.heap.size, 2, none⟩ = some (.slice s2 K.length cq) := by rw [HW.out]; simp [go_sem]
  have dl : w.heap.size < W.heap.size := World.block_lt_of_cell? W _ d0
  have o0 : W.cell? ⟨w.heap.size + 1, 0, none⟩ = some (.int .i64 p.x) := by rw [HW.out]; simp [go_sem]
  have o1 : W.cell? ⟨w.heap.size + 1, 1, none⟩ = some (.int .i64 p.y) := by rw [HW.out]; simp [go_sem]
  have o2 : W.cell? ⟨w.heap.size + 1, 2, none⟩ = some (.int .i64 p.z) := by rw [HW.out]; simp [go_sem]
  have ol : w.heap.size + 1 < W.heap.size := World.block_lt_of_cell? W _ o0
  have rB : Row W (w.heap.size + 2) 27 #[.int .i64 0, .slice none 0 0, .slice none 0 0] := (by rw [HW.out]; (repeat (first | (refine blk_new ?_; simp; done) | refine blk_old ?_ _)) : W.heap[w.heap.size + 2]? = some (.cells #[.int .i64 0, .slice none 0 0, .slice none 0 0] 27 (0, 0)))
  have r0 : W.cell? ⟨w.heap.size + 2, 0, none⟩ = some (.int .i64 0) := by rw [HW.out]; simp [go_sem]
  have r1 : W.cell? ⟨w.heap.size + 2, 1, none⟩ = some (.slice none 0 0) := by rw [HW.out]; simp [go_sem]
  have r2 : W.cell? ⟨w.heap.size + 2, 2, none⟩ = some (.slice none 0 0) := by rw [HW.out]; simp [go_sem]
  have rl : w.heap.size + 2 < W.heap.size := World.block_lt_of_cell? W _ r0
  try replace hr := up_of hB hr
  go_upto_region 3 with (first | (go_at_call 49; refine (hv.out _ hr).mono ?_; rintro e W1 ⟨rfl, hb⟩; (try replace hr := up_of hb hr); (try replace hB := up_of hb hB); (try replace d0 := up_of hb d0); (try replace d1 := up_of hb d1); (try replace d2 := up_of hb d2); (try replace dl := up_of hb dl); (try replace o0 := up_of hb o0); (try replace o1 := up_of hb o1); (try replace o2 := up_of hb o2); (try replace ol := up_of hb ol); (try replace rB := up_of hb rB); (try replace r0 := up_of hb r0); (try replace r1 := up_of hb r1); (try replace r2 := up_of hb r2); (try replace rl := up_of hb rl)))
  have hW1w : w.heap.size + 2 < W1.heap.size := rl
  go_upto_region 4 with (first | (go_at_call 50; refine (htu.out _ hr).mono ?_; rintro e W2 ⟨⟨s3, c3, rfl, hiq⟩, hb⟩; (try replace hr := up_of hb hr); (try replace hB := up_of hb hB); (try replace d0 := up_of hb d0); (try replace d1 := up_of hb d1); (try replace d2 := up_of hb d2); (try replace dl := up_of hb dl); (try replace o0 := up_of hb o0); (try replace o1 := up_of hb o1); (try replace o2 := up_of hb o2); (try replace ol := up_of hb ol); (try replace rB := up_of hb rB); (try replace r0 := up_of hb r0); (try replace r1 := up_of hb r1); (try replace r2 := up_of hb r2); (try replace rl := up_of hb rl)))
  have hrl := rB.lt
  have hIq : IqS W2 s3 LL := owns_iq hiq
  have hrA := Lib.hid hr
  have hIA := Lib.hid hIq
  have hBA := Lib.hid hB
  have dA := Lib.hid (And.intro d0 (And.intro d1 d2))
  have oA := Lib.hid (And.intro o0 (And.intro o1 o2))
  have rA := Lib.hid rB
  have hiqA := Lib.hid hiq
  clear hiq
  go_upto_region 7 with (fail)
  refine wp_world fun Y HY => ?_
  have hY : Below W2.heap.size W2 Y := by rw [HY.out]; (repeat (first | exact Below.refl _ _ | refine Below.alloc ?_ (by simp; try omega) _ | refine Below.setCell ?_ (by simp) _ | refine Below.drew ?_))
  have mB : Row Y (W2.heap.size) 24 #[.int .i64 n, .slice s3 LL.length c3] := (by rw [HY.out]; (repeat (first | (refine blk_new ?_; simp; done) | refine blk_old ?_ _)) : Y.heap[W2.heap.size]? = some (.cells #[.int .i64 n, .slice s3 LL.length c3] 24 (0, 0)))
  have m0 : Y.cell? ⟨W2.heap.size, 0, none⟩ = some (.int .i64 n) := by rw [HY.out]; simp [go_sem]
  have m1 : Y.cell? ⟨W2.heap.size, 1, none⟩ = some (.slice s3 LL.length c3) := by rw [HY.out]; simp [go_sem]
  have ml : W2.heap.size < Y.heap.size := World.block_lt_of_cell? Y _ m0
  have uB : Row Y (W2.heap.size + 1) 27 #[.int .i64 n, .slice s3 LL.length c3, .slice none 0 0] := (by rw [HY.out]; (repeat (first | (refine blk_new ?_; simp; done) | refine blk_old ?_ _)) : Y.heap[W2.heap.size + 1]? = some (.cells #[.int .i64 n, .slice s3 LL.length c3, .slice none 0 0] 27 (0, 0)))
  have u0 : Y.cell? ⟨W2.heap.size + 1, 0, none⟩ = some (.int .i64 n) := by rw [HY.out]; simp [go_sem]
  have u1 : Y.cell? ⟨W2.heap.size + 1, 1, none⟩ = some (.slice s3 LL.length c3) := by rw [HY.out]; simp [go_sem]
  have u2 : Y.cell? ⟨W2.heap.size + 1, 2, none⟩ = some (.slice none 0 0) := by rw [HY.out]; simp [go_sem]
  have ul : W2.heap.size + 1 < Y.heap.size := World.block_lt_of_cell? Y _ u0
  try replace d2 := up_of hY d2
  have hYs : W2.heap.size + 2 ≤ Y.heap.size := by have := ul; omega
  obtain ⟨B, hBe⟩ : ∃ B, W2.heap.size + 2 = B := ⟨_, rfl⟩
  have h0 : TV B Y (.slice none 0 0) [] [] := TV.nil (by omega)
  replace hBe := Lib.hid hBe
  have hal := hr.dom.len
  clear hr hIq hB d0 d1 o0 o1 o2 rB r0 r1 r2 rl HY m0 m1 u0 u1 u2 ml ul mB dl ol hrl
  go_wp2
  clear d2
  go_loopw [33] (fun ii V => ∃ (k : Nat) (ss : List Vs) (R : List Vv) (out : Value), k ≤ K.length ∧ ii = .int .i64 k ∧ Hid (R = T.take k) ∧ Row V (W2.heap.size + 1) 27 #[.int .i64 n, .slice s3 LL.length c3, out] ∧ TV B V out ss R ∧ Below W2.heap.size W2 V) (fun ii _ => K.length - (intOf ii).toNat)
  case atStart => exact ⟨0, [], [], _, by omega, rfl, Lib.hid (by simp), uB, h0, hY⟩
  case round =>
    clear uB h0 hY
    obtain ⟨k, ss, R0, out, hk, rfl, hR0, uB, hTV, hBV⟩ := hrel
    have hr := up_of hBV hrA.out
    have hBs := hBV.size
    by_cases hlt : k < K.length
    · obtain ⟨bk2, ok3, sa2, ca2, e3, -⟩ := hrA.out.vars.at hlt
      cases e3
      obtain ⟨bk, ok2, sa, ca, e2, hbk, q0, q1, q2, q3, q4, q5, q6, hsa, hla, hsn, hsc⟩ := hr.vars.at hlt
      cases e2
      have hkT : k < T.length := by rw [hTl.out]; exact hlt
      have hrow := hTa.out k hlt hkT
      have hRn : R0 ++ [T[k]] = T.take (k + 1) := by rw [hR0.out, List.take_succ_eq_append_getElem hkT]
      have hRl : R0.length = k := by rw [hR0.out, List.length_take]; omega
      have ha3 := har.out _ (List.getElem_mem hlt)
      obtain ⟨htA, htI⟩ := htz.out _ (List.getElem_mem hlt)
      obtain ⟨o0, o1, o2⟩ := oA.out
      replace o0 := up_of hBV o0; replace o1 := up_of hBV o1; replace o2 := up_of hBV o2
      obtain ⟨X, hX⟩ : ∃ x, K[k] = x := ⟨_, rfl⟩
      rw [hX] at q0 q1 q2 q3 q4 q5 q6 hsa hla hsc hrow ha3 htA htI
      have i1 : (0 : Int) ≤ (k : Int) := by omega
      have i2 : (k : Int) < (K.length : Int) := by omega
      have hW2s := hBA.out.size
      have hol : w.heap.size + 1 < wr.heap.size := World.block_lt_of_cell? _ _ o0
      replace hrow := Lib.hid hrow; replace hRn := Lib.hid hRn; replace hRl := Lib.hid hRl; replace htA := Lib.hid htA; replace htI := Lib.hid htI; replace hX := Lib.hid hX; replace hsn := Lib.hid hsn
      clear hR0
      have hTVw := Lib.hid hTV
      have huBw := Lib.hid uB
      have hBVw := Lib.hid hBV
      have hoW := Lib.hid (And.intro o0 (And.intro o1 o2))
      clear hTV uB hBV o0 o1 o2 hr
      go_upto_region 10 with (fail)
      obtain ⟨V0, rfl⟩ : ∃ V0, V0 = wr := ⟨wr, rfl⟩
      refine wp_world fun Y1 HY1 => ?_
      have hY1 : Below V0.heap.size V0 Y1 := by rw [HY1.out]; (repeat (first | exact Below.refl _ _ | refine Below.alloc ?_ (by simp; try omega) _ | refine Below.setCell ?_ (by simp) _ | refine Below.drew ?_))
      have vB : Row Y1 (V0.heap.size) 57 #[.string X.name, .int .i64 X.op, .slice sa X.args.length ca, .int .i64 X.i0, .int .i64 X.i1, .int .i64 X.i2, .int .i64 X.i3] := (by rw [HY1.out]; (repeat (first | (refine blk_new ?_; simp; done) | refine blk_old ?_ _)) : Y1.heap[V0.heap.size]? = some (.cells #[.string X.name, .int .i64 X.op, .slice sa X.args.length ca, .int .i64 X.i0, .int .i64 X.i1, .int .i64 X.i2, .int .i64 X.i3] 57 (0, 0)))
      have v0 : Y1.cell? ⟨V0.heap.size, 0, none⟩ = some (.string X.name) := by rw [HY1.out]; simp [go_sem]
      have v1 : Y1.cell? ⟨V0.heap.size, 1, none⟩ = some (.int .i64 X.op) := by rw [HY1.out]; simp [go_sem]
      have v2 : Y1.cell? ⟨V0.heap.size, 2, none⟩ = some (.slice sa X.args.length ca) := by rw [HY1.out]; simp [go_sem]
      have v3 : Y1.cell? ⟨V0.heap.size, 3, none⟩ = some (.int .i64 X.i0) := by rw [HY1.out]; simp [go_sem]
      have v4 : Y1.cell? ⟨V0.heap.size, 4, none⟩ = some (.int .i64 X.i1) := by rw [HY1.out]; simp [go_sem]
      have v5 : Y1.cell? ⟨V0.heap.size, 5, none⟩ = some (.int .i64 X.i2) := by rw [HY1.out]; simp [go_sem]
      have v6 : Y1.cell? ⟨V0.heap.size, 6, none⟩ = some (.int .i64 X.i3) := by rw [HY1.out]; simp [go_sem]
      have vl : V0.heap.size < Y1.heap.size := World.block_lt_of_cell? Y1 _ v0
      try replace hsa := up_of hY1 hsa
      have hY1s : Y1.heap.size = V0.heap.size + 1 := by rw [HY1.out]; simp
      clear HY1 q0 q1 q2 q3 q4 q5 q6
      go_upto_region 11 with (first | (go_at_call 51; refine (ar_clone sa ca X.args _ hsa hsn.out (by omega)).mono ?_; rintro e W3 ⟨s4, c4, rfl, hown, hb⟩; replace vB := up_of hb vB; have vf := fun i => Row.frozen vB i; have v2 : W3.cell? ⟨V0.heap.size, 2, none⟩ = some (.slice sa X.args.length ca) := vB.cell rfl; replace hY1 := hY1.trans (hb.mono hY1.size)))
      refine wp_world fun Z HZ => ?_
      have hZ : Below V0.heap.size V0 Z := by
        rw [HZ.out]
        repeat (first | (with_reducible exact hY1) | (with_reducible refine Below.drew ?_) | ((with_reducible refine Below.setC ?_ ?_); (focus (first | omega | (simp; done) | (simp; omega)))) | ((with_reducible refine Below.allo ?_ ?_); (focus (first | omega | (simp; done) | (simp; omega)))))
      have vZ : Row Z V0.heap.size 57 #[.string X.name, .int .i64 X.op, .slice s4 X.args.length c4, .int .i64 X.i0, .int .i64 X.i1, .int .i64 X.i2, .int .i64 X.i3] := by
        rw [HZ.out]
        refine Row.of ?_
        repeat (first | (with_reducible refine RowG.base vB ?_) | (with_reducible refine RowG.drew ?_) | (with_reducible refine RowG.set ?_) | ((with_reducible refine RowG.other ?_ ?_); (focus (first | omega | (simp; done) | (simp; omega)))) | (with_reducible refine RowG.alloc ?_))
        rfl
      have hoZ : Z.ownsRow (V0.heap.size + 1) 78 4 (.slice s4 X.args.length c4) X.args.length (arE.all (mixA n p X.args 0)) := by
        rw [HZ.out]
        rw [hY1s] at hown
        exact own_upto hown fun b e => Below.heap_setCell _ _ _ _ (by have := (hown.lt b e).1; show b ≠ V0.heap.size; omega)
      have v2 : Z.cell? ⟨V0.heap.size, 2, none⟩ = some (.slice s4 X.args.length c4) := vZ.cell rfl
      clear HZ hown hb vB vf hsa v0 v1 v3 v4 v5 v6 vl hY1 hY1s
      go_wp2
      go_loopw [44] (fun jj V => ∃ j : Nat, j ≤ X.args.length ∧ jj = .int .i64 j ∧ Below V0.heap.size V0 V ∧ Row V V0.heap.size 57 #[.string X.name, .int .i64 X.op, .slice s4 X.args.length c4, .int .i64 X.i0, .int .i64 X.i1, .int .i64 X.i2, .int .i64 X.i3] ∧ V.ownsRow (V0.heap.size + 1) 78 4 (.slice s4 X.args.length c4) X.args.length (arE.all (mixA n p X.args j))) (fun jj _ => X.args.length - (intOf jj).toNat)
      case atStart => exact ⟨0, by omega, rfl, hZ, vZ, hoZ⟩
      case round =>
        clear hZ vZ hoZ v2
        obtain ⟨j, hj, rfl, hBj, vB, hown⟩ := hrel
        by_cases hlj : j < X.args.length
        · have hjm : j < (mixA n p X.args j).length := by rw [mixA_len]; exact hlj
          obtain ⟨w1, w2, w3⟩ := arA_at hjm
          rw [mixA_get hlj hjm] at w1 w2 w3
          obtain ⟨ab, rfl, hab1, hab2⟩ := own_some hown (by omega)
          replace w1 := owns_cell hown w1
          replace w2 := owns_cell hown w2
          replace w3 := owns_cell hown w3
          have hta := htA.out _ (List.getElem_mem hlj)
          have hT3 := htc.out X.args[j].p
          rw [hta] at hT3
          have hmx := fun a (ha : turnP n p X.args[j].p = a) => mixA_cells n p X.args j hlj ha
          obtain ⟨⟨av, ⟨ax, ay, az⟩⟩, ha⟩ : ∃ x, X.args[j] = x := ⟨_, rfl⟩
          simp only [ha] at w1 w2 w3 hT3 hmx
          obtain ⟨⟨tx, ty, tz⟩, htp⟩ : ∃ x, turnP n p ⟨ax, ay, az⟩ = x := ⟨_, rfl⟩
          have hmx2 := hmx _ htp
          rw [htp] at hT3
          simp only [ptV] at hT3
          have x0 : wr.cell? ⟨V0.heap.size, 2, none⟩ = some (.slice (some ⟨ab, 0, none⟩) X.args.length c4) := vB.cell rfl
          obtain ⟨o0, o1, o2⟩ := hoW.out
          replace o0 := up_of hBj o0; replace o1 := up_of hBj o1; replace o2 := up_of hBj o2
          have j1 : (0 : Int) ≤ (j : Int) := by omega
          have j2 : (j : Int) < (X.args.length : Int) := by omega
          have hBjs := hBj.size
          replace hT3 := Lib.hid hT3; replace hmx2 := Lib.hid hmx2; replace ha := Lib.hid ha; replace htp := Lib.hid htp
          clear hta hmx hjm
          go_upto_region 14 with (fail)
          refine wpL.region (m := 13) (S := fun V => V.cell? ⟨V0.heap.size, 2, none⟩ = some (.slice (some ⟨ab, 0, none⟩) X.args.length c4) ∧ V.cell? ⟨ab, j * 4 + 1, none⟩ = some (.int .i64 ax) ∧ V.cell? ⟨ab, j * 4 + 2, none⟩ = some (.int .i64 ay) ∧ V.cell? ⟨ab, j * 4 + 3, none⟩ = some (.int .i64 az) ∧ V.cell? ⟨w.heap.size + 1, 0, none⟩ = some (.int .i64 p.x) ∧ V.cell? ⟨w.heap.size + 1, 1, none⟩ = some (.int .i64 p.y) ∧ V.cell? ⟨w.heap.size + 1, 2, none⟩ = some (.int .i64 p.z)) (by kernel_rfl) ?_ (fun hHeld => ?_)
          (focus ((first | exact ⟨x0, w1, w2, w3, o0, o1, o2⟩ | ((first | (with_reducible exact ⟨x0, w1, w2, w3, o0, o1, o2⟩) | ((try dsimp only); (repeat' apply And.intro) <;> (repeat (first | (with_reducible assumption) | (with_reducible refine cell_set (by simp; try omega) ?_) | (with_reducible refine cell_drew ?_) | (with_reducible refine cell_alloc ?_ _))))))); done))
          refine wpL.take' (i := 0) rfl (by kernel_rfl) (by kernel_rfl) (by kernel_rfl) (by kernel_rfl) (by decide) (by kernel_rfl) (by assumption) ?_
          apply Exists.intro; refine ⟨fun _ _ _ h => h, Or.inl ⟨by rfl, fun V hV => ?_⟩, ?_⟩
          (focus ((try dsimp only at hV); go_simp; (try (with_reducible rfl)); done))
          try simp only [Act.put, List.setIfInBounds_toArray, List.set_cons_zero, List.set_cons_succ]
          refine wpL.take' (i := 1) rfl (by kernel_rfl) (by kernel_rfl) (by kernel_rfl) (by kernel_rfl) (by decide) (by kernel_rfl) (by assumption) ?_
          apply Exists.intro; refine ⟨fun _ _ _ h => h, Or.inl ⟨by rfl, fun V hV => ?_⟩, ?_⟩
          (focus ((try dsimp only at hV); go_simp; (try (with_reducible rfl)); done))
          try simp only [Act.put, List.setIfInBounds_toArray, List.set_cons_zero, List.set_cons_succ]
          refine wpL.take' (i := 2) rfl (by kernel_rfl) (by kernel_rfl) (by kernel_rfl) (by kernel_rfl) (by decide) (by kernel_rfl) (by assumption) ?_
          apply Exists.intro; refine ⟨fun _ _ _ h => h, Or.inl ⟨by rfl, fun V hV => ?_⟩, ?_⟩
          (focus ((try dsimp only at hV); go_simp; (try (with_reducible rfl)); done))
          try simp only [Act.put, List.setIfInBounds_toArray, List.set_cons_zero, List.set_cons_succ]
          refine wpL.take' (i := 3) rfl (by kernel_rfl) (by kernel_rfl) (by kernel_rfl) (by kernel_rfl) (by decide) (by kernel_rfl) (by assumption) ?_
          apply Exists.intro; refine ⟨fun _ _ _ h => h, Or.inl ⟨by rfl, fun V hV => ?_⟩, ?_⟩
          (focus ((try dsimp only at hV); go_simp; (try (with_reducible rfl)); done))
          try simp only [Act.put, List.setIfInBounds_toArray, List.set_cons_zero, List.set_cons_succ]
          refine wpL.take' (i := 4) rfl (by kernel_rfl) (by kernel_rfl) (by kernel_rfl) (by kernel_rfl) (by decide) (by kernel_rfl) (by assumption) ?_
          apply Exists.intro; refine ⟨fun _ _ _ h => h, Or.inl ⟨by rfl, fun V hV => ?_⟩, ?_⟩
          (focus ((try dsimp only at hV); go_simp; (try (with_reducible rfl)); done))
          try simp only [Act.put, List.setIfInBounds_toArray, List.set_cons_zero, List.set_cons_succ]
          refine wpL.take' (i := 5) rfl (by kernel_rfl) (by kernel_rfl) (by kernel_rfl) (by kernel_rfl) (by decide) (by kernel_rfl) (by assumption) ?_
          apply Exists.intro; refine ⟨fun _ _ _ h => h, Or.inl ⟨by rfl, fun V hV => ?_⟩, ?_⟩
          (focus ((try dsimp only at hV); go_simp; (try (with_reducible rfl)); done))
          try simp only [Act.put, List.setIfInBounds_toArray, List.set_cons_zero, List.set_cons_succ]
          refine wpL.take' (i := 6) rfl (by kernel_rfl) (by kernel_rfl) (by kernel_rfl) (by kernel_rfl) (by decide) (by kernel_rfl) (by assumption) ?_
          apply Exists.intro; refine ⟨fun _ _ _ h => h, Or.inl ⟨by rfl, fun V hV => ?_⟩, ?_⟩
          (focus ((try dsimp only at hV); go_simp; (try (with_reducible rfl)); done))
          try simp only [Act.put, List.setIfInBounds_toArray, List.set_cons_zero, List.set_cons_succ]
          refine wpL.take' (i := 7) rfl (by kernel_rfl) (by kernel_rfl) (by kernel_rfl) (by kernel_rfl) (by decide) (by kernel_rfl) (by assumption) ?_
          apply Exists.intro; refine ⟨fun _ _ _ h => h, Or.inl ⟨by rfl, fun V hV => ?_⟩, ?_⟩
          (focus ((try dsimp only at hV); go_simp; (try (with_reducible rfl)); done))
          try simp only [Act.put, List.setIfInBounds_toArray, List.set_cons_zero, List.set_cons_succ]
          refine wpL.take' (i := 8) rfl (by kernel_rfl) (by kernel_rfl) (by kernel_rfl) (by kernel_rfl) (by decide) (by kernel_rfl) (by assumption) ?_
          apply Exists.intro; refine ⟨fun _ _ _ h => h, Or.inl ⟨by rfl, fun V hV => ?_⟩, ?_⟩
          (focus ((try dsimp only at hV); go_simp; (try (with_reducible rfl)); done))
          try simp only [Act.put, List.setIfInBounds_toArray, List.set_cons_zero, List.set_cons_succ]
          refine wpL.take' (i := 9) rfl (by kernel_rfl) (by kernel_rfl) (by kernel_rfl) (by kernel_rfl) (by decide) (by kernel_rfl) (by assumption) ?_
          apply Exists.intro; refine ⟨fun _ _ _ h => h, Or.inl ⟨by rfl, fun V hV => ?_⟩, ?_⟩
          (focus ((try dsimp only at hV); go_simp; (try (with_reducible rfl)); done))
          try simp only [Act.put, List.setIfInBounds_toArray, List.set_cons_zero, List.set_cons_succ]
          refine wpL.one (i := 10) (by kernel_rfl) rfl fun K hK => ?_
          rw [if_pos (by rfl)]
          go_simp
          ((first | (go_at_call 52; refine calls_below (W0 := wr) ?_ fun hpre => ?_; (repeat (first | exact Below.refl _ _ | refine Below.alloc ?_ (by simp; try omega) _ | refine Below.drew ?_)); refine (hT3.out _).mono ?_; rintro e N2 ⟨rfl, hb1⟩; have hb := Up.trans hpre hb1; clear hpre; (first | have hs_N2 := below_alloc_lt hb1 | have hs_N2 := below_alloc_lt (drewB hb1) | skip); (try replace hBj := up_of hb hBj); (try replace vB := up_of hb vB); (try replace hown := up_of hb hown); (try replace o0 := up_of hb o0); (try replace o1 := up_of hb o1); (try replace o2 := up_of hb o2); (try replace x0 := up_of hb x0); (try replace w1 := up_of hb w1); (try replace w2 := up_of hb w2); (try replace w3 := up_of hb w3); (first | have nB := new_up hb1 | have nB := new_up (drewB hb1) | (try replace nB := up_of hb nB)); (have gf := fun i => World.ownsRow.frozenAt hown i))))
          try clear hHeld
          refine hK.out _ _ ?_ (fun hHeld => ?_)
          (focus ((first | exact ⟨x0, w1, w2, w3, o0, o1, o2⟩ | ((first | (with_reducible exact ⟨x0, w1, w2, w3, o0, o1, o2⟩) | ((try dsimp only); (repeat' apply And.intro) <;> (repeat (first | (with_reducible assumption) | (with_reducible refine cell_set (by simp; try omega) ?_) | (with_reducible refine cell_drew ?_) | (with_reducible refine cell_alloc ?_ _))))))); done))
          clear hK K
          try simp only [Act.put, List.setIfInBounds_toArray, List.set_cons_zero, List.set_cons_succ]
          refine wpL.one (i := 11) (by kernel_rfl) rfl fun K hK => ?_
          rw [if_pos (by rfl)]
          go_simp
          try clear hHeld
          refine hK.out _ _ ?_ (fun hHeld => ?_)
          (focus ((first | exact ⟨x0, w1, w2, w3, o0, o1, o2⟩ | ((first | (with_reducible exact ⟨x0, w1, w2, w3, o0, o1, o2⟩) | ((try dsimp only); (repeat' apply And.intro) <;> (repeat (first | (with_reducible assumption) | (with_reducible refine cell_set (by simp; try omega) ?_) | (with_reducible refine cell_drew ?_) | (with_reducible refine cell_alloc ?_ _))))))); done))
          clear hK K
          try simp only [Act.put, List.setIfInBounds_toArray, List.set_cons_zero, List.set_cons_succ]
          refine wpL.take' (i := 12) rfl (by kernel_rfl) (by kernel_rfl) (by kernel_rfl) (by kernel_rfl) (by decide) (by kernel_rfl) (by assumption) ?_
          apply Exists.intro; refine ⟨fun _ _ _ h => h, Or.inl ⟨by rfl, fun V hV => ?_⟩, ?_⟩
          (focus ((try dsimp only at hV); go_simp; (try (with_reducible rfl)); done))
          try simp only [Act.put, List.setIfInBounds_toArray, List.set_cons_zero, List.set_cons_succ]
          refine wpL.last (by kernel_rfl) (by kernel_rfl) rfl fun K hK => ?_
          rw [if_pos (by rfl)]
          go_simp
          refine hK.out _ _ (wpL.fin (by kernel_rfl) ?_ _)
          clear hK K
          try simp only [Act.put, List.setIfInBounds_toArray, List.set_cons_zero, List.set_cons_succ]
          have h4 := hown.stored (j * 4 + 1) (.int .i64 tx)
          have h5 := h4.1.stored (j * 4 + 2) (.int .i64 ty)
          have h6 := h5.1.stored (j * 4 + 3) (.int .i64 tz)
          have hm := hmx2.out
          simp only at hm
          rw [hm] at h6
          replace h6 := Lib.hid h6.1
          clear h4 h5 hm w1 w2 w3 x0 o0 o1 o2
          try clear gf
          go_wp2
          go_roundw
          case rel =>
            refine ⟨j + 1, by omega, rfl, ?_, ?_, h6.out⟩
            · repeat (first | (with_reducible exact hBj) | (with_reducible refine Below.drew ?_) | ((with_reducible refine Below.setC ?_ ?_); (focus (first | omega | (simp; done) | (simp; omega)))) | ((with_reducible refine Below.allo ?_ ?_); (focus (first | omega | (simp; done) | (simp; omega)))))
            · refine Row.of ?_
              repeat (first | (with_reducible refine RowG.base vB ?_) | (with_reducible refine RowG.drew ?_) | (with_reducible refine RowG.set ?_) | ((with_reducible refine RowG.other ?_ ?_); (focus (first | omega | (simp; done) | (simp; omega)))) | (with_reducible refine RowG.alloc ?_))
              rfl
          case measure => exact meas hlj
        · obtain rfl : j = X.args.length := by omega
          rw [mixA_all] at hown
          have v2 : wr.cell? ⟨V0.heap.size, 2, none⟩ = some (.slice s4 X.args.length c4) := vB.cell rfl
          have v4 : wr.cell? ⟨V0.heap.size, 4, none⟩ = some (.int .i64 X.i1) := vB.cell rfl
          have v5 : wr.cell? ⟨V0.heap.size, 5, none⟩ = some (.int .i64 X.i2) := vB.cell rfl
          have v6 : wr.cell? ⟨V0.heap.size, 6, none⟩ = some (.int .i64 X.i3) := vB.cell rfl
          obtain ⟨o0, o1, o2⟩ := hoW.out
          replace o0 := up_of hBj o0; replace o1 := up_of hBj o1; replace o2 := up_of hBj o2
          have hT4 := htc.out ⟨X.i1, X.i2, X.i3⟩
          rw [htI.out] at hT4
          obtain ⟨⟨tx, ty, tz⟩, htp⟩ : ∃ x, turnI n p X = x := ⟨_, rfl⟩
          rw [htp] at hT4
          simp only [ptV] at hT4
          have hBjs := hBj.size
          replace hT4 := Lib.hid hT4; replace htp := Lib.hid htp
          have hsp := fun V => arr_at V0.heap.size 4 3 V
          have hvl : V0.heap.size < wr.heap.size := vB.lt
          have hol2 : w.heap.size + 1 < wr.heap.size := by omega
          go_upto_region 16 with (fail)
          have hBjw := Lib.hid hBj
          have vBw := Lib.hid vB
          have hownw := Lib.hid hown
          clear v2
          go_region_held3 (fun V => V.cell? ⟨V0.heap.size, 4, none⟩ = some (.int .i64 X.i1) ∧ V.cell? ⟨V0.heap.size, 5, none⟩ = some (.int .i64 X.i2) ∧ V.cell? ⟨V0.heap.size, 6, none⟩ = some (.int .i64 X.i3) ∧ V.cell? ⟨w.heap.size + 1, 0, none⟩ = some (.int .i64 p.x) ∧ V.cell? ⟨w.heap.size + 1, 1, none⟩ = some (.int .i64 p.y) ∧ V.cell? ⟨w.heap.size + 1, 2, none⟩ = some (.int .i64 p.z)) ((first | (with_reducible exact ⟨v4, v5, v6, o0, o1, o2⟩) | ((try dsimp only); (repeat' apply And.intro) <;> (repeat (first | (with_reducible assumption) | (with_reducible refine cell_set (by simp; try omega) ?_) | (with_reducible refine cell_drew ?_) | (with_reducible refine cell_alloc ?_ _)))))) ((first | (go_at_call 52; refine calls_below (W0 := wr) ?_ fun hpre => ?_; (repeat (first | exact Below.refl _ _ | refine Below.alloc ?_ (by simp; try omega) _ | refine Below.drew ?_)); refine (hT4.out _).mono ?_; rintro e N2 ⟨rfl, hb1⟩; have hcc := cellB hb1; have hff := frozB hb1; have hb := Up.trans hpre hb1; clear hpre; (first | have hs_N2 := below_alloc_lt hb1 | have hs_N2 := below_alloc_lt (drewB hb1) | skip); (try replace hBj := up_of hb hBj); (try replace vB := up_of hb vB); (try replace hown := up_of hb hown); (try replace o0 := up_of hb o0); (try replace o1 := up_of hb o1); (try replace o2 := up_of hb o2); (try replace v4 := up_of hb v4); (try replace v5 := up_of hb v5); (try replace v6 := up_of hb v6); (first | have nB := new_up hb1 | have nB := new_up (drewB hb1) | (try replace nB := up_of hb nB)))))
          all_goals
            have hNs := hb.size
            refine exit_world fun Z2 HZ2 => ?_
            have hB2 : Below wr.heap.size wr Z2 := by
              rw [HZ2.out]
              repeat (first | (with_reducible exact hb) | (with_reducible refine Below.drew ?_) | ((with_reducible refine Below.setC ?_ ?_); (focus (first | omega | (simp; done) | (simp; omega)))) | ((with_reducible refine Below.allo ?_ ?_); (focus (first | omega | (simp; done) | (simp; omega)))))
            first | (refine have_it (Row Z2 N2.heap.size 29 #[.int .i64 tx, .int .i64 ty, .int .i64 tz]) ?_ fun tX => ?_; (focus (rw [HZ2.out]; refine Row.of ?_; (repeat (first | (with_reducible refine RowG.base nB ?_) | (with_reducible refine RowG.drew ?_) | (with_reducible refine RowG.set ?_) | (with_reducible refine RowG.new ?_) | ((with_reducible refine RowG.other ?_ ?_); (focus (first | omega | (simp; done) | (simp; omega)))) | (with_reducible refine RowG.alloc ?_))); rfl; done))) | (refine have_it (Row Z2 wr.heap.size 29 #[.int .i64 tx, .int .i64 ty, .int .i64 tz]) ?_ fun tX => ?_; (focus (rw [HZ2.out]; refine Row.of ?_; (repeat (first | (with_reducible refine RowG.base nB ?_) | (with_reducible refine RowG.drew ?_) | (with_reducible refine RowG.set ?_) | (with_reducible refine RowG.new ?_) | ((with_reducible refine RowG.other ?_ ?_); (focus (first | omega | (simp; done) | (simp; omega)))) | (with_reducible refine RowG.alloc ?_))); rfl; done)))
            obtain ⟨b12, e12, tX, h12⟩ : ∃ b12, b12 = _ ∧ Row Z2 b12 _ _ ∧ wr.heap.size ≤ b12 := ⟨_, rfl, tX, by omega⟩
            rw [← e12]
            clear HZ2 e12
            try clear nB
            try clear hcc hff
            clear hBj vB hown o0 o1 o2 v4 v5 v6 hb
            have vB := up_of hB2 vBw.out
            have hown := up_of hB2 hownw.out
            have hBj2 := hBjw.out.trans (hB2.mono hBjw.out.size)
            clear hB2
            have t0 : Z2.drew.cell? ⟨b12, 0, none⟩ = some (.int .i64 tx) := tX.cell rfl
            have t1 : Z2.drew.cell? ⟨b12, 1, none⟩ = some (.int .i64 ty) := tX.cell rfl
            have t2 : Z2.drew.cell? ⟨b12, 2, none⟩ = some (.int .i64 tz) := tX.cell rfl
            have hsrc : ∀ (j : Nat) (v : Value), ([.int .i64 tx, .int .i64 ty, .int .i64 tz] : List Value)[j]? = some v → Z2.drew.cell? ((⟨b12, 0, none⟩ : Addr).add j) = some v := fun j v hj => by
              match j, hj with
              | 0, hj => simp at hj; subst hj; exact t0
              | 1, hj => simp at hj; subst hj; exact t1
              | 2, hj => simp at hj; subst hj; exact t2
              | k + 3, hj => simp at hj
            have vBd : Row Z2.drew V0.heap.size 57 #[.string X.name, .int .i64 X.op, .slice s4 X.args.length c4, .int .i64 X.i0, .int .i64 X.i1, .int .i64 X.i2, .int .i64 X.i3] := vB
            replace hsrc := Lib.hid hsrc
            clear t0 t1 t2
            go_upto_region 17 with (fail)
            go_region_law (refine step_copy_row rfl (.tmp 68) (.tmp 69) 53 53 rfl 3 Try.underlying53 (by kernel_rfl) V0.heap.size 4 3 3 ⟨b12, 0, none⟩ 3 3 (by simp [Act.eval, Act.put]) (by simp [Act.eval, Act.put]) _ 57 vBd [.int .i64 tx, .int .i64 ty, .int .i64 tz] rfl hsrc.out (by simp) (by simp [Value.oneCell']) ?_)
            refine exit_world fun Z3 HZ3 => ?_
            have hO3 : ∀ k, k ≠ V0.heap.size → Z3.heap[k]? = Z2.heap[k]? := fun k hk => by rw [HZ3.out]; exact setRow_other _ _ k _ hk
            have hS3 : Z2.heap.size ≤ Z3.heap.size := by rw [HZ3.out]; simp [World.setRow]
            have vZ : Row Z3 V0.heap.size 57 #[.string X.name, .int .i64 X.op, .slice s4 X.args.length c4, .int .i64 X.i0, .int .i64 tx, .int .i64 ty, .int .i64 tz] := by rw [HZ3.out]; exact setRow_heap _ _ _ _ _ _ vBd
            have hB3 : Below V0.heap.size V0 Z3 := by rw [HZ3.out]; exact below_setRow hBj2.drew (Nat.le_refl _) _
            have hown3 : Z3.ownsRow (V0.heap.size + 1) 78 4 (.slice s4 X.args.length c4) X.args.length (arE.all (X.args.map (turnA n p))) := own_upto hown fun b e => hO3 b (by have := (hown.lt b e).1; omega)
            have hTV3 := up_of hB3 hTVw.out
            have uB3 := up_of hB3 huBw.out
            have hBV3 := hBVw.out.trans (hB3.mono hBVw.out.size)
            clear HZ3 hO3 vBd hown hBj2 tX hsrc vB
            have v0 : Z3.cell? ⟨V0.heap.size, 0, none⟩ = some (.string X.name) := vZ.cell rfl
            have v1 : Z3.cell? ⟨V0.heap.size, 1, none⟩ = some (.int .i64 X.op) := vZ.cell rfl
            have v2 : Z3.cell? ⟨V0.heap.size, 2, none⟩ = some (.slice s4 X.args.length c4) := vZ.cell rfl
            have v3 : Z3.cell? ⟨V0.heap.size, 3, none⟩ = some (.int .i64 X.i0) := vZ.cell rfl
            have v4 : Z3.cell? ⟨V0.heap.size, 4, none⟩ = some (.int .i64 tx) := vZ.cell rfl
            have v5 : Z3.cell? ⟨V0.heap.size, 5, none⟩ = some (.int .i64 ty) := vZ.cell rfl
            have v6 : Z3.cell? ⟨V0.heap.size, 6, none⟩ = some (.int .i64 tz) := vZ.cell rfl
            have u2 : Z3.cell? ⟨W2.heap.size + 1, 2, none⟩ = some out := uB3.cell rfl
            have hBe2 := hBe.out
            have hlB := hTV3.le
            have hoV := hTV3.own
            have hRl2 := hRl.out
            obtain ⟨i0, hi0, hz0, hz1, hz2⟩ := info_parts info_var
            have hl3 : (X.args.map (turnA n p)).length = X.args.length := by simp
            have hsl3 : SlS arE Z3 s4 T[k].args := by
              rw [hrow.out]
              exact SlS.of_own (E := arE) (cap := c4) (l := X.args.map (turnA n p)) (by rw [hl3]; exact hown3)
            have hc3 : T[k].args.length ≤ c4 ∧ (s4 = none → c4 = 0) := by
              rw [hrow.out]
              show (X.args.map (turnA n p)).length ≤ c4 ∧ _
              rw [hl3]; exact own_cap hown3
            have hn3 : X.args.length = T[k].args.length := by rw [hrow.out]; exact hl3.symm
            have hlo3 : ∀ b o, s4 = some ⟨b, o, none⟩ → V0.heap.size ≤ b ∧ b < Z3.heap.size := fun b o e => by have := hown3.lt b (by rw [e]; rfl); omega
            have hlk3 : (⟨X.name, X.op, s4, X.args.length, c4, X.i0, tx, ty, tz⟩ : Vs).like T[k] := by
              rw [hrow.out]
              unfold Vs.like turnV
              rw [htp.out]
              exact ⟨rfl, rfl, rfl, rfl, rfl, rfl⟩
            replace hsl3 := Lib.hid hsl3; replace hlo3 := Lib.hid hlo3; replace hc3 := Lib.hid hc3; replace hn3 := Lib.hid hn3; replace hlk3 := Lib.hid hlk3
            clear hl3
            replace hTV3 := Lib.hid hTV3; replace hown3 := Lib.hid hown3
            clear hBjw vBw hownw hT4
            go_wp2_with (first | (at_builtin; refine wpList_append_own_at _ rfl _ _ 25 rfl B 57 i0 _ 7 80 Try.underlying25 hi0 hz0 hz1 hz2 rfl (by decide) _ _ _ rfl (hoV.alloc _) ⟨Z3.heap.size, 0, none⟩ 1 1 [.string X.name, .int .i64 X.op, .slice s4 X.args.length c4, .int .i64 X.i0, .int .i64 tx, .int .i64 ty, .int .i64 tz] rfl rfl (news_new _ _ _) (by simp [Value.oneCell']) (by unfold maxLen; omega) (by omega) (by simp; omega) ?_; intro vv w1 hown1 hgrow hnil hat1; have uB1 := grown_row hgrow hoV (by omega : W2.heap.size + 1 < B) uB3; have uf := fun i => Row.frozen uB1 i; have u2' : w1.cell? ⟨W2.heap.size + 1, 2, none⟩ = some out := uB1.cell rfl; obtain ⟨so, co, eo, -⟩ := owns_shape hown1; subst eo))
            clear hnil
            have hP := TV.push (x := ⟨X.name, X.op, s4, X.args.length, c4, X.i0, tx, ty, tz⟩) (v := T[k]) hTVw.out (hB3.alloc (by exact hB3.size) _) (hsl3.out.up ((Below.refl _ Z3).alloc (Nat.le_refl _) _)) hn3.out hc3.out.1 hc3.out.2 (fun b o e => ⟨(hlo3.out b o e).1, by have := (hlo3.out b o e).2; simp; omega⟩) hlk3.out hgrow hat1 hown1
            have hBw1 : Below W2.heap.size W2 w1 := (hBV3.alloc (by exact hBV3.size) _).grown hgrow (by have := hBV3.size; simp; omega) (fun g e => by have := (hoV.lt g e).1; omega)
            replace hP := Lib.hid hP
            clear hgrow hat1 hown1 hoV hTV3 hown3 hsl3 hlo3 u2 v0 v1 v2 v3 v4 v5 v6 vZ uB3
            go_roundw
            case rel =>
              refine ⟨k + 1, _, _, _, by omega, rfl, hRn, ?_, hP.out.keep (by simp [World.setCell]) (fun j hj _ => Below.heap_setCell _ _ _ _ (by show j ≠ W2.heap.size + 1; omega)), hBw1.setCell (by simp) _⟩
              refine Row.of ?_
              repeat (first | (with_reducible refine RowG.base uB1 ?_) | (with_reducible refine RowG.drew ?_) | (with_reducible refine RowG.set ?_) | ((with_reducible refine RowG.other ?_ ?_); (focus (first | omega | (simp; done) | (simp; omega)))) | (with_reducible refine RowG.alloc ?_))
              (rw [hRl.out]; rfl)
            case measure => exact meas hlt
    · obtain rfl : k = K.length := by omega
      have hRT : R0 = T := by rw [hR0.out, ← hTl.out, List.take_length]
      have hRv : ∀ v ∈ R0, v.args.length ≤ 9223372036854775807 := fun v hv => by
        obtain ⟨i, hi, rfl⟩ := List.getElem_of_mem hv
        subst hRT
        have hiK : i < K.length := by rw [← hTl.out]; exact hi
        rw [hTa.out i hiK hi]
        have := har.out _ (List.getElem_mem hiK)
        show (K[i].args.map (turnA n p)).length ≤ _
        rw [List.length_map]; omega
      subst hRT
      obtain ⟨so, co, eo, -⟩ := hTV.view hRv
      subst eo
      have hiq2 := up_of hBV hiqA.out
      have hB := hBA.out.trans (hBV.mono hBA.out.size)
      have rB := up_of hBV rA.out
      have u0 := uB.cell (i := 0) rfl
      have u1 := uB.cell (i := 1) rfl
      have u2 := uB.cell (i := 2) rfl
      have r0 := rB.cell (i := 0) rfl
      have r1 := rB.cell (i := 1) rfl
      have r2 := rB.cell (i := 2) rfl
      have rf := fun i => Row.frozen rB i
      have hBe2 := hBe.out
      have hW2s := hBA.out.size
      have hrl2 := rA.out.lt
      go_wp2
      have hCF : ∀ F, Chg (fun j => j = w.heap.size + 2) wr F → RecM F s3 LL so co R0 := fun F hC => by
        have hk : ∀ k, k ≠ w.heap.size + 2 → k < wr.heap.size → F.heap[k]? = wr.heap[k]? := fun k hk h => hC.block k h hk
        have hcm := own_capm2 hTV.own
        refine ⟨⟨owns_iq (own_upto hiq2 fun b e => hk b ?_ (hiq2.lt b e).2), hLl.out, hLw.out⟩, ?_, by omega, hcm.1, hcm.2⟩
        · have := (hiq2.lt b e).1; omega
        · have h2 := hTV.keep (V' := F) hC.size fun k hk2 hkl => hk k (by omega) hkl
          obtain ⟨so2, co2, e2, hVM2⟩ := h2.view hRv
          cases e2
          exact hVM2
      refine bodyPost_ret (results_cs rfl rfl rfl (load_rec (b1 := w.heap.size + 2) (cs := #[.int .i64 n, .slice s3 LL.length c3, .slice so R0.length co]) ?_ rfl)) rfl ⟨hend.out _ _ _ _ _ (hCF _ ?_), ?_⟩
      · refine Row.of ?_
        repeat (first | (with_reducible refine RowG.base rB ?_) | (with_reducible refine RowG.drew ?_) | (with_reducible refine RowG.set ?_) | ((with_reducible refine RowG.other ?_ ?_); (focus (first | omega | (simp; done) | (simp; omega)))) | (with_reducible refine RowG.alloc ?_))
        rfl
      · repeat (first | (with_reducible exact Chg.refl _ _) | (with_reducible refine Chg.setCell ?_ (by simp) _) | (with_reducible refine Chg.drew ?_) | (with_reducible refine Chg.alloc ?_ _))
      · repeat (first | (with_reducible exact hB) | (with_reducible refine Below.drew ?_) | ((with_reducible refine Below.setC ?_ ?_); (focus (first | omega | (simp; done) | (simp; omega)))) | ((with_reducible refine Below.allo ?_ ?_); (focus (first | omega | (simp; done) | (simp; omega)))))
theorem Turned2_c (n : Int) (s : Option Addr) (cap : Nat) (l : List Iq) (s2 : Option Addr) (cq : Nat) (K : List Vv) (p : Pt) (w : World) (hr : RecM w s l s2 cq K) (hcs : s = none → cap = 0) :
    Calls Try.prog 15 #[.agg #[.int .i64 n, .slice s l.length cap, .slice s2 K.length cq], .agg #[.int .i64 p.x, .int .i64 p.y, .int .i64 p.z]] w fun e w' => TuRet n l K p e w' ∧ Below w.heap.size w w' :=
  (Turned3_c n s cap l s2 cq K p w hr hcs).mono fun _ _ ⟨h1, h2⟩ => ⟨h1.ret, h2⟩
end Go.Proofs.Ytadmnlkgefbhcaa
