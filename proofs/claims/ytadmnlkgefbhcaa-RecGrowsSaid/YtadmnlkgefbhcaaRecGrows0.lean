/- RecGrows: the walk. -/
import Derived.Test.YtadmnlkgefbhcaaGrwLaw
import Derived.Test.YtadmnlkgefbhcaaRecLevels0
namespace Go.Proofs.Ytadmnlkgefbhcaa
open Go.RowKit Go.Maps

/-- What the rounds of RecGrows read. -/
structure GrM (W : Nat) (n : Int) (s : Option Addr) (cap : Nat) (l : List Iq) (s2 : Option Addr) (cq : Nat) (K : List Vv) (g : Nat) (sp : Option Addr) (cp mb : Nat) (P : List Pt) (bm : Nat) (sl sv : Option Addr) (LT VT : List Int) (V : World) : Prop where
  rc : RecM V s l s2 cq K
  net : Net 64 V g n s cap l s2 cq K sp cp mb P
  map : V.ownsMap Try.prog 29 (plainElem Try.prog 3) bm P.length (ptD P P.length)
  lt : SlSS intE V sl (rowsN P.length LT K.length)
  vt : SlSS intE V sv (rowsN P.length VT K.length)
  c0 : V.cell? ⟨W, 0, none⟩ = some (.int .i64 n)
  c1 : V.cell? ⟨W, 1, none⟩ = some (.slice s l.length cap)
  c2 : V.cell? ⟨W, 2, none⟩ = some (.slice s2 K.length cq)
section
variable {W : Nat} {n : Int} {s : Option Addr} {cap : Nat} {l : List Iq} {s2 : Option Addr} {cq : Nat} {K : List Vv} {g : Nat} {sp : Option Addr} {cp mb : Nat} {P : List Pt} {bm : Nat} {sl sv : Option Addr} {LT VT : List Int} {V V' : World}
theorem GrM.up (hb : Below V.heap.size V V') (h : GrM W n s cap l s2 cq K g sp cp mb P bm sl sv LT VT V) : GrM W n s cap l s2 cq K g sp cp mb P bm sl sv LT VT V' :=
  ⟨RecM.up hb h.rc, Net.up hb h.net, up_of hb h.map, up_of hb h.lt, up_of hb h.vt, up_of hb h.c0, up_of hb h.c1, up_of hb h.c2⟩
instance : UpF V V' (GrM W n s cap l s2 cq K g sp cp mb P bm sl sv LT VT V) (GrM W n s cap l s2 cq K g sp cp mb P bm sl sv LT VT V') := ⟨fun h c => GrM.up h c⟩
theorem GrM.look (h : GrM W n s cap l s2 cq K g sp cp mb P bm sl sv LT VT V) (ok : NetOk n K P) {p : Pt} {m : Nat} (hp : p.I64) (hm : pix P p = some m) :
    (Instr.lookup 61 (.map (some bm)) (.agg #[.int .i64 p.x, .int .i64 p.y, .int .i64 p.z]) false).run Try.prog V = .ok (.int .i64 (m : Int)) V := by
  have hP : ∀ q ∈ P, q.I64 := fun q hq => small_i64 (ok.pts q hq) (by omega)
  have hat := ptD_at (P := P) hp (k := P.length) (Nat.le_refl _) hP
  have hz : (zeroValue 3).run Try.prog V = .ok (.int .i64 0) V := by kernel_rfl
  have hk := key_of_pt hp
  obtain ⟨c, hrun, hc, -⟩ := h.map.lookup_int key_ptk Try.underlying61 Try.underlying3 hz hk
  have e : pixU P P.length p = some m := hm
  rw [hat.1, e] at hc
  simp only [DataW.lit.injEq, Lit.int.injEq, true_and, Option.getD_some] at hc
  rw [show c = _ from hc.symm] at hrun
  exact hrun
end
set_option maxRecDepth 100000 in
set_option maxHeartbeats 4000000 in
theorem RecGrows_w (n : Int) (s : Option Addr) (cap : Nat) (l : List Iq) (s2 : Option Addr) (cq : Nat) (K : List Vv) (w : World) (hr : RecM w s l s2 cq K) :
    Calls Try.prog 9 #[.agg #[.int .i64 n, .slice s l.length cap, .slice s2 K.length cq]] w fun e w' => e = .returned (.bool true) ∧ Below w.heap.size w w' := by
  have hwd := fun V (h : RecM V s l s2 cq K) => Wide2_c n s cap l s2 cq K 120 V h
  have hva := fun V (h : RecM V s l s2 cq K) => h.valid2 n cap
  have hsn := fun V => Sane_c V
  cases hb : recB n l K
  · rw [hb] at hva
    replace hwd := Lib.hid hwd; replace hva := Lib.hid hva; replace hsn := Lib.hid hsn
    clear hb
    go_enter Try.func9, Try.ntmps9
    go_upto_region 1 with (fail)
    refine wp_world fun W HW => ?_
    have hB : Below w.heap.size w W := by rw [HW.out]; (repeat (first | exact Below.refl _ _ | refine Below.alloc ?_ (by simp; try omega) _ | refine Below.setCell ?_ (by simp) _ | refine Below.drew ?_))
    have d0 : W.cell? ⟨w.heap.size, 0, none⟩ = some (.int .i64 n) := by rw [HW.out]; simp [go_sem]
    have d1 : W.cell? ⟨w.heap.size, 1, none⟩ = some (.slice s l.length cap) := by rw [HW.out]; simp [go_sem]
    have d2 : W.cell? ⟨w.heap.size, 2, none⟩ = some (.slice s2 K.length cq) := by rw [HW.out]; simp [go_sem]
    have dl : w.heap.size < W.heap.size := World.block_lt_of_cell? W _ d0
    try replace hr := up_of hB hr
    go_upto_region 2 with (first | (go_at_call 13; refine (hwd.out _ hr).mono ?_; rintro e W1 ⟨⟨b, rfl⟩, hb⟩; replace hB := up_of hb hB; replace hr := up_of hb hr; replace d0 := up_of hb d0; replace d1 := up_of hb d1; replace d2 := up_of hb d2; cases b) | (go_at_call 31; refine (hva.out _ hr).mono ?_; rintro e W2 ⟨rfl, hb⟩; replace hB := up_of hb hB))
    all_goals
      go_wp2_with (first | (go_at_call 14; refine (hsn.out _).mono ?_; rintro e W1 ⟨rfl, hb⟩; (try replace hr := up_of hb hr); (try replace hB := up_of hb hB); (try replace d0 := up_of hb d0); (try replace d1 := up_of hb d1); (try replace d2 := up_of hb d2); (try replace dl := up_of hb dl)))
      go_ret
      exact ⟨rfl, hB⟩
  rw [hb] at hva
  have ok := netOk hb
  by_cases hyes : okN2 K (pts n l)
  case neg =>
    have hl1 := fun V (h : RecM V s l s2 cq K) => (Levels_c n s cap l s2 cq K V h).mono (R' := fun e w' => e = .returned (.tuple #[.slice none 0 0, .int .i64 21]) ∧ Below V.heap.size V w') (fun e w' ⟨h1, h2⟩ => ⟨by
      rcases h1 with ⟨h1, -⟩ | ⟨-, -, h1⟩ | ⟨-, h1, -⟩
      · rw [hb] at h1; cases h1
      · exact h1
      · exact absurd h1 hyes, h2⟩)
    have hl2 := fun V (h : RecM V s l s2 cq K) => (Values_c n s cap l s2 cq K V h).mono (R' := fun e w' => e = .returned (.tuple #[.slice none 0 0, .int .i64 21]) ∧ Below V.heap.size V w') (fun e w' ⟨h1, h2⟩ => ⟨by
      rcases h1 with ⟨h1, -⟩ | ⟨-, -, h1⟩ | ⟨-, h1, -⟩
      · rw [hb] at h1; cases h1
      · exact h1
      · exact absurd h1 hyes, h2⟩)
    clear hb hyes ok
    replace hwd := Lib.hid hwd; replace hva := Lib.hid hva; replace hsn := Lib.hid hsn; replace hl1 := Lib.hid hl1; replace hl2 := Lib.hid hl2
    go_enter Try.func9, Try.ntmps9
    go_upto_region 1 with (fail)
    refine wp_world fun W HW => ?_
    have hB : Below w.heap.size w W := by rw [HW.out]; (repeat (first | exact Below.refl _ _ | refine Below.alloc ?_ (by simp; try omega) _ | refine Below.setCell ?_ (by simp) _ | refine Below.drew ?_))
    have d0 : W.cell? ⟨w.heap.size, 0, none⟩ = some (.int .i64 n) := by rw [HW.out]; simp [go_sem]
    have d1 : W.cell? ⟨w.heap.size, 1, none⟩ = some (.slice s l.length cap) := by rw [HW.out]; simp [go_sem]
    have d2 : W.cell? ⟨w.heap.size, 2, none⟩ = some (.slice s2 K.length cq) := by rw [HW.out]; simp [go_sem]
    have dl : w.heap.size < W.heap.size := World.block_lt_of_cell? W _ d0
    try replace hr := up_of hB hr
    go_upto_region 2 with (first | (go_at_call 13; refine (hwd.out _ hr).mono ?_; rintro e W1 ⟨⟨b, rfl⟩, hb⟩; replace hB := up_of hb hB; replace hr := up_of hb hr; replace d0 := up_of hb d0; replace d1 := up_of hb d1; replace d2 := up_of hb d2; cases b) | (go_at_call 31; refine (hva.out _ hr).mono ?_; rintro e W2 ⟨rfl, hb⟩; replace hB := up_of hb hB; replace hr := up_of hb hr; replace d0 := up_of hb d0; replace d1 := up_of hb d1; replace d2 := up_of hb d2))
    all_goals
      go_wp2_with (first | (go_at_call 27; refine (hl1.out _ hr).mono ?_; rintro e W1 ⟨rfl, hb⟩; (try replace hr := up_of hb hr); (try replace hB := up_of hb hB); (try replace d0 := up_of hb d0); (try replace d1 := up_of hb d1); (try replace d2 := up_of hb d2); (try replace dl := up_of hb dl)) | (go_at_call 29; refine (hl2.out _ hr).mono ?_; rintro e W1 ⟨rfl, hb⟩; (try replace hr := up_of hb hr); (try replace hB := up_of hb hB); (try replace d0 := up_of hb d0); (try replace d1 := up_of hb d1); (try replace d2 := up_of hb d2); (try replace dl := up_of hb dl)) | (go_at_call 14; refine (hsn.out _).mono ?_; rintro e W1 ⟨rfl, hb⟩; (try replace hr := up_of hb hr); (try replace hB := up_of hb hB); (try replace d0 := up_of hb d0); (try replace d1 := up_of hb d1); (try replace d2 := up_of hb d2); (try replace dl := up_of hb dl)))
      go_ret
      exact ⟨rfl, hB⟩
  have hl1 := fun V (h : RecM V s l s2 cq K) => (Levels_c n s cap l s2 cq K V h).mono (R' := fun e w' => (∃ s' c', e = .returned (.tuple #[.slice s' K.length c', .int .i64 0]) ∧ SlSS intE w' s' (rowsN (pts n l).length (lvsL K (pts n l)) K.length)) ∧ Below V.heap.size V w') (fun e w' ⟨h1, h2⟩ => ⟨by
    rcases h1 with ⟨h1, -⟩ | ⟨-, h1, -⟩ | ⟨-, -, h1⟩
    · rw [hb] at h1; cases h1
    · exact absurd hyes h1
    · exact h1, h2⟩)
  have hl2 := fun V (h : RecM V s l s2 cq K) => (Values_c n s cap l s2 cq K V h).mono (R' := fun e w' => (∃ s' c', e = .returned (.tuple #[.slice s' K.length c', .int .i64 0]) ∧ SlSS intE w' s' (rowsN (pts n l).length (vlsL K (pts n l)) K.length)) ∧ Below V.heap.size V w') (fun e w' ⟨h1, h2⟩ => ⟨by
    rcases h1 with ⟨h1, -⟩ | ⟨-, h1, -⟩ | ⟨-, -, h1⟩
    · rw [hb] at h1; cases h1
    · exact absurd hyes h1
    · exact h1, h2⟩)
  have hof := fun V (h : RecM V s l s2 cq K) => Of_c n s cap l s2 cq K V h ok.dim ok
  have hfi := fun (v : Nat) (hv : v < K.length) (a : Ar) (ha : a ∈ K[v].args) (p : Pt) (hp : p ∈ pts n l) V (h : RecM V s l s2 cq K) => (by have := First_c n s cap l s2 cq K a.v (ptP p a.p) V h; rw [fir_arg hb hv ha hp] at this; exact this : Calls Try.prog 20 #[.agg #[.int .i64 n, .slice s l.length cap, .slice s2 K.length cq], .int .i64 a.v, .agg #[.int .i64 (ptP p a.p).x, .int .i64 (ptP p a.p).y, .int .i64 (ptP p a.p).z]] V fun e w' => e = .returned (.tuple #[.int .i64 (frst (vat K a.v.toNat) (ptP p a.p)), .int .i64 0]) ∧ Below V.heap.size V w')
  obtain ⟨P, hP⟩ : ∃ P, pts n l = P := ⟨_, rfl⟩
  simp only [hP] at hl1 hl2 hof ok hfi
  rw [hP] at hyes
  clear hP hb
  have hyes2 : ∀ k, k < K.length * P.length → Gd (useN K P) k := hyes
  have hlA := fun k (hk : k < K.length * P.length) => lvl_arg (hyes2 k hk)
  have hvA := fun k (hk : k < K.length * P.length) => vlN_arg (hyes2 k hk)
  have hvb := fun k (hk : k < K.length * P.length) => vlN_bd (hyes2 k hk)
  have hlb := fun k (hk : k < K.length * P.length) => lvl_bd (fun k _ => ok.use_lt k) hk (hyes2 k hk)
  have hlat := fun k (hk : k < K.length * P.length) => lvsL_at (K := K) (P := P) hk
  have hvat := fun k (hk : k < K.length * P.length) => vlsL_at (K := K) (P := P) hk
  have hLl := lvsL_len K P
  have hVl := vlsL_len K P
  have hNs := ok.size
  have hPl := ok.len
  have hK4 := ok.vars
  have hI : ∀ q ∈ P, q.I64 := fun q hq => small_i64 (ok.pts q hq) (by omega)
  have hmm := @run_makeMap Try.prog
  obtain ⟨LT, hLT⟩ : ∃ x, lvsL K P = x := ⟨_, rfl⟩
  obtain ⟨VT, hVT⟩ : ∃ x, vlsL K P = x := ⟨_, rfl⟩
  simp only [hLT] at hl1 hlat hLl
  simp only [hVT] at hl2 hvat hVl
  clear hLT hVT hyes
  have hnum := fun v i (hv : v < K.length) (hi : i < P.length) => vOf_num (K := K) (P := P) hv hi
  have hnlt := fun v i (hv : v < K.length) (hi : i < P.length) => numb_lt (K := K.length) (P := P.length) hv hi
  have hL1 := rowsN_len P.length LT K.length
  have hV1 := rowsN_len P.length VT K.length
  replace hwd := Lib.hid hwd; replace hva := Lib.hid hva; replace hsn := Lib.hid hsn; replace hl1 := Lib.hid hl1; replace hl2 := Lib.hid hl2; replace hof := Lib.hid hof; replace hfi := Lib.hid hfi; replace ok := Lib.hid ok; replace hyes2 := Lib.hid hyes2; replace hlA := Lib.hid hlA; replace hvA := Lib.hid hvA; replace hvb := Lib.hid hvb; replace hlb := Lib.hid hlb; replace hlat := Lib.hid hlat; replace hvat := Lib.hid hvat; replace hLl := Lib.hid hLl; replace hVl := Lib.hid hVl; replace hI := Lib.hid hI; replace hnum := Lib.hid hnum; replace hnlt := Lib.hid hnlt; replace hL1 := Lib.hid hL1; replace hV1 := Lib.hid hV1
  go_enter Try.func9, Try.ntmps9
  go_upto_region 1 with (fail)
  refine wp_world fun W HW => ?_
  have hB : Below w.heap.size w W := by rw [HW.out]; (repeat (first | exact Below.refl _ _ | refine Below.alloc ?_ (by simp; try omega) _ | refine Below.setCell ?_ (by simp) _ | refine Below.drew ?_))
  have d0 : W.cell? ⟨w.heap.size, 0, none⟩ = some (.int .i64 n) := by rw [HW.out]; simp [go_sem]
  have d1 : W.cell? ⟨w.heap.size, 1, none⟩ = some (.slice s l.length cap) := by rw [HW.out]; simp [go_sem]
  have d2 : W.cell? ⟨w.heap.size, 2, none⟩ = some (.slice s2 K.length cq) := by rw [HW.out]; simp [go_sem]
  have dl : w.heap.size < W.heap.size := World.block_lt_of_cell? W _ d0
  try replace hr := up_of hB hr
  go_upto_region 2 with (first | (go_at_call 13; refine (hwd.out _ hr).mono ?_; rintro e W1 ⟨⟨b, rfl⟩, hb⟩; replace hB := up_of hb hB; replace hr := up_of hb hr; replace d0 := up_of hb d0; replace d1 := up_of hb d1; replace d2 := up_of hb d2; cases b) | (go_at_call 31; refine (hva.out _ hr).mono ?_; rintro e W2 ⟨rfl, hb⟩; replace hB := up_of hb hB; replace hr := up_of hb hr; replace d0 := up_of hb d0; replace d1 := up_of hb d1; replace d2 := up_of hb d2))
  rotate_left
  · go_wp2_with (first | (go_at_call 14; refine (hsn.out _).mono ?_; rintro e W1 ⟨rfl, hb⟩; (try replace hr := up_of hb hr); (try replace hB := up_of hb hB); (try replace d0 := up_of hb d0); (try replace d1 := up_of hb d1); (try replace d2 := up_of hb d2); (try replace dl := up_of hb dl)))
    go_ret
    exact ⟨rfl, hB⟩
  have hKb : ((K.length : Int) != K.length) = false := by simp
  go_upto_region 4 with (first | (go_at_call 27; refine (hl1.out _ hr).mono ?_; rintro e W3 ⟨⟨sl, cl, rfl, hsl⟩, hb⟩; (try replace hr := up_of hb hr); (try replace hB := up_of hb hB); (try replace d0 := up_of hb d0); (try replace d1 := up_of hb d1); (try replace d2 := up_of hb d2); (try replace dl := up_of hb dl)))
  go_upto_region 5 with (first | (go_at_call 29; refine (hl2.out _ hr).mono ?_; rintro e W4 ⟨⟨sv, cv, rfl, hsv⟩, hb⟩; (try replace hr := up_of hb hr); (try replace hB := up_of hb hB); (try replace d0 := up_of hb d0); (try replace d1 := up_of hb d1); (try replace d2 := up_of hb d2); (try replace dl := up_of hb dl); (try replace hsl := up_of hb hsl)))
  go_upto_region 10 with (first | (go_at_call 34; refine (hof.out _ hr).mono ?_; rintro e A ⟨⟨g, sp, cp, mb, rfl, hnt⟩, hb⟩; (try replace hr := up_of hb hr); (try replace hB := up_of hb hB); (try replace d0 := up_of hb d0); (try replace d1 := up_of hb d1); (try replace d2 := up_of hb d2); (try replace dl := up_of hb dl); (try replace hsl := up_of hb hsl); (try replace hsv := up_of hb hsv)))
  obtain ⟨n0, n1, n2, n3, n4⟩ := hnt.cells
  obtain ⟨lb, lo, lsa, lsc, rfl, -⟩ := tab_hdr hsl hLl.out (v := 0) (by omega)
  obtain ⟨vb, vo, vsa, vsc, rfl, -⟩ := tab_hdr hsv hVl.out (v := 0) (by omega)
  go_upto_region 11 with (fail)
  refine wp_world fun Y HY => ?_
  have hBY : Below A.heap.size A Y := by
    rw [HY.out]
    repeat (first | (with_reducible exact Below.refl _ _) | (with_reducible refine Below.drew ?_) | ((with_reducible refine Below.setC ?_ ?_); (focus (first | omega | (simp; done) | (simp; omega)))) | ((with_reducible refine Below.allo ?_ ?_); (focus (first | omega | (simp; done) | (simp; omega)))))
  have hM0 : Y.ownsMap Try.prog 29 (plainElem Try.prog 3) A.heap.size 0 (ptD P 0) := by
    rw [HY.out]; exact World.ownsMap_made _ _ _ _
  clear HY n0 n1 n2 n4
  have hnA := Lib.hid hnt
  have hrA := Lib.hid hr
  have hBA := Lib.hid hB
  have hlA2 := Lib.hid hsl
  have hvA2 := Lib.hid hsv
  have dA := Lib.hid (And.intro d0 (And.intro d1 d2))
  clear hnt hr hB hsl hsv d0 d1 d2 n3 dl
  go_wp2
  go_loopw [9] (fun ii V => ∃ k : Nat, k ≤ P.length ∧ ii = .int .i64 k ∧ V.ownsMap Try.prog 29 (plainElem Try.prog 3) A.heap.size k (ptD P k) ∧ Below A.heap.size A V) (fun ii _ => P.length - (intOf ii).toNat)
  case atStart => exact ⟨0, by omega, rfl, hM0, hBY⟩
  case round =>
    clear hM0 hBY
    obtain ⟨k, hk, rfl, hown, hBV⟩ := hrel
    have hnt := up_of hBV hnA.out
    have n3 : wr.cell? ⟨g, 3, none⟩ = some (.slice sp P.length cp) := hnt.cells.2.2.2.1
    by_cases hlt : k < P.length
    · obtain ⟨pb, po, ep, hpb, p0, p1, p2⟩ := pt_at hnt.pts hlt
      obtain ⟨pb2, po2, ep2, -⟩ := pt_at hnA.out.pts hlt
      cases ep2; cases ep
      have hPk := hI.out _ (List.getElem_mem hlt)
      have hput := ptD_put hlt
      have hkey := key_of_pt hPk
      obtain ⟨⟨x, y, z⟩, hp⟩ : ∃ p, P[k] = p := ⟨_, rfl⟩
      rw [hp] at p0 p1 p2 hput hkey
      unfold pvK at hkey
      have i1 : (0 : Int) ≤ (k : Int) := by omega
      have i2 : (k : Int) < (P.length : Int) := by omega
      replace hput := Lib.hid hput; replace hkey := Lib.hid hkey; replace hp := Lib.hid hp
      clear hPk
      go_upto_region 13 with (at_mapUpdate; refine wpList_mapUpdate_own _ rfl _ _ _ 61 rfl 29 3 key_ptk Try.underlying61 _ A.heap.size k (ptD P k) rfl hown (by unfold maxLen; omega) _ _ _ rfl rfl hkey.out (.lit (.int .i64 (k : Int))) [] (plainElem_int (H := Unit) Try.underlying3 (a := (k : Int)) (wf_64 ⟨by omega, by omega⟩)) ?_; intro w9 hown9 hgrow9)
      have hB9 : Below A.heap.size A w9 := hBV.grown hgrow9 (by have := hBV.size; omega) (fun j e => by cases e; omega)
      rw [← hput.out] at hown9
      clear hown hBV hnt n3 p0 p1 p2
      go_wp2
      go_roundw
      case rel => exact ⟨k + 1, by omega, rfl, hown9, hB9⟩
      case measure => exact meas hlt
    · obtain rfl : k = P.length := by omega
      obtain ⟨bm, hbm⟩ : ∃ b, A.heap.size = b := ⟨_, rfl⟩
      have hG : GrM w.heap.size n s cap l s2 cq K g sp cp mb P bm (some ⟨lb, lo, none⟩) (some ⟨vb, vo, none⟩) LT VT wr := by
        rw [← hbm]
        exact ⟨up_of hBV hrA.out, hnt, hown, up_of hBV hlA2.out, up_of hBV hvA2.out, up_of hBV dA.out.1, up_of hBV dA.out.2.1, up_of hBV dA.out.2.2⟩
      have hB := hBA.out.trans (hBV.mono hBA.out.size)
      obtain ⟨U, hU⟩ : ∃ U, U = wr := ⟨wr, rfl⟩
      have hGU := Lib.hid (show GrM w.heap.size n s cap l s2 cq K g sp cp mb P bm (some ⟨lb, lo, none⟩) (some ⟨vb, vo, none⟩) LT VT U by rw [hU]; exact hG)
      have hBU := Lib.hid (show Below w.heap.size w U by rw [hU]; exact hB)
      have h00 : Below U.heap.size U wr := by rw [hU]; exact Below.refl _ _
      have c0 := hG.c0
      have c2 := hG.c2
      rw [hbm]
      replace hU := Lib.hid hU; replace hbm := Lib.hid hbm
      clear hown hBV hnt hG hB
      go_wp2
      go_loopw [10] (fun ii V => ∃ i : Nat, i ≤ K.length ∧ ii = .int .i64 i ∧ Below U.heap.size U V) (fun ii _ => K.length - (intOf ii).toNat)
      case atStart => exact ⟨0, by omega, rfl, h00⟩
      case round =>
        clear h00 c0 c2 n3
        obtain ⟨i, hi, rfl, hBV⟩ := hrel
        have hG := up_of hBV hGU.out
        have d0 := hG.c0
        have d2 := hG.c2
        have n0 : wr.cell? ⟨g, 3, none⟩ = some (.slice sp P.length cp) := hG.net.cells.2.2.2.1
        have hB := hBU.out.trans (hBV.mono hBU.out.size)
        by_cases hlt2 : i < K.length
        · obtain ⟨b1, o1, lsa, lsc, e1, l0⟩ := tab_hdr hG.lt hLl.out hlt2
          cases e1
          obtain ⟨b1, o1, vsa, vsc, e1, v0⟩ := tab_hdr hG.vt hVl.out hlt2
          cases e1
          have hPb : ((P.length : Int) != P.length) = false := by simp
          have i1 : (i : Int) < (K.length : Int) := by omega
          have i0 : (0 : Int) ≤ (i : Int) := by omega
          go_upto_region 18 with (fail)
          try have ld_l0 := World.block_lt_of_cell? _ _ l0
          try have ld_v0 := World.block_lt_of_cell? _ _ v0
          try have ld_n0 := World.block_lt_of_cell? _ _ n0
          refine region_q (by kernel_rfl) (by kernel_rfl) ?_
          dsimp only [List.toList_toArray]
          repeat (first
           | go_big_quiet_skip
           | (go_big_quiet_want
              first
              | (refine qq_det ?_
                 apply Exists.intro; refine ⟨fun W' hW' => ?_, ?_⟩
                 (· have hk := cellB hW'; go_simp; try (first | rfl | rw [if_pos (by omega)]))
                 simp only [Act.put, List.setIfInBounds_toArray, List.set_cons_zero, List.set_cons_succ]; go_big_quiet_on)))
          refine wpQuiet_nil ?_
          intro X1 hb
          try replace l0 := up_of hb l0
          try replace v0 := up_of hb v0
          try replace n0 := up_of hb n0
          try replace hBV := up_of hb hBV
          go_wp2
          go_roundw
          case rel => exact ⟨i + 1, by omega, rfl, hBV⟩
          case measure => exact meas hlt2
        · obtain rfl : i = K.length := by omega
          have h00 := hBV
          clear hBV hG hB n0
          go_wp2
          go_loopw [11] (fun ii V => ∃ v : Nat, v ≤ K.length ∧ ii = .int .i64 v ∧ Below U.heap.size U V) (fun ii _ => K.length - (intOf ii).toNat)
          case atStart => exact ⟨0, by omega, rfl, h00⟩
          case round =>
            clear h00 d0 d2
            obtain ⟨v, hv, rfl, hBV⟩ := hrel
            have hG := up_of hBV hGU.out
            have d0 := hG.c0
            have d2 := hG.c2
            have hB := hBU.out.trans (hBV.mono hBU.out.size)
            by_cases hltv : v < K.length
            · clear d0 hB hG
              have hVU := Lib.hid hBV
              have h00 := Below.refl wr.heap.size wr
              obtain ⟨U2, hU2⟩ : ∃ U2, U2 = wr := ⟨wr, rfl⟩
              rw [← hU2] at hVU
              have h02 : Below U2.heap.size U2 wr := by rw [hU2]; exact h00
              have n3 : wr.cell? ⟨g, 3, none⟩ = some (.slice sp P.length cp) := (up_of hBV hGU.out).net.cells.2.2.2.1
              replace hU2 := Lib.hid hU2
              clear hBV h00
              go_wp2
              go_loopw [12] (fun ii V => ∃ i : Nat, i ≤ P.length ∧ ii = .int .i64 i ∧ Below U2.heap.size U2 V) (fun ii _ => P.length - (intOf ii).toNat)
              case atStart => exact ⟨0, by omega, rfl, h02⟩
              case round =>
                clear h02 n3 d2
                obtain ⟨i, hi, rfl, hBV2⟩ := hrel
                have hBV := hVU.out.trans (hBV2.mono hVU.out.size)
                have hG := up_of hBV hGU.out
                have n3 : wr.cell? ⟨g, 3, none⟩ = some (.slice sp P.length cp) := hG.net.cells.2.2.2.1
                by_cases hlti : i < P.length
                · obtain ⟨bk2, ok3, sa2, ca2, e3, -⟩ := hGU.out.rc.vars.at hltv
                  cases e3
                  obtain ⟨pb2, po2, ep2, -⟩ := pt_at hGU.out.net.pts hlti
                  cases ep2
                  obtain ⟨pb, po, ep, hpb, p0, p1, p2⟩ := pt_at hG.net.pts hlti
                  cases ep
                  have hkk := hnlt.out v i hltv hlti
                  obtain ⟨hvO, hpO⟩ := hnum.out v i hltv hlti
                  have hlk := hlA.out _ hkk
                  have hvk := hvA.out _ hkk
                  rw [hvO, hpO] at hlk hvk
                  have hps := ok.out.pts _ (List.getElem_mem hlti)
                  have hpm := List.getElem_mem hlti
                  have hF := fun a ha V (h : GrM w.heap.size n s cap l (some ⟨bk2, ok3, none⟩) cq K g (some ⟨pb2, po2, none⟩) cp mb P bm (some ⟨lb, lo, none⟩) (some ⟨vb, vo, none⟩) LT VT V) => hfi.out v hltv a ha P[i] hpm V h.rc
                  have hA := fun j hj V (h : GrM w.heap.size n s cap l (some ⟨bk2, ok3, none⟩) cq K g (some ⟨pb2, po2, none⟩) cp mb P bm (some ⟨lb, lo, none⟩) (some ⟨vb, vo, none⟩) LT VT V) => rArg_c v j P[i] V h.net ok.out hltv hj hps
                  have hops := ok.out.op _ (List.getElem_mem hltv)
                  have hsh := ok.out.shift _ (List.getElem_mem hltv)
                  have hav := ok.out.var _ (List.getElem_mem hltv)
                  have ha3 := ok.out.args _ (List.getElem_mem hltv)
                  have hVbK : Vb (K[v].args.map (argV K P (vlN K P) P[i])) := by
                    intro y hy
                    obtain ⟨a, ha, rfl⟩ := List.mem_map.1 hy
                    unfold argV
                    cases e : argN P a P[i] with
                    | none => exact frst_bd _ _
                    | some u => exact hvb.out u (argN_lt (hav a ha) e)
                  obtain ⟨b1, o1, lba, loa, lsc, e1, l0, m0⟩ := tab_cell hG.lt hLl.out hltv hlti
                  cases e1
                  obtain ⟨b1, o1, vba, voa, vsc, e1, v0, y0⟩ := tab_cell hG.vt hVl.out hltv hlti
                  cases e1
                  rw [hlat.out _ hkk] at m0
                  rw [hvat.out _ hkk] at y0
                  obtain ⟨X, hX⟩ : ∃ x, K[v] = x := ⟨_, rfl⟩
                  obtain ⟨p, hpp⟩ : ∃ x, P[i] = x := ⟨_, rfl⟩
                  simp only [hX, hpp] at hF hA
                  rw [hX, hpp] at hlk hvk hVbK
                  rw [hX] at hops hsh hav ha3
                  rw [hpp] at p0 p1 p2 hps hpm
                  obtain ⟨AV, hAV⟩ : ∃ x, X.args.map (argV K P (vlN K P) p) = x := ⟨_, rfl⟩
                  have hAl : AV.length = X.args.length := by rw [← hAV]; simp
                  have hAj : ∀ j (hj : j < X.args.length) (hj' : j < AV.length), AV[j] = argV K P (vlN K P) p X.args[j] := fun j hj hj' => by subst hAV; exact List.getElem_map ..
                  rw [hAV] at hvk hVbK
                  have hap := fun V sr cr (hs : SlS intE V sr AV) => Apply_c X.op sr cr AV V hs hVbK hops.2 (by rw [hAl]; exact hops.1)
                  simp only [← hvk] at hap
                  obtain ⟨kk, hkk0⟩ : ∃ x, v * P.length + i = x := ⟨_, rfl⟩
                  simp only [hkk0] at m0 y0 hlk hap
                  obtain ⟨vlk, hvlk⟩ : ∃ x, vlN K P kk = x := ⟨_, rfl⟩
                  rw [hvlk] at y0
                  simp only [hvlk] at hap
                  obtain ⟨lvk, hlvk⟩ : ∃ x, lvl (useN K P) kk = x := ⟨_, rfl⟩
                  rw [hlvk] at m0 hlk
                  obtain ⟨px, py, pz⟩ := p
                  simp only at p0 p1 p2
                  have i1 : (0 : Int) ≤ (i : Int) := by omega
                  have i2 : (i : Int) < (P.length : Int) := by omega
                  have j1 : (0 : Int) ≤ (v : Int) := by omega
                  have j2 : (v : Int) < (K.length : Int) := by omega
                  replace hlk := Lib.hid hlk; replace hvk := Lib.hid hvk; replace hps := Lib.hid hps; replace hpm := Lib.hid hpm; replace hF := Lib.hid hF; replace hA := Lib.hid hA; replace hops := Lib.hid hops; replace hsh := Lib.hid hsh; replace hav := Lib.hid hav; replace ha3 := Lib.hid ha3; replace hVbK := Lib.hid hVbK; replace hX := Lib.hid hX; replace hpp := Lib.hid hpp; replace hAV := Lib.hid hAV; replace hAl := Lib.hid hAl; replace hAj := Lib.hid hAj; replace hap := Lib.hid hap; replace hkk0 := Lib.hid hkk0; replace hvlk := Lib.hid hvlk; replace hlvk := Lib.hid hlvk; replace hkk := Lib.hid hkk; replace hvO := Lib.hid hvO; replace hpO := Lib.hid hpO
                  go_upto_region 27 with (fail)
                  refine wp_world fun Y2 HY2 => ?_
                  have hY2 : Below wr.heap.size wr Y2 := by rw [HY2.out]; (repeat (first | exact Below.refl _ _ | refine Below.alloc ?_ (by simp; try omega) _ | refine Below.setCell ?_ (by simp) _ | refine Below.drew ?_))
                  have e0 : Y2.cell? ⟨wr.heap.size, 0, none⟩ = some (.int .i64 v) := by rw [HY2.out]; simp [go_sem]
                  have e1 : Y2.cell? ⟨wr.heap.size, 1, none⟩ = some (.int .i64 px) := by rw [HY2.out]; simp [go_sem]
                  have e2 : Y2.cell? ⟨wr.heap.size, 2, none⟩ = some (.int .i64 py) := by rw [HY2.out]; simp [go_sem]
                  have e3 : Y2.cell? ⟨wr.heap.size, 3, none⟩ = some (.int .i64 pz) := by rw [HY2.out]; simp [go_sem]
                  have el : wr.heap.size < Y2.heap.size := World.block_lt_of_cell? Y2 _ e0
                  try replace hG := up_of hY2 hG
                  try replace hBV2 := up_of hY2 hBV2
                  try replace l0 := up_of hY2 l0
                  try replace m0 := up_of hY2 m0
                  try replace v0 := up_of hY2 v0
                  try replace y0 := up_of hY2 y0
                  have hGY := Lib.hid hG
                  have hBY2 := Lib.hid hBV2
                  have hTY := Lib.hid (And.intro l0 (And.intro m0 (And.intro v0 y0)))
                  have heY := Lib.hid (And.intro e0 (And.intro e1 (And.intro e2 e3)))
                  have d0 := hG.c0
                  have d2 := hG.c2
                  obtain ⟨bk, ok2, sa, ca, e9, hbk, q0, q1, q2, q3, q4, q5, q6, hsa, hla, -, -⟩ := hG.rc.vars.at hltv
                  cases e9
                  rw [hX.out] at q2 hsa
                  have hYn : Y2.ownsRow Y2.heap.size 3 1 (.slice none 0 0) 0 (intE.all []) := World.ownsRow_nil _ _ _ _
                  have h0l : (1 : Nat) = lvA K P ⟨px, py, pz⟩ (X.args.take 0) 1 := by simp [lvA]
                  replace h0l := Lib.hid h0l
                  clear hBV2 hBV hVU p0 p1 p2 n3 l0 m0 v0 y0 e0 e1 e2 e3 el HY2
                  go_wp2
                  go_loopw [14, 15, 16] (fun lv row jj V => ∃ (j lev : Nat) (r : List Int), j ≤ X.args.length ∧ jj = .int .i64 j ∧ lv = .int .i64 lev ∧ Hid (lev = lvA K P ⟨px, py, pz⟩ (X.args.take j) 1) ∧ Hid (r = AV.take j) ∧ lev ≤ 4001 ∧ V.ownsRow Y2.heap.size 3 1 row r.length (intE.all r) ∧ Below Y2.heap.size Y2 V) (fun _ _ jj _ => X.args.length - (intOf jj).toNat)
                  case atStart => exact ⟨0, 1, [], by omega, rfl, rfl, h0l, Lib.hid (by simp), by omega, hYn, Below.refl _ _⟩
                  case round =>
                    clear hYn h0l d0 d2 q0 q1 q2 q3 q4 q5 q6 hsa hG
                    obtain ⟨j, lev, r, hj, rfl, rfl, hlev, hrr, hl4, hown, hBW⟩ := hrel
                    have hG := up_of hBW hGY.out
                    have d0 := hG.c0
                    have d1 := hG.c1
                    have d2 := hG.c2
                    obtain ⟨bk, ok2, sa, ca, e9, hbk, q0, q1, q2, q3, q4, q5, q6, hsa, hla, -, -⟩ := hG.rc.vars.at hltv
                    cases e9
                    rw [hX.out] at q0 q1 q2 q3 q4 q5 q6 hsa hla
                    have hBWs := hBW.size
                    by_cases hlj : j < X.args.length
                    · have hIA := fun V (h : GrM w.heap.size n s cap l (some ⟨bk2, ok3, none⟩) cq K g (some ⟨pb2, po2, none⟩) cp mb P bm (some ⟨lb, lo, none⟩) (some ⟨vb, vo, none⟩) LT VT V) => rIs_c (argE ⟨px, py, pz⟩ X.args[j]) V h.net ok.out (small_i64 (ptP_small hps.out (hsh.out _ (List.getElem_mem hlj))) (by omega))
                      have hArg := fun V h => hA.out j hlj V h
                      have hFir := fun V h => hF.out X.args[j] (List.getElem_mem hlj) V h
                      have hvv := hav.out _ (List.getElem_mem hlj)
                      have hiv : bw 0 (argE ⟨px, py, pz⟩ X.args[j]).v (K.length - 1) = true := hvv
                      simp only [hiv, Bool.and_true] at hIA
                      have hq := ptP_small hps.out (hsh.out _ (List.getElem_mem hlj))
                      have hjA : j < AV.length := by rw [hAl.out]; exact hlj
                      have hcj := hAj.out j hlj hjA
                      have hrn : r ++ [AV[j]] = AV.take (j + 1) := by rw [hrr.out, List.take_succ_eq_append_getElem hjA]
                      have hrl : r.length = j := by rw [hrr.out, List.length_take]; omega
                      have hlsn := lvA_snoc K P ⟨px, py, pz⟩ (X.args.take j) X.args[j] 1
                      rw [← List.take_succ_eq_append_getElem hlj, ← hlev.out] at hlsn
                      obtain ⟨a, ha⟩ : ∃ x, X.args[j] = x := ⟨_, rfl⟩
                      simp only [ha] at hIA hArg hFir
                      rw [ha] at hcj hlsn hvv hq
                      obtain ⟨av, hav2⟩ : ∃ m : Nat, a.v = m := ⟨a.v.toNat, by have := bw_iff.1 hvv; omega⟩
                      have hav3 : av < K.length := by have := bw_iff.1 hvv; omega
                      have haN : argN P a ⟨px, py, pz⟩ = (pix P (ptP ⟨px, py, pz⟩ a.p)).map fun i => a.v.toNat * P.length + i := rfl
                      unfold argV at hcj
                      rw [haN] at hcj hlsn
                      simp only [argE] at hIA hArg
                      obtain ⟨⟨rx, ry, rz⟩, hrp⟩ : ∃ x, ptP ⟨px, py, pz⟩ a.p = x := ⟨_, rfl⟩
                      simp only [hrp, hav2, Int.toNat_natCast] at hIA hArg hFir hcj hlsn
                      rw [hrp] at hq
                      have hrI : (⟨rx, ry, rz⟩ : Pt).I64 := small_i64 hq (by omega)
                      obtain ⟨cj, hcj0⟩ : ∃ x, AV[j] = x := ⟨_, rfl⟩
                      rw [hcj0] at hcj hrn
                      have hr3 : r.length ≤ 3 := by have := ha3.out; omega
                      have t1 : (0 : Int) ≤ (j : Int) := by omega
                      have t2 : (j : Int) < (X.args.length : Int) := by omega
                      have a1' : (0 : Int) ≤ (av : Int) := by omega
                      have a2' : (av : Int) < (K.length : Int) := by omega
                      obtain ⟨e0, e1, e2, e3⟩ := heY.out
                      replace e0 := up_of hBW e0; replace e1 := up_of hBW e1; replace e2 := up_of hBW e2; replace e3 := up_of hBW e3
                      obtain ⟨i0, hi0, hz0, hz1, hz2⟩ := info_parts info_int
                      replace hIA := Lib.hid hIA; replace hArg := Lib.hid hArg; replace hFir := Lib.hid hFir; replace hcj := Lib.hid hcj; replace hrn := Lib.hid hrn; replace hrl := Lib.hid hrl; replace hlsn := Lib.hid hlsn; replace ha := Lib.hid ha; replace hav2 := Lib.hid hav2; replace hrp := Lib.hid hrp; replace hcj0 := Lib.hid hcj0; replace hvv := Lib.hid hvv; replace hiv := Lib.hid hiv
                      clear haN hlev hrr
                      cases hpx : pix P ⟨rx, ry, rz⟩ with
                      | some m9 =>
                        have hin1 : isIn P ⟨(av : Int), ⟨rx, ry, rz⟩⟩ = true := by unfold isIn; rw [hpx]; rfl
                        have hm9 := (pix_some hpx).1
                        have hcj2 := hcj.out
                        have hls2 := hlsn.out
                        simp only [hpx, Option.map_some] at hcj2 hls2
                        have hI2 := hIA.out
                        simp only [hin1] at hI2
                        have hu := hnlt.out av m9 hav3 hm9
                        have hlu := hlat.out _ hu
                        have hvu := hvat.out _ hu
                        have hlub := hlb.out _ hu
                        have htl := fun V (h : GrM w.heap.size n s cap l (some ⟨bk2, ok3, none⟩) cq K g (some ⟨pb2, po2, none⟩) cp mb P bm (some ⟨lb, lo, none⟩) (some ⟨vb, vo, none⟩) LT VT V) => tab_cell h.lt hLl.out hav3 hm9
                        have htv := fun V (h : GrM w.heap.size n s cap l (some ⟨bk2, ok3, none⟩) cq K g (some ⟨pb2, po2, none⟩) cp mb P bm (some ⟨lb, lo, none⟩) (some ⟨vb, vo, none⟩) LT VT V) => tab_cell h.vt hVl.out hav3 hm9
                        simp only [hlu] at htl
                        simp only [hvu, ← hcj2] at htv
                        obtain ⟨lu, hlu0⟩ : ∃ x, lvl (useN K P) (av * P.length + m9) = x := ⟨_, rfl⟩
                        simp only [hlu0] at htl hls2 hlub
                        have hlk := fun V (h : GrM w.heap.size n s cap l (some ⟨bk2, ok3, none⟩) cq K g (some ⟨pb2, po2, none⟩) cp mb P bm (some ⟨lb, lo, none⟩) (some ⟨vb, vo, none⟩) LT VT V) => h.look ok.out hrI hpx
                        have u1 : (0 : Int) ≤ (m9 : Int) := by omega
                        have u2 : (m9 : Int) < (P.length : Int) := by omega
                        have wl : IntKind.i64.wrap ((lu : Int) + 1) = (lu : Int) + 1 := i64_small (by omega)
                        replace hI2 := Lib.hid hI2; replace htl := Lib.hid htl; replace htv := Lib.hid htv; replace hlk := Lib.hid hlk; replace hls2 := Lib.hid hls2; replace hlu0 := Lib.hid hlu0; replace hpx := Lib.hid hpx; replace hrI := Lib.hid hrI; replace hq := Lib.hid hq
                        clear hcj2 hu hlu hvu hin1 hcj hlsn hIA hFir
                        obtain ⟨b1, o1, lba, loa, lsc2, e9, l0, m0⟩ := htl.out _ hGY.out
                        cases e9
                        obtain ⟨b1, o1, vba, voa, vsc2, e9, v0, y0⟩ := htv.out _ hGY.out
                        cases e9
                        have hvb1 : vb < Y2.heap.size := World.block_lt_of_cell? _ _ v0
                        have hvb2 : vba < Y2.heap.size := World.block_lt_of_cell? _ _ y0
                        replace l0 := up_of hBW l0; replace m0 := up_of hBW m0; replace v0 := up_of hBW v0; replace y0 := up_of hBW y0
                        have hrb : ∀ g, u15.ownBlock = some g → Y2.heap.size ≤ g ∧ g < wr.heap.size := fun g e => hown.lt g e
                        replace hrb := Lib.hid hrb
                        go_upto_region 33 with (first | (go_at_call 35; refine (hArg.out _ hG).mono ?_; rintro e V2 ⟨rfl, hb⟩; (try replace hG := up_of hb hG); (try replace hown := up_of hb hown); (try replace hBW := up_of hb hBW); (try replace d0 := up_of hb d0); (try replace d1 := up_of hb d1); (try replace d2 := up_of hb d2); (try replace q0 := up_of hb q0); (try replace q1 := up_of hb q1); (try replace q2 := up_of hb q2); (try replace q3 := up_of hb q3); (try replace e0 := up_of hb e0); (try replace e1 := up_of hb e1); (try replace e2 := up_of hb e2); (try replace e3 := up_of hb e3); (try replace l0 := up_of hb l0); (try replace m0 := up_of hb m0); (try replace v0 := up_of hb v0); (try replace y0 := up_of hb y0)))
                        have hV2s := hb.size
                        refine wp_world fun X2 HX2 => ?_
                        have hX2 : Below V2.heap.size V2 X2 := by rw [HX2.out]; (repeat (first | exact Below.refl _ _ | refine Below.alloc ?_ (by simp; try omega) _ | refine Below.setCell ?_ (by simp) _ | refine Below.drew ?_))
                        have f0 : X2.cell? ⟨V2.heap.size, 0, none⟩ = some (.int .i64 av) := by rw [HX2.out]; simp [go_sem]
                        have f1 : X2.cell? ⟨V2.heap.size, 1, none⟩ = some (.int .i64 rx) := by rw [HX2.out]; simp [go_sem]
                        have f2 : X2.cell? ⟨V2.heap.size, 2, none⟩ = some (.int .i64 ry) := by rw [HX2.out]; simp [go_sem]
                        have f3 : X2.cell? ⟨V2.heap.size, 3, none⟩ = some (.int .i64 rz) := by rw [HX2.out]; simp [go_sem]
                        have fl : V2.heap.size < X2.heap.size := World.block_lt_of_cell? X2 _ f0
                        try replace hG := up_of hX2 hG
                        try replace hown := up_of hX2 hown
                        try replace hBW := up_of hX2 hBW
                        try replace d0 := up_of hX2 d0
                        try replace d1 := up_of hX2 d1
                        try replace d2 := up_of hX2 d2
                        try replace q0 := up_of hX2 q0
                        try replace q1 := up_of hX2 q1
                        try replace q2 := up_of hX2 q2
                        try replace q3 := up_of hX2 q3
                        try replace e0 := up_of hX2 e0
                        try replace e1 := up_of hX2 e1
                        try replace e2 := up_of hX2 e2
                        try replace e3 := up_of hX2 e3
                        try replace l0 := up_of hX2 l0
                        try replace m0 := up_of hX2 m0
                        try replace v0 := up_of hX2 v0
                        try replace y0 := up_of hX2 y0
                        go_upto_region 34 with (first | (go_at_call 36; refine (hI2.out _ hG).mono ?_; rintro e V3 ⟨rfl, hb⟩; (try replace hG := up_of hb hG); (try replace hown := up_of hb hown); (try replace hBW := up_of hb hBW); (try replace d0 := up_of hb d0); (try replace d1 := up_of hb d1); (try replace d2 := up_of hb d2); (try replace q0 := up_of hb q0); (try replace q1 := up_of hb q1); (try replace q2 := up_of hb q2); (try replace q3 := up_of hb q3); (try replace e0 := up_of hb e0); (try replace e1 := up_of hb e1); (try replace e2 := up_of hb e2); (try replace e3 := up_of hb e3); (try replace l0 := up_of hb l0); (try replace m0 := up_of hb m0); (try replace v0 := up_of hb v0); (try replace y0 := up_of hb y0); (try replace hX2 := up_of hb hX2); (try replace f0 := up_of hb f0); (try replace f1 := up_of hb f1); (try replace f2 := up_of hb f2); (try replace f3 := up_of hb f3); (try replace fl := up_of hb fl)))
                        by_cases hmx : lev < lu + 1
                        · have hmx2 : (lev : Int) < (lu : Int) + 1 := by omega
                          have hnl2 : (lu + 1) = lvA K P ⟨px, py, pz⟩ (X.args.take (j + 1)) 1 := by rw [hls2.out]; first | exact (Nat.max_eq_right (by omega)).symm | exact (Nat.max_eq_left (by omega)).symm
                          replace hnl2 := Lib.hid hnl2
                          try have ld_d0 := World.block_lt_of_cell? _ _ d0
                          try have ld_q0 := World.block_lt_of_cell? _ _ q0
                          try have ld_e0 := World.block_lt_of_cell? _ _ e0
                          try have ld_l0 := World.block_lt_of_cell? _ _ l0
                          try have ld_m0 := World.block_lt_of_cell? _ _ m0
                          try have ld_v0 := World.block_lt_of_cell? _ _ v0
                          try have ld_y0 := World.block_lt_of_cell? _ _ y0
                          try have ld_f0 := World.block_lt_of_cell? _ _ f0
                          refine region_q (by kernel_rfl) (by kernel_rfl) ?_
                          dsimp only [List.toList_toArray]
                          repeat (first
                           | go_big_quiet_skip
                           | (go_big_quiet_want
                              first
                              | (refine qq_det ?_
                                 apply Exists.intro; refine ⟨fun W' hW' => ?_, ?_⟩
                                 (· have hk := cellB hW'; have hlk9 := hlk.out W' (up_of hW' hG); go_simp; try (first | rfl | rw [if_pos (by omega)]))
                                 simp only [Act.put, List.setIfInBounds_toArray, List.set_cons_zero, List.set_cons_succ]; go_big_quiet_on)))
                          refine wpQuiet_nil ?_
                          intro Z1 hb
                          try replace hG := up_of hb hG
                          try replace hown := up_of hb hown
                          try replace hBW := up_of hb hBW
                          try replace d0 := up_of hb d0
                          try replace d1 := up_of hb d1
                          try replace d2 := up_of hb d2
                          try replace q0 := up_of hb q0
                          try replace q1 := up_of hb q1
                          try replace q2 := up_of hb q2
                          try replace q3 := up_of hb q3
                          try replace e0 := up_of hb e0
                          try replace e1 := up_of hb e1
                          try replace e2 := up_of hb e2
                          try replace e3 := up_of hb e3
                          try replace l0 := up_of hb l0
                          try replace m0 := up_of hb m0
                          try replace v0 := up_of hb v0
                          try replace y0 := up_of hb y0
                          try replace hX2 := up_of hb hX2
                          try replace f0 := up_of hb f0
                          try replace f1 := up_of hb f1
                          try replace f2 := up_of hb f2
                          try replace f3 := up_of hb f3
                          try replace fl := up_of hb fl
                          have hD : Below Z1.heap.size Z1 Z1.drew := (Below.refl _ _).drew
                          have hlkD := hlk.out _ (up_of hD hG)
                          have hBWs2 := hBW.size
                          have hZs : V2.heap.size < Z1.heap.size := World.block_lt_of_cell? _ _ f0
                          go_upto_region 35 with (fail)
                          go_region_held3 (fun V => V.cell? ⟨V2.heap.size, 0, none⟩ = some (.int .i64 av) ∧ V.cell? ⟨V2.heap.size, 1, none⟩ = some (.int .i64 rx) ∧ V.cell? ⟨V2.heap.size, 2, none⟩ = some (.int .i64 ry) ∧ V.cell? ⟨V2.heap.size, 3, none⟩ = some (.int .i64 rz) ∧ V.cell? ⟨vb, vo + av, none⟩ = some (.slice (some ⟨vba, voa, none⟩) P.length vsc2) ∧ V.cell? ⟨vba, voa + m9, none⟩ = some (.int .i64 cj)) ((first | (with_reducible exact ⟨f0, f1, f2, f3, v0, y0⟩) | ((try dsimp only); (repeat' apply And.intro) <;> (repeat (first | (with_reducible assumption) | (with_reducible refine cell_set (by simp; try omega) ?_) | (with_reducible refine cell_drew ?_) | (with_reducible refine cell_alloc ?_ _)))))) ((first | (refine step_append_lies _ (by rfl) _ _ 53 (by rfl) Y2.heap.size 3 i0 (.int .i64 0) 1 8 Try.underlying53 hi0 hz0 hz1 hz2 rfl (by decide) _ _ _ (by rfl) (hown.alloc _) ⟨Z1.heap.size, 0, none⟩ 1 1 [.int .i64 cj] (by rfl) (by rfl) (news_new _ _ _) (by simp [Value.oneCell']) (by decide) (by unfold maxLen; omega) (by omega) (by first | omega | (simp; omega)) (Z1.heap.size + 1) (by simp) ?_; intro gg cap1 w1 hown1 hgrow hat hlt2; replace f0 := cell_appD hgrow f0 (fun g e => by have := hrb.out g e; omega); replace f1 := cell_appD hgrow f1 (fun g e => by have := hrb.out g e; omega); replace f2 := cell_appD hgrow f2 (fun g e => by have := hrb.out g e; omega); replace f3 := cell_appD hgrow f3 (fun g e => by have := hrb.out g e; omega); replace v0 := cell_appD hgrow v0 (fun g e => by have := hrb.out g e; omega); replace y0 := cell_appD hgrow y0 (fun g e => by have := hrb.out g e; omega))))
                          have hB1 : Below Y2.heap.size Y2 w1 := by first | exact ((hBW.alloc hBWs2 _).drew).grown hgrow (by simp; omega) (fun g e => (hrb.out g e).1) | exact ((hBW.drew).alloc hBWs2 _).grown hgrow (by simp; omega) (fun g e => (hrb.out g e).1)
                          go_wp2
                          go_roundw
                          case rel => exact ⟨j + 1, lu + 1, r ++ [cj], by omega, rfl, rfl, hnl2, hrn, by omega, by rw [int_snoc, List.length_append]; exact hown1, hB1⟩
                          case measure => exact meas hlj
                        · have hmx2 : ¬ (lev : Int) < (lu : Int) + 1 := by omega
                          have hnl2 : (lev) = lvA K P ⟨px, py, pz⟩ (X.args.take (j + 1)) 1 := by rw [hls2.out]; first | exact (Nat.max_eq_right (by omega)).symm | exact (Nat.max_eq_left (by omega)).symm
                          replace hnl2 := Lib.hid hnl2
                          try have ld_d0 := World.block_lt_of_cell? _ _ d0
                          try have ld_q0 := World.block_lt_of_cell? _ _ q0
                          try have ld_e0 := World.block_lt_of_cell? _ _ e0
                          try have ld_l0 := World.block_lt_of_cell? _ _ l0
                          try have ld_m0 := World.block_lt_of_cell? _ _ m0
                          try have ld_v0 := World.block_lt_of_cell? _ _ v0
                          try have ld_y0 := World.block_lt_of_cell? _ _ y0
                          try have ld_f0 := World.block_lt_of_cell? _ _ f0
                          refine region_q (by kernel_rfl) (by kernel_rfl) ?_
                          dsimp only [List.toList_toArray]
                          repeat (first
                           | go_big_quiet_skip
                           | (go_big_quiet_want
                              first
                              | (refine qq_det ?_
                                 apply Exists.intro; refine ⟨fun W' hW' => ?_, ?_⟩
                                 (· have hk := cellB hW'; have hlk9 := hlk.out W' (up_of hW' hG); go_simp; try (first | rfl | rw [if_pos (by omega)]))
                                 simp only [Act.put, List.setIfInBounds_toArray, List.set_cons_zero, List.set_cons_succ]; go_big_quiet_on)))
                          refine wpQuiet_nil ?_
                          intro Z1 hb
                          try replace hG := up_of hb hG
                          try replace hown := up_of hb hown
                          try replace hBW := up_of hb hBW
                          try replace d0 := up_of hb d0
                          try replace d1 := up_of hb d1
                          try replace d2 := up_of hb d2
                          try replace q0 := up_of hb q0
                          try replace q1 := up_of hb q1
                          try replace q2 := up_of hb q2
                          try replace q3 := up_of hb q3
                          try replace e0 := up_of hb e0
                          try replace e1 := up_of hb e1
                          try replace e2 := up_of hb e2
                          try replace e3 := up_of hb e3
                          try replace l0 := up_of hb l0
                          try replace m0 := up_of hb m0
                          try replace v0 := up_of hb v0
                          try replace y0 := up_of hb y0
                          try replace hX2 := up_of hb hX2
                          try replace f0 := up_of hb f0
                          try replace f1 := up_of hb f1
                          try replace f2 := up_of hb f2
                          try replace f3 := up_of hb f3
                          try replace fl := up_of hb fl
                          have hD : Below Z1.heap.size Z1 Z1.drew := (Below.refl _ _).drew
                          have hlkD := hlk.out _ (up_of hD hG)
                          have hBWs2 := hBW.size
                          have hZs : V2.heap.size < Z1.heap.size := World.block_lt_of_cell? _ _ f0
                          go_upto_region 35 with (fail)
                          go_region_held3 (fun V => V.cell? ⟨V2.heap.size, 0, none⟩ = some (.int .i64 av) ∧ V.cell? ⟨V2.heap.size, 1, none⟩ = some (.int .i64 rx) ∧ V.cell? ⟨V2.heap.size, 2, none⟩ = some (.int .i64 ry) ∧ V.cell? ⟨V2.heap.size, 3, none⟩ = some (.int .i64 rz) ∧ V.cell? ⟨vb, vo + av, none⟩ = some (.slice (some ⟨vba, voa, none⟩) P.length vsc2) ∧ V.cell? ⟨vba, voa + m9, none⟩ = some (.int .i64 cj)) ((first | (with_reducible exact ⟨f0, f1, f2, f3, v0, y0⟩) | ((try dsimp only); (repeat' apply And.intro) <;> (repeat (first | (with_reducible assumption) | (with_reducible refine cell_set (by simp; try omega) ?_) | (with_reducible refine cell_drew ?_) | (with_reducible refine cell_alloc ?_ _)))))) ((first | (refine step_append_lies _ (by rfl) _ _ 53 (by rfl) Y2.heap.size 3 i0 (.int .i64 0) 1 8 Try.underlying53 hi0 hz0 hz1 hz2 rfl (by decide) _ _ _ (by rfl) (hown.alloc _) ⟨Z1.heap.size, 0, none⟩ 1 1 [.int .i64 cj] (by rfl) (by rfl) (news_new _ _ _) (by simp [Value.oneCell']) (by decide) (by unfold maxLen; omega) (by omega) (by first | omega | (simp; omega)) (Z1.heap.size + 1) (by simp) ?_; intro gg cap1 w1 hown1 hgrow hat hlt2; replace f0 := cell_appD hgrow f0 (fun g e => by have := hrb.out g e; omega); replace f1 := cell_appD hgrow f1 (fun g e => by have := hrb.out g e; omega); replace f2 := cell_appD hgrow f2 (fun g e => by have := hrb.out g e; omega); replace f3 := cell_appD hgrow f3 (fun g e => by have := hrb.out g e; omega); replace v0 := cell_appD hgrow v0 (fun g e => by have := hrb.out g e; omega); replace y0 := cell_appD hgrow y0 (fun g e => by have := hrb.out g e; omega))))
                          have hB1 : Below Y2.heap.size Y2 w1 := by first | exact ((hBW.alloc hBWs2 _).drew).grown hgrow (by simp; omega) (fun g e => (hrb.out g e).1) | exact ((hBW.drew).alloc hBWs2 _).grown hgrow (by simp; omega) (fun g e => (hrb.out g e).1)
                          go_wp2
                          go_roundw
                          case rel => exact ⟨j + 1, lev, r ++ [cj], by omega, rfl, rfl, hnl2, hrn, by omega, by rw [int_snoc, List.length_append]; exact hown1, hB1⟩
                          case measure => exact meas hlj
                      | none =>
                        have hin1 : isIn P ⟨(av : Int), ⟨rx, ry, rz⟩⟩ = false := by unfold isIn; rw [hpx]; rfl
                        have hcj2 := hcj.out
                        have hls2 := hlsn.out
                        simp only [hpx, Option.map_none] at hcj2 hls2
                        have hI2 := hIA.out
                        simp only [hin1] at hI2
                        have hFir2 := hFir.out
                        simp only [← hcj2] at hFir2
                        replace hI2 := Lib.hid hI2; replace hls2 := Lib.hid hls2; replace hpx := Lib.hid hpx; replace hrI := Lib.hid hrI; replace hq := Lib.hid hq; replace hFir2 := Lib.hid hFir2
                        clear hcj2 hin1 hcj hlsn hIA hFir
                        go_upto_region 33 with (first | (go_at_call 35; refine (hArg.out _ hG).mono ?_; rintro e V2 ⟨rfl, hb⟩; (try replace hG := up_of hb hG); (try replace hown := up_of hb hown); (try replace hBW := up_of hb hBW); (try replace d0 := up_of hb d0); (try replace d1 := up_of hb d1); (try replace d2 := up_of hb d2); (try replace q0 := up_of hb q0); (try replace q1 := up_of hb q1); (try replace q2 := up_of hb q2); (try replace q3 := up_of hb q3); (try replace e0 := up_of hb e0); (try replace e1 := up_of hb e1); (try replace e2 := up_of hb e2); (try replace e3 := up_of hb e3)))
                        refine wp_world fun X2 HX2 => ?_
                        have hX2 : Below V2.heap.size V2 X2 := by rw [HX2.out]; (repeat (first | exact Below.refl _ _ | refine Below.alloc ?_ (by simp; try omega) _ | refine Below.setCell ?_ (by simp) _ | refine Below.drew ?_))
                        have f0 : X2.cell? ⟨V2.heap.size, 0, none⟩ = some (.int .i64 av) := by rw [HX2.out]; simp [go_sem]
                        have f1 : X2.cell? ⟨V2.heap.size, 1, none⟩ = some (.int .i64 rx) := by rw [HX2.out]; simp [go_sem]
                        have f2 : X2.cell? ⟨V2.heap.size, 2, none⟩ = some (.int .i64 ry) := by rw [HX2.out]; simp [go_sem]
                        have f3 : X2.cell? ⟨V2.heap.size, 3, none⟩ = some (.int .i64 rz) := by rw [HX2.out]; simp [go_sem]
                        have fl : V2.heap.size < X2.heap.size := World.block_lt_of_cell? X2 _ f0
                        try replace hG := up_of hX2 hG
                        try replace hown := up_of hX2 hown
                        try replace hBW := up_of hX2 hBW
                        try replace d0 := up_of hX2 d0
                        try replace d1 := up_of hX2 d1
                        try replace d2 := up_of hX2 d2
                        try replace q0 := up_of hX2 q0
                        try replace q1 := up_of hX2 q1
                        try replace q2 := up_of hX2 q2
                        try replace q3 := up_of hX2 q3
                        try replace e0 := up_of hX2 e0
                        try replace e1 := up_of hX2 e1
                        try replace e2 := up_of hX2 e2
                        try replace e3 := up_of hX2 e3
                        go_upto_region 37 with (first | (go_at_call 36; refine (hI2.out _ hG).mono ?_; rintro e V3 ⟨rfl, hb⟩; (try replace hG := up_of hb hG); (try replace hown := up_of hb hown); (try replace hBW := up_of hb hBW); (try replace d0 := up_of hb d0); (try replace d1 := up_of hb d1); (try replace d2 := up_of hb d2); (try replace q0 := up_of hb q0); (try replace q1 := up_of hb q1); (try replace q2 := up_of hb q2); (try replace q3 := up_of hb q3); (try replace e0 := up_of hb e0); (try replace e1 := up_of hb e1); (try replace e2 := up_of hb e2); (try replace e3 := up_of hb e3); (try replace hX2 := up_of hb hX2); (try replace f0 := up_of hb f0); (try replace f1 := up_of hb f1); (try replace f2 := up_of hb f2); (try replace f3 := up_of hb f3); (try replace fl := up_of hb fl)) | (go_at_call 20; refine (hFir2.out _ hG).mono ?_; rintro e V4 ⟨rfl, hb⟩; (try replace hG := up_of hb hG); (try replace hown := up_of hb hown); (try replace hBW := up_of hb hBW); (try replace d0 := up_of hb d0); (try replace d1 := up_of hb d1); (try replace d2 := up_of hb d2); (try replace q0 := up_of hb q0); (try replace q1 := up_of hb q1); (try replace q2 := up_of hb q2); (try replace q3 := up_of hb q3); (try replace e0 := up_of hb e0); (try replace e1 := up_of hb e1); (try replace e2 := up_of hb e2); (try replace e3 := up_of hb e3); (try replace hX2 := up_of hb hX2); (try replace f0 := up_of hb f0); (try replace f1 := up_of hb f1); (try replace f2 := up_of hb f2); (try replace f3 := up_of hb f3); (try replace fl := up_of hb fl)))
                        have hBWs2 := hBW.size
                        go_wp2_with (first | (at_builtin; refine wpList_append_own_at _ rfl _ _ 53 rfl Y2.heap.size 3 i0 _ 1 8 Try.underlying53 hi0 hz0 hz1 hz2 rfl (by decide) _ _ _ rfl (hown.alloc _) ⟨V4.heap.size, 0, none⟩ 1 1 [.int .i64 cj] rfl rfl (news_new _ _ _) (by simp [Value.oneCell']) (by unfold maxLen; omega) (by omega) (by simp; omega) ?_; intro v1 w1 hown1 hgrow hnil hat1))
                        have hB1 : Below Y2.heap.size Y2 w1 := (hBW.alloc hBWs2 _).grown hgrow (by simp; omega) (fun j e => (hown.lt j e).1)
                        have hnl2 : lev = lvA K P ⟨px, py, pz⟩ (X.args.take (j + 1)) 1 := hls2.out.symm
                        replace hnl2 := Lib.hid hnl2
                        go_roundw
                        case rel => exact ⟨j + 1, lev, r ++ [cj], by omega, rfl, rfl, hnl2, hrn, by omega, by rw [int_snoc, List.length_append]; exact hown1, hB1⟩
                        case measure => exact meas hlj
                    · obtain rfl : j = X.args.length := by omega
                      have hr2 : r = AV := by rw [hrr.out, ← hAl.out, List.take_length]
                      have hle2 : lev = lvk := by rw [hlev.out, List.take_length]; exact hlk.out.symm
                      subst hr2
                      subst hle2
                      obtain ⟨sr, cr, er, -⟩ := owns_shape hown
                      subst er
                      have hsl := SlS.of_own (E := intE) hown
                      obtain ⟨l0, m0, v0, y0⟩ := hTY.out
                      replace l0 := up_of hBW l0; replace m0 := up_of hBW m0; replace v0 := up_of hBW v0; replace y0 := up_of hBW y0
                      have b1' : ((lev : Int) != (lev : Int)) = false := by simp
                      have b2' : (vlk != vlk) = false := by simp
                      have hBV2 := hBY2.out.trans (hBW.mono hBY2.out.size)
                      replace hrr := Lib.hid hrr
                      clear hlev hown hAj
                      go_upto_region 40 with (fail)
                      try have ld_l0 := World.block_lt_of_cell? _ _ l0
                      try have ld_m0 := World.block_lt_of_cell? _ _ m0
                      try have ld_v0 := World.block_lt_of_cell? _ _ v0
                      try have ld_y0 := World.block_lt_of_cell? _ _ y0
                      try have ld_d0 := World.block_lt_of_cell? _ _ d0
                      try have ld_q0 := World.block_lt_of_cell? _ _ q0
                      refine region_q (by kernel_rfl) (by kernel_rfl) ?_
                      dsimp only [List.toList_toArray]
                      repeat (first
                       | go_big_quiet_skip
                       | (go_big_quiet_want
                          first
                          | (refine qq_det ?_
                             apply Exists.intro; refine ⟨fun W' hW' => ?_, ?_⟩
                             (· have hk := cellB hW'; go_simp; try (first | rfl | rw [if_pos (by omega)]))
                             simp only [Act.put, List.setIfInBounds_toArray, List.set_cons_zero, List.set_cons_succ]; go_big_quiet_on)
                          | (refine qq_call ?_
                             apply Exists.intro; apply Exists.intro; refine ⟨fun W' hW' => ?_, ?_⟩
                             (· have hk := cellB hW'; go_simp; exact ⟨rfl, rfl⟩)
                             apply Exists.intro; refine ⟨fun W' hW' => ?_, ?_⟩
                             (· first | (go_at_call 37; exact qc hW' (hap.out _ _ _ (up_of hW' hsl))))
                             simp only [Act.put, List.setIfInBounds_toArray, List.set_cons_zero, List.set_cons_succ]; go_big_quiet_on)))
                      refine wpQuiet_nil ?_
                      intro Z1 hb
                      try replace hsl := up_of hb hsl
                      try replace l0 := up_of hb l0
                      try replace m0 := up_of hb m0
                      try replace v0 := up_of hb v0
                      try replace y0 := up_of hb y0
                      try replace d0 := up_of hb d0
                      try replace d2 := up_of hb d2
                      try replace q0 := up_of hb q0
                      try replace q1 := up_of hb q1
                      try replace hBV2 := up_of hb hBV2
                      go_wp2
                      go_roundw
                      case rel => exact ⟨i + 1, by omega, rfl, hBV2⟩
                      case measure => exact meas hlti
                · obtain rfl : i = P.length := by omega
                  clear hBV2 hG
                  go_wp2
                  go_roundw
                  case rel => exact ⟨v + 1, by omega, rfl, hBV⟩
                  case measure => exact meas hltv
            · obtain rfl : v = K.length := by omega
              go_wp2_with (first | (go_at_call 14; refine (hsn.out _).mono ?_; rintro e W1 ⟨rfl, hb⟩; (try replace hB := up_of hb hB)))
              go_ret
              exact ⟨rfl, hB⟩
end Go.Proofs.Ytadmnlkgefbhcaa
