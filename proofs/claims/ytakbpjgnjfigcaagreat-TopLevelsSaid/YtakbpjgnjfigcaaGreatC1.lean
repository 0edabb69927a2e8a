/- Several texts in one: each says what it proves. -/
import Derived.Test.YtakbpjgnjfigcaaGreatB4
import Derived.Test.YtakbpjgnjfigcaaGreatB7
import Derived.Test.YtakbpjgnjfigcaaGreatB3
/- Tables of numbers that are built row by row; delays: what they are. -/
namespace Go.Proofs.YtakbpjgnjfigcaaGreat
open Go.RowKit

/-! ### Delays -/
def delW (q : Sd) (v : Nat) (a : Ar) : Int := IntKind.i64.wrap (IntKind.i64.wrap (q.off.getD v 0 - q.off.getD a.v.toNat 0) - wrap64 (dotZ q.f a.p))
def delT (K : List Vv) (q : Sd) : List (List Int) := K.mapIdx fun v x => x.args.map (delW q v)
theorem delT_len (K : List Vv) (q : Sd) : (delT K q).length = K.length := List.length_mapIdx
theorem delT_row {K : List Vv} {q : Sd} {k : Nat} (hk : k < K.length) (hk' : k < (delT K q).length) : (delT K q)[k] = K[k].args.map (delW q k) := List.getElem_mapIdx ..
end Go.Proofs.YtakbpjgnjfigcaaGreat

/- Delays: the program. -/
namespace Go.Proofs.YtakbpjgnjfigcaaGreat
open Go.RowKit

set_option maxRecDepth 100000 in
set_option maxHeartbeats 4000000 in
theorem delays_c (n : Int) (s : Option Addr) (cap : Nat) (l : List Iq) (s2 : Option Addr) (cq : Nat) (K : List Vv) (q : Sd) (w : World) (hr : RecM w s l s2 cq K) (hq : SdM w q) (hol : q.off.length = K.length) (hk4 : K.length ≤ 4) (har : ∀ v ∈ K, v.args.length ≤ 3 ∧ ∀ a ∈ v.args, bw 0 a.v (K.length - 1) = true) :
    Calls Tryz.prog 80 #[.agg #[.int .i64 n, .slice s l.length cap, .slice s2 K.length cq], .agg #[.int .i64 q.f.x, .int .i64 q.f.y, .int .i64 q.f.z, .slice q.s q.off.length q.cap]] w fun e w' => (∃ s' c', e = .returned (.slice s' (delT K q).length c') ∧ SlSS intE w' s' (delT K q)) ∧ Below w.heap.size w w' := by
  obtain ⟨T, hT, hTl, hTr⟩ : ∃ T, delT K q = T ∧ T.length = K.length ∧ ∀ (k : Nat) (hk : k < K.length) (hk' : k < T.length), T[k] = K[k].args.map (delW q k) := ⟨_, rfl, delT_len K q, fun k hk hk' => delT_row hk hk'⟩
  simp only [hT]
  clear hT
  replace hTl := Lib.hid hTl; replace hTr := Lib.hid hTr; replace har := Lib.hid har; replace hol := Lib.hid hol
  have hqo : SlS intE w q.s q.off := hq.off
  obtain ⟨qs, hqs⟩ : ∃ x, q.s = x := ⟨_, rfl⟩
  simp only [hqs] at *
  clear hqs
  go_enter Tryz.func80, Tryz.ntmps80
  go_upto_region 1 with (fail)
  refine wp_world fun W HW => ?_
  have hB : Below w.heap.size w W := by rw [HW.out]; (repeat (first | exact Below.refl _ _ | refine Below.alloc ?_ (by simp; try omega) _ | refine Below.setCell ?_ (by simp) _ | refine Below.drew ?_))
  have d0 : W.cell? ⟨w.heap.size, 0, none⟩ = some (.int .i64 n) := by rw [HW.out]; simp [go_sem]
  have d1 : W.cell? ⟨w.heap.size, 1, none⟩ = some (.slice s l.length cap) := by rw [HW.out]; simp [go_sem]
  have d2 : W.cell? ⟨w.heap.size, 2, none⟩ = some (.slice s2 K.length cq) := by rw [HW.out]; simp [go_sem]
  have dl : w.heap.size < W.heap.size := World.block_lt_of_cell? W _ d0
  have g0 : W.cell? ⟨w.heap.size + 1, 0, none⟩ = some (.int .i64 q.f.x) := by rw [HW.out]; simp [go_sem]
  have g1 : W.cell? ⟨w.heap.size + 1, 1, none⟩ = some (.int .i64 q.f.y) := by rw [HW.out]; simp [go_sem]
  have g2 : W.cell? ⟨w.heap.size + 1, 2, none⟩ = some (.int .i64 q.f.z) := by rw [HW.out]; simp [go_sem]
  have g3 : W.cell? ⟨w.heap.size + 1, 3, none⟩ = some (.slice qs q.off.length q.cap) := by rw [HW.out]; simp [go_sem]
  have gl : w.heap.size + 1 < W.heap.size := World.block_lt_of_cell? W _ g0
  try replace hr := up_of hB hr
  try replace hqo := up_of hB hqo
  have h0 : OutT W W (.slice none 0 0) [] [] := OutT.nil W
  go_wp2
  go_loopw [5, 14] (fun out ii V => ∃ (k : Nat) (ss : List Sv) (R : List (List Int)), k ≤ K.length ∧ ii = .int .i64 k ∧ Hid (R = T.take k) ∧ OutT W V out ss R) (fun _ ii _ => K.length - (intOf ii).toNat)
  case atStart => exact ⟨0, [], [], by omega, rfl, Lib.hid (by simp), h0⟩
  case round =>
    clear h0
    obtain ⟨k, ss, R, hk, rfl, hR, hOT⟩ := hrel
    have hBV := hOT.be
    try replace hr := up_of hBV hr
    try replace hqo := up_of hBV hqo
    try replace hB := up_of hBV hB
    try replace d0 := up_of hBV d0
    try replace d1 := up_of hBV d1
    try replace d2 := up_of hBV d2
    try replace dl := up_of hBV dl
    try replace g0 := up_of hBV g0
    try replace g1 := up_of hBV g1
    try replace g2 := up_of hBV g2
    try replace g3 := up_of hBV g3
    try replace gl := up_of hBV gl
    by_cases hlt : k < K.length
    · obtain ⟨bk, ok, sa, ca, e2, hbk, v0, v1, v2, v3, v4, v5, v6, hsa, hal, -, -⟩ := hr.vars.at hlt
      cases e2
      have hkT : k < T.length := by have := hTl.out; omega
      have hrow := hTr.out k hlt hkT
      obtain ⟨ha3, hav⟩ := har.out _ (List.getElem_mem hlt)
      have hRl : R.length = k := by rw [hR.out, List.length_take]; omega
      have hRn : R ++ [T[k]] = T.take (k + 1) := by rw [hR.out, List.take_succ_eq_append_getElem hkT]
      obtain ⟨X, hX⟩ : ∃ x, K[k] = x := ⟨_, rfl⟩
      obtain ⟨c, hc⟩ : ∃ x, T[k] = x := ⟨_, rfl⟩
      rw [hX] at hrow ha3 hav hsa hal v0 v1 v2 v3 v4 v5 v6
      rw [hc] at hrow hRn
      have hcl : c.length = X.args.length := by rw [hrow]; simp
      have hca : ∀ j (hj : j < X.args.length) (hj' : j < c.length), c[j] = delW q k X.args[j] := fun j hj hj' => by subst hrow; exact List.getElem_map ..
      replace hRn := Lib.hid hRn; replace hRl := Lib.hid hRl; replace hav := Lib.hid hav; replace hcl := Lib.hid hcl; replace hca := Lib.hid hca; replace hc := Lib.hid hc; replace hX := Lib.hid hX
      clear hrow hR
      have i1 : (0 : Int) ≤ (k : Int) := by omega
      have i2 : (k : Int) < (K.length : Int) := by omega
      go_upto_region 6 with (fail)
      obtain ⟨V0, rfl⟩ : ∃ V0, V0 = wr := ⟨wr, rfl⟩
      refine wp_world fun Y HY => ?_
      have hY : Below V0.heap.size V0 Y := by rw [HY.out]; (repeat (first | exact Below.refl _ _ | refine Below.alloc ?_ (by simp; try omega) _ | refine Below.setCell ?_ (by simp) _ | refine Below.drew ?_))
      have x0 : Y.cell? ⟨V0.heap.size, 0, none⟩ = some (.string X.name) := by rw [HY.out]; simp [go_sem]
      have x1 : Y.cell? ⟨V0.heap.size, 1, none⟩ = some (.int .i64 X.op) := by rw [HY.out]; simp [go_sem]
      have x2 : Y.cell? ⟨V0.heap.size, 2, none⟩ = some (.slice sa X.args.length ca) := by rw [HY.out]; simp [go_sem]
      have x3 : Y.cell? ⟨V0.heap.size, 3, none⟩ = some (.int .i64 X.i0) := by rw [HY.out]; simp [go_sem]
      have x4 : Y.cell? ⟨V0.heap.size, 4, none⟩ = some (.int .i64 X.i1) := by rw [HY.out]; simp [go_sem]
      have x5 : Y.cell? ⟨V0.heap.size, 5, none⟩ = some (.int .i64 X.i2) := by rw [HY.out]; simp [go_sem]
      have x6 : Y.cell? ⟨V0.heap.size, 6, none⟩ = some (.int .i64 X.i3) := by rw [HY.out]; simp [go_sem]
      have xl : V0.heap.size < Y.heap.size := World.block_lt_of_cell? Y _ x0
      try replace hr := up_of hY hr
      try replace hqo := up_of hY hqo
      try replace hB := up_of hY hB
      try replace d0 := up_of hY d0
      try replace d1 := up_of hY d1
      try replace d2 := up_of hY d2
      try replace dl := up_of hY dl
      try replace g0 := up_of hY g0
      try replace g1 := up_of hY g1
      try replace g2 := up_of hY g2
      try replace g3 := up_of hY g3
      try replace gl := up_of hY gl
      try replace hOT := up_of hY hOT
      try replace hBV := up_of hY hBV
      try replace hsa := up_of hY hsa
      have hqY := Lib.hid hqo
      have hOY := Lib.hid hOT
      have hgY := gl
      have hYn : Y.ownsRow Y.heap.size 3 1 (.slice none 0 0) 0 (intE.all []) := World.ownsRow_nil _ _ _ _
      go_wp2
      go_loopw [8, 22] (fun row jj V => ∃ (j : Nat) (r : List Int), j ≤ X.args.length ∧ jj = .int .i64 j ∧ Hid (r = c.take j) ∧ V.ownsRow Y.heap.size 3 1 row r.length (intE.all r) ∧ Below Y.heap.size Y V) (fun _ jj _ => X.args.length - (intOf jj).toNat)
      case atStart => exact ⟨0, [], by omega, rfl, Lib.hid (by simp), hYn, Below.refl _ _⟩
      case round =>
        clear hYn
        obtain ⟨j, r, hj, rfl, hrr, hown, hBY⟩ := hrel
        have hBYs := hBY.size
        try replace hr := up_of hBY hr
        try replace hqo := up_of hBY hqo
        try replace hB := up_of hBY hB
        try replace d0 := up_of hBY d0
        try replace d1 := up_of hBY d1
        try replace d2 := up_of hBY d2
        try replace dl := up_of hBY dl
        try replace g0 := up_of hBY g0
        try replace g1 := up_of hBY g1
        try replace g2 := up_of hBY g2
        try replace g3 := up_of hBY g3
        try replace gl := up_of hBY gl
        try replace hOT := up_of hBY hOT
        try replace hBV := up_of hBY hBV
        try replace hsa := up_of hBY hsa
        try replace hY := up_of hBY hY
        try replace x0 := up_of hBY x0
        try replace x1 := up_of hBY x1
        try replace x2 := up_of hBY x2
        try replace x3 := up_of hBY x3
        try replace x4 := up_of hBY x4
        try replace x5 := up_of hBY x5
        try replace x6 := up_of hBY x6
        try replace xl := up_of hBY xl
        by_cases hlj : j < X.args.length
        · obtain ⟨ba, oa, ea, hba, z0, z1, z2, z3⟩ := hsa.ar_at hlj
          cases ea
          have hjc : j < c.length := by have := hcl.out; omega
          have hcj := hca.out j hlj hjc
          have hrn : r ++ [c[j]] = c.take (j + 1) := by rw [hrr.out, List.take_succ_eq_append_getElem hjc]
          have hrl : r.length = j := by rw [hrr.out, List.length_take]; omega
          have hba1 := bw_iff.1 (hav.out _ (List.getElem_mem hlj))
          obtain ⟨a, ha⟩ : ∃ x, X.args[j] = x := ⟨_, rfl⟩
          rw [ha] at z0 z1 z2 z3 hcj hba1
          obtain ⟨av, hav2⟩ : ∃ m : Nat, a.v = m := ⟨a.v.toNat, by omega⟩
          rw [hav2] at z0 hba1
          have hko : k < q.off.length := by have := hol.out; omega
          have hao : av < q.off.length := by have := hol.out; omega
          obtain ⟨bo, oo, eo, hboY, -⟩ := hqY.out.int_at hko
          cases eo
          obtain ⟨bo1, oo1, eo1, -, p0⟩ := hqo.int_at hko
          cases eo1
          obtain ⟨bo2, oo2, eo2, -, q0⟩ := hqo.int_at hao
          cases eo2
          have hr3 : r.length ≤ 3 := by omega
          obtain ⟨o1, ho1⟩ : ∃ x, q.off[k] = x := ⟨_, rfl⟩
          obtain ⟨o2, ho2⟩ : ∃ x, q.off[av] = x := ⟨_, rfl⟩
          rw [ho1] at p0
          rw [ho2] at q0
          have htm := fun V => schTimes_c q.f a.p V
          obtain ⟨td, htd⟩ : ∃ x, wrap64 (dotZ q.f a.p) = x := ⟨_, rfl⟩
          simp only [htd] at htm
          have hcw : c[j] = IntKind.i64.wrap (IntKind.i64.wrap (o1 - o2) - td) := by
            rw [hcj, ← htd, ← ho1, ← ho2]; unfold delW
            rw [hav2, Int.toNat_natCast, List.getD_eq_getElem?_getD, List.getD_eq_getElem?_getD, List.getElem?_eq_getElem hko, List.getElem?_eq_getElem hao]; rfl
          obtain ⟨cj, hcj0⟩ : ∃ x, c[j] = x := ⟨_, rfl⟩
          rw [hcj0] at hcw hrn
          replace hcw := Lib.hid hcw; replace hrn := Lib.hid hrn; replace hrl := Lib.hid hrl; replace htm := Lib.hid htm; replace hcj0 := Lib.hid hcj0; replace ha := Lib.hid ha; replace hav2 := Lib.hid hav2; replace ho1 := Lib.hid ho1; replace ho2 := Lib.hid ho2; replace htd := Lib.hid htd
          clear hcj hrr
          have j1 : (0 : Int) ≤ (j : Int) := by omega
          have j2 : (j : Int) < (X.args.length : Int) := by omega
          have k2 : (k : Int) < (q.off.length : Int) := by omega
          have a1 : (0 : Int) ≤ (av : Int) := by omega
          have a2 : (av : Int) < (q.off.length : Int) := by omega
          have hrb : ∀ g, u8.ownBlock = some g → Y.heap.size ≤ g ∧ g < wr.heap.size := fun g e => hown.lt g e
          replace hrb := Lib.hid hrb
          obtain ⟨i0, hi0, hz0, hz1, hz2⟩ := info_parts info_int
          go_upto_region 9 with (fail)
          refine wp_world fun Y2 HY2 => ?_
          have hY2 : Below wr.heap.size wr Y2 := by rw [HY2.out]; (repeat (first | exact Below.refl _ _ | refine Below.alloc ?_ (by simp; try omega) _ | refine Below.setCell ?_ (by simp) _ | refine Below.drew ?_))
          have e0 : Y2.cell? ⟨wr.heap.size, 0, none⟩ = some (.int .i64 av) := by rw [HY2.out]; simp [go_sem]
          have e1 : Y2.cell? ⟨wr.heap.size, 1, none⟩ = some (.int .i64 a.p.x) := by rw [HY2.out]; simp [go_sem]
          have e2 : Y2.cell? ⟨wr.heap.size, 2, none⟩ = some (.int .i64 a.p.y) := by rw [HY2.out]; simp [go_sem]
          have e3 : Y2.cell? ⟨wr.heap.size, 3, none⟩ = some (.int .i64 a.p.z) := by rw [HY2.out]; simp [go_sem]
          have el : wr.heap.size < Y2.heap.size := World.block_lt_of_cell? Y2 _ e0
          try replace hr := up_of hY2 hr
          try replace hqo := up_of hY2 hqo
          try replace hB := up_of hY2 hB
          try replace d0 := up_of hY2 d0
          try replace d1 := up_of hY2 d1
          try replace d2 := up_of hY2 d2
          try replace dl := up_of hY2 dl
          try replace g0 := up_of hY2 g0
          try replace g1 := up_of hY2 g1
          try replace g2 := up_of hY2 g2
          try replace g3 := up_of hY2 g3
          try replace gl := up_of hY2 gl
          try replace hOT := up_of hY2 hOT
          try replace hBV := up_of hY2 hBV
          try replace hsa := up_of hY2 hsa
          try replace hY := up_of hY2 hY
          try replace x0 := up_of hY2 x0
          try replace x1 := up_of hY2 x1
          try replace x2 := up_of hY2 x2
          try replace x3 := up_of hY2 x3
          try replace x4 := up_of hY2 x4
          try replace x5 := up_of hY2 x5
          try replace x6 := up_of hY2 x6
          try replace xl := up_of hY2 xl
          try replace hown := up_of hY2 hown
          try replace hBY := up_of hY2 hBY
          try replace p0 := up_of hY2 p0
          try replace q0 := up_of hY2 q0
          go_region_held3 (fun V => V.cell? ⟨w.heap.size + 1, 0, none⟩ = some (.int .i64 q.f.x) ∧ V.cell? ⟨w.heap.size + 1, 1, none⟩ = some (.int .i64 q.f.y) ∧ V.cell? ⟨w.heap.size + 1, 2, none⟩ = some (.int .i64 q.f.z) ∧ V.cell? ⟨w.heap.size + 1, 3, none⟩ = some (.slice (some ⟨bo, oo, none⟩) q.off.length q.cap) ∧ V.cell? ⟨wr.heap.size, 0, none⟩ = some (.int .i64 av) ∧ V.cell? ⟨wr.heap.size, 1, none⟩ = some (.int .i64 a.p.x) ∧ V.cell? ⟨wr.heap.size, 2, none⟩ = some (.int .i64 a.p.y) ∧ V.cell? ⟨wr.heap.size, 3, none⟩ = some (.int .i64 a.p.z) ∧ V.cell? ⟨bo, oo + k, none⟩ = some (.int .i64 o1) ∧ V.cell? ⟨bo, oo + av, none⟩ = some (.int .i64 o2)) ((first | (with_reducible exact ⟨g0, g1, g2, g3, e0, e1, e2, e3, p0, q0⟩) | ((try dsimp only); (repeat' apply And.intro) <;> (repeat (first | (with_reducible assumption) | (with_reducible refine cell_set (by simp; try omega) ?_) | (with_reducible refine cell_drew ?_) | (with_reducible refine cell_alloc ?_ _)))))) ((first | (go_at_call 104; refine calls_below (W0 := Y2) ?_ fun hpre => ?_; (repeat (first | exact Below.refl _ _ | refine Below.alloc ?_ (by simp; try omega) _ | refine Below.drew ?_)); refine (htm.out _).mono ?_; rintro e N1 ⟨rfl, hb1⟩; have hb := Up.trans hpre hb1; clear hpre; (first | have hs_N1 := below_alloc_lt hb1 | have hs_N1 := below_alloc_lt (drewB hb1) | skip); have dl_N1 := dl; have gl_N1 := gl; have xl_N1 := xl; have el_N1 := el; (try replace hr := up_of hb hr); (try replace hqo := up_of hb hqo); (try replace hB := up_of hb hB); (try replace d0 := up_of hb d0); (try replace d1 := up_of hb d1); (try replace d2 := up_of hb d2); (try replace dl := up_of hb dl); (try replace g0 := up_of hb g0); (try replace g1 := up_of hb g1); (try replace g2 := up_of hb g2); (try replace g3 := up_of hb g3); (try replace gl := up_of hb gl); (try replace hOT := up_of hb hOT); (try replace hBV := up_of hb hBV); (try replace hsa := up_of hb hsa); (try replace hY := up_of hb hY); (try replace x0 := up_of hb x0); (try replace x1 := up_of hb x1); (try replace x2 := up_of hb x2); (try replace x3 := up_of hb x3); (try replace x4 := up_of hb x4); (try replace x5 := up_of hb x5); (try replace x6 := up_of hb x6); (try replace xl := up_of hb xl); (try replace hown := up_of hb hown); (try replace hBY := up_of hb hBY); (try replace p0 := up_of hb p0); (try replace q0 := up_of hb q0); (try replace hY2 := up_of hb hY2); (try replace e0 := up_of hb e0); (try replace e1 := up_of hb e1); (try replace e2 := up_of hb e2); (try replace e3 := up_of hb e3); (try replace el := up_of hb el); (first | have nB := new_up hb1 | have nB := new_up (drewB hb1) | (try replace nB := up_of hb nB))) | (refine step_append_lies _ (by rfl) _ _ 31 (by rfl) Y.heap.size 3 i0 (.int .i64 0) 1 8 Tryz.underlying31 hi0 hz0 hz1 hz2 rfl (by decide) _ _ _ (by rfl) (hown.alloc _) ⟨N1.heap.size, 0, none⟩ 1 1 [.int .i64 (IntKind.i64.wrap (IntKind.i64.wrap (o1 - o2) - td))] (by rfl) (by rfl) (news_new _ _ _) (by simp [Value.oneCell']) (by decide) (by unfold maxLen; omega) (by omega) (by have := hBY.size; first | omega | (simp; omega)) (N1.heap.size + 1) (by simp) ?_; intro gg cap1 w1 hown1 hgrow hat hlt2; have hB1 := (hBY.alloc hBY.size _).grown hgrow (by have := hBY.size; first | omega | (simp; omega)) (fun g e => (hrb.out g e).1); replace g0 := cell_app hgrow g0 (fun g e => by have := hrb.out g e; omega); replace g1 := cell_app hgrow g1 (fun g e => by have := hrb.out g e; omega); replace g2 := cell_app hgrow g2 (fun g e => by have := hrb.out g e; omega); replace g3 := cell_app hgrow g3 (fun g e => by have := hrb.out g e; omega); replace e0 := cell_app hgrow e0 (fun g e => by have := hrb.out g e; omega); replace e1 := cell_app hgrow e1 (fun g e => by have := hrb.out g e; omega); replace e2 := cell_app hgrow e2 (fun g e => by have := hrb.out g e; omega); replace e3 := cell_app hgrow e3 (fun g e => by have := hrb.out g e; omega); replace p0 := cell_app hgrow p0 (fun g e => by have := hrb.out g e; omega); replace q0 := cell_app hgrow q0 (fun g e => by have := hrb.out g e; omega))))
          go_wp2
          go_roundw
          case rel => exact ⟨j + 1, r ++ [cj], by omega, rfl, hrn, by rw [int_snoc, hcw.out, List.length_append]; exact hown1, hB1⟩
          case measure => exact meas hlj
        · obtain rfl : j = X.args.length := by omega
          have hr2 : r = c := by rw [hrr.out, ← hcl.out, List.take_length]
          subst hr2
          obtain ⟨i0, hi0, hz0, hz1, hz2⟩ := info_parts info_ints
          obtain ⟨sr, cr, er, -⟩ := owns_shape hown
          have hR4 : R.length ≤ 3 := by have := hRl.out; omega
          have hYs := hY.size
          have hoA := hOT.own
          have hOb := hOT.be.size
          replace hrr := Lib.hid hrr; replace hOT := Lib.hid hOT; replace hOb := Lib.hid hOb
          subst er
          go_wp2_with (first | (at_builtin; refine wpList_append_own_at _ rfl _ _ 44 rfl W.heap.size 31 i0 _ 1 24 Tryz.underlying44 hi0 hz0 hz1 hz2 rfl (by decide) _ _ _ rfl (hoA.alloc _) ⟨wr.heap.size, 0, none⟩ 1 1 [.slice sr r.length cr] rfl rfl (news_new _ _ _) (by simp [Value.oneCell']) (by unfold maxLen; omega) (by omega) (by have := hOb.out; simp; omega) ?_; intro v1 w1 hown1 hgrow hnil hat1))
          have hP := OutT.push hOY.out hBY (Nat.le_refl _) hown hgrow hat1 hown1
          go_roundw
          case rel => exact ⟨k + 1, _, _, by omega, rfl, hRn, hP⟩
          case measure => exact meas hlt
    · obtain rfl : k = K.length := by omega
      have hR2 : R = T := by rw [hR.out, ← hTl.out, List.take_length]
      subst hR2
      obtain ⟨s', c', e', hv⟩ := hOT.view
      subst e'
      go_wp2
      go_ret
      exact ⟨⟨s', c', rfl, hv⟩, hB⟩

end Go.Proofs.YtakbpjgnjfigcaaGreat

/- Delays: the reference. -/
namespace Go.Proofs.YtakbpjgnjfigcaaGreat
open Go.RowKit

end Go.Proofs.YtakbpjgnjfigcaaGreat

/- Arguments of valid recurrences. -/
namespace Go.Proofs.YtakbpjgnjfigcaaGreat
open Go.RowKit

theorem needs_le (op : Int) : needs op ≤ 3 := by unfold needs; (repeat' split) <;> omega
/-- What is known of a valid recurrence's arguments. -/
theorem rec_args {n : Int} {l : List Iq} {K : List Vv} (h : recB n l K = true) : ∀ v ∈ K, v.args.length ≤ 3 ∧ ∀ a ∈ v.args, bw 0 a.v (K.length - 1) = true := by
  intro v hv
  have h1 := h
  unfold recB at h1
  rw [Bool.and_eq_true, Bool.and_eq_true, Bool.and_eq_true, Bool.and_eq_true] at h1
  have h2 := List.all_eq_true.1 h1.2.2.2.1 v hv
  simp only [varB, Bool.and_eq_true, decide_eq_true_eq] at h2
  refine ⟨by have := needs_le v.op; omega, fun a ha => ?_⟩
  have h3 := List.all_eq_true.1 h2.2.2.2.2 a ha
  simp only [argC, Bool.and_eq_true] at h3
  exact h3.2
end Go.Proofs.YtakbpjgnjfigcaaGreat

/- Whether a schedule is legal: the program and the reference; both as exported. -/
namespace Go.Proofs.YtakbpjgnjfigcaaGreat
open Go.RowKit

set_option maxRecDepth 100000 in
set_option maxHeartbeats 400000 in
theorem rows_indexf (f : Nat) (cs : Array Value) (hf : ∀ args w, (callFunc f args).run Tryz.prog w = .ok (.enter f args) w) (s : Option Addr) (cap : Nat) (l : List (List Int)) (pr : List Int → Bool) (w : World)
    (hs : SlSS intE w s l) (hl : l.length ≤ 9223372036854775807)
    (hc : ∀ q ∈ l, ∀ W ta tc, Below w.heap.size w W → SlS intE W ta q → Calls Tryz.prog f (#[.slice ta q.length tc] ++ cs) W fun e w' => e = .returned (.bool (pr q)) ∧ Below W.heap.size W w') :
    Calls Tryz.prog 119 #[.slice s l.length cap, .func (.func f) #[] cs] w fun e w' => e = .returned (.int .i64 (fidx pr l)) ∧ Below w.heap.size w w' := by
  go_enter Tryz.func119, Tryz.ntmps119
  go_wp2
  go_loopw [8] (fun i wr => ∃ k : Nat, k ≤ l.length ∧ i = .int .i64 k ∧ Below w.heap.size w wr ∧ Hid (∀ j (hj : j < l.length), j < k → pr l[j] = false)) (fun i _ => l.length - (intOf i).toNat)
  case atStart => exact ⟨0, by omega, rfl, Below.refl _ _, fun j _ h => absurd h (by omega)⟩
  case round =>
    obtain ⟨k, hk, rfl, hB, hno⟩ := hrel
    by_cases hlt : k < l.length
    · obtain ⟨b, off, ta, tc, rfl, hb, h0, hrow, -, -⟩ := (up_of hB hs).at hlt
      have hcall := hc l[k] (List.getElem_mem hlt) wr ta tc hB hrow
      have Hc := Lib.hid hcall
      clear hc hcall hs hrow
      cases hp : pr l[k] with
      | true =>
        go_wp2_with (refine Hc.out.mono ?_; rintro e W1 ⟨rfl, hb1⟩; rw [hp])
        go_ret
        exact ⟨ret_int (fidx_at hlt (fun j hj => hno j _ hj) hp).symm, Up.to hB hb1 hB.size⟩
      | false =>
        go_wp2_with (refine Hc.out.mono ?_; rintro e W1 ⟨rfl, hb1⟩; rw [hp])
        go_roundw
        case rel => exact ⟨k + 1, by omega, by go_num, Up.to hB hb1 hB.size, fun j hj h => by rcases Nat.lt_succ_iff_lt_or_eq.1 h with h | rfl; exact hno j hj h; exact hp⟩
        case measure => simp [intOf]; omega
    · obtain rfl : k = l.length := by omega
      clear hc hs
      go_wp2
      go_ret
      exact ⟨ret_int (fidx_none fun j hj => hno j hj hj).symm, hB⟩

set_option maxRecDepth 100000 in
set_option maxHeartbeats 400000 in
theorem rows_containsf (f : Nat) (cs : Array Value) (hf : ∀ args w, (callFunc f args).run Tryz.prog w = .ok (.enter f args) w) (s : Option Addr) (cap : Nat) (l : List (List Int)) (pr : List Int → Bool) (w : World)
    (hs : SlSS intE w s l) (hl : l.length ≤ 9223372036854775807)
    (hc : ∀ q ∈ l, ∀ W ta tc, Below w.heap.size w W → SlS intE W ta q → Calls Tryz.prog f (#[.slice ta q.length tc] ++ cs) W fun e w' => e = .returned (.bool (pr q)) ∧ Below W.heap.size W w') :
    Calls Tryz.prog 79 #[.slice s l.length cap, .func (.func f) #[] cs] w fun e w' => e = .returned (.bool (l.any pr)) ∧ Below w.heap.size w w' := by
  have H := Lib.hid (rows_indexf f cs hf s cap l pr w hs hl hc)
  clear hc hs hf
  go_enter Tryz.func79, Tryz.ntmps79
  go_wp2_with (go_at_call 119; refine H.out.mono ?_; rintro e W1 ⟨rfl, hb⟩)
  go_ret
  exact ⟨ret_bool (fidx_any pr l), hb⟩


def lt1 (n : Int) : Bool := decide (n < 1)
/-- Whether a schedule is legal. -/
def legB (K : List Vv) (q : Sd) : Bool := (delT K q).all fun l => l.all fun n => !lt1 n
theorem any_not2 {α : Type} (pr : α → Bool) (l : List α) : (!l.any pr) = l.all fun x => !pr x := by
  induction l with
  | nil => rfl
  | cons x l ih => simp only [List.any_cons, List.all_cons, Bool.not_or, ih]
theorem legB_any (K : List Vv) (q : Sd) : (!(delT K q).any fun l => l.any lt1) = legB K q := by
  rw [any_not2]; unfold legB; congr 1; funext l; exact any_not2 _ _
set_option maxRecDepth 100000 in
theorem legal11_c (x : Int) (w : World) : Calls Tryz.prog 82 #[.int .i64 x] w fun e w' => e = .returned (.bool (lt1 x)) ∧ Below w.heap.size w w' := by
  unfold lt1
  by_cases h : x < 1
  all_goals
    go_enter Tryz.func82, Tryz.ntmps82
    go_wp2
    go_ret
    exact ⟨ret_bool (by simp [h]), Below.refl _ _⟩
set_option maxRecDepth 100000 in
theorem legal1_c (s : Option Addr) (cap : Nat) (l : List Int) (w : World) (h : SlS intE w s l) (hl : l.length ≤ 9223372036854775807) :
    Calls Tryz.prog 81 #[.slice s l.length cap] w fun e w' => e = .returned (.bool (l.any lt1)) ∧ Below w.heap.size w w' := by
  have hc := int_containsf 82 #[] (fun _ _ => rfl) s cap l lt1 w h hl (fun q _ W _ => legal11_c q W)
  obtain ⟨B, hB0⟩ : ∃ x, l.any lt1 = x := ⟨_, rfl⟩
  simp only [hB0] at hc ⊢
  clear hB0
  replace hc := Lib.hid hc
  go_enter Tryz.func81, Tryz.ntmps81
  go_wp2_with (first | (go_at_call 72; refine hc.out.mono ?_; rintro e W1 ⟨rfl, hb⟩))
  go_ret
  exact ⟨rfl, hb⟩
theorem delT_bd {n : Int} {l : List Iq} {K : List Vv} (h : recB n l K = true) (q : Sd) : ∀ r ∈ delT K q, r.length ≤ 3 := by
  intro r hr
  obtain ⟨k, hk, rfl⟩ := List.getElem_of_mem hr
  have hk2 : k < K.length := by rw [delT_len] at hk; exact hk
  rw [delT_row hk2 hk, List.length_map]
  exact (rec_args h _ (List.getElem_mem hk2)).1
set_option maxRecDepth 100000 in
set_option maxHeartbeats 1000000 in
theorem legal_c (n : Int) (s : Option Addr) (cap : Nat) (l : List Iq) (s2 : Option Addr) (cq : Nat) (K : List Vv) (q : Sd) (w : World) (hr : RecM w s l s2 cq K) (hq : SdM w q) (h0 : recB n l K = true) (hol : q.off.length = K.length) (hk4 : K.length ≤ 4) :
    Calls Tryz.prog 35 #[.agg #[.int .i64 n, .slice s l.length cap, .slice s2 K.length cq], .agg #[.int .i64 q.f.x, .int .i64 q.f.y, .int .i64 q.f.z, .slice q.s q.off.length q.cap]] w fun e w' => e = .returned (.bool (legB K q)) ∧ Below w.heap.size w w' := by
  have hd := fun V (h : RecM V s l s2 cq K) (h2 : SdM V q) => delays_c n s cap l s2 cq K q V h h2 hol hk4 (rec_args h0)
  have hcf := fun V t c (h : SlSS intE V t (delT K q)) => rows_containsf 81 #[] (fun _ _ => rfl) t c (delT K q) (fun l => l.any lt1) V h (by rw [delT_len]; omega) (fun r hr W ta tc _ hs => legal1_c ta tc r W hs (by have := delT_bd h0 q r hr; omega))
  have hle := legB_any K q
  obtain ⟨B, hB0⟩ : ∃ x, legB K q = x := ⟨_, rfl⟩
  obtain ⟨T, hT⟩ : ∃ x, delT K q = x := ⟨_, rfl⟩
  simp only [hB0, hT] at hd hcf hle ⊢
  clear hB0 hT
  obtain ⟨C, hC⟩ : ∃ x, (T.any fun l => l.any lt1) = x := ⟨_, rfl⟩
  simp only [hC] at hcf hle
  subst hle
  clear hC
  replace hd := Lib.hid hd; replace hcf := Lib.hid hcf; replace hol := Lib.hid hol
  go_enter Tryz.func35, Tryz.ntmps35
  go_upto_region 1 with (fail)
  refine wp_world fun W HW => ?_
  have hB : Below w.heap.size w W := by rw [HW.out]; (repeat (first | exact Below.refl _ _ | refine Below.alloc ?_ (by simp; try omega) _ | refine Below.setCell ?_ (by simp) _ | refine Below.drew ?_))
  have d0 : W.cell? ⟨w.heap.size, 0, none⟩ = some (.int .i64 n) := by rw [HW.out]; simp [go_sem]
  have d1 : W.cell? ⟨w.heap.size, 1, none⟩ = some (.slice s l.length cap) := by rw [HW.out]; simp [go_sem]
  have d2 : W.cell? ⟨w.heap.size, 2, none⟩ = some (.slice s2 K.length cq) := by rw [HW.out]; simp [go_sem]
  have dl : w.heap.size < W.heap.size := World.block_lt_of_cell? W _ d0
  have g0 : W.cell? ⟨w.heap.size + 1, 0, none⟩ = some (.int .i64 q.f.x) := by rw [HW.out]; simp [go_sem]
  have g1 : W.cell? ⟨w.heap.size + 1, 1, none⟩ = some (.int .i64 q.f.y) := by rw [HW.out]; simp [go_sem]
  have g2 : W.cell? ⟨w.heap.size + 1, 2, none⟩ = some (.int .i64 q.f.z) := by rw [HW.out]; simp [go_sem]
  have g3 : W.cell? ⟨w.heap.size + 1, 3, none⟩ = some (.slice q.s q.off.length q.cap) := by rw [HW.out]; simp [go_sem]
  have gl : w.heap.size + 1 < W.heap.size := World.block_lt_of_cell? W _ g0
  try replace hr := up_of hB hr
  try replace hq := up_of hB hq
  go_wp2_with (first | (go_at_call 80; refine (hd.out _ hr hq).mono ?_; rintro e A1 ⟨⟨s1, k1, rfl, hv⟩, hb⟩; (try replace hr := up_of hb hr); (try replace hq := up_of hb hq); (try replace hB := up_of hb hB); (try replace d0 := up_of hb d0); (try replace d1 := up_of hb d1); (try replace d2 := up_of hb d2); (try replace dl := up_of hb dl); (try replace g0 := up_of hb g0); (try replace g1 := up_of hb g1); (try replace g2 := up_of hb g2); (try replace g3 := up_of hb g3); (try replace gl := up_of hb gl)) | (go_at_call 79; refine (hcf.out _ s1 k1 hv).mono ?_; rintro e W1 ⟨rfl, hb⟩; (try replace hr := up_of hb hr); (try replace hq := up_of hb hq); (try replace hB := up_of hb hB); (try replace d0 := up_of hb d0); (try replace d1 := up_of hb d1); (try replace d2 := up_of hb d2); (try replace dl := up_of hb dl); (try replace g0 := up_of hb g0); (try replace g1 := up_of hb g1); (try replace g2 := up_of hb g2); (try replace g3 := up_of hb g3); (try replace gl := up_of hb gl)))
  go_ret
  exact ⟨rfl, hB⟩
theorem leg_no {K : List Vv} {q : Sd} {k j : Nat} (hk : k < (delT K q).length) (hj : j < (delT K q)[k].length) (h : (delT K q)[k][j] < 1) : legB K q = false := by
  cases hh : legB K q
  · rfl
  · unfold legB at hh
    have h1 := List.all_eq_true.1 (List.all_eq_true.1 hh _ (List.getElem_mem hk)) _ (List.getElem_mem hj)
    simp [lt1, h] at h1
theorem leg_yes {K : List Vv} {q : Sd} (h : ∀ k (hk : k < (delT K q).length) j (hj : j < (delT K q)[k].length), 1 ≤ (delT K q)[k][j]) : legB K q = true := by
  unfold legB
  rw [List.all_eq_true]; intro r hr
  obtain ⟨k, hk, rfl⟩ := List.getElem_of_mem hr
  rw [List.all_eq_true]; intro x hx
  obtain ⟨j, hj, rfl⟩ := List.getElem_of_mem hx
  have := h k hk j hj
  simp [lt1]; omega
end Go.Proofs.YtakbpjgnjfigcaaGreat
