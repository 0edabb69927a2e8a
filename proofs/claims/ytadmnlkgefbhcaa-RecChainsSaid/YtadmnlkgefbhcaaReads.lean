/- How often arguments are read: the program. -/
import Derived.Test.YtadmnlkgefbhcaaRdsLaw
import Derived.Test.YtadmnlkgefbhcaaNet8
import Derived.Test.YtadmnlkgefbhcaaB7
namespace Go.Proofs.Ytadmnlkgefbhcaa
open Go.RowKit Go.Maps

/-- What Reads hands back: an error, or the reads. -/
def RdRet (n : Int) (l : List Iq) (K : List Vv) (e : Ending) (w' : World) : Prop :=
  (recB n l K = false ∧ e = .returned (.tuple #[.slice none 0 0, .int .i64 20])) ∨
  (recB n l K = true ∧ ∃ s' c', e = .returned (.tuple #[.slice s' (rdT K (pts n l)).length c', .int .i64 0]) ∧ SlSS intE w' s' (rdT K (pts n l)))
set_option maxRecDepth 100000 in
set_option maxHeartbeats 4000000 in
theorem Reads_c (n : Int) (s : Option Addr) (cap : Nat) (l : List Iq) (s2 : Option Addr) (cq : Nat) (K : List Vv) (w : World) (hr : RecM w s l s2 cq K) :
    Calls Try.prog 24 #[.agg #[.int .i64 n, .slice s l.length cap, .slice s2 K.length cq]] w fun e w' => RdRet n l K e w' ∧ Below w.heap.size w w' := by
  cases hb : recB n l K
  · have hn := fun V (hr : RecM V s l s2 cq K) => newNet_no n s cap l s2 cq K V hr hb
    have hend : ∀ w' : World, RdRet n l K (.returned (.tuple #[.slice none 0 0, .int .i64 20])) w' := fun w' => .inl ⟨hb, rfl⟩
    obtain ⟨R, hR⟩ : ∃ R, RdRet n l K = R := ⟨_, rfl⟩
    simp only [hR] at hend ⊢
    replace hn := Lib.hid hn; replace hend := Lib.hid hend
    clear hb hR
    go_enter Try.func24, Try.ntmps24
    go_upto_region 1 with (fail)
    refine wp_world fun W HW => ?_
    have hB : Below w.heap.size w W := by rw [HW.out]; (repeat (first | exact Below.refl _ _ | refine Below.alloc ?_ (by simp; try omega) _ | refine Below.setCell ?_ (by simp) _ | refine Below.drew ?_))
    have d0 : W.cell? ⟨w.heap.size, 0, none⟩ = some (.int .i64 n) := by rw [HW.out]; simp [go_sem]
    have d1 : W.cell? ⟨w.heap.size, 1, none⟩ = some (.slice s l.length cap) := by rw [HW.out]; simp [go_sem]
    have d2 : W.cell? ⟨w.heap.size, 2, none⟩ = some (.slice s2 K.length cq) := by rw [HW.out]; simp [go_sem]
    have dl : w.heap.size < W.heap.size := World.block_lt_of_cell? W _ d0
    try replace hr := up_of hB hr
    go_wp2_with (first | (go_at_call 55; refine (hn.out _ hr).mono ?_; rintro e W1 ⟨rfl, hb⟩; (try replace hr := up_of hb hr); (try replace hB := up_of hb hB); (try replace d0 := up_of hb d0); (try replace d1 := up_of hb d1); (try replace d2 := up_of hb d2); (try replace dl := up_of hb dl)))
    go_ret2
    exact ⟨hend.out _, hB⟩
  have hn := fun V (hr : RecM V s l s2 cq K) => newNet_yes n s cap l s2 cq K V hr hb
  have ok := netOk hb
  have hend : ∀ (w' : World) s' c', SlSS intE w' s' (rdT K (pts n l)) → RdRet n l K (.returned (.tuple #[.slice s' (rdT K (pts n l)).length c', .int .i64 0])) w' := fun w' s' c' hs => .inr ⟨hb, s', c', rfl, hs⟩
  obtain ⟨RR, hRR⟩ : ∃ R, RdRet n l K = R := ⟨_, rfl⟩
  simp only [hRR] at hend ⊢
  obtain ⟨P, hP⟩ : ∃ P, pts n l = P := ⟨_, rfl⟩
  simp only [hP] at hn ok hend
  clear hP hb hRR
  obtain ⟨T, hT, hTl, hTr⟩ : ∃ T, rdT K P = T ∧ T.length = K.length ∧ ∀ (k : Nat) (hk : k < K.length) (hk' : k < T.length), T[k] = K[k].args.map fun a => ((rdN P a P.length : Nat) : Int) := ⟨_, rfl, rdT_len K P, fun k hk hk' => rdT_row hk hk'⟩
  simp only [hT] at hend
  clear hT
  have hpts := ok.pts
  have hPl := ok.len
  have hK4 := ok.vars
  have har := ok.args
  replace hn := Lib.hid hn; replace hend := Lib.hid hend; replace hTl := Lib.hid hTl; replace hTr := Lib.hid hTr; replace ok := Lib.hid ok; replace hpts := Lib.hid hpts; replace har := Lib.hid har
  go_enter Try.func24, Try.ntmps24
  go_upto_region 1 with (fail)
  refine wp_world fun W HW => ?_
  have hB : Below w.heap.size w W := by rw [HW.out]; (repeat (first | exact Below.refl _ _ | refine Below.alloc ?_ (by simp; try omega) _ | refine Below.setCell ?_ (by simp) _ | refine Below.drew ?_))
  have d0 : W.cell? ⟨w.heap.size, 0, none⟩ = some (.int .i64 n) := by rw [HW.out]; simp [go_sem]
  have d1 : W.cell? ⟨w.heap.size, 1, none⟩ = some (.slice s l.length cap) := by rw [HW.out]; simp [go_sem]
  have d2 : W.cell? ⟨w.heap.size, 2, none⟩ = some (.slice s2 K.length cq) := by rw [HW.out]; simp [go_sem]
  have dl : w.heap.size < W.heap.size := World.block_lt_of_cell? W _ d0
  try replace hr := up_of hB hr
  go_upto_region 2 with (first | (go_at_call 55; refine (hn.out _ hr).mono ?_; rintro e A ⟨⟨g, sp, cp, mb, rfl, hnt⟩, hb⟩; (try replace hr := up_of hb hr); (try replace hB := up_of hb hB); (try replace d0 := up_of hb d0); (try replace d1 := up_of hb d1); (try replace d2 := up_of hb d2); (try replace dl := up_of hb dl)))
  obtain ⟨n0, n1, n2, n3, n4⟩ := hnt.cells
  have h0 : OutT A A (.slice none 0 0) [] [] := OutT.nil A
  go_wp2
  go_loopw [6, 28] (fun out ii V => ∃ (k : Nat) (ss : List Sv) (R : List (List Int)), k ≤ K.length ∧ ii = .int .i64 k ∧ Hid (R = T.take k) ∧ OutT A V out ss R) (fun _ ii _ => K.length - (intOf ii).toNat)
  case atStart => exact ⟨0, [], [], by omega, rfl, Lib.hid (by simp), h0⟩
  case round =>
    clear h0
    obtain ⟨k, ss, R, hk, rfl, hR, hOT⟩ := hrel
    have hBV := hOT.be
    try replace hr := up_of hBV hr
    try replace hB := up_of hBV hB
    try replace d0 := up_of hBV d0
    try replace d1 := up_of hBV d1
    try replace d2 := up_of hBV d2
    try replace dl := up_of hBV dl
    try replace hnt := up_of hBV hnt
    try replace n3 := up_of hBV n3
    by_cases hlt : k < K.length
    · obtain ⟨bk, ok2, sa, ca, e2, hbk, v0, v1, v2, v3, v4, v5, v6, hsa, hal, -, -⟩ := hr.vars.at hlt
      cases e2
      have hkT : k < T.length := by have := hTl.out; omega
      have hrow := hTr.out k hlt hkT
      have ha3 := har.out _ (List.getElem_mem hlt)
      have hsh := ok.out.shift _ (List.getElem_mem hlt)
      have hav := ok.out.var _ (List.getElem_mem hlt)
      have hRl : R.length = k := by rw [hR.out, List.length_take]; omega
      have hRn : R ++ [T[k]] = T.take (k + 1) := by rw [hR.out, List.take_succ_eq_append_getElem hkT]
      obtain ⟨X, hX⟩ : ∃ x, K[k] = x := ⟨_, rfl⟩
      obtain ⟨c, hc⟩ : ∃ x, T[k] = x := ⟨_, rfl⟩
      rw [hX] at hrow ha3 hav hsh hsa hal v0 v1 v2 v3 v4 v5 v6
      rw [hc] at hrow hRn
      have hcl : c.length = X.args.length := by rw [hrow]; simp
      have hca : ∀ j (hj : j < X.args.length) (hj' : j < c.length), c[j] = ((rdN P X.args[j] P.length : Nat) : Int) := fun j hj hj' => by subst hrow; exact List.getElem_map ..
      replace hRn := Lib.hid hRn; replace hRl := Lib.hid hRl; replace hav := Lib.hid hav; replace hsh := Lib.hid hsh; replace hcl := Lib.hid hcl; replace hca := Lib.hid hca; replace hc := Lib.hid hc; replace hX := Lib.hid hX
      clear hrow hR
      have i1 : (0 : Int) ≤ (k : Int) := by omega
      have i2 : (k : Int) < (K.length : Int) := by omega
      go_upto_region 8 with (fail)
      obtain ⟨V0, rfl⟩ : ∃ V0, V0 = wr := ⟨wr, rfl⟩
      refine wp_world fun Y HY => ?_
      have hY : Below V0.heap.size V0 Y := by rw [HY.out]; (repeat (first | exact Below.refl _ _ | refine Below.alloc ?_ (by simp; try omega) _ | refine Below.setCell ?_ (by simp) _ | refine Below.drew ?_))
      have x0 : Y.cell? ⟨V0.heap.size, 0, none⟩ = some (.string X.name) := by rw [HY.out]; simp [go_sem]
      have x1 : Y.cell? ⟨V0.heap.size, 1, none⟩ = some (.int .i64 X.op) := by rw [HY.out]; simp [go_sem]
      have x2 : Y.cell? ⟨V0.heap.size, 2, none⟩ = some (.slice sa X.args.length ca) := by rw [HY.out]; simp [go_sem]
      have x3 : Y.cell? ⟨V0.heap.size, 3, none⟩ = some (.int .i64 X.i0) := by rw [HY.out]; simp [go_sem]
      have x4 : Y.cell? ⟨V0.heap.size, 4, none⟩ = some (.int .i64 X.i1) := by rw [HY.out]; simp [go_sem]
      have x5 : Y.cell? ⟨V0.heap.size, 5, none⟩ = some (.int .i64 X.i2) := by rw [HY.out]; simp [go_sem]
      have x6 : Y.cell? ⟨V0.heap.size, 6, none⟩ = some (.int .i64 X.i3) := by rw [HY.out]; simp [go_sem]
      have xl : V0.heap.size < Y.heap.size := World.block_lt_of_cell? Y _ x0
      try replace hr := up_of hY hr
      try replace hB := up_of hY hB
      try replace d0 := up_of hY d0
      try replace d1 := up_of hY d1
      try replace d2 := up_of hY d2
      try replace dl := up_of hY dl
      try replace hnt := up_of hY hnt
      try replace n3 := up_of hY n3
      try replace hOT := up_of hY hOT
      try replace hBV := up_of hY hBV
      try replace hsa := up_of hY hsa
      have hOY := Lib.hid hOT
      have hgY : g < Y.heap.size := World.block_lt_of_cell? _ _ n3
      have hYn : Y.ownsRow Y.heap.size 3 1 (.slice none 0 0) 0 (intE.all []) := World.ownsRow_nil _ _ _ _
      go_wp2
      go_loopw [9, 35] (fun row jj V => ∃ (j : Nat) (r : List Int), j ≤ X.args.length ∧ jj = .int .i64 j ∧ Hid (r = c.take j) ∧ V.ownsRow Y.heap.size 3 1 row r.length (intE.all r) ∧ Below Y.heap.size Y V) (fun _ jj _ => X.args.length - (intOf jj).toNat)
      case atStart => exact ⟨0, [], by omega, rfl, Lib.hid (by simp), hYn, Below.refl _ _⟩
      case round =>
        clear hYn
        obtain ⟨j, r, hj, rfl, hrr, hown, hBY⟩ := hrel
        have hBYs := hBY.size
        try replace hr := up_of hBY hr
        try replace hB := up_of hBY hB
        try replace d0 := up_of hBY d0
        try replace d1 := up_of hBY d1
        try replace d2 := up_of hBY d2
        try replace dl := up_of hBY dl
        try replace hnt := up_of hBY hnt
        try replace n3 := up_of hBY n3
        try replace hOT := up_of hBY hOT
        try replace hBV := up_of hBY hBV
        try replace hsa := up_of hBY hsa
        try replace hY := up_of hBY hY
        try replace x0 := up_of hBY x0
        try replace x1 := up_of hBY x1
        try replace x2 := up_of hBY x2
        try replace x3 := up_of hBY x3
        try replace x4 := up_of hBY x4
        try replace x5 := up_of hBY x5
        try replace x6 := up_of hBY x6
        try replace xl := up_of hBY xl
        by_cases hlj : j < X.args.length
        · obtain ⟨ba, oa, ea, hba, z0, z1, z2, z3⟩ := hsa.ar_at hlj
          cases ea
          have hjc : j < c.length := by have := hcl.out; omega
          have hcj := hca.out j hlj hjc
          have hrn : r ++ [c[j]] = c.take (j + 1) := by rw [hrr.out, List.take_succ_eq_append_getElem hjc]
          have hrl : r.length = j := by rw [hrr.out, List.length_take]; omega
          have hsm := hsh.out _ (List.getElem_mem hlj)
          have hvv := hav.out _ (List.getElem_mem hlj)
          obtain ⟨a, ha⟩ : ∃ x, X.args[j] = x := ⟨_, rfl⟩
          rw [ha] at z0 z1 z2 z3 hcj hsm hvv
          have hag := fun (p : Pt) (hp : p.small 20) V (h : Net 106 V g n s cap l (some ⟨bk, ok2, none⟩) cq K sp cp mb P) => argument_c a p V h ok.out hp hsm hvv
          have hrd := fun (m : Nat) (h : m < P.length) => rdN_succ (a := a) h
          have hrdl := fun (m : Nat) => rdN_le P a m
          have hrd0 := rdN_zero P a
          obtain ⟨f, hf⟩ : ∃ f, rdN P a = f := ⟨_, rfl⟩
          simp only [hf] at hrd hrdl hcj hrd0
          have hr3 : r.length ≤ 3 := by omega
          have j1 : (0 : Int) ≤ (j : Int) := by omega
          have j2 : (j : Int) < (X.args.length : Int) := by omega
          obtain ⟨i0, hi0, hz0, hz1, hz2⟩ := info_parts info_int
          obtain ⟨cj, hcj0⟩ : ∃ x, c[j] = x := ⟨_, rfl⟩
          rw [hcj0] at hcj hrn
          replace hcj := Lib.hid hcj; replace hrn := Lib.hid hrn; replace hrl := Lib.hid hrl; replace hag := Lib.hid hag; replace hrd := Lib.hid hrd; replace hrdl := Lib.hid hrdl; replace hrd0 := Lib.hid hrd0; replace ha := Lib.hid ha; replace hf := Lib.hid hf; replace hcj0 := Lib.hid hcj0
          clear hrr hsm hvv
          go_upto_region 13 with (fail)
          obtain ⟨V1, rfl⟩ : ∃ V1, V1 = wr := ⟨wr, rfl⟩
          refine wp_world fun Z HZ => ?_
          have hZ : Below V1.heap.size V1 Z := by rw [HZ.out]; (repeat (first | exact Below.refl _ _ | refine Below.alloc ?_ (by simp; try omega) _ | refine Below.setCell ?_ (by simp) _ | refine Below.drew ?_))
          have a0 : Z.cell? ⟨V1.heap.size, 0, none⟩ = some (.int .i64 a.v) := by rw [HZ.out]; simp [go_sem]
          have a1 : Z.cell? ⟨V1.heap.size, 1, none⟩ = some (.int .i64 a.p.x) := by rw [HZ.out]; simp [go_sem]
          have a2 : Z.cell? ⟨V1.heap.size, 2, none⟩ = some (.int .i64 a.p.y) := by rw [HZ.out]; simp [go_sem]
          have a3 : Z.cell? ⟨V1.heap.size, 3, none⟩ = some (.int .i64 a.p.z) := by rw [HZ.out]; simp [go_sem]
          have al : V1.heap.size < Z.heap.size := World.block_lt_of_cell? Z _ a0
          try replace hr := up_of hZ hr
          try replace hB := up_of hZ hB
          try replace d0 := up_of hZ d0
          try replace d1 := up_of hZ d1
          try replace d2 := up_of hZ d2
          try replace dl := up_of hZ dl
          try replace hnt := up_of hZ hnt
          try replace n3 := up_of hZ n3
          try replace hOT := up_of hZ hOT
          try replace hBV := up_of hZ hBV
          try replace hsa := up_of hZ hsa
          try replace hY := up_of hZ hY
          try replace x0 := up_of hZ x0
          try replace x1 := up_of hZ x1
          try replace x2 := up_of hZ x2
          try replace x3 := up_of hZ x3
          try replace x4 := up_of hZ x4
          try replace x5 := up_of hZ x5
          try replace x6 := up_of hZ x6
          try replace xl := up_of hZ xl
          try replace hown := up_of hZ hown
          try replace hBY := up_of hZ hBY
          have hnZ := Lib.hid hnt
          have hZo := Lib.hid hown
          have hZb := Lib.hid hBY
          clear hown hBY
          go_wp2
          go_loopw [12, 44] (fun nn ii V => ∃ (i : Nat), i ≤ P.length ∧ ii = .int .i64 i ∧ nn = .int .i64 ((f i : Nat) : Int) ∧ Below Z.heap.size Z V) (fun _ ii _ => P.length - (intOf ii).toNat)
          case atStart => exact ⟨0, by omega, rfl, by rw [hrd0.out]; rfl, Below.refl _ _⟩
          case round =>
            obtain ⟨i, hi, rfl, rfl, hBZ⟩ := hrel
            have hBZs := hBZ.size
            try replace hr := up_of hBZ hr
            try replace hB := up_of hBZ hB
            try replace d0 := up_of hBZ d0
            try replace d1 := up_of hBZ d1
            try replace d2 := up_of hBZ d2
            try replace dl := up_of hBZ dl
            try replace hnt := up_of hBZ hnt
            try replace n3 := up_of hBZ n3
            try replace hOT := up_of hBZ hOT
            try replace hBV := up_of hBZ hBV
            try replace hsa := up_of hBZ hsa
            try replace hY := up_of hBZ hY
            try replace x0 := up_of hBZ x0
            try replace x1 := up_of hBZ x1
            try replace x2 := up_of hBZ x2
            try replace x3 := up_of hBZ x3
            try replace x4 := up_of hBZ x4
            try replace x5 := up_of hBZ x5
            try replace x6 := up_of hBZ x6
            try replace xl := up_of hBZ xl
            try replace hown := up_of hBZ hown
            try replace hBY := up_of hBZ hBY
            try replace hZ := up_of hBZ hZ
            try replace a0 := up_of hBZ a0
            try replace a1 := up_of hBZ a1
            try replace a2 := up_of hBZ a2
            try replace a3 := up_of hBZ a3
            try replace al := up_of hBZ al
            by_cases hli : i < P.length
            · obtain ⟨bp2, op2, ep2, -⟩ := pt_at hnZ.out.pts hli
              cases ep2
              obtain ⟨bp, op, ep, hbp, p0, p1, p2⟩ := pt_at hnt.pts hli
              cases ep
              have hps := hpts.out _ (List.getElem_mem hli)
              have hrdi := hrd.out i hli
              have hfl := hrdl.out i
              obtain ⟨⟨px, py, pz⟩, hpp⟩ : ∃ x, P[i] = x := ⟨_, rfl⟩
              rw [hpp] at p0 p1 p2 hps hrdi
              have hA := fun V h => hag.out ⟨px, py, pz⟩ hps V h
              obtain ⟨NZ, hNZ⟩ : ∃ z, numZ P a.v (ptP ⟨px, py, pz⟩ a.p) = z := ⟨_, rfl⟩
              simp only [hNZ] at hA
              obtain ⟨⟨rx, ry, rz⟩, hrp⟩ : ∃ x, ptP ⟨px, py, pz⟩ a.p = x := ⟨_, rfl⟩
              simp only [hrp] at hA hrdi
              obtain ⟨fi, hfi⟩ : ∃ x, f i = x := ⟨_, rfl⟩
              obtain ⟨fi1, hfi1⟩ : ∃ x, f (i + 1) = x := ⟨_, rfl⟩
              rw [hfi] at hfl
              rw [hfi, hfi1] at hrdi
              simp only [hfi]
              have k1 : (0 : Int) ≤ (i : Int) := by omega
              have k2 : (i : Int) < (P.length : Int) := by omega
              cases hBB : (pix P ⟨rx, ry, rz⟩).isSome
              · rw [hBB] at hrdi
                simp only [hBB] at hA
                have e1 : fi1 = fi := by simpa using hrdi
                replace hA := Lib.hid hA; replace hNZ := Lib.hid hNZ; replace hrp := Lib.hid hrp; replace hpp := Lib.hid hpp; replace hfi := Lib.hid hfi; replace hfi1 := Lib.hid hfi1; replace e1 := Lib.hid e1; replace hBB := Lib.hid hBB
                clear hrdi
                go_upto_region 16 with (fail)
                refine wp_world fun Y2 HY2 => ?_
                have hY2 : Below wr.heap.size wr Y2 := by rw [HY2.out]; (repeat (first | exact Below.refl _ _ | refine Below.alloc ?_ (by simp; try omega) _ | refine Below.setCell ?_ (by simp) _ | refine Below.drew ?_))
                have q0 : Y2.cell? ⟨wr.heap.size, 0, none⟩ = some (.int .i64 px) := by rw [HY2.out]; simp [go_sem]
                have q1 : Y2.cell? ⟨wr.heap.size, 1, none⟩ = some (.int .i64 py) := by rw [HY2.out]; simp [go_sem]
                have q2 : Y2.cell? ⟨wr.heap.size, 2, none⟩ = some (.int .i64 pz) := by rw [HY2.out]; simp [go_sem]
                have ql : wr.heap.size < Y2.heap.size := World.block_lt_of_cell? Y2 _ q0
                try replace hr := up_of hY2 hr
                try replace hB := up_of hY2 hB
                try replace d0 := up_of hY2 d0
                try replace d1 := up_of hY2 d1
                try replace d2 := up_of hY2 d2
                try replace dl := up_of hY2 dl
                try replace hnt := up_of hY2 hnt
                try replace n3 := up_of hY2 n3
                try replace hOT := up_of hY2 hOT
                try replace hBV := up_of hY2 hBV
                try replace hsa := up_of hY2 hsa
                try replace hY := up_of hY2 hY
                try replace x0 := up_of hY2 x0
                try replace x1 := up_of hY2 x1
                try replace x2 := up_of hY2 x2
                try replace x3 := up_of hY2 x3
                try replace x4 := up_of hY2 x4
                try replace x5 := up_of hY2 x5
                try replace x6 := up_of hY2 x6
                try replace xl := up_of hY2 xl
                try replace hown := up_of hY2 hown
                try replace hBY := up_of hY2 hBY
                try replace hZ := up_of hY2 hZ
                try replace a0 := up_of hY2 a0
                try replace a1 := up_of hY2 a1
                try replace a2 := up_of hY2 a2
                try replace a3 := up_of hY2 a3
                try replace al := up_of hY2 al
                try replace hBZ := up_of hY2 hBZ
                go_upto_region 17 with (first | (go_at_call 74; refine (hA.out _ hnt).mono ?_; rintro e W3 ⟨rfl, hb⟩; (try replace hr := up_of hb hr); (try replace hB := up_of hb hB); (try replace d0 := up_of hb d0); (try replace d1 := up_of hb d1); (try replace d2 := up_of hb d2); (try replace dl := up_of hb dl); (try replace hnt := up_of hb hnt); (try replace n3 := up_of hb n3); (try replace hOT := up_of hb hOT); (try replace hBV := up_of hb hBV); (try replace hsa := up_of hb hsa); (try replace hY := up_of hb hY); (try replace x0 := up_of hb x0); (try replace x1 := up_of hb x1); (try replace x2 := up_of hb x2); (try replace x3 := up_of hb x3); (try replace x4 := up_of hb x4); (try replace x5 := up_of hb x5); (try replace x6 := up_of hb x6); (try replace xl := up_of hb xl); (try replace hown := up_of hb hown); (try replace hBY := up_of hb hBY); (try replace hZ := up_of hb hZ); (try replace a0 := up_of hb a0); (try replace a1 := up_of hb a1); (try replace a2 := up_of hb a2); (try replace a3 := up_of hb a3); (try replace al := up_of hb al); (try replace hBZ := up_of hb hBZ); (try replace hY2 := up_of hb hY2); (try replace q0 := up_of hb q0); (try replace q1 := up_of hb q1); (try replace q2 := up_of hb q2); (try replace ql := up_of hb ql)))
                refine wp_world fun Y3 HY3 => ?_
                have hY3 : Below W3.heap.size W3 Y3 := by rw [HY3.out]; (repeat (first | exact Below.refl _ _ | refine Below.alloc ?_ (by simp; try omega) _ | refine Below.setCell ?_ (by simp) _ | refine Below.drew ?_))
                have b0 : Y3.cell? ⟨W3.heap.size, 0, none⟩ = some (.int .i64 rx) := by rw [HY3.out]; simp [go_sem]
                have b1 : Y3.cell? ⟨W3.heap.size, 1, none⟩ = some (.int .i64 ry) := by rw [HY3.out]; simp [go_sem]
                have b2 : Y3.cell? ⟨W3.heap.size, 2, none⟩ = some (.int .i64 rz) := by rw [HY3.out]; simp [go_sem]
                have bl : W3.heap.size < Y3.heap.size := World.block_lt_of_cell? Y3 _ b0
                try replace hr := up_of hY3 hr
                try replace hB := up_of hY3 hB
                try replace d0 := up_of hY3 d0
                try replace d1 := up_of hY3 d1
                try replace d2 := up_of hY3 d2
                try replace dl := up_of hY3 dl
                try replace hnt := up_of hY3 hnt
                try replace n3 := up_of hY3 n3
                try replace hOT := up_of hY3 hOT
                try replace hBV := up_of hY3 hBV
                try replace hsa := up_of hY3 hsa
                try replace hY := up_of hY3 hY
                try replace x0 := up_of hY3 x0
                try replace x1 := up_of hY3 x1
                try replace x2 := up_of hY3 x2
                try replace x3 := up_of hY3 x3
                try replace x4 := up_of hY3 x4
                try replace x5 := up_of hY3 x5
                try replace x6 := up_of hY3 x6
                try replace xl := up_of hY3 xl
                try replace hown := up_of hY3 hown
                try replace hBY := up_of hY3 hBY
                try replace hZ := up_of hY3 hZ
                try replace a0 := up_of hY3 a0
                try replace a1 := up_of hY3 a1
                try replace a2 := up_of hY3 a2
                try replace a3 := up_of hY3 a3
                try replace al := up_of hY3 al
                try replace hBZ := up_of hY3 hBZ
                try replace hY2 := up_of hY3 hY2
                try replace q0 := up_of hY3 q0
                try replace q1 := up_of hY3 q1
                try replace q2 := up_of hY3 q2
                try replace ql := up_of hY3 ql
                go_wp2
                go_roundw
                case rel => exact ⟨i + 1, by omega, rfl, by rw [hfi1.out, e1.out], hBZ⟩
                case measure => exact meas hli
              · rw [hBB] at hrdi
                simp only [hBB] at hA
                have e1 : fi1 = fi + 1 := by simpa using hrdi
                replace hA := Lib.hid hA; replace hNZ := Lib.hid hNZ; replace hrp := Lib.hid hrp; replace hpp := Lib.hid hpp; replace hfi := Lib.hid hfi; replace hfi1 := Lib.hid hfi1; replace e1 := Lib.hid e1; replace hBB := Lib.hid hBB
                clear hrdi
                go_upto_region 16 with (fail)
                refine wp_world fun Y2 HY2 => ?_
                have hY2 : Below wr.heap.size wr Y2 := by rw [HY2.out]; (repeat (first | exact Below.refl _ _ | refine Below.alloc ?_ (by simp; try omega) _ | refine Below.setCell ?_ (by simp) _ | refine Below.drew ?_))
                have q0 : Y2.cell? ⟨wr.heap.size, 0, none⟩ = some (.int .i64 px) := by rw [HY2.out]; simp [go_sem]
                have q1 : Y2.cell? ⟨wr.heap.size, 1, none⟩ = some (.int .i64 py) := by rw [HY2.out]; simp [go_sem]
                have q2 : Y2.cell? ⟨wr.heap.size, 2, none⟩ = some (.int .i64 pz) := by rw [HY2.out]; simp [go_sem]
                have ql : wr.heap.size < Y2.heap.size := World.block_lt_of_cell? Y2 _ q0
                try replace hr := up_of hY2 hr
                try replace hB := up_of hY2 hB
                try replace d0 := up_of hY2 d0
                try replace d1 := up_of hY2 d1
                try replace d2 := up_of hY2 d2
                try replace dl := up_of hY2 dl
                try replace hnt := up_of hY2 hnt
                try replace n3 := up_of hY2 n3
                try replace hOT := up_of hY2 hOT
                try replace hBV := up_of hY2 hBV
                try replace hsa := up_of hY2 hsa
                try replace hY := up_of hY2 hY
                try replace x0 := up_of hY2 x0
                try replace x1 := up_of hY2 x1
                try replace x2 := up_of hY2 x2
                try replace x3 := up_of hY2 x3
                try replace x4 := up_of hY2 x4
                try replace x5 := up_of hY2 x5
                try replace x6 := up_of hY2 x6
                try replace xl := up_of hY2 xl
                try replace hown := up_of hY2 hown
                try replace hBY := up_of hY2 hBY
                try replace hZ := up_of hY2 hZ
                try replace a0 := up_of hY2 a0
                try replace a1 := up_of hY2 a1
                try replace a2 := up_of hY2 a2
                try replace a3 := up_of hY2 a3
                try replace al := up_of hY2 al
                try replace hBZ := up_of hY2 hBZ
                try replace hY2 := up_of hY2 hY2
                try replace q0 := up_of hY2 q0
                try replace q1 := up_of hY2 q1
                try replace q2 := up_of hY2 q2
                try replace ql := up_of hY2 ql
                try replace hY3 := up_of hY2 hY3
                try replace b0 := up_of hY2 b0
                try replace b1 := up_of hY2 b1
                try replace b2 := up_of hY2 b2
                try replace bl := up_of hY2 bl
                go_upto_region 17 with (first | (go_at_call 74; refine (hA.out _ hnt).mono ?_; rintro e W3 ⟨rfl, hb⟩; (try replace hr := up_of hb hr); (try replace hB := up_of hb hB); (try replace d0 := up_of hb d0); (try replace d1 := up_of hb d1); (try replace d2 := up_of hb d2); (try replace dl := up_of hb dl); (try replace hnt := up_of hb hnt); (try replace n3 := up_of hb n3); (try replace hOT := up_of hb hOT); (try replace hBV := up_of hb hBV); (try replace hsa := up_of hb hsa); (try replace hY := up_of hb hY); (try replace x0 := up_of hb x0); (try replace x1 := up_of hb x1); (try replace x2 := up_of hb x2); (try replace x3 := up_of hb x3); (try replace x4 := up_of hb x4); (try replace x5 := up_of hb x5); (try replace x6 := up_of hb x6); (try replace xl := up_of hb xl); (try replace hown := up_of hb hown); (try replace hBY := up_of hb hBY); (try replace hZ := up_of hb hZ); (try replace a0 := up_of hb a0); (try replace a1 := up_of hb a1); (try replace a2 := up_of hb a2); (try replace a3 := up_of hb a3); (try replace al := up_of hb al); (try replace hBZ := up_of hb hBZ); (try replace hY2 := up_of hb hY2); (try replace q0 := up_of hb q0); (try replace q1 := up_of hb q1); (try replace q2 := up_of hb q2); (try replace ql := up_of hb ql); (try replace hY3 := up_of hb hY3); (try replace b0 := up_of hb b0); (try replace b1 := up_of hb b1); (try replace b2 := up_of hb b2); (try replace bl := up_of hb bl)))
                refine wp_world fun Y3 HY3 => ?_
                have hY3 : Below W3.heap.size W3 Y3 := by rw [HY3.out]; (repeat (first | exact Below.refl _ _ | refine Below.alloc ?_ (by simp; try omega) _ | refine Below.setCell ?_ (by simp) _ | refine Below.drew ?_))
                have b0 : Y3.cell? ⟨W3.heap.size, 0, none⟩ = some (.int .i64 rx) := by rw [HY3.out]; simp [go_sem]
                have b1 : Y3.cell? ⟨W3.heap.size, 1, none⟩ = some (.int .i64 ry) := by rw [HY3.out]; simp [go_sem]
                have b2 : Y3.cell? ⟨W3.heap.size, 2, none⟩ = some (.int .i64 rz) := by rw [HY3.out]; simp [go_sem]
                have bl : W3.heap.size < Y3.heap.size := World.block_lt_of_cell? Y3 _ b0
                try replace hr := up_of hY3 hr
                try replace hB := up_of hY3 hB
                try replace d0 := up_of hY3 d0
                try replace d1 := up_of hY3 d1
                try replace d2 := up_of hY3 d2
                try replace dl := up_of hY3 dl
                try replace hnt := up_of hY3 hnt
                try replace n3 := up_of hY3 n3
                try replace hOT := up_of hY3 hOT
                try replace hBV := up_of hY3 hBV
                try replace hsa := up_of hY3 hsa
                try replace hY := up_of hY3 hY
                try replace x0 := up_of hY3 x0
                try replace x1 := up_of hY3 x1
                try replace x2 := up_of hY3 x2
                try replace x3 := up_of hY3 x3
                try replace x4 := up_of hY3 x4
                try replace x5 := up_of hY3 x5
                try replace x6 := up_of hY3 x6
                try replace xl := up_of hY3 xl
                try replace hown := up_of hY3 hown
                try replace hBY := up_of hY3 hBY
                try replace hZ := up_of hY3 hZ
                try replace a0 := up_of hY3 a0
                try replace a1 := up_of hY3 a1
                try replace a2 := up_of hY3 a2
                try replace a3 := up_of hY3 a3
                try replace al := up_of hY3 al
                try replace hBZ := up_of hY3 hBZ
                try replace hY2 := up_of hY3 hY2
                try replace q0 := up_of hY3 q0
                try replace q1 := up_of hY3 q1
                try replace q2 := up_of hY3 q2
                try replace ql := up_of hY3 ql
                try replace hY3 := up_of hY3 hY3
                try replace b0 := up_of hY3 b0
                try replace b1 := up_of hY3 b1
                try replace b2 := up_of hY3 b2
                try replace bl := up_of hY3 bl
                go_wp2
                go_roundw
                case rel => exact ⟨i + 1, by omega, rfl, by rw [hfi1.out, e1.out]; rfl, hBZ⟩
                case measure => exact meas hli
            · obtain rfl : i = P.length := by omega
              have hlv : ((f P.length : Nat) : Int) = cj := hcj.out.symm
              rw [hlv]
              have hown2 := up_of hBZ hZo.out
              have hBY2 := hZb.out.trans (hBZ.mono hZb.out.size)
              have hY2s := hBY2.size
              replace hlv := Lib.hid hlv
              go_wp2_with (first | (at_builtin; refine wpList_append_own_at _ rfl _ _ 53 rfl Y.heap.size 3 i0 _ 1 8 Try.underlying53 hi0 hz0 hz1 hz2 rfl (by decide) _ _ _ rfl (hown2.alloc _) ⟨wr.heap.size, 0, none⟩ 1 1 [.int .i64 cj] rfl rfl (news_new _ _ _) (by simp [Value.oneCell']) (by unfold maxLen; omega) (by omega) (by simp; omega) ?_; intro v1 w1 hown1 hgrow hnil hat1))
              have hB1 : Below Y.heap.size Y w1 := (hBY2.alloc hY2s _).grown hgrow (by simp; omega) (fun j e => (hown2.lt j e).1)
              go_roundw
              case rel => exact ⟨j + 1, r ++ [cj], by omega, rfl, hrn, by rw [int_snoc, List.length_append]; exact hown1, hB1⟩
              case measure => exact meas hlj
        · obtain rfl : j = X.args.length := by omega
          have hr2 : r = c := by rw [hrr.out, ← hcl.out, List.take_length]
          subst hr2
          obtain ⟨i0, hi0, hz0, hz1, hz2⟩ := info_parts info_ints
          obtain ⟨sr, cr, er, -⟩ := owns_shape hown
          have hR4 : R.length ≤ 3 := by have := hRl.out; omega
          have hYs := hY.size
          have hoA := hOT.own
          have hOb := hOT.be.size
          replace hrr := Lib.hid hrr; replace hOT := Lib.hid hOT; replace hOb := Lib.hid hOb
          subst er
          go_wp2_with (first | (at_builtin; refine wpList_append_own_at _ rfl _ _ 46 rfl A.heap.size 53 i0 _ 1 24 Try.underlying46 hi0 hz0 hz1 hz2 rfl (by decide) _ _ _ rfl (hoA.alloc _) ⟨wr.heap.size, 0, none⟩ 1 1 [.slice sr r.length cr] rfl rfl (news_new _ _ _) (by simp [Value.oneCell']) (by unfold maxLen; omega) (by omega) (by have := hOb.out; simp; omega) ?_; intro v1 w1 hown1 hgrow hnil hat1))
          have hP := OutT.push hOY.out hBY (Nat.le_refl _) hown hgrow hat1 hown1
          go_roundw
          case rel => exact ⟨k + 1, _, _, by omega, rfl, hRn, hP⟩
          case measure => exact meas hlt
    · obtain rfl : k = K.length := by omega
      have hR2 : R = T := by rw [hR.out, ← hTl.out, List.take_length]
      subst hR2
      obtain ⟨s', c', e', hv⟩ := hOT.view
      subst e'
      replace hv := Lib.hid hv
      go_wp2
      go_ret2
      exact ⟨hend.out _ _ _ hv.out, hB⟩
end Go.Proofs.Ytadmnlkgefbhcaa
