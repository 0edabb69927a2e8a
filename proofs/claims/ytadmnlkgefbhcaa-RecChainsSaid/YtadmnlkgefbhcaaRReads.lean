/- How often arguments are read: the reference. -/
import Derived.Test.YtadmnlkgefbhcaaReads
import Derived.Test.YtadmnlkgefbhcaaOf3
import Derived.Test.YtadmnlkgefbhcaaRef2
import Derived.Test.YtadmnlkgefbhcaaRLv2
import Derived.Test.YtadmnlkgefbhcaaVal3
namespace Go.Proofs.Ytadmnlkgefbhcaa
open Go.RowKit Go.Maps

theorem getD_ix {L : List Int} {k : Nat} {v : Int} (h : L.getD k 0 = v) (hk : k < L.length) : L[k] = v := by
  rw [← h, List.getD_eq_getElem?_getD, List.getElem?_eq_getElem hk]; rfl
set_option maxRecDepth 100000 in
set_option maxHeartbeats 4000000 in
theorem rReads_c (n : Int) (s : Option Addr) (cap : Nat) (l : List Iq) (s2 : Option Addr) (cq : Nat) (K : List Vv) (w : World) (hr : RecM w s l s2 cq K) :
    Calls Try.prog 25 #[.agg #[.int .i64 n, .slice s l.length cap, .slice s2 K.length cq]] w fun e w' => RdRet n l K e w' ∧ Below w.heap.size w w' := by
  have hv := fun V (h : RecM V s l s2 cq K) => h.valid2 n cap
  cases hb : recB n l K
  · rw [hb] at hv
    have hend : ∀ w' : World, RdRet n l K (.returned (.tuple #[.slice none 0 0, .int .i64 20])) w' := fun w' => .inl ⟨hb, rfl⟩
    obtain ⟨R, hR⟩ : ∃ R, RdRet n l K = R := ⟨_, rfl⟩
    simp only [hR] at hend ⊢
    replace hv := Lib.hid hv; replace hend := Lib.hid hend
    clear hb hR
    go_enter Try.func25, Try.ntmps25
    go_upto_region 1 with (fail)
    refine wp_world fun W HW => ?_
    have hB : Below w.heap.size w W := by rw [HW.out]; (repeat (first | exact Below.refl _ _ | refine Below.alloc ?_ (by simp; try omega) _ | refine Below.setCell ?_ (by simp) _ | refine Below.drew ?_))
    have d0 : W.cell? ⟨w.heap.size, 0, none⟩ = some (.int .i64 n) := by rw [HW.out]; simp [go_sem]
    have d1 : W.cell? ⟨w.heap.size, 1, none⟩ = some (.slice s l.length cap) := by rw [HW.out]; simp [go_sem]
    have d2 : W.cell? ⟨w.heap.size, 2, none⟩ = some (.slice s2 K.length cq) := by rw [HW.out]; simp [go_sem]
    have dl : w.heap.size < W.heap.size := World.block_lt_of_cell? W _ d0
    try replace hr := up_of hB hr
    go_wp2_with (first | (go_at_call 31; refine (hv.out _ hr).mono ?_; rintro e W1 ⟨rfl, hb⟩; (try replace hr := up_of hb hr); (try replace hB := up_of hb hB); (try replace d0 := up_of hb d0); (try replace d1 := up_of hb d1); (try replace d2 := up_of hb d2); (try replace dl := up_of hb dl)))
    go_ret2
    exact ⟨hend.out _, hB⟩
  rw [hb] at hv
  have ok := netOk hb
  have hof := fun V (h : RecM V s l s2 cq K) => Of_c n s cap l s2 cq K V h ok.dim ok
  have hend : ∀ (w' : World) s' c', SlSS intE w' s' (rdT K (pts n l)) → RdRet n l K (.returned (.tuple #[.slice s' (rdT K (pts n l)).length c', .int .i64 0])) w' := fun w' s' c' hs => .inr ⟨hb, s', c', rfl, hs⟩
  obtain ⟨RR, hRR⟩ : ∃ R, RdRet n l K = R := ⟨_, rfl⟩
  simp only [hRR] at hend ⊢
  obtain ⟨P, hP⟩ : ∃ P, pts n l = P := ⟨_, rfl⟩
  simp only [hP] at hof ok hend
  clear hP hb hRR
  obtain ⟨T, hT, hTl, hTr⟩ : ∃ T, rdT K P = T ∧ T.length = K.length ∧ ∀ (k : Nat) (hk : k < K.length) (hk' : k < T.length), T[k] = K[k].args.map fun a => ((rdN P a P.length : Nat) : Int) := ⟨_, rfl, rdT_len K P, fun k hk hk' => rdT_row hk hk'⟩
  simp only [hT] at hend
  clear hT
  have hpts := ok.pts
  have hPl := ok.len
  have hK4 := ok.vars
  have har := ok.args
  replace hv := Lib.hid hv; replace hof := Lib.hid hof; replace hend := Lib.hid hend; replace hTl := Lib.hid hTl; replace hTr := Lib.hid hTr; replace ok := Lib.hid ok; replace hpts := Lib.hid hpts; replace har := Lib.hid har
  go_enter Try.func25, Try.ntmps25
  go_upto_region 1 with (fail)
  refine wp_world fun W HW => ?_
  have hB : Below w.heap.size w W := by rw [HW.out]; (repeat (first | exact Below.refl _ _ | refine Below.alloc ?_ (by simp; try omega) _ | refine Below.setCell ?_ (by simp) _ | refine Below.drew ?_))
  have d0 : W.cell? ⟨w.heap.size, 0, none⟩ = some (.int .i64 n) := by rw [HW.out]; simp [go_sem]
  have d1 : W.cell? ⟨w.heap.size, 1, none⟩ = some (.slice s l.length cap) := by rw [HW.out]; simp [go_sem]
  have d2 : W.cell? ⟨w.heap.size, 2, none⟩ = some (.slice s2 K.length cq) := by rw [HW.out]; simp [go_sem]
  have dl : w.heap.size < W.heap.size := World.block_lt_of_cell? W _ d0
  try replace hr := up_of hB hr
  go_upto_region 4 with (first | (go_at_call 31; refine (hv.out _ hr).mono ?_; rintro e W1 ⟨rfl, hb⟩; (try replace hr := up_of hb hr); (try replace hB := up_of hb hB); (try replace d0 := up_of hb d0); (try replace d1 := up_of hb d1); (try replace d2 := up_of hb d2); (try replace dl := up_of hb dl)) | (go_at_call 34; refine (hof.out _ hr).mono ?_; rintro e A ⟨⟨g, sp, cp, mb, rfl, hnt⟩, hb⟩; (try replace hr := up_of hb hr); (try replace hB := up_of hb hB); (try replace d0 := up_of hb d0); (try replace d1 := up_of hb d1); (try replace d2 := up_of hb d2); (try replace dl := up_of hb dl)))
  obtain ⟨n0, n1, n2, n3, n4⟩ := hnt.cells
  have h0 : OutT A A (.slice none 0 0) [] [] := OutT.nil A
  go_wp2
  go_loopw [5, 6] (fun out ii V => ∃ (k : Nat) (ss : List Sv) (R : List (List Int)), k ≤ K.length ∧ ii = .int .i64 k ∧ Hid (R = T.take k) ∧ OutT A V out ss R) (fun _ ii _ => K.length - (intOf ii).toNat)
  case atStart => exact ⟨0, [], [], by omega, rfl, Lib.hid (by simp), h0⟩
  case round =>
    clear h0
    obtain ⟨k, ss, R, hk, rfl, hR, hOT⟩ := hrel
    have hBV := hOT.be
    try replace hr := up_of hBV hr
    try replace hB := up_of hBV hB
    try replace d0 := up_of hBV d0
    try replace d1 := up_of hBV d1
    try replace d2 := up_of hBV d2
    try replace dl := up_of hBV dl
    try replace hnt := up_of hBV hnt
    try replace n3 := up_of hBV n3
    by_cases hlt : k < K.length
    · obtain ⟨bk, ok2, sa, ca, e2, hbk, v0, v1, v2, v3, v4, v5, v6, hsa, hal, -, -⟩ := hr.vars.at hlt
      cases e2
      have hkT : k < T.length := by have := hTl.out; omega
      have hrow := hTr.out k hlt hkT
      have ha3 := har.out _ (List.getElem_mem hlt)
      have hsh := ok.out.shift _ (List.getElem_mem hlt)
      have hRl : R.length = k := by rw [hR.out, List.length_take]; omega
      have hRn : R ++ [T[k]] = T.take (k + 1) := by rw [hR.out, List.take_succ_eq_append_getElem hkT]
      have hag := fun (j : Nat) (hj : j < K[k].args.length) (p : Pt) (hp : p.small 20) V (h : Net 64 V g n s cap l (some ⟨bk, ok2, none⟩) cq K sp cp mb P) => rArg_c k j p V h ok.out hlt hj hp
      obtain ⟨X, hX⟩ : ∃ x, K[k] = x := ⟨_, rfl⟩
      simp only [hX] at hag
      obtain ⟨c, hc⟩ : ∃ x, T[k] = x := ⟨_, rfl⟩
      rw [hX] at hrow ha3 hsh hsa hal v0 v1 v2 v3 v4 v5 v6
      rw [hc] at hrow hRn
      have hcl : c.length = X.args.length := by rw [hrow]; simp
      have hca : ∀ j (hj : j < X.args.length), c.getD j 0 = ((rdN P X.args[j] P.length : Nat) : Int) := fun j hj => by subst hrow; rw [List.getD_eq_getElem?_getD, List.getElem?_eq_getElem (by simpa using hj)]; simp
      have hmk := run_make_ints X.args.length (by omega)
      replace hRn := Lib.hid hRn; replace hRl := Lib.hid hRl; replace hsh := Lib.hid hsh; replace hcl := Lib.hid hcl; replace hca := Lib.hid hca; replace hc := Lib.hid hc; replace hX := Lib.hid hX; replace hag := Lib.hid hag
      clear hrow hR
      have i1 : (0 : Int) ≤ (k : Int) := by omega
      have i2 : (k : Int) < (K.length : Int) := by omega
      go_upto_region 9 with (fail)
      refine wp_world fun Y HY => ?_
      have hL0 : LsV wr wr.heap.size X.args.length Y (List.replicate X.args.length 0) := by
        refine ⟨?_, Nat.le_refl _, ?_⟩
        · rw [HY.out]
          repeat (first | (with_reducible exact Below.refl _ _) | (with_reducible refine Below.drew ?_) | ((with_reducible refine Below.setC ?_ ?_); (focus (first | omega | (simp; done) | (simp; omega)))) | ((with_reducible refine Below.allo ?_ ?_); (focus (first | omega | (simp; done) | (simp; omega)))))
        · rw [HY.out]; exact own_zeros wr X.args.length (by omega)
      clear HY hmk
      obtain ⟨V0, hV0⟩ : ∃ V0, V0 = wr := ⟨wr, rfl⟩
      rw [← hV0] at hL0 hOT
      have hOY := Lib.hid hOT
      have hr0 := Lib.hid (show RecM V0 s l (some ⟨bk, ok2, none⟩) cq K by rw [hV0]; exact hr)
      have hn0 := Lib.hid (show Net 64 V0 g n s cap l (some ⟨bk, ok2, none⟩) cq K sp cp mb P by rw [hV0]; exact hnt)
      have hd0 := Lib.hid (show V0.cell? ⟨w.heap.size, 0, none⟩ = some (.int .i64 n) ∧ V0.cell? ⟨w.heap.size, 1, none⟩ = some (.slice s l.length cap) ∧ V0.cell? ⟨w.heap.size, 2, none⟩ = some (.slice (some ⟨bk, ok2, none⟩) K.length cq) ∧ V0.cell? ⟨g, 3, none⟩ = some (.slice sp P.length cp) by rw [hV0]; exact ⟨d0, d1, d2, n3⟩)
      have hBV0 := Lib.hid (show Below A.heap.size A V0 by rw [hV0]; exact hBV)
      have hB0 := Lib.hid (show Below w.heap.size w V0 by rw [hV0]; exact hB)
      clear hnt hr d0 d1 d2 n3 hOT hBV hB hsa v0 v1 v2 v3 v4 v5 v6
      rw [← hV0]
      replace hV0 := Lib.hid hV0
      have hz0 : ∀ j, j < X.args.length → 0 ≤ j → (List.replicate X.args.length (0 : Int)).getD j 0 = 0 := fun j hj _ => by
        rw [List.getD_eq_getElem?_getD, List.getElem?_eq_getElem (by simpa using hj)]; simp
      replace hz0 := Lib.hid hz0
      go_wp2
      go_loopw [8] (fun jj V => ∃ (j : Nat) (L : List Int), j ≤ X.args.length ∧ jj = .int .i64 j ∧ LsV V0 V0.heap.size X.args.length V L ∧ Hid (∀ m, m < X.args.length → m < j → L.getD m 0 = c.getD m 0) ∧ Hid (∀ m, m < X.args.length → j ≤ m → L.getD m 0 = 0)) (fun jj _ => X.args.length - (intOf jj).toNat)
      case atStart => exact ⟨0, _, by omega, rfl, hL0, Lib.hid (fun m _ h => absurd h (by omega)), hz0⟩
      case round =>
        clear hL0 hz0
        obtain ⟨j, L, hj, rfl, hL, hLd, hLz⟩ := hrel
        by_cases hlj : j < X.args.length
        · have hcj := hca.out j hlj
          have hsm := hsh.out _ (List.getElem_mem hlj)
          have hA := fun (p : Pt) (hp : p.small 20) V h => hag.out j hlj p hp V h
          obtain ⟨a, ha⟩ : ∃ x, X.args[j] = x := ⟨_, rfl⟩
          simp only [ha] at hA
          rw [ha] at hcj hsm
          have hrd := fun (m : Nat) (h : m < P.length) => rdN_succ (a := a) h
          have hrdl := fun (m : Nat) => rdN_le P a m
          have hrd0 := rdN_zero P a
          obtain ⟨f, hf⟩ : ∃ f, rdN P a = f := ⟨_, rfl⟩
          simp only [hf] at hrd hrdl hcj hrd0
          have hI := fun (p : Pt) (hp : p.small 20) V (h : Net 64 V g n s cap l (some ⟨bk, ok2, none⟩) cq K sp cp mb P) => rIs_c (argE p a) V h ok.out (small_i64 (ptP_small hp hsm) (by omega))
          have hav : bw 0 a.v (K.length - 1) = true := by
            rw [← ha]
            have h1 := ok.out.var X (by rw [← hX.out]; exact List.getElem_mem _) _ (List.getElem_mem hlj)
            exact h1
          have hav2 : ∀ p, bw 0 (argE p a).v (K.length - 1) = true := fun p => hav
          simp only [hav2, Bool.and_true] at hI
          have hLk0 : L.getD j 0 = ((f 0 : Nat) : Int) := by rw [hLz.out j hlj (Nat.le_refl _), hrd0]; rfl
          have j1 : (0 : Int) ≤ (j : Int) := by omega
          have j2 : (j : Int) < (X.args.length : Int) := by omega
          have hLlen := hL.len
          have hLz2 : ∀ m, m < X.args.length → j + 1 ≤ m → L.getD m 0 = 0 := fun m h1 h2 => hLz.out m h1 (by omega)
          replace hcj := Lib.hid hcj; replace hA := Lib.hid hA; replace hrd := Lib.hid hrd; replace hrdl := Lib.hid hrdl; replace hrd0 := Lib.hid hrd0; replace ha := Lib.hid ha; replace hf := Lib.hid hf; replace hI := Lib.hid hI; replace hLk0 := Lib.hid hLk0; replace hLlen := Lib.hid hLlen; replace hLz2 := Lib.hid hLz2
          clear hav hav2 hLz hsm
          go_wp2
          go_loopw [9] (fun ii V => ∃ (i : Nat) (L : List Int), i ≤ P.length ∧ ii = .int .i64 i ∧ LsV V0 V0.heap.size X.args.length V L ∧ Hid (∀ m, m < X.args.length → m < j → L.getD m 0 = c.getD m 0) ∧ Hid (∀ m, m < X.args.length → j + 1 ≤ m → L.getD m 0 = 0) ∧ Hid (L.getD j 0 = ((f i : Nat) : Int))) (fun ii _ => P.length - (intOf ii).toNat)
          case atStart => exact ⟨0, L, by omega, rfl, hL, hLd, hLz2, hLk0⟩
          case round =>
            clear hL hLd hLz2 hLk0 hLlen
            obtain ⟨i, L, hi, rfl, hL, hLd, hLz, hLk⟩ := hrel
            have hBY := hL.be
            have hLlen := hL.len
            have hnt := up_of hBY hn0.out
            obtain ⟨-, -, -, n3⟩ := hd0.out
            replace n3 := up_of hBY n3
            by_cases hli : i < P.length
            · obtain ⟨bp2, op2, ep2, -⟩ := pt_at hn0.out.pts hli
              cases ep2
              obtain ⟨bp, op, ep, hbp, p0, p1, p2⟩ := pt_at hnt.pts hli
              cases ep
              have hps := hpts.out _ (List.getElem_mem hli)
              have hrdi := hrd.out i hli
              have hfl := hrdl.out i
              obtain ⟨⟨px, py, pz⟩, hpp⟩ : ∃ x, P[i] = x := ⟨_, rfl⟩
              rw [hpp] at p0 p1 p2 hps hrdi
              have hA2 := fun V h => hA.out ⟨px, py, pz⟩ hps V h
              have hI2 := fun V h => hI.out ⟨px, py, pz⟩ hps V h
              have hin : isIn P (argE ⟨px, py, pz⟩ a) = (pix P (ptP ⟨px, py, pz⟩ a.p)).isSome := rfl
              rw [← hin] at hrdi
              obtain ⟨⟨rv, ⟨rx, ry, rz⟩⟩, hrp⟩ : ∃ x, argE ⟨px, py, pz⟩ a = x := ⟨_, rfl⟩
              simp only [hrp] at hA2 hI2 hrdi
              obtain ⟨fi, hfi⟩ : ∃ x, f i = x := ⟨_, rfl⟩
              obtain ⟨fi1, hfi1⟩ : ∃ x, f (i + 1) = x := ⟨_, rfl⟩
              rw [hfi] at hfl
              rw [hfi, hfi1] at hrdi
              have k1 : (0 : Int) ≤ (i : Int) := by omega
              have k2 : (i : Int) < (P.length : Int) := by omega
              obtain ⟨BB, hBB⟩ : ∃ x, isIn P ⟨rv, ⟨rx, ry, rz⟩⟩ = x := ⟨_, rfl⟩
              rw [hBB] at hrdi
              simp only [hBB] at hI2
              have hkL : j < L.length := by rw [hLlen]; exact hlj
              have hLj : L[j] = (fi : Int) := getD_ix (by rw [hLk.out, hfi]) hkL
              obtain ⟨wck, wfk⟩ := hL.cell hkL
              rw [hLj] at wck
              replace hA2 := Lib.hid hA2; replace hI2 := Lib.hid hI2; replace hrp := Lib.hid hrp; replace hpp := Lib.hid hpp; replace hfi := Lib.hid hfi; replace hfi1 := Lib.hid hfi1; replace hBB := Lib.hid hBB; replace hLj := Lib.hid hLj; replace hLlen := Lib.hid hLlen
              clear hin
              cases BB
              · have e1 : fi1 = fi := by simpa using hrdi
                have hLk2 : L.getD j 0 = ((f (i + 1) : Nat) : Int) := by rw [hLk.out, hfi1.out, e1, hfi.out]
                replace hLk2 := Lib.hid hLk2
                clear hrdi e1 hLk wck wfk
                go_wp2_with (first | (go_at_call 35; refine (hA2.out _ hnt).mono ?_; rintro e W2 ⟨rfl, hb⟩; (try replace hnt := up_of hb hnt); (try replace n3 := up_of hb n3); (try replace p0 := up_of hb p0); (try replace p1 := up_of hb p1); (try replace p2 := up_of hb p2); (try replace hL := up_of hb hL)) | (go_at_call 36; refine (hI2.out _ hnt).mono ?_; rintro e W3 ⟨rfl, hb⟩; (try replace hnt := up_of hb hnt); (try replace n3 := up_of hb n3); (try replace p0 := up_of hb p0); (try replace p1 := up_of hb p1); (try replace p2 := up_of hb p2); (try replace hL := up_of hb hL)))
                go_roundw
                case rel => exact ⟨i + 1, L, by omega, rfl, hL, hLd, hLz, hLk2⟩
                case measure => exact meas hli
              · have e1 : fi1 = fi + 1 := by simpa using hrdi
                have hset := fun m => getD_set (x := ((fi : Int) + 1)) (j := m) hkL
                have hLk2 : (L.set j ((fi : Int) + 1)).getD j 0 = ((f (i + 1) : Nat) : Int) := by rw [hset, if_pos rfl, hfi1.out, e1]; rfl
                have hLd2 : ∀ m, m < X.args.length → m < j → (L.set j ((fi : Int) + 1)).getD m 0 = c.getD m 0 := fun m h1 h2 => by rw [hset, if_neg (by omega)]; exact hLd.out m h1 h2
                have hLz2 : ∀ m, m < X.args.length → j + 1 ≤ m → (L.set j ((fi : Int) + 1)).getD m 0 = 0 := fun m h1 h2 => by rw [hset, if_neg (by omega)]; exact hLz.out m h1 h2
                replace hLk2 := Lib.hid hLk2; replace hLd2 := Lib.hid hLd2; replace hLz2 := Lib.hid hLz2
                clear hrdi e1 hLk hset hLd hLz
                go_upto_region 16 with (first | (go_at_call 35; refine (hA2.out _ hnt).mono ?_; rintro e W2 ⟨rfl, hb⟩; (try replace hnt := up_of hb hnt); (try replace n3 := up_of hb n3); (try replace p0 := up_of hb p0); (try replace p1 := up_of hb p1); (try replace p2 := up_of hb p2); (try replace hL := up_of hb hL); (try replace wck := up_of hb wck); (try replace wfk := up_of hb wfk)) | (go_at_call 36; refine (hI2.out _ hnt).mono ?_; rintro e W3 ⟨rfl, hb⟩; (try replace hnt := up_of hb hnt); (try replace n3 := up_of hb n3); (try replace p0 := up_of hb p0); (try replace p1 := up_of hb p1); (try replace p2 := up_of hb p2); (try replace hL := up_of hb hL); (try replace wck := up_of hb wck); (try replace wfk := up_of hb wfk)))
                have hL3 := hL.set j ((fi : Int) + 1)
                replace hL3 := Lib.hid hL3
                obtain ⟨-, wfk⟩ := hL.cell hkL
                clear hL
                go_wp2
                go_roundw
                case rel => exact ⟨i + 1, _, by omega, rfl, hL3.out, hLd2, hLz2, hLk2⟩
                case measure => exact meas hli
            · obtain rfl : i = P.length := by omega
              have hLd2 : ∀ m, m < X.args.length → m < j + 1 → L.getD m 0 = c.getD m 0 := fun m h1 h2 => by
                by_cases e : m < j
                · exact hLd.out m h1 e
                · obtain rfl : m = j := by omega
                  rw [hLk.out, hcj.out]
              replace hLd2 := Lib.hid hLd2
              clear hLd hLk hnt
              go_wp2
              go_roundw
              case rel => exact ⟨j + 1, L, by omega, rfl, hL, hLd2, hLz⟩
              case measure => exact meas hlj
        · obtain rfl : j = X.args.length := by omega
          have hLc : L = c := by
            refine List.ext_getElem (by rw [hL.len, hcl.out]) fun m h1 h2 => ?_
            have h3 : m < X.args.length := by rw [← hL.len]; exact h1
            have := hLd.out m h3 h3
            rw [List.getD_eq_getElem?_getD, List.getElem?_eq_getElem h1, List.getD_eq_getElem?_getD, List.getElem?_eq_getElem h2] at this
            exact this
          subst hLc
          have hown := hL.l0
          rw [← hcl.out] at hown
          have hBY := hL.be
          obtain ⟨i0, hi0, hz0, hz1, hz2⟩ := info_parts info_ints
          have hR4 : R.length ≤ 3 := by have := hRl.out; omega
          have hoA := (OutT.up hBY hOY.out).own
          have hOb := (OutT.up hBY hOY.out).be.size
          have hcl2 := hcl.out
          replace hOb := Lib.hid hOb
          have hL9 := Lib.hid hL
          clear hL hLd hLz
          rw [← hcl2]
          replace hcl2 := Lib.hid hcl2
          go_wp2_with (first | (at_builtin; refine wpList_append_own_at _ rfl _ _ 46 rfl A.heap.size 53 i0 _ 1 24 Try.underlying46 hi0 hz0 hz1 hz2 rfl (by decide) _ _ _ rfl (hoA.alloc _) ⟨wr.heap.size, 0, none⟩ 1 1 [.slice (some ⟨V0.heap.size, 0, none⟩) L.length L.length] rfl rfl (news_new _ _ _) (by simp [Value.oneCell']) (by unfold maxLen; omega) (by omega) (by have := hOb.out; simp; omega) ?_; intro v1 w1 hown1 hgrow hnil hat1))
          have hP := OutT.push hOY.out hBY (Nat.le_refl _) hown hgrow hat1 hown1
          go_roundw
          case rel => exact ⟨k + 1, _, _, by omega, rfl, hRn, hP⟩
          case measure => exact meas hlt
    · obtain rfl : k = K.length := by omega
      have hR2 : R = T := by rw [hR.out, ← hTl.out, List.take_length]
      subst hR2
      obtain ⟨s', c', e', hv⟩ := hOT.view
      subst e'
      replace hv := Lib.hid hv
      go_wp2
      go_ret2
      exact ⟨hend.out _ _ _ hv.out, hB⟩
end Go.Proofs.Ytadmnlkgefbhcaa
