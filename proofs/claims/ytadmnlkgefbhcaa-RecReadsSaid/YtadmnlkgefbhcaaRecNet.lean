/- The net of a recurrence as it lies in memory: its points, and their numbers. -/
import Derived.Test.YtadmnlkgefbhcaaRecVal
import Derived.Test.YtadmnlkgefbhcaaB1
namespace Go.Proofs.Ytadmnlkgefbhcaa
open Go.RowKit Go.Maps

/-- A recurrence with its points and the map of their numbers, in a block of type T. -/
structure Net (T : Nat) (V : World) (g : Nat) (n : Int) (s : Option Addr) (cap : Nat) (l : List Iq) (s2 : Option Addr) (cq : Nat) (K : List Vv) (sp : Option Addr) (cp mb : Nat) (P : List Pt) : Prop where
  row : Row V g T #[.int .i64 n, .slice s l.length cap, .slice s2 K.length cq, .slice sp P.length cp, .map (some mb)]
  rc : RecM V s l s2 cq K
  pts : PtS V sp P
  map : V.ownsMap Try.prog 29 (plainElem Try.prog 3) mb P.length (ptD P P.length)
/-- What is known of the recurrence of a net. -/
structure NetOk (n : Int) (K : List Vv) (P : List Pt) : Prop where
  len : P.length ≤ 1000
  vars : 1 ≤ K.length ∧ K.length ≤ 4
  dim : 1 ≤ n ∧ n ≤ 3
  pts : ∀ p ∈ P, p.small 20
  args : ∀ v ∈ K, v.args.length ≤ 3
  shift : ∀ v ∈ K, ∀ a ∈ v.args, a.p.small 3
  var : ∀ v ∈ K, ∀ a ∈ v.args, bw 0 a.v (K.length - 1) = true
  init : ∀ v ∈ K, v.small
  op : ∀ v ∈ K, v.args.length = needs v.op ∧ 1 ≤ v.op ∧ v.op ≤ 7
  nd : P.Nodup
theorem Net.up {T : Nat} {V V' : World} {g : Nat} {n : Int} {s : Option Addr} {cap : Nat} {l : List Iq} {s2 : Option Addr} {cq : Nat} {K : List Vv} {sp : Option Addr} {cp mb : Nat} {P : List Pt} (hb : Below V.heap.size V V') (h : Net T V g n s cap l s2 cq K sp cp mb P) : Net T V' g n s cap l s2 cq K sp cp mb P :=
  ⟨Up.block hb h.row, RecM.up hb h.rc, Up.pt hb h.pts, up_of hb h.map⟩
instance {T : Nat} {V V' : World} {g : Nat} {n : Int} {s : Option Addr} {cap : Nat} {l : List Iq} {s2 : Option Addr} {cq : Nat} {K : List Vv} {sp : Option Addr} {cp mb : Nat} {P : List Pt} : UpF V V' (Net T V g n s cap l s2 cq K sp cp mb P) (Net T V' g n s cap l s2 cq K sp cp mb P) := ⟨fun h c => Net.up h c⟩
theorem small_i64 {p : Pt} {m : Nat} (h : p.small m) (hm : m ≤ 9223372036854775807) : p.I64 := by
  obtain ⟨h1, h2, h3⟩ := h
  refine ⟨⟨?_, ?_⟩, ⟨?_, ?_⟩, ⟨?_, ?_⟩⟩ <;> omega
theorem ptP_small {p q : Pt} {a b : Nat} (hp : p.small a) (hq : q.small b) : (ptP p q).small (a + b) := by
  obtain ⟨h1, h2, h3⟩ := hp
  obtain ⟨k1, k2, k3⟩ := hq
  refine ⟨?_, ?_, ?_⟩ <;> simp only [ptP] <;> omega
theorem ltP_ne {p q : Pt} (h : ltP p q = true) : p ≠ q := by
  rintro rfl
  simp [ltP] at h
theorem netOk {n : Int} {l : List Iq} {K : List Vv} (h : recB n l K = true) : NetOk n K (pts n l) := by
  have h0 := h
  rw [recB_eq] at h
  simp only [Bool.and_eq_true, decide_eq_true_eq, recS] at h
  obtain ⟨h1, h2, h3, h4, -⟩ := h
  have hk := bw_iff.1 h3
  have hn := valid_n h1
  rw [List.all_eq_true] at h4
  have hv : ∀ v ∈ K, initB v n = true ∧ v.args.length = needs v.op ∧ needs v.op ≠ 0 ∧ ∀ a ∈ v.args, argC K.length n a = true := fun v hv => by
    have := h4 v hv
    simp only [varB, Bool.and_eq_true, decide_eq_true_eq, List.all_eq_true] at this
    exact ⟨this.2.2.2.1, this.2.2.1, this.1, this.2.2.2.2⟩
  have hnd : ∀ op : Int, needs op ≤ 3 := fun op => by unfold needs; (repeat' split) <;> omega
  have hop : ∀ op : Int, needs op ≠ 0 → 1 ≤ op ∧ op ≤ 7 := fun op hop => by
    by_cases h : 1 ≤ op ∧ op ≤ 7
    · exact h
    · exact absurd (needs_out h) hop
  refine ⟨h2, by omega, hn, fun p hp => ?_, fun v hm => by rw [(hv v hm).2.1]; exact hnd _, fun v hm a ha => ?_, fun v hm a ha => ?_, fun v hm => ?_, fun v hm => ⟨(hv v hm).2.1, hop _ (hv v hm).2.2.1⟩, ?_⟩
  · have := mem_pts.1 hp
    simp only [hasB, flatB, flatC, Bool.and_eq_true, bw_iff] at this
    obtain ⟨⟨a, b, c⟩, -⟩ := this
    refine ⟨?_, ?_, ?_⟩ <;> omega
  · have := (hv v hm).2.2.2 a ha
    simp only [argC, flatB, flatC, Bool.and_eq_true, bw_iff] at this
    obtain ⟨⟨a, b, c⟩, -⟩ := this
    refine ⟨?_, ?_, ?_⟩ <;> omega
  · have := (hv v hm).2.2.2 a ha
    simp only [argC, Bool.and_eq_true] at this
    exact this.2
  · have := (hv v hm).1
    simp only [initB, initC, Bool.and_eq_true, bw_iff] at this
    exact ⟨this.1.1, this.2.1.1, this.2.2.1.1, this.2.2.2.1⟩
  · rw [List.nodup_iff_pairwise_ne]
    exact (pts_sorted n l).imp fun h => ltP_ne h
theorem NetOk.use_lt {n : Int} {K : List Vv} {P : List Pt} (h : NetOk n K P) (k : Nat) : ∀ u ∈ useN K P k, u < K.length * P.length := useN_lt h.var
theorem NetOk.use_len {n : Int} {K : List Vv} {P : List Pt} (h : NetOk n K P) (k : Nat) : (useN K P k).length ≤ 3 := useN_len h.args k
theorem NetOk.size {n : Int} {K : List Vv} {P : List Pt} (h : NetOk n K P) : K.length * P.length ≤ 4000 := by
  have := Nat.mul_le_mul h.vars.2 h.len
  omega
/-- What a look-up of a point's number says. -/
theorem Net.look {T : Nat} {V : World} {g : Nat} {n : Int} {s : Option Addr} {cap : Nat} {l : List Iq} {s2 : Option Addr} {cq : Nat} {K : List Vv} {sp : Option Addr} {cp mb : Nat} {P : List Pt} (h : Net T V g n s cap l s2 cq K sp cp mb P) (ok : NetOk n K P) {p : Pt} (hp : p.I64) :
    (Instr.lookup 61 (.map (some mb)) (.agg #[.int .i64 p.x, .int .i64 p.y, .int .i64 p.z]) true).run Try.prog V = .ok (.tuple #[.int .i64 (((pix P p).getD 0 : Nat) : Int), .bool (pix P p).isSome]) V ∧
    (Instr.lookup 61 (.map (some mb)) (.agg #[.int .i64 p.x, .int .i64 p.y, .int .i64 p.z]) false).run Try.prog V = .ok (.int .i64 (((pix P p).getD 0 : Nat) : Int)) V := by
  have hP : ∀ q ∈ P, q.I64 := fun q hq => small_i64 (ok.pts q hq) (by omega)
  have hat := ptD_at (P := P) hp (k := P.length) (Nat.le_refl _) hP
  have hz : (zeroValue 3).run Try.prog V = .ok (.int .i64 0) V := by kernel_rfl
  have hzd := plainElem_int (H := Unit) (P := Try.prog) Try.underlying3 (show (Lit.int .i64 0).wf = true by decide)
  have hk := key_of_pt hp
  constructor
  · obtain ⟨v, ps, hrun, hv⟩ := h.map.look_ok key_ptk Try.underlying61 hz hzd hk
    obtain ⟨c, rfl, hc, -⟩ := plainElem_int_inv Try.underlying3 hv
    rw [hat.1] at hc
    simp only [Prod.mk.injEq, DataW.lit.injEq, Lit.int.injEq, true_and] at hc
    rw [hat.2] at hrun
    rw [show c = _ from hc.1.symm] at hrun
    exact hrun
  · obtain ⟨c, hrun, hc, -⟩ := h.map.lookup_int key_ptk Try.underlying61 Try.underlying3 hz hk
    rw [hat.1] at hc
    simp only [DataW.lit.injEq, Lit.int.injEq, true_and] at hc
    rw [show c = _ from hc.symm] at hrun
    exact hrun
end Go.Proofs.Ytadmnlkgefbhcaa
