/- Several texts in one: each says what it proves. -/
import Derived.Test.YtakbpjgnjfigcaaGreatB5
import Derived.Test.YtakbpjgnjfigcaaGreatB1
import Derived.Test.YtakbpjgnjfigcaaGreatC1
import Derived.Test.YtakbpjgnjfigcaaGreatB7
import Derived.Laws.OwnMore
/- All elements, as the reference lists them. -/
namespace Go.Proofs.YtakbpjgnjfigcaaGreat
open Go.RowKit

/-- An element. -/
structure El where
  v : Nat
  p : Pt
def elE : Elt El := ⟨4, fun a => [.int .i64 a.v, .int .i64 a.p.x, .int .i64 a.p.y, .int .i64 a.p.z], by decide, fun _ => rfl, fun _ u h => by simp at h; rcases h with rfl | rfl | rfl | rfl <;> rfl⟩
theorem info_el : (Tryz.prog.info? 90).map (fun i => (i.zero, i.size, i.bytes)) = some (some (.agg #[.int .i64 0, .int .i64 0, .int .i64 0, .int .i64 0]), 4, 32) := by kernel_rfl
/-- All elements of the first nv variables. -/
def els (P : List Pt) (nv : Nat) : List El := (List.range nv).flatMap fun v => P.map (El.mk v)
theorem els_succ (P : List Pt) (k : Nat) : els P (k + 1) = els P k ++ P.map (El.mk k) := by simp [els, List.range_succ]
theorem els_len (P : List Pt) : ∀ k, (els P k).length = k * P.length
  | 0 => by simp [els]
  | k + 1 => by rw [els_succ, List.length_append, els_len P k, List.length_map]; rw [Nat.succ_mul]
theorem el_snoc (pre : List El) (x : El) : elE.all (pre ++ [x]) = elE.all pre ++ [.int .i64 x.v, .int .i64 x.p.x, .int .i64 x.p.y, .int .i64 x.p.z] := by simp [Elt.all, elE]
end Go.Proofs.YtakbpjgnjfigcaaGreat

/- The least and the greatest of numbers: what they are. -/
namespace Go.Proofs.YtakbpjgnjfigcaaGreat

theorem loL_cons (a : Int) : ∀ l : List Int, (l.foldl min a = a ∨ l.foldl min a ∈ l) ∧ l.foldl min a ≤ a ∧ ∀ y ∈ l, l.foldl min a ≤ y
  | [] => by simp
  | b :: l => by
    have h := loL_cons (min a b) l
    simp only [List.foldl_cons, List.mem_cons]
    refine ⟨?_, by omega, fun y hy => ?_⟩
    · rcases h.1 with h1 | h1
      · rw [h1]; by_cases hab : a ≤ b
        · exact .inl (by omega)
        · exact .inr (.inl (by omega))
      · exact .inr (.inr h1)
    · rcases hy with rfl | hy
      · omega
      · exact h.2.2 y hy
theorem hiL_cons (a : Int) : ∀ l : List Int, (l.foldl max a = a ∨ l.foldl max a ∈ l) ∧ a ≤ l.foldl max a ∧ ∀ y ∈ l, y ≤ l.foldl max a
  | [] => by simp
  | b :: l => by
    have h := hiL_cons (max a b) l
    simp only [List.foldl_cons, List.mem_cons]
    refine ⟨?_, by omega, fun y hy => ?_⟩
    · rcases h.1 with h1 | h1
      · rw [h1]; by_cases hab : b ≤ a
        · exact .inl (by omega)
        · exact .inr (.inl (by omega))
      · exact .inr (.inr h1)
    · rcases hy with rfl | hy
      · omega
      · exact h.2.2 y hy
theorem loL_spec {l : List Int} (h : l ≠ []) : loL l ∈ l ∧ ∀ y ∈ l, loL l ≤ y := by
  cases l with
  | nil => exact absurd rfl h
  | cons a l =>
    have h1 := loL_cons a l
    simp only [loL, List.headD_cons, List.foldl_cons, Int.min_self, List.mem_cons]
    exact ⟨h1.1, fun y hy => by rcases hy with rfl | hy; exact h1.2.1; exact h1.2.2 y hy⟩
theorem hiL_spec {l : List Int} (h : l ≠ []) : hiL l ∈ l ∧ ∀ y ∈ l, y ≤ hiL l := by
  cases l with
  | nil => exact absurd rfl h
  | cons a l =>
    have h1 := hiL_cons a l
    simp only [hiL, List.headD_cons, List.foldl_cons, Int.max_self, List.mem_cons]
    exact ⟨h1.1, fun y hy => by rcases hy with rfl | hy; exact h1.2.1; exact h1.2.2 y hy⟩
end Go.Proofs.YtakbpjgnjfigcaaGreat

/- Spans: over all elements, and over points and offsets. -/
namespace Go.Proofs.YtakbpjgnjfigcaaGreat
open Go.RowKit

theorem mul_bd {a b : Int} {A B : Nat} (ha : a.natAbs ≤ A) (hb : b.natAbs ≤ B) : (a * b).natAbs ≤ A * B := by
  rw [Int.natAbs_mul]; exact Nat.mul_le_mul ha hb
theorem flat_abs {p : Pt} {n m : Int} (h : flatB p n m = true) : p.x.natAbs ≤ m.toNat ∧ p.y.natAbs ≤ m.toNat ∧ p.z.natAbs ≤ m.toNat := by
  simp only [flatB, flatC, Bool.and_eq_true, bw_iff] at h
  omega
theorem dot_bd {f p : Pt} {A B : Nat} (hf : f.x.natAbs ≤ A ∧ f.y.natAbs ≤ A ∧ f.z.natAbs ≤ A) (hp : p.x.natAbs ≤ B ∧ p.y.natAbs ≤ B ∧ p.z.natAbs ≤ B) : (dotZ f p).natAbs ≤ 3 * (A * B) := by
  have h1 := mul_bd hf.1 hp.1
  have h2 := mul_bd hf.2.1 hp.2.1
  have h3 := mul_bd hf.2.2 hp.2.2
  unfold dotZ
  generalize f.x * p.x = a at *
  generalize f.y * p.y = b at *
  generalize f.z * p.z = c at *
  omega
theorem pts_abs {n : Int} {l : List Iq} {p : Pt} (hp : p ∈ pts n l) : p.x.natAbs ≤ 20 ∧ p.y.natAbs ≤ 20 ∧ p.z.natAbs ≤ 20 := by
  have h := mem_pts.1 hp
  rw [hasB, Bool.and_eq_true] at h
  exact flat_abs h.1
theorem tm_small {f p : Pt} (hf : f.x.natAbs ≤ 9 ∧ f.y.natAbs ≤ 9 ∧ f.z.natAbs ≤ 9) (hp : p.x.natAbs ≤ 20 ∧ p.y.natAbs ≤ 20 ∧ p.z.natAbs ≤ 20) : wrap64 (dotZ f p) = dotZ f p ∧ -540 ≤ dotZ f p ∧ dotZ f p ≤ 540 := by
  have h := dot_bd hf hp
  refine ⟨?_, by omega, by omega⟩
  unfold wrap64; omega
theorem mem_els {P : List Pt} {nv : Nat} {x : El} : x ∈ els P nv ↔ x.v < nv ∧ x.p ∈ P := by
  unfold els
  simp only [List.mem_flatMap, List.mem_range, List.mem_map]
  constructor
  · rintro ⟨v, hv, p, hp, rfl⟩; exact ⟨hv, hp⟩
  · rintro ⟨hv, hp⟩; exact ⟨x.v, hv, x.p, hp, rfl⟩
theorem off_bd {off : List Int} (h : offB off = true) {x : Int} (hx : x ∈ off) : 0 ≤ x ∧ x ≤ 1000 := by
  unfold offB at h
  rw [List.all_eq_true] at h
  exact bw_iff.1 (h x hx)
theorem timeW_small {n : Int} {l : List Iq} {K : List Vv} {q : Sd} (hc : chkE n l K [q] = 0) {v : Nat} (hv : v < K.length) {p : Pt} (hp : p ∈ pts n l) :
    ∃ h : v < q.off.length, timeW q v p = dotZ q.f p + q.off[v] ∧ tmP q.f p = dotZ q.f p ∧ -540 ≤ dotZ q.f p ∧ dotZ q.f p ≤ 540 ∧ 0 ≤ q.off[v] ∧ q.off[v] ≤ 1000 := by
  obtain ⟨-, -, -, -, -, -, hf, hol, hob⟩ := chk_ok hc
  have h1 := tm_small (flat_abs hf) (pts_abs hp)
  have hvo : v < q.off.length := by omega
  have h2 := off_bd hob (List.getElem_mem hvo)
  refine ⟨hvo, ?_, h1.1, h1.2.1, h1.2.2, h2.1, h2.2⟩
  unfold timeW
  rw [h1.1, List.getD_eq_getElem?_getD, List.getElem?_eq_getElem hvo, Option.getD_some]
  exact i64_small (by omega)
def elT (q : Sd) (E : List El) : List Int := E.map fun x => timeW q x.v x.p
theorem span_law {n : Int} {l : List Iq} {K : List Vv} {q : Sd} (hc : chkE n l K [q] = 0) (hp : pts n l ≠ []) :
    loL (elT q (els (pts n l) K.length)) = spLo q (pts n l) ∧ hiL (elT q (els (pts n l) K.length)) = spHi q (pts n l) := by
  obtain ⟨-, -, hk, -, -, -, -, hol, -⟩ := chk_ok hc
  have hoff : q.off ≠ [] := by rintro h; rw [h] at hol; simp at hol; omega
  have hPm : (pts n l).map (tmP q.f) ≠ [] := by simpa using hp
  obtain ⟨p1, hp1⟩ := List.exists_mem_of_ne_nil _ hp
  have hE : elT q (els (pts n l) K.length) ≠ [] := by
    have : (⟨0, p1⟩ : El) ∈ els (pts n l) K.length := mem_els.2 ⟨by show 0 < K.length; omega, hp1⟩
    intro h; unfold elT at h; rw [List.map_eq_nil_iff] at h; rw [h] at this; cases this
  have hT : ∀ t, t ∈ elT q (els (pts n l) K.length) ↔ ∃ v p, v < K.length ∧ p ∈ pts n l ∧ t = timeW q v p := fun t => by
    unfold elT
    rw [List.mem_map]
    constructor
    · rintro ⟨x, hx, rfl⟩; exact ⟨x.v, x.p, (mem_els.1 hx).1, (mem_els.1 hx).2, rfl⟩
    · rintro ⟨v, p, hv, hp, rfl⟩; exact ⟨⟨v, p⟩, mem_els.2 ⟨hv, hp⟩, rfl⟩
  constructor
  · obtain ⟨m1, m2⟩ := loL_spec hPm
    obtain ⟨o1, o2⟩ := loL_spec hoff
    obtain ⟨e1, e2⟩ := loL_spec hE
    obtain ⟨pa, hpa, ha⟩ := List.mem_map.1 m1
    obtain ⟨va, hva, hb⟩ := List.getElem_of_mem o1
    obtain ⟨h1, h2, h3, h4, h5, h6, h7⟩ := timeW_small hc (v := va) (by omega) hpa
    have h8 : spLo q (pts n l) = timeW q va pa := by
      unfold spLo; rw [← ha, ← hb, h3, h2]; exact i64_small (by omega)
    have h9 := e2 _ ((hT _).2 ⟨va, pa, by omega, hpa, rfl⟩)
    obtain ⟨vb, pb, hvb, hpb, hc2⟩ := (hT _).1 e1
    obtain ⟨g1, g2, g3, g4, g5, g6, g7⟩ := timeW_small hc hvb hpb
    have g8 := m2 _ (List.mem_map.2 ⟨pb, hpb, rfl⟩)
    have g9 := o2 _ (List.getElem_mem g1)
    omega
  · obtain ⟨m1, m2⟩ := hiL_spec hPm
    obtain ⟨o1, o2⟩ := hiL_spec hoff
    obtain ⟨e1, e2⟩ := hiL_spec hE
    obtain ⟨pa, hpa, ha⟩ := List.mem_map.1 m1
    obtain ⟨va, hva, hb⟩ := List.getElem_of_mem o1
    obtain ⟨h1, h2, h3, h4, h5, h6, h7⟩ := timeW_small hc (v := va) (by omega) hpa
    have h8 : spHi q (pts n l) = timeW q va pa := by
      unfold spHi; rw [← ha, ← hb, h3, h2]; exact i64_small (by omega)
    have h9 := e2 _ ((hT _).2 ⟨va, pa, by omega, hpa, rfl⟩)
    obtain ⟨vb, pb, hvb, hpb, hc2⟩ := (hT _).1 e1
    obtain ⟨g1, g2, g3, g4, g5, g6, g7⟩ := timeW_small hc hvb hpb
    have g8 := m2 _ (List.mem_map.2 ⟨pb, hpb, rfl⟩)
    have g9 := o2 _ (List.getElem_mem g1)
    omega
end Go.Proofs.YtakbpjgnjfigcaaGreat

/- Sums of schedules, slower ones: what they are; what is returned. -/
namespace Go.Proofs.YtakbpjgnjfigcaaGreat
open Go.RowKit

def addP (p q : Pt) : Pt := ⟨p.x + q.x, p.y + q.y, p.z + q.z⟩
def mulP (k : Int) (p : Pt) : Pt := ⟨k * p.x, k * p.y, k * p.z⟩
def addO (nv : Nat) (a b : List Int) : List Int := (List.range nv).map fun v => a.getD v 0 + b.getD v 0
def mulO (nv : Nat) (k : Int) (a : List Int) : List Int := (List.range nv).map fun v => k * a.getD v 0
/-- The first k places have become f's. -/
def setAll (f : Nat → Int) (a : List Int) : Nat → List Int
  | 0 => a
  | k + 1 => (setAll f a k).set k (f k)
theorem setAll_len (f : Nat → Int) (a : List Int) : ∀ k, (setAll f a k).length = a.length
  | 0 => rfl
  | k + 1 => by rw [setAll, List.length_set, setAll_len]
theorem setAll_at (f : Nat → Int) (a : List Int) : ∀ k j, (setAll f a k)[j]? = if j < k then (a[j]?).map (fun _ => f j) else a[j]?
  | 0, j => by simp [setAll]
  | k + 1, j => by
    rw [setAll, List.getElem?_set, setAll_len, setAll_at f a k j]
    by_cases h : k = j
    · subst h
      by_cases h2 : k < a.length
      · simp [h2]
      · simp [h2]
    · have : (j < k + 1) = (j < k) := by simp; omega
      simp [h, this]
theorem setAll_here {f : Nat → Int} {a : List Int} {k : Nat} (h : k < a.length) (h' : k < (setAll f a k).length) : (setAll f a k)[k] = a[k] := by
  have h1 := setAll_at f a k k
  rw [if_neg (by omega), List.getElem?_eq_getElem h', List.getElem?_eq_getElem h] at h1
  exact Option.some.inj h1
theorem setAll_all (f : Nat → Int) (a : List Int) : setAll f a a.length = (List.range a.length).map f := by
  apply List.ext_getElem?
  intro j
  rw [setAll_at, List.getElem?_map]
  by_cases h : j < a.length
  · simp [h]
  · rw [if_neg h, List.getElem?_eq_none (by omega), List.getElem?_eq_none (by simp; omega)]; rfl
theorem int_set (l : List Int) : ∀ (k : Nat) (x : Int), (intE.all l).set k (.int .i64 x) = intE.all (l.set k x) := by
  induction l with
  | nil => intro k x; rfl
  | cons a l ih =>
    intro k x
    cases k with
    | zero => rfl
    | succ k =>
      have := ih k x
      show List.set (Value.int .i64 a :: intE.all l) (k + 1) _ = Value.int .i64 a :: intE.all (l.set k x)
      rw [List.set_cons_succ, this]
theorem Chg.setC {p : Nat → Prop} {A W : World} {a : Addr} {v : Value} (ha : p a.block) (h : Chg p A W) : Chg p A (W.setCell a v) := h.setCell ha v
theorem own_chgB {p : Nat → Prop} {W W' : World} (h : Chg p W W') {base e size n : Nat} {v : Value} {xs : List Value} (c : W.ownsRow base e size v n xs) (hp : ∀ k, v.ownBlock = some k → ¬ p k) : W'.ownsRow base e size v n xs :=
  own_upto c fun b e => h.block b (c.lt b e).2 (hp b e)
/-- The first error of a recurrence and schedules that must be legal. -/
def allE (n : Int) (l : List Iq) (K : List Vv) (L : List Sd) : Int := if chkE n l K L ≠ 0 then chkE n l K L else if L.all (legB K) then 0 else 31
theorem chkL_ok {n : Int} {l : List Iq} {K : List Vv} {L : List Sd} (h : chkE n l K L = 0) : recB n l K = true ∧ 1 ≤ K.length ∧ K.length ≤ 4 ∧ ∀ q ∈ L, flatB q.f n 9 = true ∧ q.off.length = K.length ∧ offB q.off = true := by
  unfold chkE at h
  by_cases hr : recB n l K = true
  · rw [if_pos hr] at h
    by_cases hf : (L.all (Sd.fit n K.length)) = true
    · have h1 := hr
      rw [recB_eq, Bool.and_eq_true, Bool.and_eq_true, Bool.and_eq_true] at h1
      have h2 := bw_iff.1 h1.2.2.1
      refine ⟨hr, by omega, by omega, fun q hq => ?_⟩
      have h3 := List.all_eq_true.1 hf q hq
      simp [Sd.fit, fitB] at h3
      exact ⟨h3.1, h3.2.1, h3.2.2⟩
    · rw [if_neg hf] at h; cases h
  · rw [if_neg hr] at h; cases h
/-- A schedule, and an error. -/
def SdRet (f : Pt) (off : List Int) (er : Int) (w : World) (e : Ending) (w' : World) : Prop :=
  (∃ s' c', e = .returned (.tuple #[.agg #[.int .i64 f.x, .int .i64 f.y, .int .i64 f.z, .slice s' off.length c'], .int .i64 er]) ∧ SlS intE w' s' off) ∧ Below w.heap.size w w'
theorem results_cell_tmp' {fn : Func} {p u : Tmp} {tp : TypeId} {tmps : Array Value} {P : Program} {w : World} {a : Addr} {va vu : Value} (h : fn.results = #[.cell p tp, .tmp u])
    (hp : tmps.getD p undef = .pointer (some a)) (hu : tmps.getD u undef = vu) (la : (loadVar tp a).run P w = .ok va w) : (results fn tmps).run P w = .ok (.tuple #[va, vu]) w := by
  simp only [results, h]
  simp only [Array.getD_eq_getD_getElem?] at hp hu
  simp [Sem.run_bind, Result.andThen, hp, hu, asAddr, la]
theorem load_sd {X : World} {b1 : Nat} {cs : Array Value} (rl : Row X b1 33 cs) (h4 : cs.size = 4) : (loadVar 33 ⟨b1, 0, none⟩).run Tryz.prog X = .ok (.agg cs) X :=
  run_loadVar_row X b1 _ _ cs (0, 0) _ rl Tryz.underlying33 rfl (by rw [h4]; kernel_rfl)
theorem sd_end {fn : Func} {p u : Tmp} (hr : fn.results = #[.cell p 33, .tmp u]) {f : Pt} {off : List Int} {er : Int} (s : Option Addr) (c : Nat) {tmps : Array Value} {w X : World} {b1 : Nat}
    (h2 : tmps.getD p undef = .pointer (some ⟨b1, 0, none⟩)) (h3 : tmps.getD u undef = .int .i64 er)
    (rl : Row X b1 33 #[.int .i64 f.x, .int .i64 f.y, .int .i64 f.z, .slice s off.length c]) (ho : SlS intE X s off) (hB : Below w.heap.size w X) :
    bodyPost Tryz.prog fn (SdRet f off er w) .ret { tmps := tmps, defers := [] } X :=
  bodyPost_ret (results_cell_tmp' hr h2 h3 (load_sd rl rfl)) rfl ⟨⟨s, c, rfl, ho⟩, hB⟩
theorem Row.four {W : World} {b t : Nat} {x y z u : Value} (h : Row W b t #[x, y, z, u]) : W.cell? ⟨b, 0, none⟩ = some x ∧ W.cell? ⟨b, 1, none⟩ = some y ∧ W.cell? ⟨b, 2, none⟩ = some z ∧ W.cell? ⟨b, 3, none⟩ = some u := ⟨h.cell rfl, h.cell rfl, h.cell rfl, h.cell rfl⟩
theorem sd_new2 (W : World) (q r : Sd) (t : TypeId) : SlS sdE (W.alloc (.cells #[.int .i64 q.f.x, .int .i64 q.f.y, .int .i64 q.f.z, .slice q.s q.off.length q.cap, .int .i64 r.f.x, .int .i64 r.f.y, .int .i64 r.f.z, .slice r.s r.off.length r.cap] t)) (some ⟨W.heap.size, 0, none⟩) [q, r] := by
  refine .inr ⟨_, 0, rfl, by simp, fun j u hj => ?_⟩
  have hr := Row.new W t #[.int .i64 q.f.x, .int .i64 q.f.y, .int .i64 q.f.z, .slice q.s q.off.length q.cap, .int .i64 r.f.x, .int .i64 r.f.y, .int .i64 r.f.z, .slice r.s r.off.length r.cap]
  rw [Nat.zero_add]
  exact hr.cell (by simpa [Elt.all, sdE, Sd.cells] using hj)
end Go.Proofs.YtakbpjgnjfigcaaGreat

/- Schedules that must be legal; the results of sums. -/
namespace Go.Proofs.YtakbpjgnjfigcaaGreat
open Go.RowKit

set_option maxRecDepth 100000 in
set_option maxHeartbeats 1000000 in
theorem allLegal1_c (n : Int) (s : Option Addr) (cap : Nat) (l : List Iq) (s2 : Option Addr) (cq : Nat) (K : List Vv) (q : Sd) (b : Nat) (w : World) (hr : RecM w s l s2 cq K) (hq : SdM w q) (h0 : recB n l K = true) (hol : q.off.length = K.length) (hk4 : K.length ≤ 4)
    (r0 : w.cell? ⟨b, 0, none⟩ = some (.int .i64 n)) (r1 : w.cell? ⟨b, 1, none⟩ = some (.slice s l.length cap)) (r2 : w.cell? ⟨b, 2, none⟩ = some (.slice s2 K.length cq)) :
    Calls Tryz.prog 137 #[.agg #[.int .i64 q.f.x, .int .i64 q.f.y, .int .i64 q.f.z, .slice q.s q.off.length q.cap], .pointer (some ⟨b, 0, none⟩)] w fun e w' => e = .returned (.bool (!legB K q)) ∧ Below w.heap.size w w' := by
  have hbl := World.block_lt_of_cell? _ _ r0
  have hf := fun V (h : RecM V s l s2 cq K) (h2 : SdM V q) => legal_c n s cap l s2 cq K q V h h2 h0 hol hk4
  obtain ⟨B, hB0⟩ : ∃ x, legB K q = x := ⟨_, rfl⟩
  simp only [hB0] at hf ⊢
  clear hB0
  replace hf := Lib.hid hf; replace hol := Lib.hid hol
  go_enter Tryz.func137, Tryz.ntmps137
  go_upto_region 1 with (fail)
  refine wp_world fun W HW => ?_
  have hB : Below w.heap.size w W := by rw [HW.out]; (repeat (first | exact Below.refl _ _ | refine Below.alloc ?_ (by simp; try omega) _ | refine Below.setCell ?_ (by simp) _ | refine Below.drew ?_))
  have g0 : W.cell? ⟨w.heap.size, 0, none⟩ = some (.int .i64 q.f.x) := by rw [HW.out]; simp [go_sem]
  have g1 : W.cell? ⟨w.heap.size, 1, none⟩ = some (.int .i64 q.f.y) := by rw [HW.out]; simp [go_sem]
  have g2 : W.cell? ⟨w.heap.size, 2, none⟩ = some (.int .i64 q.f.z) := by rw [HW.out]; simp [go_sem]
  have g3 : W.cell? ⟨w.heap.size, 3, none⟩ = some (.slice q.s q.off.length q.cap) := by rw [HW.out]; simp [go_sem]
  have gl : w.heap.size < W.heap.size := World.block_lt_of_cell? W _ g0
  try replace hr := up_of hB hr
  try replace hq := up_of hB hq
  try replace r0 := up_of hB r0
  try replace r1 := up_of hB r1
  try replace r2 := up_of hB r2
  go_wp2_with (first | (go_at_call 35; refine (hf.out _ hr hq).mono ?_; rintro e W1 ⟨rfl, hb⟩; (try replace hr := up_of hb hr); (try replace hq := up_of hb hq); (try replace r0 := up_of hb r0); (try replace r1 := up_of hb r1); (try replace r2 := up_of hb r2); (try replace hB := up_of hb hB); (try replace g0 := up_of hb g0); (try replace g1 := up_of hb g1); (try replace g2 := up_of hb g2); (try replace g3 := up_of hb g3); (try replace gl := up_of hb gl)))
  go_ret
  exact ⟨rfl, hB⟩
set_option maxRecDepth 100000 in
set_option maxHeartbeats 1000000 in
theorem allLegal_c (n : Int) (s : Option Addr) (cap : Nat) (l : List Iq) (s2 : Option Addr) (cq : Nat) (K : List Vv) (sl : Option Addr) (cl : Nat) (L : List Sd) (w : World) (hr : RecM w s l s2 cq K) (hL : SlS sdE w sl L) (hl : L.length ≤ 9223372036854775807) (hm : ∀ q ∈ L, SdM w q) :
    Calls Tryz.prog 109 #[.agg #[.int .i64 n, .slice s l.length cap, .slice s2 K.length cq], .slice sl L.length cl] w fun e w' => e = .returned (.int .i64 (allE n l K L)) ∧ Below w.heap.size w w' := by
  have hck := fun V (h : RecM V s l s2 cq K) (h1 : SlS sdE V sl L) (hB : Below w.heap.size w V) => checked_c n s cap l s2 cq K sl cl L V h h1 hl (fun q hq => up_of hB (hm q hq))
  have hok := chkL_ok (n := n) (l := l) (K := K) (L := L)
  unfold allE
  obtain ⟨ck, hck0⟩ : ∃ x, chkE n l K L = x := ⟨_, rfl⟩
  simp only [hck0] at hck hok ⊢
  clear hck0
  replace hck := Lib.hid hck
  by_cases h0 : ck = 0
  · subst h0
    obtain ⟨hrb, -, hk4, hq⟩ := hok rfl
    have hc := fun V b (hr : RecM V s l s2 cq K) (r0 : V.cell? ⟨b, 0, none⟩ = some (.int .i64 n)) (r1 : V.cell? ⟨b, 1, none⟩ = some (.slice s l.length cap)) (r2 : V.cell? ⟨b, 2, none⟩ = some (.slice s2 K.length cq)) (hB : Below w.heap.size w V) (hL : SlS sdE V sl L) => sd_containsf 137 #[.pointer (some ⟨b, 0, none⟩)] (fun _ _ => by simp [go_sem]) sl cl L (fun q => !legB K q) V hL hl (fun q hqL W hW => allLegal1_c n s cap l s2 cq K q b W (up_of hW hr) (SdM.up (Up.to hB hW hB.size) (hm q hqL)) hrb (hq q hqL).2.1 hk4 (Up.cell hW r0) (Up.cell hW r1) (Up.cell hW r2))
    have han : (L.any fun q => !legB K q) = !L.all (legB K) := by rw [← any_not]; simp
    simp only [han] at hc
    rw [if_neg (by decide)]
    obtain ⟨C, hC0⟩ : ∃ x, L.all (legB K) = x := ⟨_, rfl⟩
    simp only [hC0] at hc ⊢
    clear hC0 han hok hrb hk4 hq
    replace hc := Lib.hid hc; replace hm := Lib.hid hm
    cases C
    all_goals
      go_enter Tryz.func109, Tryz.ntmps109
      go_upto_region 1 with (fail)
      refine wp_world fun W HW => ?_
      have hB : Below w.heap.size w W := by rw [HW.out]; (repeat (first | exact Below.refl _ _ | refine Below.alloc ?_ (by simp; try omega) _ | refine Below.setCell ?_ (by simp) _ | refine Below.drew ?_))
      have d0 : W.cell? ⟨w.heap.size, 0, none⟩ = some (.int .i64 n) := by rw [HW.out]; simp [go_sem]
      have d1 : W.cell? ⟨w.heap.size, 1, none⟩ = some (.slice s l.length cap) := by rw [HW.out]; simp [go_sem]
      have d2 : W.cell? ⟨w.heap.size, 2, none⟩ = some (.slice s2 K.length cq) := by rw [HW.out]; simp [go_sem]
      have dl : w.heap.size < W.heap.size := World.block_lt_of_cell? W _ d0
      try replace hr := up_of hB hr
      try replace hL := up_of hB hL
      go_wp2_with (first | (go_at_call 34; refine (hck.out _ hr hL hB).mono ?_; rintro e W1 ⟨rfl, hb⟩; (try replace hr := up_of hb hr); (try replace hL := up_of hb hL); (try replace hB := up_of hb hB); (try replace d0 := up_of hb d0); (try replace d1 := up_of hb d1); (try replace d2 := up_of hb d2); (try replace dl := up_of hb dl)) | (go_at_call 76; refine (hc.out _ _ hr d0 d1 d2 hB hL).mono ?_; rintro e W1 ⟨rfl, hb⟩; (try replace hr := up_of hb hr); (try replace hL := up_of hb hL); (try replace hB := up_of hb hB); (try replace d0 := up_of hb d0); (try replace d1 := up_of hb d1); (try replace d2 := up_of hb d2); (try replace dl := up_of hb dl)))
      go_ret
      exact ⟨rfl, hB⟩
  · rw [if_pos h0]
    have k1 : (ck != 0) = true := bne_iff_ne.2 h0
    replace hm := Lib.hid hm
    clear hok
    go_enter Tryz.func109, Tryz.ntmps109
    go_upto_region 1 with (fail)
    refine wp_world fun W HW => ?_
    have hB : Below w.heap.size w W := by rw [HW.out]; (repeat (first | exact Below.refl _ _ | refine Below.alloc ?_ (by simp; try omega) _ | refine Below.setCell ?_ (by simp) _ | refine Below.drew ?_))
    have d0 : W.cell? ⟨w.heap.size, 0, none⟩ = some (.int .i64 n) := by rw [HW.out]; simp [go_sem]
    have d1 : W.cell? ⟨w.heap.size, 1, none⟩ = some (.slice s l.length cap) := by rw [HW.out]; simp [go_sem]
    have d2 : W.cell? ⟨w.heap.size, 2, none⟩ = some (.slice s2 K.length cq) := by rw [HW.out]; simp [go_sem]
    have dl : w.heap.size < W.heap.size := World.block_lt_of_cell? W _ d0
    try replace hr := up_of hB hr
    try replace hL := up_of hB hL
    go_wp2_with (first | (go_at_call 34; refine (hck.out _ hr hL hB).mono ?_; rintro e W1 ⟨rfl, hb⟩; (try replace hr := up_of hb hr); (try replace hL := up_of hb hL); (try replace hB := up_of hb hB); (try replace d0 := up_of hb d0); (try replace d1 := up_of hb d1); (try replace d2 := up_of hb d2); (try replace dl := up_of hb dl)))
    go_ret
    exact ⟨rfl, hB⟩
theorem allLegalN1_c (n : Int) (s : Option Addr) (cap : Nat) (l : List Iq) (s2 : Option Addr) (cq : Nat) (K : List Vv) (q : Sd) (t : TypeId) (V : World) (hr : RecM V s l s2 cq K) (hq : SdM V q) :
    Calls Tryz.prog 109 #[.agg #[.int .i64 n, .slice s l.length cap, .slice s2 K.length cq], .slice (some ⟨V.heap.size, 0, none⟩) 1 1] (V.alloc (.cells #[.int .i64 q.f.x, .int .i64 q.f.y, .int .i64 q.f.z, .slice q.s q.off.length q.cap] t)) fun e w' => e = .returned (.int .i64 (allE n l K [q])) ∧ Below V.heap.size V w' := by
  have hA : Below V.heap.size V (V.alloc (.cells #[.int .i64 q.f.x, .int .i64 q.f.y, .int .i64 q.f.z, .slice q.s q.off.length q.cap] t)) := (Below.refl _ V).alloc (Nat.le_refl _) _
  refine (allLegal_c n s cap l s2 cq K _ 1 [q] _ (hr.up hA) (sd_new V q t) (by simp) (fun x hx => by simp at hx; subst hx; exact hq.up hA)).mono ?_
  rintro e w' ⟨rfl, hb⟩
  exact ⟨rfl, Up.to hA hb hA.size⟩
theorem allLegalN2_c (n : Int) (s : Option Addr) (cap : Nat) (l : List Iq) (s2 : Option Addr) (cq : Nat) (K : List Vv) (q r : Sd) (t : TypeId) (V : World) (hr : RecM V s l s2 cq K) (hq : SdM V q) (hq2 : SdM V r) :
    Calls Tryz.prog 109 #[.agg #[.int .i64 n, .slice s l.length cap, .slice s2 K.length cq], .slice (some ⟨V.heap.size, 0, none⟩) 2 2] (V.alloc (.cells #[.int .i64 q.f.x, .int .i64 q.f.y, .int .i64 q.f.z, .slice q.s q.off.length q.cap, .int .i64 r.f.x, .int .i64 r.f.y, .int .i64 r.f.z, .slice r.s r.off.length r.cap] t)) fun e w' => e = .returned (.int .i64 (allE n l K [q, r])) ∧ Below V.heap.size V w' := by
  have hA : Below V.heap.size V (V.alloc (.cells #[.int .i64 q.f.x, .int .i64 q.f.y, .int .i64 q.f.z, .slice q.s q.off.length q.cap, .int .i64 r.f.x, .int .i64 r.f.y, .int .i64 r.f.z, .slice r.s r.off.length r.cap] t)) := (Below.refl _ V).alloc (Nat.le_refl _) _
  refine (allLegal_c n s cap l s2 cq K _ 2 [q, r] _ (hr.up hA) (sd_new2 V q r t) (by simp) (fun x hx => by simp at hx; rcases hx with rfl | rfl; exact hq.up hA; exact hq2.up hA)).mono ?_
  rintro e w' ⟨rfl, hb⟩
  exact ⟨rfl, Up.to hA hb hA.size⟩
theorem result_cx (n : Int) (s : Option Addr) (cap : Nat) (l : List Iq) (s2 : Option Addr) (cq : Nat) (K : List Vv) (q : Sd) (V : World) (h : SdM V q) (hkl : K.length ≤ 9223372036854775807) :
    Calls Tryz.prog 78 #[.agg #[.int .i64 n, .slice s l.length cap, .slice s2 K.length cq], .agg #[.int .i64 q.f.x, .int .i64 q.f.y, .int .i64 q.f.z, .slice q.s q.off.length q.cap]] V fun e w' => e = .returned (.bool (q.fit n K.length)) ∧ Below V.heap.size V w' :=
  fits_c n s cap l.length s2 cq K.length q.f q.s q.cap q.off V h.off h.len hkl
theorem ended_cx (n : Int) (s : Option Addr) (cap : Nat) (l : List Iq) (s2 : Option Addr) (cq : Nat) (K : List Vv) (q : Sd) (V : World) (h : SdM V q) (hkl : K.length ≤ 9223372036854775807) :
    Calls Tryz.prog 57 #[.agg #[.int .i64 n, .slice s l.length cap, .slice s2 K.length cq], .agg #[.int .i64 q.f.x, .int .i64 q.f.y, .int .i64 q.f.z, .slice q.s q.off.length q.cap]] V fun e w' => e = .returned (.bool (q.fit n K.length)) ∧ Below V.heap.size V w' :=
  isSched_c n s cap l.length s2 cq K.length q V h hkl
end Go.Proofs.YtakbpjgnjfigcaaGreat
