/- Several texts in one: each says what it proves. -/
import Derived.Test.YtadmnlkgefbhcaaTrnK
import Derived.Test.YtadmnlkgefbhcaaB1
import Derived.Test.YtadmnlkgefbhcaaB7
/- A turned domain: plain laws (as XTurnLaw, for the seats without poly's texts). It has as many points, which are those turned, and is the domain again if it is turned back. -/
namespace Go.Proofs.Ytadmnlkgefbhcaa
open Go.RowKit

def backP (n : Int) (p : Pt) : Pt := turnP n p ⟨0, 1, 2⟩
theorem turn_flat {n m : Int} {p a : Pt} (hn : 1 ≤ n ∧ n ≤ 3) (ho : isOrd n p = true) (h : flatB a n m = true) : flatB (turnP n p a) n m = true := by
  obtain ⟨x, y, z⟩ := a
  rcases ord_cases hn ho with ⟨rfl, rfl⟩ | ⟨rfl, rfl | rfl⟩ | ⟨rfl, rfl | rfl | rfl | rfl | rfl | rfl⟩ <;>
    simp [flatB, flatC, bw, turnP, turnTo, setP, Pt.get] at h ⊢ <;> omega
theorem turn_twice {n m : Int} {p a : Pt} (hn : 1 ≤ n ∧ n ≤ 3) (ho : isOrd n p = true) (h : flatB a n m = true) : turnP n (backP n p) (turnP n p a) = a := by
  obtain ⟨x, y, z⟩ := a
  rcases ord_cases hn ho with ⟨rfl, rfl⟩ | ⟨rfl, rfl | rfl⟩ | ⟨rfl, rfl | rfl | rfl | rfl | rfl | rfl⟩ <;>
    simp [flatB, flatC, bw, backP, turnP, turnTo, setP, Pt.get] at h ⊢ <;> omega
theorem back_ord {n : Int} {p : Pt} (hn : 1 ≤ n ∧ n ≤ 3) (ho : isOrd n p = true) : isOrd n (backP n p) = true := by
  rcases ord_cases hn ho with ⟨rfl, rfl⟩ | ⟨rfl, rfl | rfl⟩ | ⟨rfl, rfl | rfl | rfl | rfl | rfl | rfl⟩ <;> decide
theorem turn_dot {n m k : Int} {p a q : Pt} (hn : 1 ≤ n ∧ n ≤ 3) (ho : isOrd n p = true) (ha : flatB a n m = true) (hq : flatB q n k = true) : dotZ (turnP n p a) (turnP n p q) = dotZ a q := by
  obtain ⟨x, y, z⟩ := a
  obtain ⟨u, v, w⟩ := q
  rcases ord_cases hn ho with ⟨rfl, rfl⟩ | ⟨rfl, rfl | rfl⟩ | ⟨rfl, rfl | rfl | rfl | rfl | rfl | rfl⟩ <;>
    simp [flatB, flatC, bw, turnP, turnTo, setP, Pt.get, dotZ] at ha hq ⊢ <;>
    (try (obtain ⟨-, ⟨-, ha2⟩, -, ha3⟩ := ha; subst ha2)) <;> (try (obtain ⟨-, -, -, ha3⟩ := ha; subst ha3)) <;> (try subst ha3) <;> (try simp) <;> (try omega)
theorem turn_hold {n : Int} {p q : Pt} {l : List Iq} {k b : Int} (hn : 1 ≤ n ∧ n ≤ 3) (ho : isOrd n p = true) (hl : l.all (okQ n) = true) (hq : flatB q n k = true) : holdsB (turnL n p l) (turnP n p q) b = holdsB l q b := by
  induction l with
  | nil => rfl
  | cons x l ih =>
    simp only [List.all_cons, Bool.and_eq_true] at hl
    have h1 := ih hl.2
    have h2 : flatB x.a n 20 = true := by have := hl.1; simp only [okQ, Bool.and_eq_true] at this; exact this.1
    simp only [holdsB, turnL, List.map_cons, List.all_cons] at h1 ⊢
    rw [h1]
    congr 1
    have h3 := turn_dot hn ho h2 hq
    show (!decide (wrap64 (x.b * b) < wrap64 (dotZ (turnP n p x.a) (turnP n p q)))) = _
    simp only [h3, holdQ]
theorem turn_valid {n : Int} {p : Pt} {l : List Iq} (ho : isOrd n p = true) (h : validB n l = true) : validB n (turnL n p l) = true := by
  simp only [validB, Bool.and_eq_true, bw_iff, decide_eq_true_eq, List.all_eq_true] at h ⊢
  refine ⟨h.1, by rw [turn_len]; exact h.2.1, fun q hq => ?_⟩
  simp only [turnL, List.mem_map] at hq
  obtain ⟨x, hx, rfl⟩ := hq
  have := h.2.2 x hx
  simp only [okQ, turnQ, Bool.and_eq_true] at this ⊢
  exact ⟨turn_flat h.1 ho this.1, this.2⟩
theorem turn_again {n : Int} {p : Pt} {l : List Iq} (ho : isOrd n p = true) (h : validB n l = true) : turnL n (backP n p) (turnL n p l) = l := by
  simp only [validB, Bool.and_eq_true, bw_iff, decide_eq_true_eq, List.all_eq_true] at h
  simp only [turnL, List.map_map]
  conv => rhs; rw [← List.map_id l]
  refine List.map_congr_left fun q hq => ?_
  have := h.2.2 q hq
  simp only [okQ, Bool.and_eq_true] at this
  simp only [Function.comp, turnQ, id]
  rw [turn_twice h.1 ho this.1]
theorem turn_has {n k : Int} {p q : Pt} {l : List Iq} (ho : isOrd n p = true) (h : validB n l = true) (hq : flatB q n k = true) : hasB n (turnL n p l) (turnP n p q) = hasB n l q := by
  have hv := h
  simp only [validB, Bool.and_eq_true, bw_iff, decide_eq_true_eq] at h
  simp only [hasB]
  rw [turn_hold h.1 ho h.2.2 hq]
  congr 1
  obtain ⟨x, y, z⟩ := q
  rw [Bool.eq_iff_iff]
  rcases ord_cases h.1 ho with ⟨rfl, rfl⟩ | ⟨rfl, rfl | rfl⟩ | ⟨rfl, rfl | rfl | rfl | rfl | rfl | rfl⟩ <;>
    simp [flatB, flatC, bw, turnP, turnTo, setP, Pt.get] at hq ⊢ <;> omega
theorem nodup_le {α : Type} [DecidableEq α] : ∀ (l m : List α), l.Nodup → (∀ x ∈ l, x ∈ m) → l.length ≤ m.length
  | [], _, _, _ => by simp
  | x :: l, m, hn, hs => by
    have hx := hs x (by simp)
    rw [List.nodup_cons] at hn
    have := nodup_le l (m.erase x) hn.2 (fun y hy => (List.mem_erase_of_ne (by rintro rfl; exact hn.1 hy)).2 (hs y (by simp [hy])))
    rw [List.length_erase_of_mem hx] at this
    have := List.length_pos_of_mem hx
    simp only [List.length_cons]; omega
theorem turn_le {n : Int} {p : Pt} {l : List Iq} (ho : isOrd n p = true) (h : validB n l = true) : (pts n l).length ≤ (pts n (turnL n p l)).length := by
  have hn : 1 ≤ n ∧ n ≤ 3 := by simp only [validB, Bool.and_eq_true, bw_iff] at h; exact h.1
  have hfl : ∀ q ∈ pts n l, flatB q n 20 = true := fun q hq => by have := mem_pts.1 hq; simp only [hasB, Bool.and_eq_true] at this; exact this.1
  have h1 : ((pts n l).map (turnP n p)).Nodup := by
    unfold List.Nodup
    rw [List.pairwise_map]
    refine List.Pairwise.imp_of_mem (fun {a b} ha hb hab e => ?_) (pts_sorted n l)
    have e2 := congrArg (turnP n (backP n p)) e
    rw [turn_twice hn ho (hfl a ha), turn_twice hn ho (hfl b hb)] at e2
    subst e2
    have := ltP_iff.1 hab
    omega
  have h2 := nodup_le _ (pts n (turnL n p l)) h1 fun x hx => by
    obtain ⟨q, hq, rfl⟩ := List.mem_map.1 hx
    rw [mem_pts, turn_has ho h (hfl q hq)]
    exact mem_pts.1 hq
  rwa [List.length_map] at h2
theorem turn_count {n : Int} {p : Pt} {l : List Iq} (ho : isOrd n p = true) (h : validB n l = true) : (pts n (turnL n p l)).length = (pts n l).length := by
  have hn : 1 ≤ n ∧ n ≤ 3 := by simp only [validB, Bool.and_eq_true, bw_iff] at h; exact h.1
  have h1 := turn_le ho h
  have h2 := turn_le (back_ord hn ho) (turn_valid ho h)
  rw [turn_again ho h] at h2
  omega
end Go.Proofs.Ytadmnlkgefbhcaa

/- Two graphs that are alike but for the elements' numbers. -/
namespace Go.Proofs.Ytadmnlkgefbhcaa

/-- Element k of the first is element f k of the second. -/
structure Iso (us us' : Uses) (N : Nat) (f : Nat → Nat) : Prop where
  use : ∀ k, k < N → us' (f k) = (us k).map f
  lt : ∀ k, k < N → ∀ u ∈ us k, u < N
theorem Iso.gd {us us' : Uses} {N : Nat} {f : Nat → Nat} (h : Iso us us' N f) {k : Nat} (hk : k < N) (hg : Gd us k) : Gd us' (f k) := by
  induction hg with
  | mk k _ ih =>
    refine .mk _ fun u hu => ?_
    rw [h.use k hk] at hu
    obtain ⟨v, hv, rfl⟩ := List.mem_map.1 hu
    exact ih v hv (h.lt k hk v hv)
theorem Iso.gd' {us us' : Uses} {N : Nat} {f : Nat → Nat} (h : Iso us us' N f) {j : Nat} (hg : Gd us' j) : ∀ k, k < N → f k = j → Gd us k := by
  induction hg with
  | mk j _ ih =>
    rintro k hk rfl
    refine .mk _ fun u hu => ?_
    exact ih (f u) (by rw [h.use k hk]; exact List.mem_map.2 ⟨u, hu, rfl⟩) u (h.lt k hk u hu) rfl
/-- What is computed is the same. -/
theorem Iso.rk {β : Type} {us us' : Uses} {N : Nat} {f : Nat → Nat} (h : Iso us us' N f) (z : β) {F F' : Nat → (Nat → β) → β}
    (hF : ∀ k g g', (∀ u ∈ us k, g u = g' u) → F k g = F k g') (hF' : ∀ k g g', (∀ u ∈ us' k, g u = g' u) → F' k g = F' k g')
    (hs : ∀ k, k < N → ∀ g, F' (f k) g = F k fun u => g (f u)) {k : Nat} (hk : k < N) (hg : Gd us k) : rk us' z F' (f k) = rk us z F k := by
  induction hg with
  | mk k hall ih =>
    have hg : Gd us k := .mk k hall
    rw [rk_eq hF hg, rk_eq hF' (h.gd hk hg), hs k hk]
    exact hF k _ _ fun u hu => ih u hu (h.lt k hk u hu)
theorem Iso.lvl {us us' : Uses} {N : Nat} {f : Nat → Nat} (h : Iso us us' N f) {k : Nat} (hk : k < N) (hg : Gd us k) : lvl us' (f k) = lvl us k := by
  unfold Go.Proofs.Ytadmnlkgefbhcaa.lvl
  refine h.rk 0 (fun k g g' he => ?_) (fun k g g' he => ?_) (fun k hk g => ?_) hk hg
  · unfold lvR; exact foldl_ext _ _ fun b x hx => by rw [he x hx]
  · unfold lvR; exact foldl_ext _ _ fun b x hx => by rw [he x hx]
  · unfold lvR; rw [h.use k hk, List.foldl_map]
end Go.Proofs.Ytadmnlkgefbhcaa

/- A turned recurrence: its elements are those of the recurrence, with other numbers. -/
namespace Go.Proofs.Ytadmnlkgefbhcaa
open Go.RowKit

theorem turn_add {n : Int} {o : Pt} (hn : 1 ≤ n ∧ n ≤ 3) (ho : isOrd n o = true) (a b : Pt) : turnP n o (ptP a b) = ptP (turnP n o a) (turnP n o b) := by
  obtain ⟨x, y, z⟩ := a
  obtain ⟨u, v, w⟩ := b
  rcases ord_cases hn ho with ⟨rfl, rfl⟩ | ⟨rfl, rfl | rfl⟩ | ⟨rfl, rfl | rfl | rfl | rfl | rfl | rfl⟩ <;>
    simp [turnP, turnTo, setP, Pt.get, ptP]
theorem flat_sum1 {n a b i x y : Int} (hp : flatC i x n a = true) (hq : flatC i y n b = true) : flatC i (x + y) n (a + b) = true := by
  simp only [flatC, Bool.and_eq_true, Bool.or_eq_true, decide_eq_true_eq, bw_iff] at hp hq ⊢
  obtain ⟨⟨h1, h2⟩, h3⟩ := hp
  obtain ⟨⟨k1, k2⟩, k3⟩ := hq
  refine ⟨⟨by omega, by omega⟩, ?_⟩
  rcases h3 with h3 | h3
  · exact .inl h3
  · rcases k3 with k3 | k3
    · exact .inl k3
    · exact .inr (by omega)
theorem flat_sum {n a b : Int} {p q : Pt} (hp : flatB p n a = true) (hq : flatB q n b = true) : flatB (ptP p q) n (a + b) = true := by
  simp only [flatB, Bool.and_eq_true] at hp hq ⊢
  exact ⟨flat_sum1 hp.1 hq.1, flat_sum1 hp.2.1 hq.2.1, flat_sum1 hp.2.2 hq.2.2⟩
theorem pts_nodup (n : Int) (l : List Iq) : (pts n l).Nodup := (pts_sorted n l).imp fun h => ltP_ne h
theorem pts_flat {n : Int} {l : List Iq} {p : Pt} (h : p ∈ pts n l) : flatB p n 20 = true := by
  have := mem_pts.1 h
  simp only [hasB, Bool.and_eq_true] at this
  exact this.1
theorem turn_mem {n k : Int} {o q : Pt} {l : List Iq} (ho : isOrd n o = true) (h : validB n l = true) (hq : flatB q n k = true) : turnP n o q ∈ pts n (turnL n o l) ↔ q ∈ pts n l := by
  rw [mem_pts, mem_pts, turn_has ho h hq]
/-- The place of a turned point. -/
def tix (n : Int) (o : Pt) (P P' : List Pt) (i : Nat) : Nat := (pix P' (turnP n o (P.getD i default))).getD 0
theorem pix_nil {P : List Pt} {p : Pt} (h : p ∉ P) : pix P p = none := by
  cases hx : pix P p with
  | none => rfl
  | some i => exact absurd (pix_mem.1 (by rw [hx]; rfl)) h
theorem pix_turn {n k : Int} {o q : Pt} {l : List Iq} (ho : isOrd n o = true) (h : validB n l = true) (hq : flatB q n k = true) :
    pix (pts n (turnL n o l)) (turnP n o q) = (pix (pts n l) q).map (tix n o (pts n l) (pts n (turnL n o l))) := by
  cases hx : pix (pts n l) q with
  | none => exact pix_nil fun hm => pix_none hx ((turn_mem ho h hq).1 hm)
  | some i =>
    obtain ⟨hi, he⟩ := pix_some hx
    have hm : q ∈ pts n l := by rw [← he]; exact List.getElem_mem hi
    have hs := pix_mem.2 ((turn_mem ho h hq).2 hm)
    obtain ⟨j, hj⟩ := Option.isSome_iff_exists.1 hs
    have e : tix n o (pts n l) (pts n (turnL n o l)) i = j := by
      unfold tix
      rw [List.getD_eq_getElem?_getD, List.getElem?_eq_getElem hi, Option.getD_some, he, hj]; rfl
    rw [hj, Option.map_some, e]
/-- A turned point stands at its place. -/
theorem tix_at {n : Int} {o : Pt} {l : List Iq} (ho : isOrd n o = true) (h : validB n l = true) {i : Nat} (hi : i < (pts n l).length) :
    tix n o (pts n l) (pts n (turnL n o l)) i < (pts n (turnL n o l)).length ∧ (pts n (turnL n o l)).getD (tix n o (pts n l) (pts n (turnL n o l)) i) default = turnP n o (pts n l)[i] ∧ pix (pts n (turnL n o l)) (turnP n o (pts n l)[i]) = some (tix n o (pts n l) (pts n (turnL n o l)) i) := by
  have hm := List.getElem_mem hi
  have hp := pix_turn ho h (pts_flat hm)
  rw [pix_at (pts_nodup n l) hi, Option.map_some] at hp
  obtain ⟨hj, he⟩ := pix_some hp
  refine ⟨hj, ?_, hp⟩
  rw [List.getD_eq_getElem?_getD, List.getElem?_eq_getElem hj, Option.getD_some, he]
/-- The number of a turned element. -/
def tnum (n : Int) (o : Pt) (P P' : List Pt) (k : Nat) : Nat := k / P.length * P'.length + tix n o P P' (k % P.length)
theorem vOf_lt {K : List Vv} {P : List Pt} {k : Nat} (hk : k < K.length * P.length) : ∃ h : k / P.length < K.length, vOf K P k = K[k / P.length] := by
  obtain ⟨h1, -, -⟩ := num_div hk
  refine ⟨h1, ?_⟩
  unfold vOf
  rw [List.getD_eq_getElem?_getD, List.getElem?_eq_getElem h1]; rfl
theorem pOf_lt {K : List Vv} {P : List Pt} {k : Nat} (hk : k < K.length * P.length) : ∃ h : k % P.length < P.length, pOf P k = P[k % P.length] := by
  obtain ⟨-, h1, -⟩ := num_div hk
  refine ⟨h1, ?_⟩
  unfold pOf
  rw [List.getD_eq_getElem?_getD, List.getElem?_eq_getElem h1]; rfl
theorem fm_congr {α β : Type} {f g : α → Option β} : ∀ (l : List α), (∀ x ∈ l, f x = g x) → l.filterMap f = l.filterMap g
  | [], _ => rfl
  | x :: l, h => by
    rw [List.filterMap_cons, List.filterMap_cons, h x (by simp), fm_congr l fun y hy => h y (by simp [hy])]
section
variable {n : Int} {o : Pt} {l : List Iq} {K : List Vv}
theorem rec_parts (h : recB n l K = true) : validB n l = true ∧ ∀ v ∈ K, initB v n = true ∧ ∀ a ∈ v.args, flatB a.p n 3 = true ∧ bw 0 a.v (K.length - 1) = true := by
  rw [recB_eq] at h
  simp only [Bool.and_eq_true, decide_eq_true_eq, recS, List.all_eq_true] at h
  obtain ⟨h1, h2, h3, h4, -⟩ := h
  refine ⟨h1, fun v hv => ?_⟩
  have h5 := h4 v hv
  simp only [varB, Bool.and_eq_true, decide_eq_true_eq, List.all_eq_true] at h5
  refine ⟨h5.2.2.2.1, fun a ha => ?_⟩
  have h6 := h5.2.2.2.2 a ha
  simp only [argC, Bool.and_eq_true] at h6
  exact h6
theorem vOf_turn (h : recB n l K = true) (ho : isOrd n o = true) {k : Nat} (hk : k < K.length * (pts n l).length) :
    tnum n o (pts n l) (pts n (turnL n o l)) k / (pts n (turnL n o l)).length = k / (pts n l).length ∧ vOf (turnK n o K) (pts n (turnL n o l)) (tnum n o (pts n l) (pts n (turnL n o l)) k) = turnV n o (vOf K (pts n l) k) ∧ pOf (pts n (turnL n o l)) (tnum n o (pts n l) (pts n (turnL n o l)) k) = turnP n o (pOf (pts n l) k) := by
  obtain ⟨hv, -⟩ := rec_parts h
  obtain ⟨h1, e1⟩ := vOf_lt hk
  obtain ⟨h2, e2⟩ := pOf_lt hk
  obtain ⟨t1, t2, t3⟩ := tix_at ho hv h2
  have hd := div_num (P := (pts n (turnL n o l)).length) (v := k / (pts n l).length) t1
  refine ⟨hd.1, ?_, ?_⟩
  · rw [e1]
    unfold vOf tnum
    rw [hd.1, List.getD_eq_getElem?_getD, List.getElem?_eq_getElem (by rw [turnK_len]; exact h1), Option.getD_some, turnK_at h1]
  · rw [e2]
    unfold pOf tnum
    rw [hd.2, t2]
theorem arg_turn (h : recB n l K = true) (ho : isOrd n o = true) {v : Vv} (hv : v ∈ K) {a : Ar} (ha : a ∈ v.args) {p : Pt} (hp : p ∈ pts n l) :
    argN (pts n (turnL n o l)) (turnA n o a) (turnP n o p) = (argN (pts n l) a p).map (tnum n o (pts n l) (pts n (turnL n o l))) := by
  obtain ⟨hv2, hvs⟩ := rec_parts h
  obtain ⟨hf, -⟩ := (hvs v hv).2 a ha
  have hdim := (netOk h).dim
  unfold argN
  show (pix _ (ptP (turnP n o p) (turnP n o a.p))).map _ = _
  rw [← turn_add hdim ho, pix_turn ho hv2 (flat_sum (pts_flat hp) hf)]
  cases hx : pix (pts n l) (ptP p a.p) with
  | none => rfl
  | some i =>
    obtain ⟨hi, -⟩ := pix_some hx
    simp only [Option.map_some, turnA, tnum]
    rw [(div_num hi).1, (div_num hi).2]
theorem use_turn (h : recB n l K = true) (ho : isOrd n o = true) {k : Nat} (hk : k < K.length * (pts n l).length) :
    useN (turnK n o K) (pts n (turnL n o l)) (tnum n o (pts n l) (pts n (turnL n o l)) k) = (useN K (pts n l) k).map (tnum n o (pts n l) (pts n (turnL n o l))) := by
  obtain ⟨-, e1, e2⟩ := vOf_turn h ho hk
  obtain ⟨h1, e3⟩ := vOf_lt hk
  obtain ⟨h2, e4⟩ := pOf_lt hk
  unfold useN
  rw [e1, e2, List.map_filterMap]
  show (List.map (turnA n o) _).filterMap _ = _
  rw [List.filterMap_map]
  refine fm_congr _ fun a ha => ?_
  rw [e3] at ha
  rw [e4]
  exact arg_turn h ho (List.getElem_mem h1) ha (List.getElem_mem h2)
theorem tn_iso (h : recB n l K = true) (ho : isOrd n o = true) : Iso (useN K (pts n l)) (useN (turnK n o K) (pts n (turnL n o l))) (K.length * (pts n l).length) (tnum n o (pts n l) (pts n (turnL n o l))) :=
  ⟨fun _ hk => use_turn h ho hk, fun k _ => (netOk h).use_lt k⟩
theorem frst_turn (h : recB n l K = true) (ho : isOrd n o = true) {v : Vv} (hv : v ∈ K) {q : Pt} {m : Int} (hq : flatB q n m = true) : frst (turnV n o v) (turnP n o q) = frst v q := by
  have hdim := (netOk h).dim
  have hi := ((rec_parts h).2 v hv).1
  have hf : flatB ⟨v.i1, v.i2, v.i3⟩ n 10006 = true := by
    simp only [initB, initC, flatB, flatC, Bool.and_eq_true, Bool.or_eq_true, decide_eq_true_eq, bw_iff] at hi ⊢
    omega
  have hd := turn_dot hdim ho hf hq
  unfold frst
  congr 1
  simp only [dotZ] at hd
  show v.i0 + (turnI n o v).x * _ + (turnI n o v).y * _ + (turnI n o v).z * _ = frstZ v q
  unfold frstZ turnI
  omega
theorem vlR_turn (h : recB n l K = true) (ho : isOrd n o = true) {k : Nat} (hk : k < K.length * (pts n l).length) (g : Nat → Int) :
    vlR (turnK n o K) (pts n (turnL n o l)) (tnum n o (pts n l) (pts n (turnL n o l)) k) g = vlR K (pts n l) k fun u => g (tnum n o (pts n l) (pts n (turnL n o l)) u) := by
  obtain ⟨-, e1, e2⟩ := vOf_turn h ho hk
  obtain ⟨h1, e3⟩ := vOf_lt hk
  obtain ⟨h2, e4⟩ := pOf_lt hk
  have hdim := (netOk h).dim
  unfold vlR
  rw [e1, e2]
  show appl (vOf K (pts n l) k).op (((vOf K (pts n l) k).args.map (turnA n o)).map _) = _
  rw [List.map_map]
  congr 1
  refine List.map_congr_left fun a ha => ?_
  rw [e3] at ha
  rw [e4]
  have hv := List.getElem_mem h1
  have hp := List.getElem_mem h2
  obtain ⟨hf, hb⟩ := ((rec_parts h).2 _ hv).2 a ha
  show argV _ _ g (turnP n o _) (turnA n o a) = _
  unfold argV
  rw [arg_turn h ho hv ha hp]
  cases hx : argN (pts n l) a (pts n l)[k % (pts n l).length] with
  | some u => rfl
  | none =>
    have hb2 := bw_iff.1 hb
    have hl : a.v.toNat < K.length := by omega
    have e5 : vat K a.v.toNat = K[a.v.toNat] := by unfold vat; rw [List.getD_eq_getElem?_getD, List.getElem?_eq_getElem hl]; rfl
    have e6 : vat (turnK n o K) a.v.toNat = turnV n o K[a.v.toNat] := by unfold vat; rw [List.getD_eq_getElem?_getD, List.getElem?_eq_getElem (by rw [turnK_len]; exact hl), Option.getD_some, turnK_at hl]
    show frst (vat (turnK n o K) a.v.toNat) (ptP (turnP n o _) (turnP n o a.p)) = frst (vat K a.v.toNat) _
    rw [e5, e6, ← turn_add hdim ho]
    exact frst_turn h ho (List.getElem_mem hl) (flat_sum (pts_flat hp) hf)
theorem tn_lvl (h : recB n l K = true) (ho : isOrd n o = true) {k : Nat} (hk : k < K.length * (pts n l).length) (hg : Gd (useN K (pts n l)) k) :
    lvN (turnK n o K) (pts n (turnL n o l)) (tnum n o (pts n l) (pts n (turnL n o l)) k) = lvN K (pts n l) k := (tn_iso h ho).lvl hk hg
theorem tn_val (h : recB n l K = true) (ho : isOrd n o = true) {k : Nat} (hk : k < K.length * (pts n l).length) (hg : Gd (useN K (pts n l)) k) :
    vlN (turnK n o K) (pts n (turnL n o l)) (tnum n o (pts n l) (pts n (turnL n o l)) k) = vlN K (pts n l) k :=
  (tn_iso h ho).rk 0 (vlR_ext K (pts n l)) (vlR_ext (turnK n o K) (pts n (turnL n o l))) (fun _ hk g => vlR_turn h ho hk g) hk hg
end
end Go.Proofs.Ytadmnlkgefbhcaa

/- A turned recurrence is one, and has levels exactly if the recurrence has. -/
namespace Go.Proofs.Ytadmnlkgefbhcaa
open Go.RowKit

theorem turn_init {n : Int} {o : Pt} {v : Vv} (hn : 1 ≤ n ∧ n ≤ 3) (ho : isOrd n o = true) (h : initB v n = true) : initB (turnV n o v) n = true := by
  obtain ⟨nm, op, ar, i0, i1, i2, i3⟩ := v
  rcases ord_cases hn ho with ⟨rfl, rfl⟩ | ⟨rfl, rfl | rfl⟩ | ⟨rfl, rfl | rfl | rfl | rfl | rfl | rfl⟩ <;>
    (simp [initB, initC, bw, turnV, turnI, turnP, turnTo, setP, Pt.get] at h ⊢
     omega)
theorem once_turn (n : Int) (o : Pt) : ∀ K : List Vv, onceB (turnK n o K) = onceB K
  | [] => rfl
  | v :: K => by
    show (onceB (turnK n o K) && (turnK n o K).all fun u => !decide (u.name = (turnV n o v).name)) = (onceB K && K.all fun u => !decide (u.name = v.name))
    rw [once_turn n o K]
    congr 1
    unfold turnK
    rw [List.all_map]
    rfl
section
variable {n : Int} {o : Pt} {l : List Iq} {K : List Vv}
theorem rec_turn (h : recB n l K = true) (ho : isOrd n o = true) : recB n (turnL n o l) (turnK n o K) = true := by
  have hdim := (netOk h).dim
  have hv := (rec_parts h).1
  rw [recB_eq] at h ⊢
  simp only [Bool.and_eq_true, decide_eq_true_eq, recS, List.all_eq_true] at h ⊢
  obtain ⟨h1, h2, h3, h4, h5⟩ := h
  refine ⟨turn_valid ho hv, by rw [turn_count ho hv]; exact h2, by rw [turnK_len]; exact h3, fun v' hv' => ?_, by rw [once_turn]; exact h5⟩
  obtain ⟨v, hvm, rfl⟩ := List.mem_map.1 hv'
  have h6 := h4 v hvm
  rw [turnK_len]
  simp only [varB, Bool.and_eq_true, decide_eq_true_eq, List.all_eq_true] at h6 ⊢
  refine ⟨h6.1, h6.2.1, ?_, turn_init hdim ho h6.2.2.2.1, fun a' ha' => ?_⟩
  · show (List.map (turnA n o) v.args).length = _
    rw [List.length_map]; exact h6.2.2.1
  · obtain ⟨a, ha, rfl⟩ := List.mem_map.1 ha'
    have h7 := h6.2.2.2.2 a ha
    simp only [argC, Bool.and_eq_true] at h7 ⊢
    exact ⟨turn_flat hdim ho h7.1, h7.2⟩
theorem turn_all (h : validB n l = true) (hn : 1 ≤ n ∧ n ≤ 3) (ho : isOrd n o = true) {q : Pt} (hq : q ∈ pts n (turnL n o l)) : ∃ i, ∃ hi : i < (pts n l).length, turnP n o (pts n l)[i] = q := by
  by_cases hm : q ∈ (pts n l).map (turnP n o)
  · obtain ⟨p, hp, e⟩ := List.mem_map.1 hm
    obtain ⟨i, hi, rfl⟩ := List.getElem_of_mem hp
    exact ⟨i, hi, e⟩
  · have hnd : ((pts n l).map (turnP n o)).Nodup := by
      unfold List.Nodup
      rw [List.pairwise_map]
      refine (pts_nodup n l).imp_of_mem fun {a b} ha hb hne e => hne ?_
      have h1 := turn_twice hn ho (pts_flat ha)
      have h2 := turn_twice hn ho (pts_flat hb)
      rw [← h1, ← h2, e]
    have h1 := nodup_le (q :: (pts n l).map (turnP n o)) (pts n (turnL n o l)) (List.nodup_cons.2 ⟨hm, hnd⟩) fun x hx => by
      rcases List.mem_cons.1 hx with rfl | hx
      · exact hq
      · obtain ⟨p, hp, rfl⟩ := List.mem_map.1 hx
        exact (turn_mem ho h (pts_flat hp)).2 hp
    rw [List.length_cons, List.length_map, turn_count ho h] at h1
    omega
/-- Each element of the turned recurrence is a turned element. -/
theorem tnum_all (h : recB n l K = true) (ho : isOrd n o = true) {j : Nat} (hj : j < (turnK n o K).length * (pts n (turnL n o l)).length) : ∃ k, k < K.length * (pts n l).length ∧ tnum n o (pts n l) (pts n (turnL n o l)) k = j := by
  have hv := (rec_parts h).1
  have hdim := (netOk h).dim
  obtain ⟨h1, h2, h3⟩ := num_div hj
  rw [turnK_len] at h1
  obtain ⟨i, hi, e⟩ := turn_all hv hdim ho (List.getElem_mem h2)
  obtain ⟨t1, t2, t3⟩ := tix_at ho hv hi
  have h4 := pix_at (pts_nodup n (turnL n o l)) h2
  rw [← e, t3] at h4
  have h5 := Option.some.inj h4
  refine ⟨j / (pts n (turnL n o l)).length * (pts n l).length + i, numb_lt h1 hi, ?_⟩
  unfold tnum
  rw [(div_num hi).1, (div_num hi).2, h5]
  exact h3
theorem tnum_lt (h : recB n l K = true) (ho : isOrd n o = true) {k : Nat} (hk : k < K.length * (pts n l).length) : tnum n o (pts n l) (pts n (turnL n o l)) k < (turnK n o K).length * (pts n (turnL n o l)).length := by
  obtain ⟨h1, h2, -⟩ := num_div hk
  rw [turnK_len]
  exact numb_lt h1 (tix_at ho (rec_parts h).1 h2).1
theorem tn_ok (h : recB n l K = true) (ho : isOrd n o = true) : okN2 (turnK n o K) (pts n (turnL n o l)) ↔ okN2 K (pts n l) := by
  constructor
  · intro g k hk
    exact (tn_iso h ho).gd' (g _ (tnum_lt h ho hk)) k hk rfl
  · intro g j hj
    obtain ⟨k, hk, rfl⟩ := tnum_all h ho hj
    exact (tn_iso h ho).gd hk (g k hk)
/-- Level and value at a turned point. -/
theorem tn_both (h : recB n l K = true) (ho : isOrd n o = true) (hy : okN2 K (pts n l)) {v i : Nat} (hv : v < K.length) (hi : i < (pts n l).length) :
    ∃ j, ∃ hj : j < (pts n (turnL n o l)).length, pix (pts n (turnL n o l)) (turnP n o (pts n l)[i]) = some j ∧
      lvN (turnK n o K) (pts n (turnL n o l)) (v * (pts n (turnL n o l)).length + j) = lvN K (pts n l) (v * (pts n l).length + i) ∧
      vlN (turnK n o K) (pts n (turnL n o l)) (v * (pts n (turnL n o l)).length + j) = vlN K (pts n l) (v * (pts n l).length + i) := by
  obtain ⟨t1, t2, t3⟩ := tix_at ho (rec_parts h).1 hi
  have hk : v * (pts n l).length + i < K.length * (pts n l).length := numb_lt hv hi
  have e : tnum n o (pts n l) (pts n (turnL n o l)) (v * (pts n l).length + i) = v * (pts n (turnL n o l)).length + tix n o (pts n l) (pts n (turnL n o l)) i := by
    unfold tnum; rw [(div_num hi).1, (div_num hi).2]
  refine ⟨_, t1, t3, ?_, ?_⟩
  · rw [← e]; exact tn_lvl h ho hk (hy _ hk)
  · rw [← e]; exact tn_val h ho hk (hy _ hk)
end
end Go.Proofs.Ytadmnlkgefbhcaa
