/- Shifted kernels: the law. -/
import Derived.Test.YtgeoehokojijdaaMixRows
import Derived.Test.YtgeoehokojijdaaMixDig
import Derived.Test.YtgeoehokojijdaaMix13
namespace Go.Proofs.Ytgeoehokojijdaa
open Go.RowKit

theorem addT_zero (l : List Clm) : l.map (addT 0) = l := by
  conv => rhs; rw [← List.map_id l]
  exact List.map_congr_left fun c _ => by cases c; simp [addT]
theorem shift_len (k : List (List Clm)) (q d : Int) : (shiftK k q d).length = k.length := by simp [shiftK]
theorem shift_at {k : List (List Clm)} {q d : Int} {i : Nat} (hi : i < k.length) : (shiftK k q d)[i]'(by rw [shift_len]; exact hi) = k[i].map (addT (if (i : Int) = q then d else 0)) := by simp [shiftK]
theorem shift_succ {k : List (List Clm)} {q d : Int} {i : Nat} (hi : i < k.length) : (shiftK k q d).take (i + 1) = (shiftK k q d).take i ++ [k[i].map (addT (if (i : Int) = q then d else 0))] := by
  rw [List.take_succ_eq_append_getElem (by rw [shift_len]; exact hi), shift_at hi]
theorem shift_lens {k : List (List Clm)} {q d : Int} {m : Nat} (h : ∀ l ∈ k, l.length ≤ m) : ∀ l ∈ shiftK k q d, l.length ≤ m := fun l hl => by
  obtain ⟨i, hi, rfl⟩ := List.getElem_of_mem hl
  rw [shift_len] at hi
  rw [shift_at hi, List.length_map]
  exact h _ (List.getElem_mem hi)
theorem shift_back (k : List (List Clm)) (q d : Int) : shiftK (shiftK k q d) q (-d) = k := by
  apply List.ext_getElem
  · rw [shift_len, shift_len]
  · intro i h1 h2
    rw [shift_at (by rw [shift_len]; exact h2), shift_at h2, List.map_map]
    conv => rhs; rw [← List.map_id k[i]]
    refine List.map_congr_left fun c _ => ?_
    cases c
    simp only [addT, Function.comp_apply, id_eq, Clm.mk.injEq, true_and]
    split <;> omega
theorem cntC_map (l : List Clm) (d c : Int) : cntC (l.map (addT d)) c = cntC l c := by
  unfold cntC; rw [List.filter_map, List.length_map]; rfl
theorem cntC_shift (c : Int) : ∀ (k : List (List Clm)) (f : Nat → Int), cntC (k.mapIdx fun i l => l.map (addT (f i))).flatten c = cntC k.flatten c
  | [], _ => rfl
  | l :: k, f => by
    rw [List.mapIdx_cons, List.flatten_cons, List.flatten_cons, cntC_append, cntC_append, cntC_map, cntC_shift c k (fun i => f (i + 1))]
theorem bnd_shift (k : List (List Clm)) (q d : Int) : bndN (shiftK k q d) = bndN k := by
  unfold bndN
  congr 1
  funext c
  exact cntC_shift _ k _
theorem kLen_shift (k : List (List Clm)) (q d : Int) (i : Nat) : kLen (shiftK k q d) i = kLen k i := by
  unfold kLen
  by_cases hi : i < k.length
  · rw [List.getD_eq_getElem?_getD, List.getD_eq_getElem?_getD, List.getElem?_eq_getElem (by rw [shift_len]; exact hi), List.getElem?_eq_getElem hi, shift_at hi]; simp
  · rw [List.getD_eq_getElem?_getD, List.getD_eq_getElem?_getD, List.getElem?_eq_none (by rw [shift_len]; omega), List.getElem?_eq_none (by omega)]
theorem kAt_shift {k : List (List Clm)} (q d : Int) {i m : Nat} (hi : i < k.length) (hm : m < kLen k i) : kAt (shiftK k q d) i m = addT (if (i : Int) = q then d else 0) (kAt k i m) := by
  unfold kAt kLen at *
  rw [List.getD_eq_getElem?_getD, List.getElem?_eq_getElem hi] at hm
  simp only [Option.getD_some] at hm
  rw [List.getD_eq_getElem?_getD (l := shiftK k q d), List.getD_eq_getElem?_getD (l := k), List.getElem?_eq_getElem (show i < (shiftK k q d).length by rw [shift_len]; exact hi), List.getElem?_eq_getElem hi, shift_at hi]
  simp only [Option.getD_some]
  rw [List.getD_eq_getElem?_getD, List.getD_eq_getElem?_getD, List.getElem?_map, List.getElem?_eq_getElem hm]; rfl
/-- The starts that a shifted kernel has instead. -/
def stB (st : List Int) (p q d : Int) : List Int := st.mapIdx fun i s => (s + (if (i : Int) = q then d else 0)) % p
theorem stB_len (st : List Int) (p q d : Int) : (stB st p q d).length = st.length := by simp [stB]
theorem stB_at {st : List Int} (p q d : Int) {i : Nat} (hi : i < st.length) : (stB st p q d).getD i 0 = (st.getD i 0 + (if (i : Int) = q then d else 0)) % p := by
  rw [List.getD_eq_getElem?_getD, List.getD_eq_getElem?_getD, List.getElem?_eq_getElem (by rw [stB_len]; exact hi), List.getElem?_eq_getElem hi]
  simp [stB]
theorem stB_rng {st : List Int} {p : Int} (q d : Int) (hp : 0 < p) : ∀ n ∈ stB st p q d, 0 ≤ n ∧ n < p := fun n hn => by
  obtain ⟨i, hi, rfl⟩ := List.getElem_of_mem hn
  simp only [stB, List.getElem_mapIdx]
  exact ⟨Int.emod_nonneg _ (by omega), Int.emod_lt_of_pos _ hp⟩
theorem good_shift {k : List (List Clm)} {p : Int} {st : List Int} (q d : Int) (hst : st.length = k.length) : goodB (shiftK k q d) p st = goodB k p (stB st p q d) := by
  have hl : (stB st p q d).length = k.length := by rw [stB_len]; exact hst
  have hl2 : st.length = (shiftK k q d).length := by rw [shift_len]; exact hst
  rw [Bool.eq_iff_iff, good_iff hl, good_iff hl2]
  have hm : ∀ (a : Clm) (x y : Int), (a.time + (x + y) % p) % p = ((addT y a).time + x) % p := fun a x y => by
    show _ = (a.time + y + x) % p
    rw [Int.add_emod, Int.emod_emod, ← Int.add_emod]; congr 1; omega
  have hh : ∀ i m j n, hitAt (shiftK k q d) st p i m j n ↔ hitAt k (stB st p q d) p i m j n := fun i m j n => by
    unfold hitAt
    rw [kLen_shift, kLen_shift, shift_len]
    have key : ∀ {i m j n : Nat}, i < k.length → m < kLen k i → j < k.length → n < kLen k j → (meetP (kAt (shiftK k q d) i m) (st.getD i 0) (kAt (shiftK k q d) j n) (st.getD j 0) p ↔ meetP (kAt k i m) ((stB st p q d).getD i 0) (kAt k j n) ((stB st p q d).getD j 0) p) := fun h1 h2 h3 h4 => by
      rw [kAt_shift q d h1 h2, kAt_shift q d h3 h4, stB_at p q d (by omega), stB_at p q d (by omega)]
      unfold meetP
      rw [hm, hm]; rfl
    constructor
    · rintro ⟨h1, h2, h3⟩; exact ⟨h1, h2, (key h1.1 h1.2.1 h1.2.2.1 h1.2.2.2).1 h3⟩
    · rintro ⟨h1, h2, h3⟩; exact ⟨h1, h2, (key h1.1 h1.2.1 h1.2.2.1 h1.2.2.2).2 h3⟩
  exact ⟨fun h i m j n => by rw [← hh]; exact h i m j n, fun h i m j n => by rw [hh]; exact h i m j n⟩
theorem first_ex {k : List (List Clm)} {p : Nat} (hp : 0 < p) : (firstG k p).isSome = true ↔ ∃ st : List Int, st.length = k.length ∧ (∀ n ∈ st, 0 ≤ n ∧ n < (p : Int)) ∧ goodB k p st = true := by
  constructor
  · intro h
    obtain ⟨i, hi⟩ := Option.isSome_iff_exists.1 h
    exact ⟨digs p k.length i, digs_len _ _ _, digs_mem hp _ _, (firstG_mem hi).2⟩
  · rintro ⟨st, h1, h2, h3⟩
    obtain ⟨i, hi, e⟩ := digs_surj hp k.length st h1 h2
    unfold firstG
    rw [List.find?_isSome]
    exact ⟨i, List.mem_range.2 hi, by rw [e]; exact h3⟩
theorem first_shift1 {k : List (List Clm)} {p : Nat} (hp : 0 < p) (q d : Int) : (firstG (shiftK k q d) p).isSome = true → (firstG k p).isSome = true := by
  rw [first_ex hp, first_ex hp]
  rintro ⟨st, h1, h2, h3⟩
  rw [shift_len] at h1
  refine ⟨stB st p q d, by rw [stB_len]; exact h1, stB_rng q d (by omega), ?_⟩
  rw [← good_shift q d h1]; exact h3
theorem first_shift {k : List (List Clm)} {p : Nat} (hp : 0 < p) (q d : Int) : (firstG (shiftK k q d) p).isSome = (firstG k p).isSome := by
  rw [Bool.eq_iff_iff]
  refine ⟨first_shift1 hp q d, fun h => ?_⟩
  have h2 := first_shift1 (k := shiftK k q d) hp q (-d)
  rw [shift_back] at h2
  exact h2 h
theorem find_congr {α : Type} {f g : α → Bool} : ∀ {l : List α}, (∀ x ∈ l, f x = g x) → l.find? f = l.find? g
  | [], _ => rfl
  | x :: l, h => by
    rw [List.find?_cons, List.find?_cons, h x (by simp), find_congr (l := l) fun y hy => h y (by simp [hy])]
theorem least_shift (k : List (List Clm)) (q d : Int) : leastP (shiftK k q d) = leastP k := by
  unfold leastP
  refine find_congr fun p hp => ?_
  rw [List.mem_range'_1] at hp
  exact first_shift (by omega) q d
theorem rowP_map (B : List Clm) (x : Clm) (d : Int) : rowP (B.map (addT d)) (addT d x) = rowP B x := by
  unfold rowP
  rw [List.filter_map, List.map_map]
  have e : ∀ y : Clm, (addT d x).time - (addT d y).time = x.time - y.time := fun y => by show x.time + d - (y.time + d) = _; omega
  have e1 : ((fun y : Clm => decide ((addT d x).cell = y.cell ∧ 0 < (addT d x).time - y.time)) ∘ addT d) = fun y => decide (x.cell = y.cell ∧ 0 < x.time - y.time) := funext fun y => by
    simp only [Function.comp_apply, e]; rfl
  have e2 : ((fun y : Clm => (addT d x).time - y.time) ∘ addT d) = fun y => x.time - y.time := funext fun y => e y
  rw [e1, e2]
theorem posA_map (B : List Clm) (d : Int) : ∀ A : List Clm, posA (A.map (addT d)) (B.map (addT d)) = posA A B
  | [] => rfl
  | x :: A => by
    show rowP _ _ ++ posA _ _ = rowP _ _ ++ posA _ _
    rw [rowP_map, posA_map B d A]
theorem colS_map {l : List Clm} {d : Int} (h : kernB l = true) (h2 : kernB (l.map (addT d)) = true) : colS (l.map (addT d)) = colS l := by
  unfold colS; rw [h, h2, posA_map]

def shE (k : List (List Clm)) (q d : Int) : Int := if vldB k then (if bw 0 q (k.length - 1) && bw (-50) d 50 then (if vldB (shiftK k q d) then 0 else 2) else 2) else 90
def shR (k : List (List Clm)) (q d : Int) : List (List Clm) := if shE k q d = 0 then shiftK k q d else []
theorem sh_none {k : List (List Clm)} {q d : Int} (h : shE k q d ≠ 0) : shR k q d = [] := by unfold shR; rw [if_neg h]
/-- New kernels and an error, out of a call. -/
def KersErr (K : List (List Clm)) (er : Int) (w : World) (e : Ending) (w' : World) : Prop :=
  (∃ s cap, e = .returned (.tuple #[.slice s K.length cap, .int .i64 er]) ∧ Ker w' s cap K) ∧ Below w.heap.size w w'
theorem Ker.nil (w : World) : Ker w Option.none 0 [] := ⟨SlSS.nil, by simp, fun l hl => by simp at hl, Nat.le_refl _, fun _ => rfl⟩
theorem KersErr.nil {w w' : World} {er : Int} (hB : Below w.heap.size w w') : KersErr [] er w (.returned (.tuple #[.slice none 0 0, .int .i64 er])) w' := ⟨⟨none, 0, rfl, Ker.nil _⟩, hB⟩
/-- The first u claims later by a number, the others as they were. -/
def mixT (d : Int) (l : List Clm) : Nat → List Clm
  | 0 => l
  | u + 1 => (mixT d l u).set u (addT d (l.getD u default))
theorem mixT_len (d : Int) (l : List Clm) : ∀ u, (mixT d l u).length = l.length
  | 0 => rfl
  | u + 1 => by rw [mixT, List.length_set, mixT_len]
theorem mixT_at (d : Int) (l : List Clm) : ∀ u j, (mixT d l u)[j]? = if j < u then (l[j]?).map (addT d) else l[j]?
  | 0, j => by simp [mixT]
  | u + 1, j => by
    rw [mixT, List.getElem?_set, mixT_len, mixT_at d l u j]
    by_cases h : u = j
    · subst h
      by_cases h2 : u < l.length
      · simp [h2]
      · simp [h2]
    · have : (j < u + 1) = (j < u) := by simp; omega
      simp [h, this]
theorem mixT_all (d : Int) (l : List Clm) : mixT d l l.length = l.map (addT d) := by
  apply List.ext_getElem?
  intro j
  rw [mixT_at, List.getElem?_map]
  by_cases h : j < l.length
  · simp [h]
  · rw [if_neg h]; simp [List.getElem?_eq_none (Nat.le_of_not_lt h)]
theorem clm_set (l : List Clm) : ∀ (u : Nat) (hu : u < l.length) (t : Int), (clmE.all l).set (u * 2 + 1) (.int .i64 t) = clmE.all (l.set u ⟨l[u].cell, t⟩) := by
  induction l with
  | nil => intro u hu; simp at hu
  | cons c l ih =>
    intro u hu t
    cases u with
    | zero => rfl
    | succ u =>
      have h := ih u (by simpa using hu) t
      rw [show (u + 1) * 2 + 1 = u * 2 + 1 + 1 + 1 by omega]
      show (clmE.cells c ++ clmE.all l).set _ _ = clmE.cells c ++ clmE.all _
      show List.set (Value.int .i64 c.cell :: Value.int .i64 c.time :: clmE.all l) _ _ = Value.int .i64 c.cell :: Value.int .i64 c.time :: clmE.all _
      rw [List.set_cons_succ, List.set_cons_succ, h]
      rfl
theorem mixT_cells (d : Int) (l : List Clm) {u : Nat} (hu : u < l.length) : (clmE.all (mixT d l u)).set (u * 2 + 1) (.int .i64 (l[u].time + d)) = clmE.all (mixT d l (u + 1)) := by
  have hu2 : u < (mixT d l u).length := by rw [mixT_len]; exact hu
  rw [clm_set _ u hu2, mixT]
  have e1 := mixT_at d l u u
  rw [if_neg (by omega), List.getElem?_eq_getElem hu2, List.getElem?_eq_getElem hu] at e1
  have e2 := Option.some.inj e1
  rw [e2, List.getD_eq_getElem?_getD, List.getElem?_eq_getElem hu]
  rfl
theorem mixT_cell {d : Int} {l : List Clm} {u : Nat} (hu : u < l.length) : (clmE.all (mixT d l u))[u * 2 + 1]? = some (.int .i64 l[u].time) := by
  have hu2 : u < (mixT d l u).length := by rw [mixT_len]; exact hu
  have e1 := mixT_at d l u u
  rw [if_neg (by omega), List.getElem?_eq_getElem hu2, List.getElem?_eq_getElem hu] at e1
  have e2 := Option.some.inj e1
  refine (clmE.all_at (mixT d l u) u 1 hu2 (by decide)).trans ?_
  rw [e2]
  rfl
end Go.Proofs.Ytgeoehokojijdaa
