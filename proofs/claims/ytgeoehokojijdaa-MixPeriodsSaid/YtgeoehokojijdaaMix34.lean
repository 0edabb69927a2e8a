/- MixPairs: the law. -/
import Derived.Test.YtgeoehokojijdaaMix30
import Derived.Test.YtgeoehokojijdaaMix22
namespace Go.Proofs.Ytgeoehokojijdaa
open Go.RowKit

theorem mem_dLs {A B : List Clm} {p d : Int} : d ∈ dLs A B p ↔ ∃ x ∈ A, ∃ y ∈ B, x.cell = y.cell ∧ (x.time - y.time) % p = d := by
  unfold dLs rowD
  simp only [List.mem_flatMap, List.mem_map, List.mem_filter, decide_eq_true_iff]
  exact ⟨fun ⟨x, hx, y, ⟨hy, hc⟩, h⟩ => ⟨x, hx, y, hy, hc, h⟩, fun ⟨x, hx, y, hy, hc, h⟩ => ⟨x, hx, y, ⟨hy, hc⟩, h⟩⟩
theorem mem_forb {A B : List Clm} {p : Nat} {d : Int} (h0 : 0 ≤ d ∧ d < (p : Int)) : d ∈ forbL A B p ↔ ∃ x ∈ A, ∃ y ∈ B, x.cell = y.cell ∧ (x.time - y.time) % (p : Int) = d := by
  rw [← mem_dLs]
  unfold forbL
  simp only [List.mem_map, List.mem_filter, List.mem_range, decide_eq_true_iff]
  exact ⟨fun ⟨n, ⟨_, h⟩, e⟩ => e ▸ h, fun h => ⟨d.toNat, ⟨by omega, by rw [Int.toNat_of_nonneg h0.1]; exact h⟩, Int.toNat_of_nonneg h0.1⟩⟩
theorem meet_same {a b : Clm} {s p : Int} : meetP a s b s p ↔ meetP a 0 b 0 p := by
  unfold meetP
  rw [Int.emod_eq_emod_iff_emod_sub_eq_zero, Int.emod_eq_emod_iff_emod_sub_eq_zero (m := a.time + 0), show a.time + s - (b.time + s) = a.time + 0 - (b.time + 0) by omega]
theorem meet_diff {a b : Clm} {si sj p : Int} : meetP a si b sj p ↔ a.cell = b.cell ∧ (a.time - b.time) % p = (sj - si + p) % p := by
  unfold meetP
  rw [Int.add_emod_right, Int.emod_eq_emod_iff_emod_sub_eq_zero, Int.emod_eq_emod_iff_emod_sub_eq_zero (m := a.time - b.time), show a.time + si - (b.time + sj) = a.time - b.time - (sj - si) by omega]
def aloneB (k : List (List Clm)) (p : Int) (b : Nat) : Bool := goodB [k.getD b []] p [0]
def pairB (k : List (List Clm)) (p : Nat) (st : List Int) (a b : Nat) : Bool := !decide ((st.getD b 0 - st.getD a 0 + p) % (p : Int) ∈ forbL (k.getD a []) (k.getD b []) p)
def wantTo (k : List (List Clm)) (p : Nat) (st : List Int) (b : Nat) : Bool := (List.range b).all fun c => aloneB k p c && (List.range c).all fun a => pairB k p st a c
theorem alone_iff {l : List Clm} {p : Int} : goodB [l] p [0] = true ↔ ∀ m n, m < n → n < l.length → ¬ meetP (l.getD m default) 0 (l.getD n default) 0 p := by
  rw [good_iff rfl]
  constructor
  · intro h m n h1 h2 h3
    exact h 0 m 0 n ⟨⟨by simp, by simp [kLen]; omega, by simp, by simp [kLen]; exact h2⟩, .inr ⟨rfl, h1⟩, h3⟩
  · intro h i m j n hh
    obtain ⟨⟨h1, h2, h3, h4⟩, h5, h6⟩ := hh
    have : i = 0 := by simpa using h1
    have : j = 0 := by simpa using h3
    subst i; subst j
    exact h m n (by omega) (by simpa [kLen] using h4) (by simpa [kAt] using h6)
theorem want_iff {k : List (List Clm)} {p : Nat} {st : List Int} (hp : 1 ≤ p) (hst : st.length = k.length) : wantTo k p st k.length = goodB k p st := by
  rw [Bool.eq_iff_iff, good_iff hst]
  unfold wantTo
  simp only [List.all_eq_true, List.mem_range, Bool.and_eq_true]
  have hb : ∀ d : Int, 0 ≤ d % (p : Int) ∧ d % (p : Int) < (p : Int) := fun d => ⟨Int.emod_nonneg _ (by omega), Int.emod_lt_of_pos _ (by omega)⟩
  constructor
  · intro h i m j n hh
    obtain ⟨⟨h1, h2, h3, h4⟩, h5, h6⟩ := hh
    rcases h5 with h5 | ⟨rfl, h5⟩
    · have h7 := (h j h3).2 i h5
      unfold pairB at h7
      rw [Bool.not_eq_true', decide_eq_false_iff_not, mem_forb (hb _)] at h7
      obtain ⟨e1, e2⟩ := meet_diff.1 h6
      refine h7 ⟨kAt k i m, ?_, kAt k j n, ?_, e1, e2⟩
      · unfold kAt; rw [List.getD_eq_getElem?_getD (l := k.getD i []), List.getElem?_eq_getElem h2]; exact List.getElem_mem _
      · unfold kAt; rw [List.getD_eq_getElem?_getD (l := k.getD j []), List.getElem?_eq_getElem h4]; exact List.getElem_mem _
    · have h7 := (h i h1).1
      unfold aloneB at h7
      exact alone_iff.1 h7 m n h5 h4 (meet_same.1 h6)
  · intro h b hbl
    refine ⟨?_, fun a ha => ?_⟩
    · unfold aloneB
      rw [alone_iff]
      intro m n h1 h2 h3
      exact h b m b n ⟨⟨hbl, by unfold kLen; omega, hbl, h2⟩, .inr ⟨rfl, h1⟩, meet_same.2 h3⟩
    · unfold pairB
      rw [Bool.not_eq_true', decide_eq_false_iff_not, mem_forb (hb _)]
      rintro ⟨x, hx, y, hy, e1, e2⟩
      obtain ⟨m, hm, rfl⟩ := List.getElem_of_mem hx
      obtain ⟨n, hn, rfl⟩ := List.getElem_of_mem hy
      have k1 : kAt k a m = (k.getD a [])[m] := by unfold kAt; rw [List.getD_eq_getElem?_getD (l := k.getD a []), List.getElem?_eq_getElem hm]; rfl
      have k2 : kAt k b n = (k.getD b [])[n] := by unfold kAt; rw [List.getD_eq_getElem?_getD (l := k.getD b []), List.getElem?_eq_getElem hn]; rfl
      exact h a m b n ⟨⟨by omega, hm, hbl, hn⟩, .inl ha, meet_diff.2 ⟨by rw [k1, k2]; exact e1, by rw [k1, k2]; exact e2⟩⟩
def later (p : Int) (st : List Int) : List Int := st.map fun n => (n + 1) % p
theorem later_good {k : List (List Clm)} {p : Int} {st : List Int} (hst : st.length = k.length) : goodB k p (later p st) = goodB k p st := by
  have hl : (later p st).length = k.length := by simp [later, hst]
  have hat : ∀ i, i < k.length → (later p st).getD i 0 = (st.getD i 0 + 1) % p := fun i hi => by
    rw [List.getD_eq_getElem?_getD, List.getD_eq_getElem?_getD, List.getElem?_eq_getElem (show i < (later p st).length by omega), List.getElem?_eq_getElem (show i < st.length by omega)]
    simp [later]
  have hm : ∀ (a b : Clm) (x y : Int), meetP a ((x + 1) % p) b ((y + 1) % p) p ↔ meetP a x b y p := fun a b x y => by
    unfold meetP
    rw [Int.add_emod a.time, Int.emod_emod, ← Int.add_emod, Int.add_emod b.time, Int.emod_emod, ← Int.add_emod, Int.emod_eq_emod_iff_emod_sub_eq_zero, Int.emod_eq_emod_iff_emod_sub_eq_zero (m := a.time + x), show a.time + (x + 1) - (b.time + (y + 1)) = a.time + x - (b.time + y) by omega]
  rw [Bool.eq_iff_iff, good_iff hl, good_iff hst]
  have hh : ∀ i m j n, hitAt k (later p st) p i m j n ↔ hitAt k st p i m j n := fun i m j n => by
    unfold hitAt
    constructor
    · rintro ⟨h1, h2, h3⟩
      rw [hat i h1.1, hat j h1.2.2.1, hm] at h3
      exact ⟨h1, h2, h3⟩
    · rintro ⟨h1, h2, h3⟩
      refine ⟨h1, h2, ?_⟩
      rw [hat i h1.1, hat j h1.2.2.1, hm]
      exact h3
  exact ⟨fun h i m j n => by rw [← hh]; exact h i m j n, fun h i m j n => by rw [hh]; exact h i m j n⟩
end Go.Proofs.Ytgeoehokojijdaa
