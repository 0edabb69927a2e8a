/- The walk of MixGood. -/
import Derived.Test.YtgeoehokojijdaaMix30
import Derived.Test.YtgeoehokojijdaaMix26
namespace Go.Proofs.Ytgeoehokojijdaa
open Go.RowKit

theorem clash_unique {k : List (List Clm)} {p : Int} {st : List Int} {a0 a1 b0 b1 er a0' a1' b0' b1' er' : Int} (h : ClashPost k p st a0 a1 b0 b1 er) (h' : ClashPost k p st a0' a1' b0' b1' er') : a0' = a0 ∧ a1' = a1 ∧ b0' = b0 ∧ b1' = b1 ∧ er' = er := by
  rcases h with ⟨h1, h2, h3, h4, h5, h6⟩ | ⟨h1, h2, h3, h4, h5, h6, h7⟩ | ⟨h1, h2, i, m, j, n, h3, h4, h5, h6, h7, h8⟩ <;>
    rcases h' with ⟨g1, g2, g3, g4, g5, g6⟩ | ⟨g1, g2, g3, g4, g5, g6, g7⟩ | ⟨g1, g2, i', m', j', n', g3, g4, g5, g6, g7, g8⟩
  · omega
  · exact absurd g1 h1
  · exact absurd g1 h1
  · exact absurd h1 g1
  · omega
  · exact absurd g4 (h2 _ _ _ _)
  · exact absurd h1 g1
  · exact absurd h4 (g2 _ _ _ _)
  · have t1 : ¬ lexlt i' m' j' n' i m j n := fun hl => h3 _ _ _ _ hl g4
    have t2 : ¬ lexlt i m j n i' m' j' n' := fun hl => g3 _ _ _ _ hl h4
    unfold lexlt at t1 t2
    omega
set_option maxRecDepth 100000 in
set_option maxHeartbeats 1000000 in
theorem MixGood_c (s : Option Addr) (cap : Nat) (k : List (List Clm)) (p : Int) (t : Option Addr) (ct : Nat) (st : List Int) (w : World) (h : Ker w s cap k) (g : Ints w t st) :
    Calls Try.prog 10 #[.slice s k.length cap, .int .i64 p, .slice t st.length ct] w fun e w' => e = .returned (.bool true) ∧ Below w.heap.size w w' := by
  have hkl := h.len
  have hsl := g.len
  have hlo := fun W (h : Ker W s cap k) => Long_c s cap k W h
  have c1 := fun W (h : Ker W s cap k) (g : Ints W t st) => Good_c s cap k p t ct st W h g
  have c2 := fun W (h : Ker W s cap k) (g : Ints W t st) => rGood_c s cap k p t ct st W h g
  have c3 := fun W (h : Ker W s cap k) (g : Ints W t st) => Clash_c s cap k p t ct st W h g
  have c4 := fun W (h : Ker W s cap k) (g : Ints W t st) => rClash_c s cap k p t ct st W h g
  have c5 := fun W (h : Ker W s cap k) => valid_c s cap k W h
  have c6 := fun W (h : Ker W s cap k) => rValid_c s cap k W h
  obtain ⟨AV, hAV⟩ : ∃ x, rgB k p st = x := ⟨_, rfl⟩
  obtain ⟨AE, hAE⟩ : ∃ x, askE k p st = x := ⟨_, rfl⟩
  obtain ⟨VB, hVB⟩ : ∃ x, vldB k = x := ⟨_, rfl⟩
  rw [hAV, hAE] at c1 c2
  rw [hVB] at c5 c6
  replace hlo := Lib.hid hlo; replace c1 := Lib.hid c1; replace c2 := Lib.hid c2; replace c3 := Lib.hid c3; replace c4 := Lib.hid c4; replace c5 := Lib.hid c5; replace c6 := Lib.hid c6
  clear hAV hAE hVB
  cases h1 : longB k
  · have hlo := hlo.out
    rw [h1] at hlo
    replace hlo := Lib.hid hlo
    clear h1
    by_cases h40 : 40 < st.length
    · have h41 : (40 : Int) < (st.length : Int) := by omega
      go_enter Try.func10, Try.ntmps10
      go_wp2_with (first | (go_at_call 16; refine (hlo.out _ h).mono ?_; rintro e w' ⟨rfl, rfl⟩) | (go_at_call 17; refine (Awake_c _).mono ?_; rintro e W1 ⟨rfl, hb⟩; (try replace h := up_of hb h)))
      go_ret
      exact ⟨rfl, hb⟩
    have h41 : ¬ (40 : Int) < (st.length : Int) := by omega
    go_enter Try.func10, Try.ntmps10
    go_upto_region 4 with (first | (go_at_call 16; refine (hlo.out _ h).mono ?_; rintro e w' ⟨rfl, rfl⟩) | (go_at_call 34; refine (c1.out _ h g).mono ?_; rintro e A1 ⟨rfl, hb⟩; (try replace h := up_of hb h); (try replace g := up_of hb g)))
    have hB := hb
    clear hb
    go_upto_region 5 with (first | (go_at_call 35; refine (c2.out _ h g).mono ?_; rintro e A2 ⟨rfl, hb⟩; (try replace h := up_of hb h); (try replace g := up_of hb g); (try replace hB := up_of hb hB)))
    clear hb
    cases AV <;> cases VB
    all_goals
      go_upto_region 7 with (first | (go_at_call 36; refine (c5.out _ h).mono ?_; rintro e W1 ⟨rfl, hb⟩; (try replace h := up_of hb h); (try replace g := up_of hb g); (try replace hB := up_of hb hB)) | (go_at_call 27; refine (c6.out _ h).mono ?_; rintro e W1 ⟨rfl, hb⟩; (try replace h := up_of hb h); (try replace g := up_of hb g); (try replace hB := up_of hb hB)))
      clear hb
      go_upto_region 8 with (first | (go_at_call 37; refine (c3.out _ h g).mono ?_; rintro e A3 ⟨⟨a0, a1, b0, b1, er, rfl, hp1⟩, hb⟩; (try replace h := up_of hb h); (try replace g := up_of hb g); (try replace hB := up_of hb hB)))
      clear hb
      refine wp_world fun Y HY => ?_
      have hY : Below A3.heap.size A3 Y := by rw [HY.out]; (repeat (first | exact Below.refl _ _ | refine Below.alloc ?_ (by simp; try omega) _ | refine Below.setCell ?_ (by simp) _ | refine Below.drew ?_))
      have x0 : Y.cell? ⟨A3.heap.size, 0, none⟩ = some (.int .i64 a0) := by rw [HY.out]; simp [go_sem]
      have x1 : Y.cell? ⟨A3.heap.size, 1, none⟩ = some (.int .i64 a1) := by rw [HY.out]; simp [go_sem]
      have xl : A3.heap.size < Y.heap.size := World.block_lt_of_cell? Y _ x0
      have y0 : Y.cell? ⟨A3.heap.size + 1, 0, none⟩ = some (.int .i64 b0) := by rw [HY.out]; simp [go_sem]
      have y1 : Y.cell? ⟨A3.heap.size + 1, 1, none⟩ = some (.int .i64 b1) := by rw [HY.out]; simp [go_sem]
      have yl : A3.heap.size + 1 < Y.heap.size := World.block_lt_of_cell? Y _ y0
      try replace h := up_of hY h
      try replace g := up_of hY g
      try replace hB := up_of hY hB
      go_upto_region 9 with (first | (go_at_call 38; refine (c4.out _ h g).mono ?_; rintro e A4 ⟨⟨d0, d1, e0, e1, er2, rfl, hp2⟩, hb⟩; (try replace h := up_of hb h); (try replace g := up_of hb g); (try replace hB := up_of hb hB); (try replace hY := up_of hb hY); (try replace x0 := up_of hb x0); (try replace x1 := up_of hb x1); (try replace xl := up_of hb xl); (try replace y0 := up_of hb y0); (try replace y1 := up_of hb y1); (try replace yl := up_of hb yl)))
      clear hb
      refine wp_world fun Z HZ => ?_
      have hZ : Below A4.heap.size A4 Z := by rw [HZ.out]; (repeat (first | exact Below.refl _ _ | refine Below.alloc ?_ (by simp; try omega) _ | refine Below.setCell ?_ (by simp) _ | refine Below.drew ?_))
      have u0 : Z.cell? ⟨A4.heap.size, 0, none⟩ = some (.int .i64 d0) := by rw [HZ.out]; simp [go_sem]
      have u1 : Z.cell? ⟨A4.heap.size, 1, none⟩ = some (.int .i64 d1) := by rw [HZ.out]; simp [go_sem]
      have ul : A4.heap.size < Z.heap.size := World.block_lt_of_cell? Z _ u0
      have v0 : Z.cell? ⟨A4.heap.size + 1, 0, none⟩ = some (.int .i64 e0) := by rw [HZ.out]; simp [go_sem]
      have v1 : Z.cell? ⟨A4.heap.size + 1, 1, none⟩ = some (.int .i64 e1) := by rw [HZ.out]; simp [go_sem]
      have vl : A4.heap.size + 1 < Z.heap.size := World.block_lt_of_cell? Z _ v0
      try replace h := up_of hZ h
      try replace g := up_of hZ g
      try replace hB := up_of hZ hB
      try replace hY := up_of hZ hY
      try replace x0 := up_of hZ x0
      try replace x1 := up_of hZ x1
      try replace xl := up_of hZ xl
      try replace y0 := up_of hZ y0
      try replace y1 := up_of hZ y1
      try replace yl := up_of hZ yl
      obtain ⟨rfl, rfl, rfl, rfl, rfl⟩ := clash_unique hp1 hp2
      have he1 : ∀ w, (Op.equalIn 10000 45 (.agg #[.int .i64 d0, .int .i64 d1]) (.agg #[.int .i64 d0, .int .i64 d1])).run Try.prog w = .ok true w := fun w => by
        have := pair_eql ⟨d0, d1⟩ ⟨d0, d1⟩ w
        simpa using this
      have he2 : ∀ w, (Op.equalIn 10000 45 (.agg #[.int .i64 e0, .int .i64 e1]) (.agg #[.int .i64 e0, .int .i64 e1])).run Try.prog w = .ok true w := fun w => by
        have := pair_eql ⟨e0, e1⟩ ⟨e0, e1⟩ w
        simpa using this
      clear hp1 hp2
      go_wp2_with (first | (go_at_call 17; refine (Awake_c _).mono ?_; rintro e W1 ⟨rfl, hb⟩; (try replace h := up_of hb h); (try replace g := up_of hb g); (try replace hB := up_of hb hB); (try replace hY := up_of hb hY); (try replace x0 := up_of hb x0); (try replace x1 := up_of hb x1); (try replace xl := up_of hb xl); (try replace y0 := up_of hb y0); (try replace y1 := up_of hb y1); (try replace yl := up_of hb yl); (try replace hZ := up_of hb hZ); (try replace u0 := up_of hb u0); (try replace u1 := up_of hb u1); (try replace ul := up_of hb ul); (try replace v0 := up_of hb v0); (try replace v1 := up_of hb v1); (try replace vl := up_of hb vl)))
      go_ret
      exact ⟨rfl, hB⟩
  · have hlo := hlo.out
    rw [h1] at hlo
    replace hlo := Lib.hid hlo
    clear h1
    go_enter Try.func10, Try.ntmps10
    go_wp2_with (first | (go_at_call 16; refine (hlo.out _ h).mono ?_; rintro e w' ⟨rfl, rfl⟩) | (go_at_call 17; refine (Awake_c _).mono ?_; rintro e W1 ⟨rfl, hb⟩; (try replace h := up_of hb h)))
    go_ret
    exact ⟨rfl, hb⟩
end Go.Proofs.Ytgeoehokojijdaa
