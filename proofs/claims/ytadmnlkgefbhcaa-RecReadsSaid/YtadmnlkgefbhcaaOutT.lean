/- Tables of numbers that are built row by row. -/
import Derived.Test.YtadmnlkgefbhcaaB1
import Derived.Maps.AppendAt
import Derived.Deep.AppendLies
namespace Go.Proofs.Ytadmnlkgefbhcaa
open Go.RowKit

theorem info_ints : (Try.prog.info? 53).map (fun i => (i.zero, i.size, i.bytes)) = some (some (.slice none 0 0), 1, 24) := by kernel_rfl
theorem info_int : (Try.prog.info? 3).map (fun i => (i.zero, i.size, i.bytes)) = some (some (.int .i64 0), 1, 8) := by kernel_rfl
/-- A table that grows: its rows, new over A. -/
structure OutT (A V : World) (out : Value) (ss : List Sv) (R : List (List Int)) : Prop where
  own : V.ownsRow A.heap.size 53 1 out R.length (svE.all ss)
  inn : Inn intE V out ss R
  be : Below A.heap.size A V
theorem OutT.nil (A : World) : OutT A A (.slice none 0 0) [] [] := ⟨World.ownsRow_nil _ _ _ _, Inn.nil, Below.refl _ _⟩
theorem OutT.up {A V V' : World} {out : Value} {ss : List Sv} {R : List (List Int)} (hb : Below V.heap.size V V') (h : OutT A V out ss R) : OutT A V' out ss R := ⟨up_of hb h.own, up_of hb h.inn, Up.to h.be hb h.be.size⟩
instance {A V V' : World} {out : Value} {ss : List Sv} {R : List (List Int)} : UpF V V' (OutT A V out ss R) (OutT A V' out ss R) := ⟨fun h c => OutT.up h c⟩
theorem OutT.push {A V V1 w1 : World} {out v1 : Value} {ss : List Sv} {R : List (List Int)} {c : List Int} {s3 : Option Addr} {k3 B t : Nat} {o : Obj} (h : OutT A V out ss R) (hv : Below V.heap.size V V1) (hB : V.heap.size ≤ B)
    (hr : V1.ownsRow B t 1 (.slice s3 c.length k3) c.length (intE.all c)) (g1 : (V1.alloc o).grownBy w1 out.ownBlock) (g2 : v1.ownBlock = out.ownBlock ∨ v1.ownBlock = some (V1.alloc o).heap.size)
    (g3 : w1.ownsRow A.heap.size 53 1 v1 (R.length + 1) (svE.all ss ++ [.slice s3 c.length k3])) : OutT A w1 v1 (ss ++ [⟨s3, c.length, k3⟩]) (R ++ [c]) := by
  have hs := h.be.size
  have hvs := hv.size
  have bb := (Below.refl V1.heap.size V1).alloc (Nat.le_refl _) o
  have hsc : SlS intE V1 s3 c := SlS.of_own (E := intE) hr
  have hne : ∀ b, out.ownBlock = some b → A.heap.size ≤ b ∧ b < V.heap.size := fun b e => h.own.lt b e
  have hbl : ∀ b off, s3 = some ⟨b, off, none⟩ → B ≤ b ∧ b < V1.heap.size := fun b off e => hr.lt b (by rw [e]; rfl)
  refine ⟨by rw [List.length_append, svE_snoc]; exact g3, Inn.push (up_of bb (up_of hv h.inn)) g1 g2 (up_of bb hsc) (own_cap hr).2 (own_cap hr).1 (fun b off e => ⟨by have := (hbl b off e).2; simp; omega, fun e2 => by have := hne b e2; have := (hbl b off e).1; omega⟩), ?_⟩
  exact ((h.be.trans (hv.mono hs)).alloc (by omega) o).grown g1 (by simp; omega) (fun j hj => (hne j hj).1)
theorem OutT.view {A V : World} {out : Value} {ss : List Sv} {R : List (List Int)} (h : OutT A V out ss R) : ∃ s c, out = .slice s R.length c ∧ SlSS intE V s R := by
  obtain ⟨s, c, e, -⟩ := owns_shape h.own
  subst e
  have hl := h.inn.len
  refine ⟨s, c, rfl, Inn.view (ss := ss) (cap := c) (base := A.heap.size) (e := 53) ?_ ?_⟩
  · rw [hl]; exact h.inn
  · rw [hl]; exact h.own
/-- Behind an append to a row of one's own: another block's cell. -/
theorem cell_app {W w1 : World} {o : Obj} {row : Option Nat} {b off : Nat} {u : Value} (hg : (W.alloc o).grownBy w1 row) (c : W.cell? ⟨b, off, none⟩ = some u) (hne : ∀ g, row = some g → g ≠ b) : w1.cell? ⟨b, off, none⟩ = some u := by
  have hb : b < W.heap.size := World.block_lt_of_cell? W ⟨b, off, none⟩ c
  rw [World.cell?_of_block (hg.block b (by simp; omega) (fun e => hne b e.symm rfl))]; exact cell_alloc c o
theorem cell_appD {W w1 : World} {o : Obj} {row : Option Nat} {b off : Nat} {u : Value} (hg : (W.alloc o).drew.grownBy w1 row) (c : W.cell? ⟨b, off, none⟩ = some u) (hne : ∀ g, row = some g → g ≠ b) : w1.cell? ⟨b, off, none⟩ = some u := by
  have hb : b < W.heap.size := World.block_lt_of_cell? W ⟨b, off, none⟩ c
  rw [World.cell?_of_block (hg.block b (by show b < (W.alloc o).heap.size; simp; omega) (fun e => hne b e.symm rfl))]; exact cell_drew (cell_alloc c o)
theorem grown_rowD {W w1 : World} {o : Obj} {v : Value} {B e size n : Nat} {xs : List Value} (hg : (W.alloc o).drew.grownBy w1 v.ownBlock) (hown : W.ownsRow B e size v n xs) {b t : Nat} {arr : Array Value} (hb : b < B) (r : Row W b t arr) : Row w1 b t arr := by
  refine (hg.block b (by show b < (W.alloc o).heap.size; simp; have := r.lt; omega) (fun e => ?_)).trans (r.alloc o).drew
  have := (hown.lt b e.symm).1; omega
theorem int_snoc (pre : List Int) (x : Int) : intE.all (pre ++ [x]) = intE.all pre ++ [.int .i64 x] := by simp [Elt.all, intE]
end Go.Proofs.Ytadmnlkgefbhcaa
