/- Pieces for turned domains (other layers' seats). -/
import Derived.Test.YtadmnlkgefbhcaaB1
import Derived.Test.YtadmnlkgefbhcaaB2
namespace Go.Proofs.Ytadmnlkgefbhcaa
open Go.RowKit

instance {V V' : World} {s : Option Addr} {l : List Iq} : UpF V V' (Dom V s l) (Dom V' s l) := ⟨fun h c => Up.dom h c⟩
def ptA (p : Pt) : Array Value := #[.int .i64 p.x, .int .i64 p.y, .int .i64 p.z]
def ptV (p : Pt) : Value := .agg #[.int .i64 p.x, .int .i64 p.y, .int .i64 p.z]
theorem load_pt {X : World} {b : Nat} {t : TypeId} {x y z : Value} (h : Row X b t #[x, y, z]) : (loadVar 29 ⟨b, 0, none⟩).run Try.prog X = .ok (.agg #[x, y, z]) X := by
  obtain ⟨h0, h1, h2⟩ := h.three
  simp [go_sem, loadVar, h0, h1, h2]
theorem load_P {X : World} {b : Nat} (p : Pt) (h0 : X.cell? ⟨b, 0, none⟩ = some (.int .i64 p.x)) (h1 : X.cell? ⟨b, 1, none⟩ = some (.int .i64 p.y)) (h2 : X.cell? ⟨b, 2, none⟩ = some (.int .i64 p.z)) : (loadVar 29 ⟨b, 0, none⟩).run Try.prog X = .ok (ptV p) X := by
  simp [go_sem, loadVar, h0, h1, h2, ptV]
theorem results_c1 {fn : Func} {p : Tmp} {tp : TypeId} {tmps : Array Value} {P : Program} {w : World} {a : Addr} {va : Value} (h : fn.results = #[.cell p tp])
    (hp : tmps.getD p undef = .pointer (some a)) (la : (loadVar tp a).run P w = .ok va w) : (results fn tmps).run P w = .ok va w := by
  simp only [results, h]
  simp only [Array.getD_eq_getD_getElem?] at hp
  simp [hp, asAddr, la]
theorem results_cs {fn : Func} {p u : Tmp} {tp : TypeId} {tmps : Array Value} {P : Program} {w : World} {a : Addr} {va vb : Value} (h : fn.results = #[.cell p tp, .tmp u])
    (hp : tmps.getD p undef = .pointer (some a)) (hu : tmps.getD u undef = vb)
    (la : (loadVar tp a).run P w = .ok va w) : (results fn tmps).run P w = .ok (.tuple #[va, vb]) w := by
  simp only [results, h]
  simp only [Array.getD_eq_getD_getElem?] at hp hu
  simp [hp, hu, asAddr, la]
theorem load_dom {X : World} {b : Nat} {u v : Value} {t : TypeId} (h : Row X b t #[u, v]) : (loadVar 24 ⟨b, 0, none⟩).run Try.prog X = .ok (.agg #[u, v]) X := by
  have h0 := h.cell (i := 0) rfl
  have h1 := h.cell (i := 1) rfl
  simp [go_sem, loadVar, h0, h1]

/-- A domain that came out of a call. -/
def DomRet (n : Int) (L : List Iq) (er : Int) (w : World) (e : Ending) (w' : World) : Prop :=
  (∃ s cap, e = .returned (.tuple #[.agg #[.int .i64 n, .slice s L.length cap], .int .i64 er]) ∧ w'.ownsRow w.heap.size 127 4 (.slice s L.length cap) L.length (iqCells L)) ∧ Below w.heap.size w w'
theorem dom_end {fn : Func} (hr : fn.results = #[.cell 4 24, .tmp 5]) {n er : Int} {L : List Iq} (s : Option Addr) (cap : Nat) {tmps : Array Value} {w X : World} {b1 : Nat}
    (h2 : tmps.getD 4 undef = .pointer (some ⟨b1, 0, none⟩)) (h3 : tmps.getD 5 undef = .int .i64 er)
    (rl : Row X b1 24 #[.int .i64 n, .slice s L.length cap]) (ho : X.ownsRow w.heap.size 127 4 (.slice s L.length cap) L.length (iqCells L)) (hB : Below w.heap.size w X) :
    bodyPost Try.prog fn (DomRet n L er w) .ret { tmps := tmps, defers := [] } X :=
  bodyPost_ret (results_cs hr h2 h3 (load_dom rl)) rfl ⟨⟨s, cap, rfl, ho⟩, hB⟩
theorem info_iq : (Try.prog.info? 127).map (fun i => (i.zero, i.size, i.bytes)) = some (some (.agg #[.int .i64 0, .int .i64 0, .int .i64 0, .int .i64 0]), 4, 32) := by kernel_rfl
set_option maxRecDepth 100000 in
set_option maxHeartbeats 400000 in
theorem iq_clone (s : Option Addr) (cap : Nat) (l : List Iq) (w : World) (hs : SlS iqE w s l) (hc : s = none → cap = 0) (hl : l.length ≤ 1099511627776) :
    Calls Try.prog 98 #[.slice s l.length cap] w (RetS iqE 127 l w) := by
  have hml : l.length ≤ maxLen := by unfold maxLen; omega
  have hin := hs
  cases s with
  | none =>
    obtain rfl := hs.none_nil
    obtain rfl := hc rfl
    clear hs hin hml hc
    have hq : ∀ w : World, (binOp .eql 22 (.slice none 0 0) (.slice none 0 0)).run Try.prog w = .ok (.bool true) w := fun w => Lib.run_eql_slice_nil w 22 127 _ _ _ _ _ Try.underlying22
    go_enter Try.func98, Try.ntmps98
    go_wp2
    go_ret
    exact ⟨none, 0, rfl, World.ownsRow_nil _ _ _ _, Below.refl _ _⟩
  | some a =>
    have hs2 := Lib.hid (up_of ((Below.refl w.heap.size w).alloc (Nat.le_refl _) (.cells #[] 127)) hs)
    replace hs := Lib.hid hs
    clear hin hc
    have hq : ∀ w : World, (binOp .eql 22 (.slice (some a) l.length cap) (.slice none 0 0)).run Try.prog w = .ok (.bool false) w := fun w => Lib.run_eql_slice_nil w 22 127 _ _ _ _ _ Try.underlying22
    go_enter Try.func98, Try.ntmps98
    obtain ⟨i0, hi, hz0, hz1, hz2⟩ := info_parts info_iq
    go_wp2_with (first | (at_builtin; refine wpList_append_own _ rfl _ _ 22 rfl w.heap.size 127 i0 (.agg #[.int .i64 0, .int .i64 0, .int .i64 0, .int .i64 0]) 4 32 Try.underlying22 hi hz0 hz1 hz2 rfl (by decide) _ _ _ rfl (owns_built w 127 4) a l.length cap (Elt.all iqE l) rfl (Elt.all_len _ _) (SlS.news hs2.out) (Elt.all_one _ _) (by unfold maxLen; omega) (by omega) (by simp) ?_; intro v1 w1 hown1 hgrow hnil))
    simp only [Nat.zero_add, List.nil_append] at hown1
    obtain ⟨s', c', rfl, _⟩ := owns_shape hown1
    go_wp2
    go_ret
    exact ⟨s', c', rfl, hown1, ((Below.refl _ w).alloc (Nat.le_refl _) _).grown hgrow (by simp) (fun k hk => by cases hk; exact Nat.le_refl _)⟩

end Go.Proofs.Ytadmnlkgefbhcaa
