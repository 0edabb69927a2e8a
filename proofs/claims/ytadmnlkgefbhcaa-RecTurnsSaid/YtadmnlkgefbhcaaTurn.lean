/- Turned points and domains: plain functions, and what holds of them. -/
import Derived.Test.YtadmnlkgefbhcaaB1
import Derived.Test.YtadmnlkgefbhcaaPtGet
namespace Go.Proofs.Ytadmnlkgefbhcaa
open Go.RowKit

def setP (o : Pt) (k : Nat) (v : Int) : Pt := ⟨if k = 0 then v else o.x, if k = 1 then v else o.y, if k = 2 then v else o.z⟩
/-- The first k coordinates of a, turned. -/
def turnTo (p a : Pt) : Nat → Pt
  | 0 => ⟨0, 0, 0⟩
  | k + 1 => setP (turnTo p a k) (p.get k).toNat (a.get k)
def turnP (n : Int) (p a : Pt) : Pt := turnTo p a n.toNat
def turnQ (n : Int) (p : Pt) (q : Iq) : Iq := ⟨turnP n p q.a, q.b⟩
def turnL (n : Int) (p : Pt) (l : List Iq) : List Iq := l.map (turnQ n p)
/-- The i-th number is one that came before. -/
def seenB (p : Pt) (i : Nat) (k : Int) : Bool := (List.range i).any fun j => decide (p.get j = k)
/-- The i-th number is no right one. -/
def badAt (n : Int) (p : Pt) (i : Nat) : Bool := (decide ((i : Int) < n) && (!bw 0 (p.get i) (n - 1) || seenB p i (p.get i))) || (decide (n ≤ (i : Int)) && !decide (p.get i = 0))
def isOrd (n : Int) (p : Pt) : Bool := !badAt n p 0 && (!badAt n p 1 && !badAt n p 2)
theorem get0 (p : Pt) : p.get 0 = p.x := rfl
theorem get1 (p : Pt) : p.get 1 = p.y := rfl
theorem get2 (p : Pt) : p.get 2 = p.z := rfl
theorem seenB_succ (p : Pt) (i : Nat) (k : Int) : seenB p (i + 1) k = (seenB p i k || decide (p.get i = k)) := by
  simp [seenB, List.range_succ]
/-- All orders there are. -/
theorem ord_cases {n : Int} {p : Pt} (hn : 1 ≤ n ∧ n ≤ 3) (h : isOrd n p = true) :
    (n = 1 ∧ p = ⟨0, 0, 0⟩) ∨ (n = 2 ∧ (p = ⟨0, 1, 0⟩ ∨ p = ⟨1, 0, 0⟩)) ∨
    (n = 3 ∧ (p = ⟨0, 1, 2⟩ ∨ p = ⟨0, 2, 1⟩ ∨ p = ⟨1, 0, 2⟩ ∨ p = ⟨1, 2, 0⟩ ∨ p = ⟨2, 0, 1⟩ ∨ p = ⟨2, 1, 0⟩)) := by
  obtain ⟨x, y, z⟩ := p
  have hn3 : n = 1 ∨ n = 2 ∨ n = 3 := by omega
  rcases hn3 with rfl | rfl | rfl <;>
    simp [isOrd, badAt, bw, seenB, Pt.get, List.range_succ] at h ⊢ <;> omega
theorem turn_len (n : Int) (p : Pt) (l : List Iq) : (turnL n p l).length = l.length := by simp [turnL]
/-- An order's numbers below n. -/
theorem ord_get {n : Int} {p : Pt} (hn : 1 ≤ n ∧ n ≤ 3) (h : isOrd n p = true) {i : Nat} (hi : (i : Int) < n) : 0 ≤ p.get i ∧ p.get i < n := by
  rcases ord_cases hn h with ⟨rfl, rfl⟩ | ⟨rfl, rfl | rfl⟩ | ⟨rfl, rfl | rfl | rfl | rfl | rfl | rfl⟩ <;>
    (have h3 : i = 0 ∨ i = 1 ∨ i = 2 := by omega
     rcases h3 with rfl | rfl | rfl <;> simp [Pt.get] <;> omega)
end Go.Proofs.Ytadmnlkgefbhcaa
