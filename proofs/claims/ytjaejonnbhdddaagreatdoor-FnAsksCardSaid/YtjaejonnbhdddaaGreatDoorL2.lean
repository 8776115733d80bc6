/- Scope sets: what IsSet answers; the laws' helpers on lists of strings. -/
import Derived.Test.YtjaejonnbhdddaaGreatDoorL1
import Derived.Test.YtjaejonnbhdddaaGreatDoorOrd
namespace Go.Proofs.YtjaejonnbhdddaaGreatDoor
open Go.Eng
theorem _root_.Go.Eng.Strs.get {w : World} {A : Option Addr} {n c : Nat} {xs : List ByteArray} (h : Strs w A n c xs) {i : Nat} (hi : i < n) : xs[i]? = some (xs[i]'(by rw [h.len]; exact hi)) := by simp [h.len, hi]
/-- The values that a list of strings counts: its length and its letters. -/
def bulk : List ByteArray → Nat
  | [] => 0
  | s :: xs => 1 + s.size + bulk xs
def letters : List ByteArray → Nat
  | [] => 0
  | s :: xs => s.size + letters xs
theorem bulk_eq : ∀ xs, bulk xs = xs.length + letters xs
  | [] => rfl
  | s :: xs => by simp [bulk, letters, bulk_eq xs]; omega
theorem letters_take_succ : ∀ (xs : List ByteArray) (k : Nat) (h : k < xs.length), letters (xs.take (k + 1)) = letters (xs.take k) + xs[k].size
  | [], k, h => by simp at h
  | s :: xs, 0, h => by simp [letters]
  | s :: xs, k + 1, h => by
    have := letters_take_succ xs k (by simpa using h)
    simp only [List.take_succ_cons, letters, this, List.getElem_cons_succ]; omega
theorem letters_take_le : ∀ (xs : List ByteArray) (k : Nat), letters (xs.take k) ≤ letters xs
  | [], k => by simp
  | s :: xs, 0 => by simp [letters]
  | s :: xs, k + 1 => by simp [letters]; exact letters_take_le xs k
/-- What is left of a room of l: -1 if nothing is. -/
def room (l : Int) (b : Nat) : Int := if l < b then -1 else l - b
/-- A copy in new memory. -/
def Copied (w : World) (xs : List ByteArray) (v : Value) (w' : World) : Prop :=
  ∃ A n c, v = .slice A n c ∧ Strs w' A n c xs ∧ Own w.heap.size 9 1 w' A n c (xs.map .string)
end Go.Proofs.YtjaejonnbhdddaaGreatDoor
