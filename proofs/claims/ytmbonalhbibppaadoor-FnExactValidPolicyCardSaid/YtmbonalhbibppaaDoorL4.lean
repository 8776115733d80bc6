/- Merging scope sets: merge, meet, minus, within; the reference's picking. -/
import Derived.Test.YtmbonalhbibppaaDoorL3
namespace Go.Proofs.YtmbonalhbibppaaDoor
open Go.Eng
/-- The names of xs whose being in ys is as told. -/
def picked (xs ys : List ByteArray) (b : Bool) : List ByteArray := xs.filter fun s => decide (s ∈ ys) == b
structure MS where
  A1 : Option Addr
  n1 : Nat
  c1 : Nat
  r1 : List ByteArray
  A2 : Option Addr
  n2 : Nat
  c2 : Nat
  r2 : List ByteArray
  A3 : Option Addr
  n3 : Nat
  c3 : Nat
  out : List ByteArray
/-- Where the two lists stand: is the first's head the next? -/
def ahead : List ByteArray → List ByteArray → Prop
  | _, [] => True
  | [], _ => False
  | x :: _, y :: _ => ¬ blt y x
theorem ahead_iff {w : World} {A1 A2 : Option Addr} {n1 c1 n2 c2 : Nat} {r1 r2 : List ByteArray} (h1 : Strs w A1 n1 c1 r1) (h2 : Strs w A2 n2 c2 r2) :
    (n2 = 0 → ahead r1 r2) ∧ (n2 ≠ 0 → n1 = 0 → ¬ ahead r1 r2) ∧ ∀ x y, r1[0]? = some x → r2[0]? = some y → (ahead r1 r2 ↔ ¬ blt y x) := by
  have l1 := h1.len
  have l2 := h2.len
  cases r1 <;> cases r2 <;> simp [ahead] at * <;> omega
end Go.Proofs.YtmbonalhbibppaaDoor
