/- Marks: the laws write a text of its own into each element, and look whether it stays. -/
import Derived.Test.YtjaejonnbhdddaaGreatDoorL2
namespace Go.Proofs.YtjaejonnbhdddaaGreatDoor
open Go.Eng
/-- The decimal digits of a number; none of 0. -/
def digs : Nat → List UInt8
  | 0 => []
  | n + 1 => digs ((n + 1) / 10) ++ [UInt8.ofNat (48 + (n + 1) % 10)]
termination_by n => n
decreasing_by omega
theorem digs_pos {n : Nat} (h : 0 < n) : digs n = digs (n / 10) ++ [UInt8.ofNat (48 + n % 10)] := by
  obtain ⟨m, rfl⟩ : ∃ m, n = m + 1 := ⟨n - 1, by omega⟩
  rw [digs]
theorem digs_len (n : Nat) (k : Nat) (h : n < 10 ^ k) : (digs n).length ≤ k := by
  induction k generalizing n with
  | zero => have : n = 0 := by omega
            subst this; simp [digs]
  | succ k ih =>
    rcases Nat.eq_zero_or_pos n with h0 | h0
    · subst h0; simp [digs]
    · rw [digs_pos h0]
      have := ih (n / 10) (by rw [Nat.pow_succ] at h; omega)
      simp; omega
/-- The k-th mark. -/
def mkText (k : Int) : ByteArray := if k ≤ 0 then ⟨#[109, 48]⟩ else ⟨#[109]⟩ ++ ⟨(digs k.toNat).toArray⟩
theorem append_size (a b : ByteArray) : (a ++ b).size = a.size + b.size := ByteArray.size_append
theorem mk_append (a b : List UInt8) : (⟨a.toArray⟩ : ByteArray) ++ ⟨b.toArray⟩ = ⟨(a ++ b).toArray⟩ := by
  apply ByteArray.ext; simp
theorem mkText_size (k : Int) (h : k ≤ 9223372036854775807) : (mkText k).size ≤ 100 := by
  unfold mkText
  split
  · decide
  · rw [append_size]
    have := digs_len k.toNat 19 (by omega)
    simp only [ByteArray.size, List.size_toArray, List.length_cons, List.length_nil]
    omega
/-- The n marks from the k-th on. -/
def marks (k : Int) (n : Nat) : List ByteArray := (List.range n).map fun (i : Nat) => mkText (k + i)
theorem marks_len (k : Int) (n : Nat) : (marks k n).length = n := by simp [marks]
theorem marks_get {k : Int} {n i : Nat} (h : i < n) : (marks k n)[i]? = some (mkText (k + i)) := by simp [marks, h]
theorem marks_small {k : Int} {n : Nat} (h : k + n ≤ 9223372036854775807) : ∀ s ∈ marks k n, s.size ≤ 9223372036854775807 := by
  intro s hs
  simp only [marks, List.mem_map, List.mem_range] at hs
  obtain ⟨i, hi, rfl⟩ := hs
  have := mkText_size (k + i) (by omega)
  omega
theorem inc' {E : Sym} (hE : Eng Tryz.prog E) {z : Int} (h0 : -9223372036854775808 ≤ z) (h : z < 9223372036854775807) : E.ar .add .i64 z 1 = z + 1 := by
  rw [hE.ar]; exact wrap_in (by omega) (by omega)
end Go.Proofs.YtjaejonnbhdddaaGreatDoor
