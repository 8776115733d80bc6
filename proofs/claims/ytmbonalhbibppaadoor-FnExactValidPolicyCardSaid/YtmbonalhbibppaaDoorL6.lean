/- Meet, Minus, Within: what the program and the reference answer; the laws of them. -/
import Derived.Test.YtmbonalhbibppaaDoorL4
import Derived.Test.YtmbonalhbibppaaDoorL5
namespace Go.Proofs.YtmbonalhbibppaaDoor
open Go.Eng
theorem picked_sub {xs ys : List ByteArray} {b : Bool} {s : ByteArray} (h : s ∈ picked xs ys b) : s ∈ xs := (List.mem_filter.1 h).1
theorem picked_len (xs ys : List ByteArray) (b : Bool) : (picked xs ys b).length ≤ xs.length := List.length_filter_le _ _
theorem mrg_picked {xs ys : List ByteArray} (hx : xs.Pairwise blt) (hy : ys.Pairwise blt) (b : Bool) : mrg (fun p q => p && (q == b)) xs ys = picked xs ys b :=
  rise_ext (mrg_rise _ _ _ hx hy) (hx.filter _) fun s => by
    rw [mrg_mem _ _ _ hx hy, picked, List.mem_filter]
    constructor
    · rintro ⟨_, h⟩
      simp only [Bool.and_eq_true, decide_eq_true_eq] at h
      exact h
    · rintro ⟨h1, h2⟩
      exact ⟨.inl h1, by simp only [Bool.and_eq_true, decide_eq_true_eq]; exact ⟨h1, h2⟩⟩
theorem isSet_picked {xs ys : List ByteArray} (b : Bool) (h : isSet xs) : isSet (picked xs ys b) :=
  ⟨fun s hs => h.1 s (picked_sub hs), h.2.1.filter _, Nat.le_trans (picked_len _ _ _) h.2.2⟩
/-- What Meet and Minus answer: nothing unless both are sets. -/
def Op2 (b : Bool) (xs ys r : List ByteArray) : Prop := (isSet xs ∧ isSet ys ∧ r = picked xs ys b) ∨ (¬ (isSet xs ∧ isSet ys) ∧ r = [])
theorem Op2.same {b : Bool} {xs ys r r' : List ByteArray} (h : Op2 b xs ys r) (h' : Op2 b xs ys r') : r = r' := by
  rcases h with ⟨h1, h2, h3⟩ | ⟨h1, h3⟩ <;> rcases h' with ⟨k1, k2, k3⟩ | ⟨k1, k3⟩
  · rw [h3, k3]
  · exact absurd ⟨h1, h2⟩ k1
  · exact absurd ⟨k1, k2⟩ h1
  · rw [h3, k3]
theorem Op2.len {b : Bool} {xs ys r : List ByteArray} (h : Op2 b xs ys r) : r.length ≤ xs.length := by
  rcases h with ⟨_, _, rfl⟩ | ⟨_, rfl⟩
  · exact picked_len _ _ _
  · simp
theorem copied_nil (w : World) : Copied w [] (.slice none 0 0) w := ⟨none, 0, 0, rfl, ⟨rfl, by omega, by omega, ⟨by simp, by simp⟩, by simp⟩, Own.nil⟩
theorem Copied.ext0 {w w1 w' : World} {xs : List ByteArray} {v : Value} (h : Copied w1 xs v w') (hx : Ext w w1) : Copied w xs v w' := by
  obtain ⟨A, n, c, rfl, h1, h2⟩ := h
  exact ⟨A, n, c, rfl, h1, h2.mono hx.size⟩
theorem room_bulk {n : Nat} {l : Int} {xs : List ByteArray} (hl : xs.length = n) (h : 0 ≤ room l (bulk xs)) : n + room l (bulk xs) ≤ l := by
  rw [bulk_eq] at *; unfold room at *; split at h
  · omega
  · rename_i h1; rw [if_neg h1]; omega
end Go.Proofs.YtmbonalhbibppaaDoor
