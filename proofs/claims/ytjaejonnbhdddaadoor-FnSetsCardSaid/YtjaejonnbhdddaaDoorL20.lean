/- The algebra of scope sets, in plain words. -/
import Derived.Test.YtjaejonnbhdddaaDoorL11
import Derived.Test.YtjaejonnbhdddaaDoorL12
namespace Go.Proofs.YtjaejonnbhdddaaDoor
open Go.Eng
set_option linter.unusedVariables false
theorem mem_pt {xs ys : List ByteArray} {s : ByteArray} : s ∈ picked xs ys true ↔ s ∈ xs ∧ s ∈ ys := by simp [picked]
theorem mem_pf {xs ys : List ByteArray} {s : ByteArray} : s ∈ picked xs ys false ↔ s ∈ xs ∧ ¬ s ∈ ys := by simp [picked]
theorem nil_of {xs : List ByteArray} (h : ∀ s, ¬ s ∈ xs) : xs = [] := List.eq_nil_iff_forall_not_mem.2 h
theorem parts {xs ys x : List ByteArray} {cx : Int} (hx : isSet xs) (hy : isSet ys) (h : UnionOf (picked xs ys true) (picked xs ys false) x cx) : x = xs ∧ cx = 0 := by
  rcases h with ⟨h1, _⟩ | ⟨h1, h2, q, h3, h4⟩
  · exact absurd ⟨isSet_picked true hx, isSet_picked false hx⟩ h1
  · obtain rfl : q = xs := rise_ext h3.1 hx.2.1 fun s => by
      rw [h3.2, List.mem_append, mem_pt, mem_pf]
      by_cases hs : s ∈ ys <;> simp [hs]
    rcases h4 with ⟨h5, _⟩ | ⟨_, h6, h7⟩
    · have := hx.2.2; omega
    · exact ⟨h6, h7⟩
theorem apart_parts {xs ys r : List ByteArray} (hx : isSet xs) (h : Op2 true (picked xs ys true) (picked xs ys false) r) : r = [] := by
  rcases h with ⟨_, _, rfl⟩ | ⟨_, h⟩
  · exact nil_of fun s hs => by rw [mem_pt, mem_pt, mem_pf] at hs; exact hs.2.2 hs.1.2
  · exact h
theorem meet_swap {xs ys r : List ByteArray} (hx : isSet xs) (hy : isSet ys) (h : Op2 true ys xs r) : r = picked xs ys true := by
  rcases h with ⟨_, _, rfl⟩ | ⟨h, _⟩
  · exact rise_ext (hy.2.1.filter _) (hx.2.1.filter _) fun s => by
      rw [mem_pt, mem_pt]
      exact And.comm
  · exact absurd ⟨hy, hx⟩ h
theorem part_in_first {xs ys : List ByteArray} : picked (picked xs ys true) xs false = [] := nil_of fun s hs => by rw [mem_pf, mem_pt] at hs; exact hs.2 hs.1.1
theorem part_in_second {xs ys : List ByteArray} : picked (picked xs ys true) ys false = [] := nil_of fun s hs => by rw [mem_pf, mem_pt] at hs; exact hs.2 hs.1.2
/-- The union, either way round, and by MakeSet. -/
theorem three_ways {xs ys u y m : List ByteArray} {cu cy cm : Int} (hx : isSet xs) (hy : isSet ys) (h : UnionOf xs ys u cu) (h' : UnionOf ys xs y cy) (hm : MkSet (ys ++ xs) m cm) :
    (cu = 3 ∧ cy = 3 ∧ cm = 3) ∨ (cu = 0 ∧ cy = 0 ∧ cm = 0 ∧ y = u ∧ m = u ∧ isSet u ∧ ∀ s, s ∈ u ↔ s ∈ xs ∨ s ∈ ys) := by
  rcases h with ⟨h1, _⟩ | ⟨_, _, q, h3, h4⟩
  · exact absurd ⟨hx, hy⟩ h1
  rcases h' with ⟨h1, _⟩ | ⟨_, _, q2, k3, k4⟩
  · exact absurd ⟨hy, hx⟩ h1
  have hlen : (ys ++ xs).length ≤ 400 := by have := hx.2.2; have := hy.2.2; simp; omega
  have hval : ∀ s ∈ ys ++ xs, validName s := fun s hs => by
    rcases List.mem_append.1 hs with h | h
    · exact hy.1 s h
    · exact hx.1 s h
  rcases hm with ⟨h1, _⟩ | ⟨_, h1, _⟩ | ⟨_, _, q3, m3, m4⟩
  · omega
  · exact absurd hval h1
  obtain rfl : q2 = q := rise_ext k3.1 h3.1 fun s => by rw [k3.2, h3.2, List.mem_append, List.mem_append]; exact Or.comm
  obtain rfl : q3 = q2 := rise_ext m3.1 k3.1 fun s => by rw [k3.2, m3.2]
  rcases h4 with ⟨a1, a2, a3⟩ | ⟨a1, a2, a3⟩ <;> rcases k4 with ⟨b1, b2, b3⟩ | ⟨b1, b2, b3⟩ <;> rcases m4 with ⟨c1, c2, c3⟩ | ⟨c1, c2, c3⟩ <;> first | omega | skip
  · refine .inr ⟨a3, b3, c3, by rw [b2, a2], by rw [c2, a2], ⟨fun s hs => ?_, by rw [a2]; exact h3.1, by rw [a2]; exact a1⟩, fun s => by rw [a2, h3.2, List.mem_append]⟩
    rw [a2, m3.2] at hs
    exact hval s hs
theorem first_in {xs ys u : List ByteArray} (h : ∀ s, s ∈ u ↔ s ∈ xs ∨ s ∈ ys) : picked xs u false = [] := nil_of fun s hs => by rw [mem_pf, h] at hs; exact hs.2 (.inl hs.1)
theorem second_in {xs ys u : List ByteArray} (h : ∀ s, s ∈ u ↔ s ∈ xs ∨ s ∈ ys) : picked ys u false = [] := nil_of fun s hs => by rw [mem_pf, h] at hs; exact hs.2 (.inr hs.1)
theorem less_second {xs ys u r : List ByteArray} (hx : isSet xs) (hy : isSet ys) (hu : isSet u) (h : ∀ s, s ∈ u ↔ s ∈ xs ∨ s ∈ ys) (hr : Op2 false u ys r) : r = picked xs ys false := by
  rcases hr with ⟨_, _, rfl⟩ | ⟨k, _⟩
  · exact rise_ext (hu.2.1.filter _) (hx.2.1.filter _) fun s => by
      rw [mem_pf, mem_pf, h]
      constructor
      · rintro ⟨h1 | h1, h2⟩
        · exact ⟨h1, h2⟩
        · exact absurd h1 h2
      · rintro ⟨h1, h2⟩
        exact ⟨.inl h1, h2⟩
  · exact absurd ⟨hu, hy⟩ k
theorem UnionOf.sets {xs ys r : List ByteArray} {z : Int} (h : UnionOf xs ys r z) (hz : z ≠ 4) : isSet xs ∧ isSet ys := by
  rcases h with ⟨_, _, h⟩ | ⟨h1, h2, _⟩
  · exact absurd h hz
  · exact ⟨h1, h2⟩
theorem UnionOf.none {xs ys r : List ByteArray} {z : Int} (h : UnionOf xs ys r z) (hz : z = 4) : ¬ (isSet xs ∧ isSet ys) := by
  rcases h with ⟨h, _⟩ | ⟨h1, h2, q, _, ⟨_, _, h⟩ | ⟨_, _, h⟩⟩
  · exact h
  · omega
  · omega
theorem Op2.none {b : Bool} {xs ys r : List ByteArray} (h : Op2 b xs ys r) (hn : ¬ (isSet xs ∧ isSet ys)) : r = [] := by
  rcases h with ⟨h1, h2, _⟩ | ⟨_, h⟩
  · exact absurd ⟨h1, h2⟩ hn
  · exact h
theorem Op2.some {b : Bool} {xs ys r : List ByteArray} (h : Op2 b xs ys r) (hx : isSet xs) (hy : isSet ys) : r = picked xs ys b := by
  rcases h with ⟨_, _, h⟩ | ⟨h, _⟩
  · exact h
  · exact absurd ⟨hx, hy⟩ h
end Go.Proofs.YtjaejonnbhdddaaDoor
