/- Texts cut at a byte, in plain words: the library's words for it and the reference's are one. -/
import Derived.Test.YtjaejonnbhdddaaDoorL17
import Derived.Lib.Split
import Derived.Lib.CountLaws
namespace Go.Proofs.YtjaejonnbhdddaaDoor
open Go.Eng
set_option linter.unusedVariables false
/-- The pieces of a text, cut at each c. -/
def spl (c : UInt8) : List UInt8 → List (List UInt8)
  | [] => [[]]
  | b :: l => if b = c then [] :: spl c l else match spl c l with
    | [] => [[b]]
    | p :: r => (b :: p) :: r
theorem spl_ne (c : UInt8) : ∀ l, spl c l ≠ []
  | [] => by simp [spl]
  | b :: l => by
    unfold spl
    split
    · simp
    · split <;> simp
theorem spl_hit {c : UInt8} (r : List UInt8) : ∀ a : List UInt8, ¬ c ∈ a → spl c (a ++ c :: r) = a :: spl c r
  | [], _ => by simp [spl]
  | b :: a, h => by
    simp only [List.mem_cons, not_or] at h
    rw [List.cons_append, spl, if_neg (Ne.symm h.1), spl_hit r a h.2]
theorem spl_miss {c : UInt8} : ∀ a : List UInt8, ¬ c ∈ a → spl c a = [a]
  | [], _ => rfl
  | b :: a, h => by
    simp only [List.mem_cons, not_or] at h
    rw [spl, if_neg (Ne.symm h.1), spl_miss a h.2]
theorem cut_at (c : UInt8) : ∀ l : List UInt8, ¬ c ∈ l ∨ ∃ a r, l = a ++ c :: r ∧ ¬ c ∈ a
  | [] => .inl (by simp)
  | b :: l => by
    by_cases h : b = c
    · subst h; exact .inr ⟨[], l, rfl, by simp⟩
    · rcases cut_at c l with h1 | ⟨a, r, h1, h2⟩
      · exact .inl (by simp [h1, Ne.symm h])
      · exact .inr ⟨b :: a, r, by rw [h1]; rfl, by simp [h2, Ne.symm h]⟩
theorem spl_no {c : UInt8} : ∀ (m : Nat) (l : List UInt8), l.length ≤ m → ∀ p ∈ spl c l, ¬ c ∈ p
  | m, l, hm => by
    intro p hp
    rcases cut_at c l with h | ⟨a, r, h1, h2⟩
    · rw [spl_miss l h] at hp; simp at hp; rw [hp]; exact h
    · rw [h1, spl_hit r a h2] at hp
      rcases List.mem_cons.1 hp with h3 | h3
      · rw [h3]; exact h2
      · cases m with
        | zero => rw [h1] at hm; simp at hm
        | succ m => exact spl_no m r (by rw [h1] at hm; simp at hm; omega) p h3
theorem spl_len {c : UInt8} : ∀ (m : Nat) (l : List UInt8), l.length ≤ m → (spl c l).length ≤ l.length + 1
  | m, l, hm => by
    rcases cut_at c l with h | ⟨a, r, h1, h2⟩
    · rw [spl_miss l h]; simp
    · cases m with
      | zero => rw [h1] at hm; simp at hm
      | succ m =>
        have := spl_len (c := c) m r (by rw [h1] at hm; simp at hm; omega)
        rw [h1, spl_hit r a h2]; simp; omega
theorem idx_spec (c : UInt8) : ∀ l : List UInt8, (Lib.index l [c] = -1 ∧ ¬ c ∈ l) ∨ ∃ i : Nat, Lib.index l [c] = (i : Int) ∧ ∃ a r, l = a ++ c :: r ∧ a.length = i ∧ ¬ c ∈ a
  | [] => .inl ⟨rfl, by simp⟩
  | b :: l => by
    by_cases h : b = c
    · subst h
      exact .inr ⟨0, by simp [Lib.index], [], l, rfl, rfl, by simp⟩
    · have h0 : List.isPrefixOf [c] (b :: l) = false := by simp [List.isPrefixOf, Ne.symm h]
      rcases idx_spec c l with ⟨h1, h2⟩ | ⟨i, h1, a, r, h2, h3, h4⟩
      · exact .inl ⟨by unfold Lib.index; rw [h0, h1]; rfl, by simp [h2, Ne.symm h]⟩
      · refine .inr ⟨i + 1, ?_, b :: a, r, by rw [h2]; rfl, by simp [h3], by simp [h4, Ne.symm h]⟩
        unfold Lib.index; rw [h0, h1]
        have : ((i : Int) == -1) = false := by rw [beq_eq_false_iff_ne]; omega
        simp [this]
theorem splitK_spl (c : UInt8) : ∀ (m : Nat) (l : List UInt8), l.length ≤ m → Lib.splitK [c] 0 (Lib.count l [c]) l = spl c l
  | m, l, hm => by
    rcases idx_spec c l with ⟨h1, h2⟩ | ⟨i, h1, a, r, h2, h3, h4⟩
    · rw [Lib.count_miss h1, spl_miss l h2]; rfl
    · cases m with
      | zero => rw [h2] at hm; simp at hm
      | succ m =>
        have hd : l.drop (i + 1) = r := by rw [h2, ← h3]; simp
        have ht : l.take i = a := by rw [h2, ← h3]; simp
        rw [Lib.count_hit (by simp) h1, Nat.add_comm, Lib.splitK, if_neg (by rw [h1, beq_iff_eq]; omega), h1]
        simp only [Int.toNat_natCast, List.length_cons, List.length_nil, Nat.add_zero, Nat.zero_add]
        rw [hd, ht, splitK_spl c m r (by rw [h2] at hm; simp at hm; omega), h2, spl_hit r a h4]
theorem cut_hit {c : UInt8} {a r : List UInt8} (h : ¬ c ∈ a) : Lib.cut (a ++ c :: r) [c] = (a, r, true) := by
  rcases idx_spec c (a ++ c :: r) with ⟨_, h2⟩ | ⟨i, h1, a', r', h2, h3, h4⟩
  · exact absurd (by simp) h2
  · have e : spl c (a ++ c :: r) = a' :: spl c r' := by rw [h2, spl_hit r' a' h4]
    rw [spl_hit r a h] at e
    obtain ⟨e1, _⟩ := List.cons.inj e
    subst e1
    unfold Lib.cut
    rw [if_pos (by rw [h1]; omega), h1, ← h3]
    simp
theorem cut_miss {c : UInt8} {l : List UInt8} (h : ¬ c ∈ l) : Lib.cut l [c] = (l, [], false) := by
  rcases idx_spec c l with ⟨h1, _⟩ | ⟨i, h1, a', r', h2, h3, h4⟩
  · unfold Lib.cut
    rw [if_neg (by rw [h1]; omega)]
  · rw [h2] at h; exact absurd (by simp) h
end Go.Proofs.YtjaejonnbhdddaaDoor
