/- The order of byte strings, and lists that rise in it. Plain mathematics; no condition. -/
import Derived.Test.YtpphichjabjodaaEng2
namespace Go.Eng
/-- s stands ahead of t. -/
def blt (s t : ByteArray) : Prop := s.data.toList < t.data.toList
theorem toList_inj {s t : ByteArray} (h : s.data.toList = t.data.toList) : s = t := by
  cases s; cases t; simp only [Array.toList_inj] at h; rw [h]
theorem bytesLess_eq : ∀ x y : List UInt8, Op.bytesLess x y = true ↔ x < y
  | _, [] => by simp [Op.bytesLess]
  | [], _ :: _ => by simp [Op.bytesLess]
  | a :: x, b :: y => by
    simp only [Op.bytesLess, Bool.or_eq_true, decide_eq_true_eq, Bool.and_eq_true, beq_iff_eq, bytesLess_eq x y, List.cons_lt_cons_iff]
theorem u8_irrefl (a : UInt8) : ¬ a < a := by rw [UInt8.lt_iff_toNat_lt]; omega
theorem u8_tri {a b : UInt8} (h : ¬ a < b) (h' : a ≠ b) : b < a := by
  rw [UInt8.lt_iff_toNat_lt] at *
  have : a.toNat ≠ b.toNat := fun e => h' (UInt8.toNat_inj.1 e)
  omega
theorem llt_irrefl : ∀ x : List UInt8, ¬ x < x
  | [], h => by simp at h
  | a :: x, h => by
    rw [List.cons_lt_cons_iff] at h
    rcases h with h | ⟨_, h⟩
    · exact u8_irrefl a h
    · exact llt_irrefl x h
theorem llt_trans : ∀ {x y z : List UInt8}, x < y → y < z → x < z
  | _, [], _, h, _ => by simp at h
  | _, _ :: _, [], _, h => by simp at h
  | [], _ :: _, _ :: _, _, _ => by simp
  | a :: x, b :: y, c :: z, h, k => by
    rw [List.cons_lt_cons_iff] at *
    rcases h with h | ⟨rfl, h⟩ <;> rcases k with k | ⟨rfl, k⟩
    · left; rw [UInt8.lt_iff_toNat_lt] at *; omega
    · exact .inl h
    · exact .inl k
    · exact .inr ⟨rfl, llt_trans h k⟩
theorem llt_tri : ∀ {x y : List UInt8}, ¬ x < y → x ≠ y → y < x
  | [], [], _, h => absurd rfl h
  | [], _ :: _, h, _ => absurd (by simp) h
  | _ :: _, [], _, _ => by simp
  | a :: x, b :: y, h, k => by
    rw [List.cons_lt_cons_iff] at *
    by_cases e : a = b
    · subst e
      refine .inr ⟨rfl, llt_tri (fun h' => h (.inr ⟨rfl, h'⟩)) fun e => k (by rw [e])⟩
    · exact .inl (u8_tri (fun h' => h (.inl h')) e)
theorem blt_irrefl (s : ByteArray) : ¬ blt s s := llt_irrefl _
theorem blt_trans {r s t : ByteArray} (h : blt r s) (k : blt s t) : blt r t := llt_trans h k
theorem blt_tri {s t : ByteArray} (h : ¬ blt s t) (k : s ≠ t) : blt t s := llt_tri h fun e => k (toList_inj e)
theorem blt_asymm {s t : ByteArray} (h : blt s t) : ¬ blt t s := fun k => blt_irrefl s (blt_trans h k)
theorem blt_ne {s t : ByteArray} (h : blt s t) : s ≠ t := fun e => blt_irrefl s (by rw [e] at h ⊢; exact h)
theorem beq_list {s t : ByteArray} : (s.data.toList = t.data.toList) ↔ s = t := ⟨toList_inj, fun h => by rw [h]⟩
theorem scmp_eql (s t : ByteArray) : scmpR .eql s t = true ↔ s = t := by simp only [scmpR, ByteArray.toList_eq, beq_iff_eq, beq_list]
theorem scmp_neq (s t : ByteArray) : scmpR .neq s t = true ↔ s ≠ t := by simp only [scmpR, ByteArray.toList_eq, Bool.not_eq_true', beq_eq_false_iff_ne, ne_eq, beq_list]
theorem scmp_lss (s t : ByteArray) : scmpR .lss s t = true ↔ blt s t := by simp only [scmpR, ByteArray.toList_eq, bytesLess_eq, blt]
theorem blt_le {s t : ByteArray} : (blt s t ∨ s = t) ↔ ¬ blt t s := by
  constructor
  · rintro (h | rfl)
    · exact blt_asymm h
    · exact blt_irrefl _
  · intro h
    by_cases e : s = t
    · exact .inr e
    · exact .inl (blt_tri h fun e' => e e'.symm)
theorem scmp_leq (s t : ByteArray) : scmpR .leq s t = true ↔ ¬ blt t s := by
  rw [← blt_le]; simp only [scmpR, ByteArray.toList_eq, Bool.or_eq_true, bytesLess_eq, beq_iff_eq, beq_list, blt]
theorem scmp_gtr (s t : ByteArray) : scmpR .gtr s t = true ↔ blt t s := by
  have := not_congr (scmp_leq s t)
  rw [Classical.not_not] at this
  rw [← this]
  simp [scmpR]
theorem scmp_geq (s t : ByteArray) : scmpR .geq s t = true ↔ ¬ blt s t := by
  rw [← scmp_lss]; simp [scmpR]
end Go.Eng
