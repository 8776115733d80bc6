/- The order of byte strings, and lists that rise in it. Plain mathematics; no condition. -/
import Derived.Test.YtmbonalhbibppaaDoorEng2
namespace Go.Eng
/-- s stands ahead of t. -/
def blt (s t : ByteArray) : Prop := s.data.toList < t.data.toList
theorem toList_inj {s t : ByteArray} (h : s.data.toList = t.data.toList) : s = t := by
  cases s; cases t; simp only [Array.toList_inj] at h; rw [h]
theorem bytesLess_eq : ∀ x y : List UInt8, Op.bytesLess x y = true ↔ x < y
  | _, [] => by simp [Op.bytesLess]
  | [], _ :: _ => by simp [Op.bytesLess]
  | a :: x, b :: y => by
    simp only [Op.bytesLess, Bool.or_eq_true, decide_eq_true_eq, Bool.and_eq_true, beq_iff_eq, bytesLess_eq x y, List.cons_lt_cons_iff]
theorem u8_irrefl (a : UInt8) : ¬ a < a := by rw [UInt8.lt_iff_toNat_lt]; omega
theorem u8_tri {a b : UInt8} (h : ¬ a < b) (h' : a ≠ b) : b < a := by
  rw [UInt8.lt_iff_toNat_lt] at *
  have : a.toNat ≠ b.toNat := fun e => h' (UInt8.toNat_inj.1 e)
  omega
theorem llt_irrefl : ∀ x : List UInt8, ¬ x < x
  | [], h => by simp at h
  | a :: x, h => by
    rw [List.cons_lt_cons_iff] at h
    rcases h with h | ⟨_, h⟩
    · exact u8_irrefl a h
    · exact llt_irrefl x h
theorem llt_trans : ∀ {x y z : List UInt8}, x < y → y < z → x < z
  | _, [], _, h, _ => by simp at h
  | _, _ :: _, [], _, h => by simp at h
  | [], _ :: _, _ :: _, _, _ => by simp
  | a :: x, b :: y, c :: z, h, k => by
    rw [List.cons_lt_cons_iff] at *
    rcases h with h | ⟨rfl, h⟩ <;> rcases k with k | ⟨rfl, k⟩
    · left; rw [UInt8.lt_iff_toNat_lt] at *; omega
    · exact .inl h
    · exact .inl k
    · exact .inr ⟨rfl, llt_trans h k⟩
theorem llt_tri : ∀ {x y : List UInt8}, ¬ x < y → x ≠ y → y < x
  | [], [], _, h => absurd rfl h
  | [], _ :: _, h, _ => absurd (by simp) h
  | _ :: _, [], _, _ => by simp
  | a :: x, b :: y, h, k => by
    rw [List.cons_lt_cons_iff] at *
    by_cases e : a = b
    · subst e
      refine .inr ⟨rfl, llt_tri (fun h' => h (.inr ⟨rfl, h'⟩)) fun e => k (by rw [e])⟩
    · exact .inl (u8_tri (fun h' => h (.inl h')) e)
theorem blt_irrefl (s : ByteArray) : ¬ blt s s := llt_irrefl _
theorem blt_trans {r s t : ByteArray} (h : blt r s) (k : blt s t) : blt r t := llt_trans h k
theorem blt_tri {s t : ByteArray} (h : ¬ blt s t) (k : s ≠ t) : blt t s := llt_tri h fun e => k (toList_inj e)
theorem blt_asymm {s t : ByteArray} (h : blt s t) : ¬ blt t s := fun k => blt_irrefl s (blt_trans h k)
theorem blt_ne {s t : ByteArray} (h : blt s t) : s ≠ t := fun e => blt_irrefl s (by rw [e] at h ⊢; exact h)
theorem beq_list {s t : ByteArray} : (s.data.toList = t.data.toList) ↔ s = t := ⟨toList_inj, fun h => by rw [h]⟩
theorem scmp_eql (s t : ByteArray) : scmpR .eql s t = true ↔ s = t := by simp only [scmpR, ByteArray.toList_eq, beq_iff_eq, beq_list]
theorem scmp_neq (s t : ByteArray) : scmpR .neq s t = true ↔ s ≠ t := by simp only [scmpR, ByteArray.toList_eq, Bool.not_eq_true', beq_eq_false_iff_ne, ne_eq, beq_list]
theorem scmp_lss (s t : ByteArray) : scmpR .lss s t = true ↔ blt s t := by simp only [scmpR, ByteArray.toList_eq, bytesLess_eq, blt]
theorem blt_le {s t : ByteArray} : (blt s t ∨ s = t) ↔ ¬ blt t s := by
  constructor
  · rintro (h | rfl)
    · exact blt_asymm h
    · exact blt_irrefl _
  · intro h
    by_cases e : s = t
    · exact .inr e
    · exact .inl (blt_tri h fun e' => e e'.symm)
theorem scmp_leq (s t : ByteArray) : scmpR .leq s t = true ↔ ¬ blt t s := by
  rw [← blt_le]; simp only [scmpR, ByteArray.toList_eq, Bool.or_eq_true, bytesLess_eq, beq_iff_eq, beq_list, blt]
theorem scmp_gtr (s t : ByteArray) : scmpR .gtr s t = true ↔ blt t s := by
  have := not_congr (scmp_leq s t)
  rw [Classical.not_not] at this
  rw [← this]
  simp [scmpR]
theorem scmp_geq (s t : ByteArray) : scmpR .geq s t = true ↔ ¬ blt s t := by
  rw [← scmp_lss]; simp [scmpR]
instance : LawfulBEq ByteArray where
  eq_of_beq {a b} h := by
    have : (a.data == b.data) = true := h
    cases a; cases b; simpa using this
  rfl {a} := by show (a.data == a.data) = true; simp
instance (s t : ByteArray) : Decidable (blt s t) := inferInstanceAs (Decidable (s.data.toList < t.data.toList))
/-- Rising lists with the same members are the same. -/
theorem rise_ext : ∀ {xs ys : List ByteArray}, xs.Pairwise blt → ys.Pairwise blt → (∀ s, s ∈ xs ↔ s ∈ ys) → xs = ys
  | [], [], _, _, _ => rfl
  | [], y :: ys, _, _, h => absurd ((h y).2 (by simp)) (by simp)
  | x :: xs, [], _, _, h => absurd ((h x).1 (by simp)) (by simp)
  | x :: xs, y :: ys, hx, hy, h => by
    rw [List.pairwise_cons] at hx hy
    have e : x = y := by
      have h1 := (h x).1 (by simp)
      have h2 := (h y).2 (by simp)
      rw [List.mem_cons] at h1 h2
      rcases h1 with h1 | h1
      · exact h1
      · rcases h2 with h2 | h2
        · exact h2.symm
        · exact absurd (hx.1 y h2) (blt_asymm (hy.1 x h1))
    subst e
    rw [rise_ext hx.2 hy.2 fun s => ?_]
    have := h s
    rw [List.mem_cons, List.mem_cons] at this
    constructor
    · intro h1
      rcases this.1 (.inr h1) with h2 | h2
      · subst h2; exact absurd (hx.1 s h1) (blt_irrefl s)
      · exact h2
    · intro h1
      rcases this.2 (.inr h1) with h2 | h2
      · subst h2; exact absurd (hy.1 s h1) (blt_irrefl s)
      · exact h2
/-- The merge of two rising lists: 'keep' says what stays, by where it stands. -/
def mrg (keep : Bool → Bool → Bool) : List ByteArray → List ByteArray → List ByteArray
  | [], [] => []
  | x :: xs, [] => (if keep true false = true then [x] else []) ++ mrg keep xs []
  | [], y :: ys => (if keep false true = true then [y] else []) ++ mrg keep [] ys
  | x :: xs, y :: ys =>
    if x = y then (if keep true true = true then [x] else []) ++ mrg keep xs ys
    else if blt x y then (if keep true false = true then [x] else []) ++ mrg keep xs (y :: ys)
    else (if keep false true = true then [y] else []) ++ mrg keep (x :: xs) ys
termination_by xs ys => xs.length + ys.length
theorem mem_kept {c : Prop} [Decidable c] {s x : ByteArray} : s ∈ (if c then [x] else []) ↔ c ∧ s = x := by split <;> simp_all
theorem mrg_mem (keep : Bool → Bool → Bool) (xs ys : List ByteArray) (hx : xs.Pairwise blt) (hy : ys.Pairwise blt) (s : ByteArray) :
    s ∈ mrg keep xs ys ↔ (s ∈ xs ∨ s ∈ ys) ∧ keep (decide (s ∈ xs)) (decide (s ∈ ys)) = true := by
  induction xs, ys using mrg.induct with
  | case1 => simp [mrg]
  | case2 x xs ih =>
    rw [List.pairwise_cons] at hx
    have := ih hx.2 hy
    rw [mrg, List.mem_append, mem_kept, this]
    by_cases h : s = x
    · subst h
      have : s ∉ xs := fun h => blt_irrefl s (hx.1 s h)
      simp [this]
    · simp [h]
  | case3 y ys ih =>
    rw [List.pairwise_cons] at hy
    have := ih hx hy.2
    rw [mrg, List.mem_append, mem_kept, this]
    by_cases h : s = y
    · subst h
      have : s ∉ ys := fun h => blt_irrefl s (hy.1 s h)
      simp [this]
    · simp [h]
  | case4 xs y ys ih =>
    rw [List.pairwise_cons] at hx hy
    have := ih hx.2 hy.2
    rw [mrg, if_pos rfl, List.mem_append, mem_kept, this]
    by_cases h : s = y
    · subst h
      have h1 : s ∉ xs := fun h => blt_irrefl s (hx.1 s h)
      have h2 : s ∉ ys := fun h => blt_irrefl s (hy.1 s h)
      simp [h1, h2]
    · simp [h]
  | case5 x xs y ys hne hlt ih =>
    have hx' := hx
    rw [List.pairwise_cons] at hx
    have := ih hx.2 hy
    rw [mrg, if_neg hne, if_pos hlt, List.mem_append, mem_kept, this]
    by_cases h : s = x
    · subst h
      have h1 : s ∉ xs := fun h => blt_irrefl s (hx.1 s h)
      have h2 : s ∉ y :: ys := fun h => by
        rw [List.mem_cons] at h
        rcases h with h | h
        · exact hne h
        · exact blt_irrefl s (blt_trans hlt ((List.pairwise_cons.1 hy).1 s h))
      simp only [h1, h2, List.mem_cons, decide_true, decide_false, or_self, false_and, or_false, and_true, true_and]
    · simp [h]
  | case6 x xs y ys hne hlt ih =>
    have hx' := hx
    rw [List.pairwise_cons] at hy
    have := ih hx hy.2
    rw [mrg, if_neg hne, if_neg hlt, List.mem_append, mem_kept, this]
    have hyx := blt_tri hlt hne
    by_cases h : s = y
    · subst h
      have h1 : s ∉ ys := fun h => blt_irrefl s (hy.1 s h)
      have h2 : s ∉ x :: xs := fun h => by
        rw [List.mem_cons] at h
        rcases h with h | h
        · exact hne h.symm
        · exact blt_irrefl s (blt_trans hyx ((List.pairwise_cons.1 hx').1 s h))
      simp only [h1, h2, List.mem_cons, or_true, decide_true, decide_false, or_self, false_and, or_false, and_true, true_and]
    · simp [h]
theorem mrg_rise (keep : Bool → Bool → Bool) (xs ys : List ByteArray) (hx : xs.Pairwise blt) (hy : ys.Pairwise blt) : (mrg keep xs ys).Pairwise blt := by
  have app : ∀ {c : Prop} [Decidable c] {x : ByteArray} {l : List ByteArray}, l.Pairwise blt → (∀ s ∈ l, blt x s) → ((if c then [x] else []) ++ l).Pairwise blt := by
    intro c _ x l hl hm
    split
    · rw [List.singleton_append, List.pairwise_cons]; exact ⟨hm, hl⟩
    · simpa using hl
  induction xs, ys using mrg.induct with
  | case1 => simp [mrg]
  | case2 x xs ih =>
    rw [List.pairwise_cons] at hx
    rw [mrg]
    exact app (ih hx.2 hy) fun s hs => by
      rw [mrg_mem keep _ _ hx.2 hy] at hs
      rcases hs.1 with h | h
      · exact hx.1 s h
      · cases h
  | case3 y ys ih =>
    rw [List.pairwise_cons] at hy
    rw [mrg]
    exact app (ih hx hy.2) fun s hs => by
      rw [mrg_mem keep _ _ hx hy.2] at hs
      rcases hs.1 with h | h
      · cases h
      · exact hy.1 s h
  | case4 xs y ys ih =>
    rw [List.pairwise_cons] at hx hy
    rw [mrg, if_pos rfl]
    exact app (ih hx.2 hy.2) fun s hs => by
      rw [mrg_mem keep _ _ hx.2 hy.2] at hs
      rcases hs.1 with h | h
      · exact hx.1 s h
      · exact hy.1 s h
  | case5 x xs y ys hne hlt ih =>
    rw [List.pairwise_cons] at hx
    rw [mrg, if_neg hne, if_pos hlt]
    exact app (ih hx.2 hy) fun s hs => by
      rw [mrg_mem keep _ _ hx.2 hy] at hs
      rcases hs.1 with h | h
      · exact hx.1 s h
      · rw [List.mem_cons] at h
        rcases h with h | h
        · rw [h]; exact hlt
        · exact blt_trans hlt ((List.pairwise_cons.1 hy).1 s h)
  | case6 x xs y ys hne hlt ih =>
    rw [List.pairwise_cons] at hy
    rw [mrg, if_neg hne, if_neg hlt]
    have hyx := blt_tri hlt hne
    exact app (ih hx hy.2) fun s hs => by
      rw [mrg_mem keep _ _ hx hy.2] at hs
      rcases hs.1 with h | h
      · rw [List.mem_cons] at h
        rcases h with h | h
        · rw [h]; exact hyx
        · exact blt_trans hyx ((List.pairwise_cons.1 hx).1 s h)
      · exact hy.1 s h
end Go.Eng
