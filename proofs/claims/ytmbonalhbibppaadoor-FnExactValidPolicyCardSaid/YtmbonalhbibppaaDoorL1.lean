/- Names: what impl.ValidName, spec.ValidName and their parts answer. -/
import Derived.Test.YtmbonalhbibppaaDoorSt
namespace Go.Proofs.YtmbonalhbibppaaDoor
open Go.Eng
def nb (c : Int) : Prop := (97 ≤ c ∧ c ≤ 122) ∨ (48 ≤ c ∧ c ≤ 57) ∨ c = 46 ∨ c = 95 ∨ c = 45 ∨ c = 58
/-- The bytes are those of a name, at most 32 of them. -/
def nameBytes (s : ByteArray) : Prop := (∀ i (h : i < s.size), nb (s[i].toNat)) ∧ s.size ≤ 32
def validName (s : ByteArray) : Prop := s.size ≠ 0 ∧ nameBytes s
theorem nameByte_q (c : Int) (w : World) : QB Tryd.prog 143 [.int .u8 c] w (nb c) := by
  refine QB.intro (cs := []) Tryd.func143 (by kernel_rfl) fun w hx0 w1 hs E R hE hr hR => ?_
  conv => cbv
  repeat' (split <;> conv => cbv)
  all_goals (refine hR _ _ hs ?_; simp only [hE.cmp, cmpR, decide_eq_true_eq, beq_iff_eq] at *; simp [nb]; omega)
theorem l1nameByte_q (c : Int) (w : World) : QB Tryd.prog 108 [.int .u8 c] w (nb c) := by
  refine QB.intro (cs := []) Tryd.func108 (by kernel_rfl) fun w hx0 w1 hs E R hE hr hR => ?_
  conv => cbv
  repeat' (split <;> conv => cbv)
  all_goals (refine hR _ _ hs ?_; simp only [hE.cmp, cmpR, decide_eq_true_eq, beq_iff_eq] at *; simp [nb]; omega)
theorem nameBytes_q (s : ByteArray) (w : World) (hl : s.size ≤ 9223372036854775807) : QB Tryd.prog 123 [.string s] w (nameBytes s) := by
  refine QB.intro (cs := []) Tryd.func123 (by kernel_rfl) fun w hx0 w1 hs E R hE hr hR => ?_
  conv => cbv
  refine st_slen hE uStr fun x hx => ?_
  conv => cbv
  refine loop_rule hr (fun k w' => Same w w' ∧ k ≤ s.size ∧ ∀ i (h : i < s.size), i < k → nb (s[i].toNat)) (fun k => [(0, .string s), (5, .int .i64 x), (6, .int .i64 (E.nat k))]) (fun k => s.size - k) 0
    (by simp [Fits, lk, hE.nat]) (by simp [hs]) ?_
  clear hs
  rintro I hI k w' ⟨hs, hk, hall⟩
  conv => cbv
  split
  · rename_i hlt
    have hlt : k < s.size := by simpa [hE.cmp, cmpR, hE.nat, hx] using hlt
    conv => cbv
    refine st_byte hE uStr (by simp [hE.nat]) (by simp [hE.nat, hlt]) fun c hc h0 h1 => ?_
    conv => cbv
    refine st_qb hE (nameByte_q c _) fun b hb w2 hs2 => ?_
    have hs := hs.trans hs2
    simp only [hE.nat, Int.ofNat_eq_natCast, Int.toNat_natCast] at hc
    conv => cbv
    split
    · rename_i hn
      conv => cbv
      refine ⟨k + 1, by simp [Fits, lk, inc hE (show k < 9223372036854775807 by omega)], hI _ _ ⟨hs, by omega, fun i hi h => ?_⟩, by omega⟩
      rcases Nat.lt_or_ge i k with h | h
      · exact hall i hi h
      · obtain rfl : i = k := by omega
        rw [← hc]; exact hb.1 hn
    · rename_i hn
      conv => cbv
      refine hR _ _ hs ?_
      simp only [Bool.false_eq_true, false_iff]
      exact fun h => hn (hb.2 (hc ▸ h.1 k hlt))
  · rename_i hlt
    have hlt : s.size ≤ k := by simpa [hE.cmp, cmpR, hE.nat, hx] using hlt
    conv => cbv
    refine st_slen hE uStr fun y hy => ?_
    conv => cbv
    refine hR _ _ hs ?_
    simp only [hE.cmp, cmpR, nameBytes, hy, decide_eq_true_eq]
    exact ⟨fun h => ⟨fun i hi => hall i hi (by omega), by omega⟩, fun h => by omega⟩
theorem ne_empty (s : ByteArray) : scmpR .neq s ⟨#[]⟩ = true ↔ s.size ≠ 0 := by
  simp only [scmpR, ByteArray.toList_eq, Bool.not_eq_true', beq_eq_false_iff_ne, ne_eq]
  rw [← ByteArray.size_data, ← Array.length_toList]
  exact not_congr ⟨fun h => by rw [h]; rfl, fun h => by have := List.eq_nil_of_length_eq_zero h; rw [this]⟩
theorem ValidName_q (s : ByteArray) (w : World) (hl : s.size ≤ 9223372036854775807) : QB Tryd.prog 154 [.string s] w (validName s) := by
  refine QB.intro (cs := []) Tryd.func154 (by kernel_rfl) fun w hx0 w1 hs E R hE hr hR => ?_
  conv => cbv
  have h0 : E.scmp .neq s ⟨#[]⟩ = true ↔ s.size ≠ 0 := by rw [hE.scmp]; exact ne_empty s
  split
  · rename_i h
    conv => cbv
    refine st_qb hE (nameBytes_q s _ hl) fun b hb w2 hs2 => ?_
    conv => cbv
    exact hR _ _ (hs.trans hs2) (by rw [hb, validName]; exact ⟨fun h' => ⟨h0.1 h, h'⟩, fun h' => h'.2⟩)
  · rename_i h
    conv => cbv
    exact hR _ _ hs (by simp only [Bool.false_eq_true, false_iff]; exact fun h' => h (h0.2 h'.1))
theorem sValidName_q (s : ByteArray) (w : World) (hl : s.size ≤ 9223372036854775807) : QB Tryd.prog 152 [.string s] w (validName s) := by
  refine QB.intro (cs := []) Tryd.func152 (by kernel_rfl) fun w hx0 w1 hs E R hE hr hR => ?_
  conv => cbv
  refine st_slen hE uStr fun x hx => ?_
  conv => cbv
  split
  · rename_i h
    have h : s.size = 0 := by simp [hE.cmp, cmpR, hx] at h; omega
    conv => cbv
    exact hR _ _ hs (by simp [validName, h])
  rename_i h
  have hp : s.size ≠ 0 := by simp [hE.cmp, cmpR, hx] at h; omega
  conv => cbv
  refine st_slen hE uStr fun x hx => ?_
  conv => cbv
  split
  · rename_i h
    have h : 32 < s.size := by simp [hE.cmp, cmpR, hx] at h; omega
    conv => cbv
    exact hR _ _ hs (by simp [validName, nameBytes]; omega)
  rename_i h
  have hq : s.size ≤ 32 := by simp [hE.cmp, cmpR, hx] at h; omega
  clear h
  conv => cbv
  refine loop_rule hr (fun k w' => Same w w' ∧ k ≤ s.size ∧ ∀ i (h : i < s.size), i < k → nb (s[i].toNat)) (fun k => [(0, .string s), (3, .int .i64 (E.nat k))]) (fun k => s.size - k) 0
    (by simp [Fits, lk, hE.nat]) (by simp [hs]) ?_
  clear hs hx x
  rintro I hI k w' ⟨hs, hk, hall⟩
  conv => cbv
  refine st_slen hE uStr fun x hx => ?_
  conv => cbv
  split
  · rename_i hlt
    have hlt : k < s.size := by simpa [hE.cmp, cmpR, hE.nat, hx] using hlt
    conv => cbv
    refine st_byte hE uStr (by simp [hE.nat]) (by simp [hE.nat, hlt]) fun c hc h0 h1 => ?_
    conv => cbv
    refine st_qb hE (l1nameByte_q c _) fun b hb w2 hs2 => ?_
    have hs := hs.trans hs2
    simp only [hE.nat, Int.ofNat_eq_natCast, Int.toNat_natCast] at hc
    conv => cbv
    split
    · rename_i hn
      conv => cbv
      refine ⟨k + 1, by simp [Fits, lk, inc hE (show k < 9223372036854775807 by omega)], hI _ _ ⟨hs, by omega, fun i hi h => ?_⟩, by omega⟩
      rcases Nat.lt_or_ge i k with h | h
      · exact hall i hi h
      · obtain rfl : i = k := by omega
        rw [← hc]; exact hb.1 hn
    · rename_i hn
      conv => cbv
      refine hR _ _ hs ?_
      simp only [Bool.false_eq_true, false_iff]
      exact fun h => hn (hb.2 (hc ▸ h.2.1 k hlt))
  · rename_i hlt
    have hlt : s.size ≤ k := by simpa [hE.cmp, cmpR, hE.nat, hx] using hlt
    conv => cbv
    refine hR _ _ hs ?_
    simp only [true_iff]
    exact ⟨hp, fun i hi => hall i hi (by omega), hq⟩
end Go.Proofs.YtmbonalhbibppaaDoor
