/- What a code's shape must be, on both sides (printed by gen_v4.py). -/
import Derived.Test.YtmbonalhbibppaaDoorV3
namespace Go.Proofs.YtmbonalhbibppaaDoor
open Go.Eng
set_option linter.unusedVariables false
set_option linter.unusedSimpArgs false
/-- A constant as it may stand in a pool. -/
def valOK (p : PV) : Prop :=
  (p.k = 1 ∧ (p.n = 0 ∨ p.n = 1) ∧ p.tx = ⟨#[]⟩ ∧ p.xs = []) ∨ (p.k = 2 ∧ p.tx = ⟨#[]⟩ ∧ p.xs = []) ∨ (p.k = 3 ∧ p.n = 0 ∧ nameBytes p.tx ∧ p.xs = []) ∨ (p.k = 4 ∧ p.n = 0 ∧ p.tx = ⟨#[]⟩ ∧ isSet p.xs)
theorem data_len (s : ByteArray) : s.data.toList.length = s.size := Array.length_toList
theorem size0 (s : ByteArray) : s.size = 0 ↔ s = ⟨#[]⟩ := by
  constructor
  · intro h
    have : s.data.toList = [] := List.eq_nil_of_length_eq_zero (by rw [data_len]; exact h)
    cases s with
    | mk d => simp at this; rw [this]
  · intro h; rw [h]; rfl
theorem quoted_iff (s : ByteArray) : (s = ⟨#[]⟩ ∨ validName s) ↔ nameBytes s := by
  unfold validName
  constructor
  · rintro (h | h)
    · subst h; exact ⟨fun i h => by simp [ByteArray.size] at h, by simp [ByteArray.size]⟩
    · exact h.2
  · intro h
    by_cases h0 : s.size = 0
    · exact .inl ((size0 s).1 h0)
    · exact .inr ⟨h0, h⟩
theorem l2quoted_f {w : World} (s : ByteArray) (hs : s.size ≤ 9223372036854775807) : FC Tryd.prog 115 [.string s] w fun v _ => ∃ b : Bool, v = .bool b ∧ (b = true ↔ nameBytes s) := by
  refine FC.intro (cs := []) Tryd.func115 (by kernel_rfl) fun E R hE hr hR => ?_
  conv => cbv
  refine br (fun g => ?_) (fun g => ?_)
  · have g : s = ⟨#[]⟩ := by simpa [hE.scmp, scmp_eql] using g
    conv => cbv
    rw [hR]; exact ⟨Ext.refl _, true, rfl, by rw [← quoted_iff]; simp [g]⟩
  · have g : s ≠ ⟨#[]⟩ := by simpa [hE.scmp, scmp_eql] using g
    conv => cbv
    refine st_qb hE (sValidName_q s _ hs) fun b hb w2 hs2 => ?_
    conv => cbv
    rw [hR]; exact ⟨hs2.ext, b, rfl, by rw [hb, ← quoted_iff]; simp [g]⟩
set_option maxHeartbeats 1000000 in
theorem l5value_f {w : World} {k z : Int} {tx : ByteArray} {A : Option Addr} {m c : Nat} {xs : List ByteArray} (h : Strs w A m c xs) (ht : tx.size ≤ 9223372036854775807) :
    FC Tryd.prog 82 [.agg ⟨[.int .i64 k, .int .i64 z, .string tx, .slice A m c]⟩] w fun v _ => ∃ b : Bool, v = .bool b ∧ (b = true ↔ valOK ⟨k, z, tx, xs⟩) := by
  refine FC.intro (cs := []) Tryd.func82 (by kernel_rfl) fun E R hE hr hR => ?_
  have hsl := h.len
  conv => cbv
  refine st_box hr fun a w1 hx hb0 => ?_
  have hb := hb0 _ (Nat.le_refl _)
  clear hb0
  conv => cbv
  (refine st_fld hE fIV0 fun p hp => ?_; (conv => cbv); refine st_load hE cInt (by rw [hp]; exact (hb).at _ _ rfl) ?_; clear hp; (conv => cbv))
  refine br (fun g => ?_) (fun g => ?_)
  · have k1 : k = 1 := by simpa [hE.cmp, cmpR] using g
    conv => cbv
    (refine st_fld hE fIV1 fun p hp => ?_; (conv => cbv); refine st_load hE cI64 (by rw [hp]; exact (hb).at _ _ rfl) ?_; clear hp; (conv => cbv))
    refine br (fun g => ?_) (fun g => ?_)
    · have g1_0 : z = 0 := by simpa [hE.cmp, cmpR] using g
      conv => cbv
      (refine st_fld hE fIV2 fun p hp => ?_; (conv => cbv); refine st_load hE cStr (by rw [hp]; exact (hb).at _ _ rfl) ?_; clear hp; (conv => cbv))
      refine br (fun g => ?_) (fun g => ?_)
      · have g2_0 : tx = ⟨#[]⟩ := by simpa [hE.scmp, scmp_eql] using g
        conv => cbv
        (refine st_fld hE fIV3 fun p hp => ?_; (conv => cbv); refine st_load hE cStrs (by rw [hp]; exact (hb).at _ _ rfl) ?_; clear hp; (conv => cbv))
        refine st_len hE tStrs fun x hx1 => ?_
        conv => cbv
        obtain ⟨q, hq⟩ : ∃ q, q = E.cmp .eql x 0 := ⟨_, rfl⟩
        have hq' : q = true ↔ xs = [] := by rw [hq, hE.cmp, ← List.length_eq_zero_iff, hsl]; simp [cmpR]; omega
        simp only [← hq]
        rw [hR]; exact ⟨hx, q, rfl, by rw [hq']; simp [valOK, k1, g1_0, g2_0]⟩
      · have g2_0 : tx ≠ ⟨#[]⟩ := by simpa [hE.scmp, scmp_eql] using g
        conv => cbv
        rw [hR]; exact ⟨hx, false, rfl, by simp [valOK, k1, g1_0, g2_0]⟩
    · have g1_0 : z ≠ 0 := by simpa [hE.cmp, cmpR] using g
      conv => cbv
      (refine st_fld hE fIV1 fun p hp => ?_; (conv => cbv); refine st_load hE cI64 (by rw [hp]; exact (hb).at _ _ rfl) ?_; clear hp; (conv => cbv))
      refine br (fun g => ?_) (fun g => ?_)
      · have g1_1 : z = 1 := by simpa [hE.cmp, cmpR] using g
        conv => cbv
        (refine st_fld hE fIV2 fun p hp => ?_; (conv => cbv); refine st_load hE cStr (by rw [hp]; exact (hb).at _ _ rfl) ?_; clear hp; (conv => cbv))
        refine br (fun g => ?_) (fun g => ?_)
        · have g2_0 : tx = ⟨#[]⟩ := by simpa [hE.scmp, scmp_eql] using g
          conv => cbv
          (refine st_fld hE fIV3 fun p hp => ?_; (conv => cbv); refine st_load hE cStrs (by rw [hp]; exact (hb).at _ _ rfl) ?_; clear hp; (conv => cbv))
          refine st_len hE tStrs fun x hx1 => ?_
          conv => cbv
          obtain ⟨q, hq⟩ : ∃ q, q = E.cmp .eql x 0 := ⟨_, rfl⟩
          have hq' : q = true ↔ xs = [] := by rw [hq, hE.cmp, ← List.length_eq_zero_iff, hsl]; simp [cmpR]; omega
          simp only [← hq]
          rw [hR]; exact ⟨hx, q, rfl, by rw [hq']; simp [valOK, k1, g1_0, g1_1, g2_0]⟩
        · have g2_0 : tx ≠ ⟨#[]⟩ := by simpa [hE.scmp, scmp_eql] using g
          conv => cbv
          rw [hR]; exact ⟨hx, false, rfl, by simp [valOK, k1, g1_0, g1_1, g2_0]⟩
      · have g1_1 : z ≠ 1 := by simpa [hE.cmp, cmpR] using g
        conv => cbv
        rw [hR]; exact ⟨hx, false, rfl, by simp [valOK, k1, g1_0, g1_1]⟩
  have k1 : k ≠ 1 := by simpa [hE.cmp, cmpR] using g
  conv => cbv
  refine br (fun g => ?_) (fun g => ?_)
  · have k2 : k = 2 := by simpa [hE.cmp, cmpR] using g
    conv => cbv
    (refine st_fld hE fIV2 fun p hp => ?_; (conv => cbv); refine st_load hE cStr (by rw [hp]; exact (hb).at _ _ rfl) ?_; clear hp; (conv => cbv))
    refine br (fun g => ?_) (fun g => ?_)
    · have g1_0 : tx = ⟨#[]⟩ := by simpa [hE.scmp, scmp_eql] using g
      conv => cbv
      (refine st_fld hE fIV3 fun p hp => ?_; (conv => cbv); refine st_load hE cStrs (by rw [hp]; exact (hb).at _ _ rfl) ?_; clear hp; (conv => cbv))
      refine st_len hE tStrs fun x hx1 => ?_
      conv => cbv
      obtain ⟨q, hq⟩ : ∃ q, q = E.cmp .eql x 0 := ⟨_, rfl⟩
      have hq' : q = true ↔ xs = [] := by rw [hq, hE.cmp, ← List.length_eq_zero_iff, hsl]; simp [cmpR]; omega
      simp only [← hq]
      rw [hR]; exact ⟨hx, q, rfl, by rw [hq']; simp [valOK, k1, k2, g1_0]⟩
    · have g1_0 : tx ≠ ⟨#[]⟩ := by simpa [hE.scmp, scmp_eql] using g
      conv => cbv
      rw [hR]; exact ⟨hx, false, rfl, by simp [valOK, k1, k2, g1_0]⟩
  have k2 : k ≠ 2 := by simpa [hE.cmp, cmpR] using g
  conv => cbv
  refine br (fun g => ?_) (fun g => ?_)
  · have k3 : k = 3 := by simpa [hE.cmp, cmpR] using g
    conv => cbv
    (refine st_fld hE fIV1 fun p hp => ?_; (conv => cbv); refine st_load hE cI64 (by rw [hp]; exact (hb).at _ _ rfl) ?_; clear hp; (conv => cbv))
    refine br (fun g => ?_) (fun g => ?_)
    · have g1_0 : z = 0 := by simpa [hE.cmp, cmpR] using g
      conv => cbv
      (refine st_fld hE fIV2 fun p hp => ?_; (conv => cbv); refine st_load hE cStr (by rw [hp]; exact (hb).at _ _ rfl) ?_; clear hp; (conv => cbv))
      refine st_f hr (l2quoted_f tx ht) fun v w2 hx2 ⟨q, ev, hq⟩ => ?_
      subst ev
      replace hb := hb.bel hx2
      replace hx := hx.trans hx2
      cases q with
      | true =>
        have g2_0 : nameBytes tx := hq.1 rfl
        conv => cbv
        (refine st_fld hE fIV3 fun p hp => ?_; (conv => cbv); refine st_load hE cStrs (by rw [hp]; exact (hb).at _ _ rfl) ?_; clear hp; (conv => cbv))
        refine st_len hE tStrs fun x hx1 => ?_
        conv => cbv
        obtain ⟨q, hq⟩ : ∃ q, q = E.cmp .eql x 0 := ⟨_, rfl⟩
        have hq' : q = true ↔ xs = [] := by rw [hq, hE.cmp, ← List.length_eq_zero_iff, hsl]; simp [cmpR]; omega
        simp only [← hq]
        rw [hR]; exact ⟨hx, q, rfl, by rw [hq']; simp [valOK, k1, k2, k3, g1_0, g2_0]⟩
      | false =>
        have g2_0 : ¬ nameBytes tx := fun q => absurd (hq.2 q) (by simp)
        conv => cbv
        rw [hR]; exact ⟨hx, false, rfl, by simp [valOK, k1, k2, k3, g1_0, g2_0]⟩
    · have g1_0 : z ≠ 0 := by simpa [hE.cmp, cmpR] using g
      conv => cbv
      rw [hR]; exact ⟨hx, false, rfl, by simp [valOK, k1, k2, k3, g1_0]⟩
  have k3 : k ≠ 3 := by simpa [hE.cmp, cmpR] using g
  conv => cbv
  (refine st_fld hE fIV0 fun p hp => ?_; (conv => cbv); refine st_load hE cInt (by rw [hp]; exact (hb).at _ _ rfl) ?_; clear hp; (conv => cbv))
  refine br (fun g => ?_) (fun g => ?_)
  · have g1_0 : k = 4 := by simpa [hE.cmp, cmpR] using g
    conv => cbv
    (refine st_fld hE fIV1 fun p hp => ?_; (conv => cbv); refine st_load hE cI64 (by rw [hp]; exact (hb).at _ _ rfl) ?_; clear hp; (conv => cbv))
    refine br (fun g => ?_) (fun g => ?_)
    · have g2_0 : z = 0 := by simpa [hE.cmp, cmpR] using g
      conv => cbv
      (refine st_fld hE fIV2 fun p hp => ?_; (conv => cbv); refine st_load hE cStr (by rw [hp]; exact (hb).at _ _ rfl) ?_; clear hp; (conv => cbv))
      refine br (fun g => ?_) (fun g => ?_)
      · have g3_0 : tx = ⟨#[]⟩ := by simpa [hE.scmp, scmp_eql] using g
        conv => cbv
        (refine st_fld hE fIV3 fun p hp => ?_; (conv => cbv); refine st_load hE cStrs (by rw [hp]; exact (hb).at _ _ rfl) ?_; clear hp; (conv => cbv))
        refine st_qb hE (sIsSet_q (h.ext hx)) fun q hq w2 hs2 => ?_
        replace hb := hb.bel hs2.ext
        replace hx := hx.trans hs2.ext
        cases q with
        | true =>
          have g4_0 : isSet xs := hq.1 rfl
          conv => cbv
          rw [hR]; exact ⟨hx, true, rfl, by simp [valOK, k1, k2, k3, g1_0, g2_0, g3_0, g4_0]⟩
        | false =>
          have g4_0 : ¬ isSet xs := fun q => absurd (hq.2 q) (by simp)
          conv => cbv
          rw [hR]; exact ⟨hx, false, rfl, by simp [valOK, k1, k2, k3, g1_0, g2_0, g3_0, g4_0]⟩
      · have g3_0 : tx ≠ ⟨#[]⟩ := by simpa [hE.scmp, scmp_eql] using g
        conv => cbv
        rw [hR]; exact ⟨hx, false, rfl, by simp [valOK, k1, k2, k3, g1_0, g2_0, g3_0]⟩
    · have g2_0 : z ≠ 0 := by simpa [hE.cmp, cmpR] using g
      conv => cbv
      rw [hR]; exact ⟨hx, false, rfl, by simp [valOK, k1, k2, k3, g1_0, g2_0]⟩
  · have g1_0 : k ≠ 4 := by simpa [hE.cmp, cmpR] using g
    conv => cbv
    rw [hR]; exact ⟨hx, false, rfl, by simp [valOK, k1, k2, k3, g1_0]⟩
abbrev zN : List Value := [.int .i64 0, .int .i64 0, .string ⟨#[]⟩, .slice none 0 0, .slice none 0 0]
theorem tIN : Stc Tryd.prog 137 5 zN := ⟨by kernel_rfl, by kernel_rfl⟩
theorem fIN0 : Fld Tryd.prog 137 0 0 := ⟨by kernel_rfl⟩
theorem fIN1 : Fld Tryd.prog 137 1 1 := ⟨by kernel_rfl⟩
theorem fIN2 : Fld Tryd.prog 137 2 2 := ⟨by kernel_rfl⟩
theorem fIN3 : Fld Tryd.prog 137 3 3 := ⟨by kernel_rfl⟩
theorem fIN4 : Fld Tryd.prog 137 4 4 := ⟨by kernel_rfl⟩
set_option maxHeartbeats 1000000 in
theorem bare_f {w : World} {o z : Int} {tx : ByteArray} {A B : Option Addr} {m c m2 c2 : Nat} {xs : List ByteArray} (hsl : xs.length = m) (p1 p2 p3 : Bool) :
    FC Tryd.prog 76 [.agg ⟨[.int .i64 o, .int .i64 z, .string tx, .slice A m c, .slice B m2 c2]⟩, .bool p1, .bool p2, .bool p3] w fun v _ => ∃ b : Bool, v = .bool b ∧ (b = true ↔ (p1 = true ∨ z = 0) ∧ (p2 = true ∨ tx = ⟨#[]⟩) ∧ (p3 = true ∨ xs = [])) := by
  refine FC.intro (cs := []) Tryd.func76 (by kernel_rfl) fun E R hE hr hR => ?_
  conv => cbv
  refine st_box hr fun a w1 hx hb0 => ?_
  have hb := hb0 _ (Nat.le_refl _)
  clear hb0
  conv => cbv
  refine br (fun g => ?_) (fun g => ?_)
  · have g1_0 : p1 = true := g
    conv => cbv
    refine br (fun g => ?_) (fun g => ?_)
    · have g2_0 : p2 = true := g
      conv => cbv
      refine br (fun g => ?_) (fun g => ?_)
      · have g3_0 : p3 = true := g
        conv => cbv
        rw [hR]; exact ⟨hx, true, rfl, by simp [g1_0, g2_0, g3_0]⟩
      · have g3_0 : ¬ p3 = true := g
        conv => cbv
        (refine st_fld hE fIN3 fun p hp => ?_; (conv => cbv); refine st_load hE cStrs (by rw [hp]; exact (hb).at _ _ rfl) ?_; clear hp; (conv => cbv))
        refine st_len hE tStrs fun x hx1 => ?_
        conv => cbv
        obtain ⟨q, hq⟩ : ∃ q, q = E.cmp .eql x 0 := ⟨_, rfl⟩
        have hq' : q = true ↔ xs = [] := by rw [hq, hE.cmp, ← List.length_eq_zero_iff, hsl]; simp [cmpR]; omega
        simp only [← hq]
        rw [hR]; exact ⟨hx, q, rfl, by rw [hq']; simp [g1_0, g2_0, g3_0]⟩
    · have g2_0 : ¬ p2 = true := g
      conv => cbv
      (refine st_fld hE fIN2 fun p hp => ?_; (conv => cbv); refine st_load hE cStr (by rw [hp]; exact (hb).at _ _ rfl) ?_; clear hp; (conv => cbv))
      refine br (fun g => ?_) (fun g => ?_)
      · have g2_1 : tx = ⟨#[]⟩ := by simpa [hE.scmp, scmp_eql] using g
        conv => cbv
        refine br (fun g => ?_) (fun g => ?_)
        · have g3_0 : p3 = true := g
          conv => cbv
          rw [hR]; exact ⟨hx, true, rfl, by simp [g1_0, g2_0, g2_1, g3_0]⟩
        · have g3_0 : ¬ p3 = true := g
          conv => cbv
          (refine st_fld hE fIN3 fun p hp => ?_; (conv => cbv); refine st_load hE cStrs (by rw [hp]; exact (hb).at _ _ rfl) ?_; clear hp; (conv => cbv))
          refine st_len hE tStrs fun x hx1 => ?_
          conv => cbv
          obtain ⟨q, hq⟩ : ∃ q, q = E.cmp .eql x 0 := ⟨_, rfl⟩
          have hq' : q = true ↔ xs = [] := by rw [hq, hE.cmp, ← List.length_eq_zero_iff, hsl]; simp [cmpR]; omega
          simp only [← hq]
          rw [hR]; exact ⟨hx, q, rfl, by rw [hq']; simp [g1_0, g2_0, g2_1, g3_0]⟩
      · have g2_1 : tx ≠ ⟨#[]⟩ := by simpa [hE.scmp, scmp_eql] using g
        conv => cbv
        rw [hR]; exact ⟨hx, false, rfl, by simp [g1_0, g2_0, g2_1]⟩
  · have g1_0 : ¬ p1 = true := g
    conv => cbv
    (refine st_fld hE fIN1 fun p hp => ?_; (conv => cbv); refine st_load hE cI64 (by rw [hp]; exact (hb).at _ _ rfl) ?_; clear hp; (conv => cbv))
    refine br (fun g => ?_) (fun g => ?_)
    · have g1_1 : z = 0 := by simpa [hE.cmp, cmpR] using g
      conv => cbv
      refine br (fun g => ?_) (fun g => ?_)
      · have g2_0 : p2 = true := g
        conv => cbv
        refine br (fun g => ?_) (fun g => ?_)
        · have g3_0 : p3 = true := g
          conv => cbv
          rw [hR]; exact ⟨hx, true, rfl, by simp [g1_0, g1_1, g2_0, g3_0]⟩
        · have g3_0 : ¬ p3 = true := g
          conv => cbv
          (refine st_fld hE fIN3 fun p hp => ?_; (conv => cbv); refine st_load hE cStrs (by rw [hp]; exact (hb).at _ _ rfl) ?_; clear hp; (conv => cbv))
          refine st_len hE tStrs fun x hx1 => ?_
          conv => cbv
          obtain ⟨q, hq⟩ : ∃ q, q = E.cmp .eql x 0 := ⟨_, rfl⟩
          have hq' : q = true ↔ xs = [] := by rw [hq, hE.cmp, ← List.length_eq_zero_iff, hsl]; simp [cmpR]; omega
          simp only [← hq]
          rw [hR]; exact ⟨hx, q, rfl, by rw [hq']; simp [g1_0, g1_1, g2_0, g3_0]⟩
      · have g2_0 : ¬ p2 = true := g
        conv => cbv
        (refine st_fld hE fIN2 fun p hp => ?_; (conv => cbv); refine st_load hE cStr (by rw [hp]; exact (hb).at _ _ rfl) ?_; clear hp; (conv => cbv))
        refine br (fun g => ?_) (fun g => ?_)
        · have g2_1 : tx = ⟨#[]⟩ := by simpa [hE.scmp, scmp_eql] using g
          conv => cbv
          refine br (fun g => ?_) (fun g => ?_)
          · have g3_0 : p3 = true := g
            conv => cbv
            rw [hR]; exact ⟨hx, true, rfl, by simp [g1_0, g1_1, g2_0, g2_1, g3_0]⟩
          · have g3_0 : ¬ p3 = true := g
            conv => cbv
            (refine st_fld hE fIN3 fun p hp => ?_; (conv => cbv); refine st_load hE cStrs (by rw [hp]; exact (hb).at _ _ rfl) ?_; clear hp; (conv => cbv))
            refine st_len hE tStrs fun x hx1 => ?_
            conv => cbv
            obtain ⟨q, hq⟩ : ∃ q, q = E.cmp .eql x 0 := ⟨_, rfl⟩
            have hq' : q = true ↔ xs = [] := by rw [hq, hE.cmp, ← List.length_eq_zero_iff, hsl]; simp [cmpR]; omega
            simp only [← hq]
            rw [hR]; exact ⟨hx, q, rfl, by rw [hq']; simp [g1_0, g1_1, g2_0, g2_1, g3_0]⟩
        · have g2_1 : tx ≠ ⟨#[]⟩ := by simpa [hE.scmp, scmp_eql] using g
          conv => cbv
          rw [hR]; exact ⟨hx, false, rfl, by simp [g1_0, g1_1, g2_0, g2_1]⟩
    · have g1_1 : z ≠ 0 := by simpa [hE.cmp, cmpR] using g
      conv => cbv
      rw [hR]; exact ⟨hx, false, rfl, by simp [g1_0, g1_1]⟩
/-- The node's operator of a constant's kind; 0 of none. -/
def kOp (k : Int) : Int := if k = 1 then 3 else if k = 2 then 1 else if k = 3 then 2 else if k = 4 then 4 else 0
set_option maxHeartbeats 1000000 in
theorem validConst_f {w : World} {o z : Int} {tx : ByteArray} {A B : Option Addr} {m c m2 c2 : Nat} {xs : List ByteArray} (h : Strs w A m c xs) (ht : tx.size ≤ 9223372036854775807) :
    FC Tryd.prog 78 [.agg ⟨[.int .i64 o, .int .i64 z, .string tx, .slice A m c, .slice B m2 c2]⟩] w fun v _ => ∃ b : Bool, v = .bool b ∧
      (b = true ↔ (o = 1 ∧ tx = ⟨#[]⟩ ∧ xs = []) ∨ (o = 2 ∧ z = 0 ∧ nameBytes tx ∧ xs = []) ∨ (o = 3 ∧ (z = 0 ∨ z = 1) ∧ tx = ⟨#[]⟩ ∧ xs = []) ∨ (o = 4 ∧ z = 0 ∧ tx = ⟨#[]⟩ ∧ isSet xs)) := by
  refine FC.intro (cs := []) Tryd.func78 (by kernel_rfl) fun E R hE hr hR => ?_
  have hsl := h.len
  conv => cbv
  refine st_box hr fun a w1 hx hb0 => ?_
  have hb := hb0 _ (Nat.le_refl _)
  clear hb0
  conv => cbv
  (refine st_fld hE fIN0 fun p hp => ?_; (conv => cbv); refine st_load hE cInt (by rw [hp]; exact (hb).at _ _ rfl) ?_; clear hp; (conv => cbv))
  refine br (fun g => ?_) (fun g => ?_)
  · have k1 : o = 1 := by simpa [hE.cmp, cmpR] using g
    conv => cbv
    refine st_loadS hE tIN rfl hb.at ?_
    conv => cbv
    refine st_f hr (bare_f (o := o) (z := z) (tx := tx) hsl true false false) fun v w2 hx2 ⟨r, ev, hr2⟩ => ?_
    subst ev
    replace hb := hb.bel hx2
    replace hx := hx.trans hx2
    conv => cbv
    rw [hR]; exact ⟨hx, r, rfl, by rw [hr2]; simp [k1]⟩
  have k1 : o ≠ 1 := by simpa [hE.cmp, cmpR] using g
  conv => cbv
  refine br (fun g => ?_) (fun g => ?_)
  · have k2 : o = 2 := by simpa [hE.cmp, cmpR] using g
    conv => cbv
    refine st_loadS hE tIN rfl hb.at ?_
    conv => cbv
    refine st_f hr (bare_f (o := o) (z := z) (tx := tx) hsl false true false) fun v w2 hx2 ⟨r, ev, hr2⟩ => ?_
    subst ev
    replace hb := hb.bel hx2
    replace hx := hx.trans hx2
    cases r with
    | false =>
      conv => cbv
      rw [hR]; refine ⟨hx, false, rfl, ?_⟩
      have n0 : ¬ _ := fun q => absurd (hr2.2 q) (by simp)
      simp only [k2]; simp at n0 ⊢
      exact fun q _ => n0 q
    | true =>
      have n0 := hr2.1 rfl
      conv => cbv
      (refine st_fld hE fIN2 fun p hp => ?_; (conv => cbv); refine st_load hE cStr (by rw [hp]; exact (hb).at _ _ rfl) ?_; clear hp; (conv => cbv))
      refine st_qb hE (nameBytes_q tx _ ht) fun q hq w2 hs2 => ?_
      conv => cbv
      rw [hR]; refine ⟨hx.trans hs2.ext, q, rfl, ?_⟩
      simp at n0
      rw [hq]; simp [k2, n0]
  have k2 : o ≠ 2 := by simpa [hE.cmp, cmpR] using g
  conv => cbv
  refine br (fun g => ?_) (fun g => ?_)
  · have k3 : o = 3 := by simpa [hE.cmp, cmpR] using g
    conv => cbv
    refine st_loadS hE tIN rfl hb.at ?_
    conv => cbv
    refine st_f hr (bare_f (o := o) (z := z) (tx := tx) hsl true false false) fun v w2 hx2 ⟨r, ev, hr2⟩ => ?_
    subst ev
    replace hb := hb.bel hx2
    replace hx := hx.trans hx2
    cases r with
    | false =>
      conv => cbv
      rw [hR]; refine ⟨hx, false, rfl, ?_⟩
      have n0 : ¬ _ := fun q => absurd (hr2.2 q) (by simp)
      simp only [k3]; simp at n0 ⊢
      exact fun _ q => n0 q
    | true =>
      have n0 := hr2.1 rfl
      simp at n0
      conv => cbv
      (refine st_fld hE fIN1 fun p hp => ?_; (conv => cbv); refine st_load hE cI64 (by rw [hp]; exact (hb).at _ _ rfl) ?_; clear hp; (conv => cbv))
      refine br (fun g => ?_) (fun g => ?_)
      · have g : z = 0 := by simpa [hE.cmp, cmpR] using g
        conv => cbv
        rw [hR]; exact ⟨hx, true, rfl, by simp [k3, g, n0]⟩
      · have g : z ≠ 0 := by simpa [hE.cmp, cmpR] using g
        conv => cbv
        (refine st_fld hE fIN1 fun p hp => ?_; (conv => cbv); refine st_load hE cI64 (by rw [hp]; exact (hb).at _ _ rfl) ?_; clear hp; (conv => cbv))
        obtain ⟨q, hq⟩ : ∃ q, q = E.cmp .eql z 1 := ⟨_, rfl⟩
        have hq' : q = true ↔ z = 1 := by rw [hq, hE.cmp]; simp [cmpR]
        simp only [← hq]
        conv => cbv
        rw [hR]; exact ⟨hx, q, rfl, by rw [hq']; simp [k3, g, n0]⟩
  have k3 : o ≠ 3 := by simpa [hE.cmp, cmpR] using g
  conv => cbv
  refine br (fun g => ?_) (fun g => ?_)
  · have k4 : o = 4 := by simpa [hE.cmp, cmpR] using g
    conv => cbv
    refine st_loadS hE tIN rfl hb.at ?_
    conv => cbv
    refine st_f hr (bare_f (o := o) (z := z) (tx := tx) hsl false false true) fun v w2 hx2 ⟨r, ev, hr2⟩ => ?_
    subst ev
    replace hb := hb.bel hx2
    replace hx := hx.trans hx2
    cases r with
    | false =>
      conv => cbv
      rw [hR]; refine ⟨hx, false, rfl, ?_⟩
      have n0 : ¬ _ := fun q => absurd (hr2.2 q) (by simp)
      simp only [k4]; simp at n0 ⊢
      exact fun q r => absurd r (n0 q)
    | true =>
      have n0 := hr2.1 rfl
      simp at n0
      conv => cbv
      (refine st_fld hE fIN3 fun p hp => ?_; (conv => cbv); refine st_load hE cStrs (by rw [hp]; exact (hb).at _ _ rfl) ?_; clear hp; (conv => cbv))
      refine st_qb hE (IsSet_q (h.ext hx)) fun q hq w2 hs2 => ?_
      conv => cbv
      rw [hR]; exact ⟨hx.trans hs2.ext, q, rfl, by rw [hq]; simp [k4, n0]⟩
  have k4 : o ≠ 4 := by simpa [hE.cmp, cmpR] using g
  conv => cbv
  rw [hR]; exact ⟨hx, false, rfl, by simp [k1, k2, k3, k4]⟩
end Go.Proofs.YtmbonalhbibppaaDoor
