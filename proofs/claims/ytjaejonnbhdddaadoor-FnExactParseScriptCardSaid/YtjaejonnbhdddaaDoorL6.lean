/- Meet, Minus, Within: what the program and the reference answer; the laws of them. -/
import Derived.Test.YtjaejonnbhdddaaDoorL4
import Derived.Test.YtjaejonnbhdddaaDoorL5
namespace Go.Proofs.YtjaejonnbhdddaaDoor
open Go.Eng
theorem picked_sub {xs ys : List ByteArray} {b : Bool} {s : ByteArray} (h : s ∈ picked xs ys b) : s ∈ xs := (List.mem_filter.1 h).1
theorem picked_len (xs ys : List ByteArray) (b : Bool) : (picked xs ys b).length ≤ xs.length := List.length_filter_le _ _
theorem mrg_picked {xs ys : List ByteArray} (hx : xs.Pairwise blt) (hy : ys.Pairwise blt) (b : Bool) : mrg (fun p q => p && (q == b)) xs ys = picked xs ys b :=
  rise_ext (mrg_rise _ _ _ hx hy) (hx.filter _) fun s => by
    rw [mrg_mem _ _ _ hx hy, picked, List.mem_filter]
    constructor
    · rintro ⟨_, h⟩
      simp only [Bool.and_eq_true, decide_eq_true_eq] at h
      exact h
    · rintro ⟨h1, h2⟩
      exact ⟨.inl h1, by simp only [Bool.and_eq_true, decide_eq_true_eq]; exact ⟨h1, h2⟩⟩
theorem isSet_picked {xs ys : List ByteArray} (b : Bool) (h : isSet xs) : isSet (picked xs ys b) :=
  ⟨fun s hs => h.1 s (picked_sub hs), h.2.1.filter _, Nat.le_trans (picked_len _ _ _) h.2.2⟩
theorem meet1_q (p q : Bool) (w : World) : QB Tryd.prog 61 [.bool p, .bool q] w ((p && (q == true)) = true) := by
  refine QB.intro (cs := []) Tryd.func61 (by kernel_rfl) fun w hx0 w1 hs E R hE hr hR => ?_
  cases p <;> cases q <;> (conv => cbv) <;> exact hR _ _ hs (by simp)
theorem meet_f {w : World} {A A' : Option Addr} {n c n' c' : Nat} {xs ys : List ByteArray} (h : Strs w A n c xs) (h' : Strs w A' n' c' ys) (hx : xs.Pairwise blt) (hy : ys.Pairwise blt) (hb : n + n' ≤ 2097152) :
    FC Tryd.prog 30 [.slice A n c, .slice A' n' c'] w (Copied w (picked xs ys true)) := by
  refine FC.intro (cs := []) Tryd.func30 (by kernel_rfl) fun E R hE hr hR => ?_
  conv => cbv
  refine st_f hr (merge_f h h' (fun p q => p && (q == true)) meet1_q hb) fun v w' hx' hc => ?_
  rw [mrg_picked hx hy] at hc
  obtain ⟨A1, n1, c1, rfl, hc⟩ := hc
  conv => cbv
  rw [hR]; exact ⟨hx', A1, n1, c1, rfl, hc⟩
theorem minus1_q (p q : Bool) (w : World) : QB Tryd.prog 62 [.bool p, .bool q] w ((p && (q == false)) = true) := by
  refine QB.intro (cs := []) Tryd.func62 (by kernel_rfl) fun w hx0 w1 hs E R hE hr hR => ?_
  cases p <;> cases q <;> (conv => cbv) <;> exact hR _ _ hs (by simp)
theorem minus_f {w : World} {A A' : Option Addr} {n c n' c' : Nat} {xs ys : List ByteArray} (h : Strs w A n c xs) (h' : Strs w A' n' c' ys) (hx : xs.Pairwise blt) (hy : ys.Pairwise blt) (hb : n + n' ≤ 2097152) :
    FC Tryd.prog 31 [.slice A n c, .slice A' n' c'] w (Copied w (picked xs ys false)) := by
  refine FC.intro (cs := []) Tryd.func31 (by kernel_rfl) fun E R hE hr hR => ?_
  conv => cbv
  refine st_f hr (merge_f h h' (fun p q => p && (q == false)) minus1_q hb) fun v w' hx' hc => ?_
  rw [mrg_picked hx hy] at hc
  obtain ⟨A1, n1, c1, rfl, hc⟩ := hc
  conv => cbv
  rw [hR]; exact ⟨hx', A1, n1, c1, rfl, hc⟩
theorem within_q {w : World} {A A' : Option Addr} {n c n' c' : Nat} {xs ys : List ByteArray} (h : Strs w A n c xs) (h' : Strs w A' n' c' ys) (hx : xs.Pairwise blt) (hy : ys.Pairwise blt) (hb : n + n' ≤ 2097152) :
    FC Tryd.prog 32 [.slice A n c, .slice A' n' c'] w fun v _ => ∃ b : Bool, v = .bool b ∧ (b = true ↔ picked xs ys false = []) := by
  refine FC.intro (cs := []) Tryd.func32 (by kernel_rfl) fun E R hE hr hR => ?_
  conv => cbv
  refine st_f hr (minus_f h h' hx hy hb) fun v w' hx' hc => ?_
  obtain ⟨A1, n1, c1, rfl, hc, _⟩ := hc
  conv => cbv
  refine st_len hE tStrs fun x hxl => ?_
  conv => cbv
  rw [hR]; refine ⟨hx', _, rfl, ?_⟩
  simp only [hE.cmp]
  rw [← List.length_eq_zero_iff, hc.len]; simp [cmpR, hxl]
/-- What Meet and Minus answer: nothing unless both are sets. -/
def Op2 (b : Bool) (xs ys r : List ByteArray) : Prop := (isSet xs ∧ isSet ys ∧ r = picked xs ys b) ∨ (¬ (isSet xs ∧ isSet ys) ∧ r = [])
theorem Op2.same {b : Bool} {xs ys r r' : List ByteArray} (h : Op2 b xs ys r) (h' : Op2 b xs ys r') : r = r' := by
  rcases h with ⟨h1, h2, h3⟩ | ⟨h1, h3⟩ <;> rcases h' with ⟨k1, k2, k3⟩ | ⟨k1, k3⟩
  · rw [h3, k3]
  · exact absurd ⟨h1, h2⟩ k1
  · exact absurd ⟨k1, k2⟩ h1
  · rw [h3, k3]
theorem Op2.len {b : Bool} {xs ys r : List ByteArray} (h : Op2 b xs ys r) : r.length ≤ xs.length := by
  rcases h with ⟨_, _, rfl⟩ | ⟨_, rfl⟩
  · exact picked_len _ _ _
  · simp
theorem copied_nil (w : World) : Copied w [] (.slice none 0 0) w := ⟨none, 0, 0, rfl, ⟨rfl, by omega, by omega, ⟨by simp, by simp⟩, by simp⟩, Own.nil⟩
theorem Copied.ext0 {w w1 w' : World} {xs : List ByteArray} {v : Value} (h : Copied w1 xs v w') (hx : Ext w w1) : Copied w xs v w' := by
  obtain ⟨A, n, c, rfl, h1, h2⟩ := h
  exact ⟨A, n, c, rfl, h1, h2.mono hx.size⟩
theorem Meet_f {w : World} {A A' : Option Addr} {n c n' c' : Nat} {xs ys : List ByteArray} (h : Strs w A n c xs) (h' : Strs w A' n' c' ys) (hn : n ≤ 1048576) (_ : n' ≤ 1048576) :
    FC Tryd.prog 10 [.slice A n c, .slice A' n' c'] w (fun v w' => ∃ r, Op2 true xs ys r ∧ Copied w r v w') := by
  refine FC.intro (cs := []) Tryd.func10 (by kernel_rfl) fun E R hE hr hR => ?_
  conv => cbv
  refine st_qb hE (IsSet_q h) fun b1 hb1 w1 hs1 => ?_
  conv => cbv
  refine brn (fun g1 => ?_) (fun g1 => ?_)
  · conv => cbv
    refine st_qb hE (IsSet_q (h'.ext hs1.ext)) fun b2 hb2 w2 hs2 => ?_
    conv => cbv
    refine brn (fun g2 => ?_) (fun g2 => ?_)
    · conv => cbv
      refine st_f hr (meet_f (h.ext (hs1.trans hs2).ext) (h'.ext (hs1.trans hs2).ext) (hb1.1 g1).2.1 (hb2.1 g2).2.1 (by omega)) fun v w3 hx3 hc => ?_
      have hd := hc.ext0 (hs1.trans hs2).ext
      obtain ⟨A1, n1, c1, rfl, g3, g4⟩ := hd
      conv => cbv
      rw [hR]; exact ⟨(hs1.trans hs2).ext.trans hx3, _, .inl ⟨hb1.1 g1, hb2.1 g2, rfl⟩, A1, n1, c1, rfl, g3, g4⟩
    · conv => cbv
      rw [hR]; exact ⟨(hs1.trans hs2).ext, [], .inr ⟨fun k => g2 (hb2.2 k.2), rfl⟩, (copied_nil _).ext0 (hs1.trans hs2).ext⟩
  · conv => cbv
    rw [hR]; exact ⟨hs1.ext, [], .inr ⟨fun k => g1 (hb1.2 k.1), rfl⟩, (copied_nil _).ext0 hs1.ext⟩
theorem Minus_f {w : World} {A A' : Option Addr} {n c n' c' : Nat} {xs ys : List ByteArray} (h : Strs w A n c xs) (h' : Strs w A' n' c' ys) (hn : n ≤ 1048576) (_ : n' ≤ 1048576) :
    FC Tryd.prog 11 [.slice A n c, .slice A' n' c'] w (fun v w' => ∃ r, Op2 false xs ys r ∧ Copied w r v w') := by
  refine FC.intro (cs := []) Tryd.func11 (by kernel_rfl) fun E R hE hr hR => ?_
  conv => cbv
  refine st_qb hE (IsSet_q h) fun b1 hb1 w1 hs1 => ?_
  conv => cbv
  refine brn (fun g1 => ?_) (fun g1 => ?_)
  · conv => cbv
    refine st_qb hE (IsSet_q (h'.ext hs1.ext)) fun b2 hb2 w2 hs2 => ?_
    conv => cbv
    refine brn (fun g2 => ?_) (fun g2 => ?_)
    · conv => cbv
      refine st_f hr (minus_f (h.ext (hs1.trans hs2).ext) (h'.ext (hs1.trans hs2).ext) (hb1.1 g1).2.1 (hb2.1 g2).2.1 (by omega)) fun v w3 hx3 hc => ?_
      have hd := hc.ext0 (hs1.trans hs2).ext
      obtain ⟨A1, n1, c1, rfl, g3, g4⟩ := hd
      conv => cbv
      rw [hR]; exact ⟨(hs1.trans hs2).ext.trans hx3, _, .inl ⟨hb1.1 g1, hb2.1 g2, rfl⟩, A1, n1, c1, rfl, g3, g4⟩
    · conv => cbv
      rw [hR]; exact ⟨(hs1.trans hs2).ext, [], .inr ⟨fun k => g2 (hb2.2 k.2), rfl⟩, (copied_nil _).ext0 (hs1.trans hs2).ext⟩
  · conv => cbv
    rw [hR]; exact ⟨hs1.ext, [], .inr ⟨fun k => g1 (hb1.2 k.1), rfl⟩, (copied_nil _).ext0 hs1.ext⟩
theorem Within_f {w : World} {A A' : Option Addr} {n c n' c' : Nat} {xs ys : List ByteArray} (h : Strs w A n c xs) (h' : Strs w A' n' c' ys) (hn : n ≤ 1048576) (_ : n' ≤ 1048576) :
    FC Tryd.prog 12 [.slice A n c, .slice A' n' c'] w fun v _ => ∃ b : Bool, v = .bool b ∧ (b = true ↔ isSet xs ∧ isSet ys ∧ picked xs ys false = []) := by
  refine FC.intro (cs := []) Tryd.func12 (by kernel_rfl) fun E R hE hr hR => ?_
  conv => cbv
  refine st_qb hE (IsSet_q h) fun b1 hb1 w1 hs1 => ?_
  conv => cbv
  refine br (fun g1 => ?_) (fun g1 => ?_)
  · conv => cbv
    refine st_qb hE (IsSet_q (h'.ext hs1.ext)) fun b2 hb2 w2 hs2 => ?_
    conv => cbv
    refine br (fun g2 => ?_) (fun g2 => ?_)
    · conv => cbv
      refine st_f hr (within_q (h.ext (hs1.trans hs2).ext) (h'.ext (hs1.trans hs2).ext) (hb1.1 g1).2.1 (hb2.1 g2).2.1 (by omega)) fun v w3 hx3 hc => ?_
      obtain ⟨b, rfl, hb⟩ := hc
      conv => cbv
      rw [hR]; exact ⟨(hs1.trans hs2).ext.trans hx3, b, rfl, by rw [hb]; exact ⟨fun k => ⟨hb1.1 g1, hb2.1 g2, k⟩, fun k => k.2.2⟩⟩
    · conv => cbv
      rw [hR]; exact ⟨(hs1.trans hs2).ext, false, rfl, by simp only [Bool.false_eq_true, false_iff]; exact fun k => g2 (hb2.2 k.2.1)⟩
  · conv => cbv
    rw [hR]; exact ⟨hs1.ext, false, rfl, by simp only [Bool.false_eq_true, false_iff]; exact fun k => g1 (hb1.2 k.1)⟩
theorem room_bulk {n : Nat} {l : Int} {xs : List ByteArray} (hl : xs.length = n) (h : 0 ≤ room l (bulk xs)) : n + room l (bulk xs) ≤ l := by
  rw [bulk_eq] at *; unfold room at *; split at h
  · omega
  · rename_i h1; rw [if_neg h1]; omega
end Go.Proofs.YtjaejonnbhdddaaDoor
