/- Scope sets: what impl.IsSet and spec.IsSet answer, and the law of both. -/
import Derived.Test.YtmbonalhbibppaaDoorL2
namespace Go.Proofs.YtmbonalhbibppaaDoor
open Go.Eng
/-- A scope set. -/
def isSet (xs : List ByteArray) : Prop := (∀ s ∈ xs, validName s) ∧ xs.Pairwise blt ∧ xs.length ≤ 64
theorem rise_snoc {xs : List ByteArray} {k : Nat} {s : ByteArray} (hs : xs[k]? = some s) (h : (xs.take k).Pairwise blt) (hk : 0 < k → ∃ t, xs[k - 1]? = some t ∧ blt t s) : (xs.take (k + 1)).Pairwise blt := by
  rw [List.take_add_one, hs, List.pairwise_append]
  refine ⟨h, by simp, fun a ha b hb => ?_⟩
  simp only [Option.toList_some, List.mem_singleton] at hb
  subst hb
  obtain ⟨i, hi⟩ := List.mem_iff_getElem?.1 ha
  rw [List.getElem?_take] at hi
  split at hi
  · skip
    obtain ⟨t, ht, htb⟩ := hk (by omega)
    rcases Nat.lt_or_ge i (k - 1) with h1 | h1
    · have hp := List.pairwise_iff_getElem.1 h i (k - 1)
      obtain ⟨hil, hie⟩ := List.getElem?_eq_some_iff.1 hi
      obtain ⟨htl, hte⟩ := List.getElem?_eq_some_iff.1 ht
      have := hp (by simp; omega) (by simp; omega) h1
      simp only [List.getElem_take] at this
      rw [hie, hte] at this
      exact blt_trans this htb
    · obtain rfl : i = k - 1 := by omega
      rw [ht] at hi; cases hi; exact htb
  · cases hi
theorem isSet_at {xs : List ByteArray} (h : xs.Pairwise blt) {i j : Nat} {s t : ByteArray} (hi : xs[i]? = some s) (hj : xs[j]? = some t) (hij : i < j) : blt s t := by
  obtain ⟨hil, hie⟩ := List.getElem?_eq_some_iff.1 hi
  obtain ⟨hjl, hje⟩ := List.getElem?_eq_some_iff.1 hj
  rw [← hie, ← hje]; exact List.pairwise_iff_getElem.1 h i j hil hjl hij
theorem IsSet_q {w : World} {A : Option Addr} {n c : Nat} {xs : List ByteArray} (h : Strs w A n c xs) : QB Tryd.prog 124 [.slice A n c] w (isSet xs) := by
  refine QB.intro (cs := []) Tryd.func124 (by kernel_rfl) fun w hx0 w1 hs E R hE hr hR => ?_
  have h := h.ext hx0
  have hl := h.len
  have hle := h.le
  conv => cbv
  refine st_len hE tStrs fun x hx => ?_
  conv => cbv
  refine loop_rule hr (fun k w' => Same w w' ∧ k ≤ n ∧ (∀ s ∈ xs.take k, validName s) ∧ (xs.take k).Pairwise blt) (fun k => [(0, .slice A n c), (5, .slice A n c), (6, .int .i64 x), (7, .int .i64 (E.nat k))]) (fun k => n - k) 0
    (by simp [Fits, lk, hE.nat]) (by simp [hs]) ?_
  clear hs
  rintro I hI k w' ⟨hs, hk, hv, hp⟩
  conv => cbv
  refine br (fun hkn => ?_) (fun hkn => ?_)
  · skip
    have hkn : k < n := by simpa [hE.cmp, cmpR, hE.nat, hx] using hkn
    conv => cbv
    have gk := h.get hkn
    refine st_elem hE tStrs (h.same hs).cells (by simp [hl]) (by simp [hE.nat]) (by simp [hE.nat, hkn]) fun p v hv' hp' => ?_
    obtain rfl : v = .string (xs[k]'(by omega)) := by simpa [hE.nat, hl, hkn] using hv'.symm
    have hsm := h.small xs[k] (List.getElem_mem _)
    generalize xs[k]'(by omega) = sk at *
    conv => cbv
    refine st_load hE cStr hp' ?_
    conv => cbv
    refine st_qb hE (ValidName_q sk _ hsm) fun b hb w2 hs2 => ?_
    have hs := hs.trans hs2
    conv => cbv
    refine brn (fun hbt => ?_) (fun hbt => ?_)
    · skip
      have hvs : validName sk := hb.1 hbt
      have hv1 : ∀ s ∈ xs.take (k + 1), validName s := by
        intro s hs'
        rw [List.take_add_one, gk] at hs'
        simp only [Option.toList_some, List.mem_append, List.mem_singleton] at hs'
        rcases hs' with h1 | rfl
        · exact hv s h1
        · exact hvs
      conv => cbv
      refine br (fun hk0 => ?_) (fun hk0 => ?_)
      · skip
        have hk0 : 0 < k := by simpa [hE.cmp, cmpR, hE.nat] using hk0
        obtain ⟨k1, rfl⟩ : ∃ k1, k = k1 + 1 := ⟨k - 1, by omega⟩
        have e1 : E.ar .sub .i64 (E.nat (k1 + 1)) 1 = E.nat k1 := by simp only [hE.ar, arR, hE.nat, Int.ofNat_eq_natCast]; rw [wrap_in (by omega) (by omega)]; omega
        conv => cbv
        simp only [e1]
        have gk1 := h.get (show k1 < n by omega)
        refine st_elem hE tStrs (h.same hs).cells (by simp [hl]) (by simp [hE.nat]) (by simp [hE.nat]; omega) fun p v hv' hp' => ?_
        obtain rfl : v = .string (xs[k1]'(by omega)) := by
          simp only [hE.nat, Int.ofNat_eq_natCast, Int.toNat_natCast, List.getElem?_map, gk1, Option.map_some, Option.some.injEq] at hv'
          exact hv'.symm
        generalize xs[k1]'(by omega) = tk at *
        conv => cbv
        refine st_load hE cStr hp' ?_
        conv => cbv
        have hge : E.scmp .geq tk sk = true ↔ ¬ blt tk sk := by rw [hE.scmp]; exact scmp_geq _ _
        refine br (fun hn => ?_) (fun hn => ?_)
        · skip
          have hn := hge.1 hn
          conv => cbv
          refine hR _ _ hs ?_
          simp only [Bool.false_eq_true, false_iff]
          exact fun hset => hn (isSet_at hset.2.1 gk1 gk (by omega))
        · skip
          have hn : blt tk sk := Classical.not_not.1 (fun h' => hn (hge.2 h'))
          conv => cbv
          refine ⟨k1 + 1 + 1, by simp [Fits, lk, inc hE (show k1 + 1 < 9223372036854775807 by omega)], hI _ _ ⟨hs, by omega, hv1, rise_snoc gk hp fun _ => ⟨tk, gk1, hn⟩⟩, by omega⟩
      · skip
        have hk0 : k = 0 := by simp [hE.cmp, cmpR, hE.nat] at hk0; omega
        conv => cbv
        refine ⟨k + 1, by simp [Fits, lk, inc hE (show k < 9223372036854775807 by omega)], hI _ _ ⟨hs, by omega, hv1, rise_snoc gk hp fun h0 => by omega⟩, by omega⟩
    · skip
      conv => cbv
      refine hR _ _ hs ?_
      simp only [Bool.false_eq_true, false_iff]
      exact fun hset => hbt (hb.2 (hset.1 sk (List.mem_of_getElem? gk)))
  · skip
    have hkn : n ≤ k := by simpa [hE.cmp, cmpR, hE.nat, hx] using hkn
    rw [List.take_of_length_le (by omega)] at hv hp
    conv => cbv
    refine st_len hE tStrs fun y hy => ?_
    conv => cbv
    refine hR _ _ hs ?_
    simp only [hE.cmp, cmpR, hy, decide_eq_true_eq, isSet]
    exact ⟨fun h1 => ⟨hv, hp, by omega⟩, fun h1 => by omega⟩
theorem sIsSet_q {w : World} {A : Option Addr} {n c : Nat} {xs : List ByteArray} (h : Strs w A n c xs) : QB Tryd.prog 116 [.slice A n c] w (isSet xs) := by
  refine QB.intro (cs := []) Tryd.func116 (by kernel_rfl) fun w hx0 w1 hs E R hE hr hR => ?_
  have h := h.ext hx0
  have hl := h.len
  have hle := h.le
  conv => cbv
  refine st_len hE tStrs fun x hx => ?_
  conv => cbv
  refine br (fun hn => ?_) (fun hn => ?_)
  · skip
    have hn : 64 < n := by simp [hE.cmp, cmpR, hx] at hn; omega
    conv => cbv
    exact hR _ _ hs (by simp only [Bool.false_eq_true, false_iff]; exact fun h1 => by have := h1.2.2; omega)
  have hn : n ≤ 64 := by simp [hE.cmp, cmpR, hx] at hn; omega
  conv => cbv
  refine st_len hE tStrs fun x hx => ?_
  conv => cbv
  refine loop_rule hr (fun k w' => Same w w' ∧ k ≤ n ∧ (∀ s ∈ xs.take k, validName s) ∧ ∀ i j s t, i < k → i < j → xs[i]? = some s → xs[j]? = some t → blt s t) (fun k => [(0, .slice A n c), (9, .slice A n c), (10, .int .i64 x), (11, .int .i64 (E.nat k))]) (fun k => n - k) 0
    (by simp [Fits, lk, hE.nat]) (by simp [hs]) ?_
  clear hs
  rintro I hI k w' ⟨hs, hk, hv, hp⟩
  conv => cbv
  refine br (fun hkn => ?_) (fun hkn => ?_)
  · skip
    have hkn : k < n := by simpa [hE.cmp, cmpR, hE.nat, hx] using hkn
    conv => cbv
    have gk := h.get hkn
    refine st_elem hE tStrs (h.same hs).cells (by simp [hl]) (by simp [hE.nat]) (by simp [hE.nat, hkn]) fun p v hv' hp' => ?_
    obtain rfl : v = .string (xs[k]'(by omega)) := by simpa [hE.nat, hl, hkn] using hv'.symm
    have hsm := h.small xs[k] (List.getElem_mem _)
    generalize xs[k]'(by omega) = sk at *
    conv => cbv
    refine st_load hE cStr hp' ?_
    conv => cbv
    refine st_qb hE (sValidName_q sk _ hsm) fun b hb w2 hs2 => ?_
    have hs := hs.trans hs2
    conv => cbv
    refine brn (fun hbt => ?_) (fun hbt => ?_)
    · skip
      have hvs : validName sk := hb.1 hbt
      have hv1 : ∀ s ∈ xs.take (k + 1), validName s := by
        intro s hs'
        rw [List.take_add_one, gk] at hs'
        simp only [Option.toList_some, List.mem_append, List.mem_singleton] at hs'
        rcases hs' with h1 | rfl
        · exact hv s h1
        · exact hvs
      conv => cbv
      refine loop_rule hr (fun j w' => Same w w' ∧ k < j ∧ j ≤ n ∧ ∀ i t, k < i → i < j → xs[i]? = some t → blt sk t) (fun j => [(0, .slice A n c), (9, .slice A n c), (10, .int .i64 x), (11, .int .i64 (E.nat k)), (4, .string sk), (5, .int .i64 (E.nat j))]) (fun j => n - j) (k + 1)
        (by simp [Fits, lk, inc hE (show k < 9223372036854775807 by omega)]) ⟨hs, by omega, by omega, fun i t h1 h2 => by omega⟩ ?_
      clear hs
      rintro J hJ j w' ⟨hs, hkj, hj, hp2⟩
      conv => cbv
      refine st_len hE tStrs fun y hy => ?_
      conv => cbv
      refine br (fun hjn => ?_) (fun hjn => ?_)
      · skip
        have hjn : j < n := by simpa [hE.cmp, cmpR, hE.nat, hy] using hjn
        conv => cbv
        have gj := h.get hjn
        refine st_elem hE tStrs (h.same hs).cells (by simp [hl]) (by simp [hE.nat]) (by simp [hE.nat, hjn]) fun p v hv' hp' => ?_
        obtain rfl : v = .string (xs[j]'(by omega)) := by simpa [hE.nat, hl, hjn] using hv'.symm
        generalize xs[j]'(by omega) = tk at *
        conv => cbv
        refine st_load hE cStr hp' ?_
        conv => cbv
        have hge : E.scmp .geq sk tk = true ↔ ¬ blt sk tk := by rw [hE.scmp]; exact scmp_geq _ _
        refine br (fun hn => ?_) (fun hn => ?_)
        · skip
          have hn := hge.1 hn
          conv => cbv
          refine hR _ _ hs ?_
          simp only [Bool.false_eq_true, false_iff]
          exact fun hset => hn (isSet_at hset.2.1 gk gj hkj)
        · skip
          have hn : blt sk tk := Classical.not_not.1 (fun h' => hn (hge.2 h'))
          conv => cbv
          refine ⟨j + 1, by simp [Fits, lk, inc hE (show j < 9223372036854775807 by omega)], hJ _ _ ⟨hs, by omega, by omega, fun i t h1 h2 h3 => ?_⟩, by omega⟩
          rcases Nat.lt_or_ge i j with h4 | h4
          · exact hp2 i t h1 h4 h3
          · obtain rfl : i = j := by omega
            rw [gj] at h3; cases h3; exact hn
      · skip
        have hjn : n ≤ j := by simpa [hE.cmp, cmpR, hE.nat, hy] using hjn
        conv => cbv
        refine ⟨k + 1, by simp [Fits, lk, inc hE (show k < 9223372036854775807 by omega)], hI _ _ ⟨hs, by omega, hv1, fun i i' s t h1 h2 h3 h4 => ?_⟩, by omega⟩
        rcases Nat.lt_or_ge i k with h5 | h5
        · exact hp i i' s t h5 h2 h3 h4
        · obtain rfl : i = k := by omega
          rw [gk] at h3; cases h3
          exact hp2 i' t h2 (by have := (List.getElem?_eq_some_iff.1 h4).1; omega) h4
    · skip
      conv => cbv
      refine hR _ _ hs ?_
      simp only [Bool.false_eq_true, false_iff]
      exact fun hset => hbt (hb.2 (hset.1 sk (List.mem_of_getElem? gk)))
  · skip
    have hkn : n ≤ k := by simpa [hE.cmp, cmpR, hE.nat, hx] using hkn
    rw [List.take_of_length_le (by omega)] at hv
    conv => cbv
    refine hR _ _ hs ?_
    simp only [true_iff]
    exact ⟨hv, List.pairwise_iff_getElem.2 fun i j hi hj hij => hp i j _ _ (by omega) hij (List.getElem?_eq_getElem hi) (List.getElem?_eq_getElem hj), by omega⟩
end Go.Proofs.YtmbonalhbibppaaDoor
