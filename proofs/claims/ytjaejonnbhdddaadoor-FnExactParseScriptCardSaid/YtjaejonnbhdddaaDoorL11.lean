/- MakeSet: what the program and the reference answer; the law (printed by gen11.py). -/
import Derived.Test.YtjaejonnbhdddaaDoorL10
namespace Go.Proofs.YtjaejonnbhdddaaDoor
open Go.Eng
set_option linter.unusedVariables false
/-- What MakeSet answers. -/
def MkSet (xs r : List ByteArray) (z : Int) : Prop :=
  (400 < xs.length ∧ r = [] ∧ z = 1) ∨ (xs.length ≤ 400 ∧ (¬ ∀ s ∈ xs, validName s) ∧ r = [] ∧ z = 2) ∨
  (xs.length ≤ 400 ∧ (∀ s ∈ xs, validName s) ∧ ∃ q, SortOf xs q ∧ ((64 < q.length ∧ r = [] ∧ z = 3) ∨ (q.length ≤ 64 ∧ r = q ∧ z = 0)))
theorem MkSet.same {xs r r' : List ByteArray} {z z' : Int} (h : MkSet xs r z) (h' : MkSet xs r' z') : r = r' ∧ z = z' := by
  rcases h with ⟨h1, rfl, rfl⟩ | ⟨h1, h2, rfl, rfl⟩ | ⟨h1, h2, q, h3, h4⟩ <;> rcases h' with ⟨k1, rfl, rfl⟩ | ⟨k1, k2, rfl, rfl⟩ | ⟨k1, k2, q', k3, k4⟩
  · exact ⟨rfl, rfl⟩
  · omega
  · omega
  · omega
  · exact ⟨rfl, rfl⟩
  · exact absurd k2 h2
  · omega
  · exact absurd h2 k2
  · obtain rfl := h3.same k3
    rcases h4 with ⟨h4, rfl, rfl⟩ | ⟨h4, rfl, rfl⟩ <;> rcases k4 with ⟨k4, rfl, rfl⟩ | ⟨k4, rfl, rfl⟩
    · exact ⟨rfl, rfl⟩
    · omega
    · omega
    · exact ⟨rfl, rfl⟩
theorem MkSet.len {xs r : List ByteArray} {z : Int} (h : MkSet xs r z) : r.length ≤ 64 := by
  rcases h with ⟨h1, rfl, rfl⟩ | ⟨h1, h2, rfl, rfl⟩ | ⟨h1, h2, q, h3, h4⟩
  · simp
  · simp
  · rcases h4 with ⟨h4, rfl, rfl⟩ | ⟨h4, rfl, rfl⟩
    · simp
    · exact h4
theorem strs_nil (w : World) : Strs w none 0 0 [] := ⟨rfl, by omega, by omega, ⟨by simp, by simp⟩, by simp⟩
theorem MakeSet_f {w : World} {A : Option Addr} {n c : Nat} {xs : List ByteArray} (h : Strs w A n c xs) (hn : n ≤ 1048576) :
    FC Tryd.prog 13 [.slice A n c] w fun v w' => ∃ r z A' n' c', v = .tuple ⟨[.slice A' n' c', .int .i64 z]⟩ ∧ MkSet xs r z ∧ Strs w' A' n' c' r ∧ Own w.heap.size 9 1 w' A' n' c' (r.map .string) := by
  refine FC.intro (cs := []) Tryd.func13 (by kernel_rfl) fun E R hE hr hR => ?_
  have hl := h.len
  conv => cbv
  refine st_len hE tStrs fun x hx => ?_
  conv => cbv
  refine br (fun h1 => ?_) (fun h1 => ?_)
  · have h1 : 400 < n := by simp [hE.cmp, cmpR, hx] at h1; omega
    conv => cbv
    rw [hR]; exact ⟨Ext.refl _, [], 1, none, 0, 0, rfl, .inl ⟨by omega, rfl, rfl⟩, strs_nil _, Own.nil⟩
  have h1 : n ≤ 400 := by simp [hE.cmp, cmpR, hx] at h1; omega
  conv => cbv
  refine st_len hE tStrs fun x hx => ?_
  conv => cbv
  refine loop_rule hr (fun (i : Nat) w' => i ≤ n ∧ Ext w w' ∧ ∀ s ∈ xs.take i, validName s) (fun i => [(0, .slice A n c), (10, .slice A n c), (11, .int .i64 x), (12, .int .i64 (E.nat i))]) (fun i => n - i) 0
    (by simp [Fits, lk, hE.nat]) ⟨by simp, Ext.refl _, by simp⟩ ?_
  rintro I hI i w' ⟨hi, hw, hv⟩
  conv => cbv
  refine br (fun h2 => ?_) (fun h2 => ?_)
  · have h2 : i < n := by simpa [hE.cmp, cmpR, hE.nat, hx] using h2
    conv => cbv
    refine st_str hE tStrs (h.ext hw) (nk hE i) h2 fun p s gk hsm hp => ?_
    conv => cbv
    refine st_load hE cStr hp ?_
    conv => cbv
    refine st_qb hE (ValidName_q s w' hsm) fun b hb w2 hs2 => ?_
    replace hw := hw.trans hs2.ext
    conv => cbv
    refine brn (fun g => ?_) (fun g => ?_)
    · have g := hb.1 g
      conv => cbv
      exact ⟨i + 1, by simp [Fits, lk, inc hE (show i < 9223372036854775807 by omega)], hI _ _ ⟨by omega, hw, fun t ht => by
        rw [take_succ_get gk] at ht
        rcases List.mem_append.1 ht with ht | ht
        · exact hv t ht
        · rw [List.mem_singleton.1 ht]; exact g⟩, by omega⟩
    · conv => cbv
      rw [hR]; exact ⟨hw, [], 2, none, 0, 0, rfl, .inr (.inl ⟨by omega, fun k => g (hb.2 (k s (List.mem_of_getElem? gk))), rfl, rfl⟩), strs_nil _, Own.nil⟩
  · have h2 : i = n := by simp [hE.cmp, cmpR, hE.nat, hx] at h2; omega
    subst h2
    rw [List.take_of_length_le (by omega)] at hv
    conv => cbv
    refine st_f hr (sortedNames_f (h.ext hw) (by omega)) fun v w3 hx3 ⟨r, hso, A', n', c', ev, hst, how⟩ => ?_
    subst ev
    replace how := how.mono hw.size
    replace hw := hw.trans hx3
    have hrl := hst.len
    conv => cbv
    refine st_len hE tStrs fun y hy => ?_
    conv => cbv
    refine br (fun h3 => ?_) (fun h3 => ?_)
    · have h3 : 64 < n' := by simp [hE.cmp, cmpR, hy] at h3; omega
      conv => cbv
      rw [hR]; exact ⟨hw, [], 3, none, 0, 0, rfl, .inr (.inr ⟨by omega, hv, r, hso, .inl ⟨by omega, rfl, rfl⟩⟩), strs_nil _, Own.nil⟩
    · have h3 : n' ≤ 64 := by simp [hE.cmp, cmpR, hy] at h3; omega
      conv => cbv
      rw [hR]; exact ⟨hw, r, 0, A', n', c', rfl, .inr (.inr ⟨by omega, hv, r, hso, .inr ⟨by omega, rfl, rfl⟩⟩), hst, how⟩
theorem sMakeSet_f {w : World} {A : Option Addr} {n c : Nat} {xs : List ByteArray} (h : Strs w A n c xs) (hn : n ≤ 1048576) :
    FC Tryd.prog 71 [.slice A n c] w fun v w' => ∃ r z A' n' c', v = .tuple ⟨[.slice A' n' c', .int .i64 z]⟩ ∧ MkSet xs r z ∧ Strs w' A' n' c' r ∧ Own w.heap.size 9 1 w' A' n' c' (r.map .string) := by
  refine FC.intro (cs := []) Tryd.func71 (by kernel_rfl) fun E R hE hr hR => ?_
  have hl := h.len
  conv => cbv
  refine st_len hE tStrs fun x hx => ?_
  conv => cbv
  refine br (fun h1 => ?_) (fun h1 => ?_)
  · have h1 : 400 < n := by simp [hE.cmp, cmpR, hx] at h1; omega
    conv => cbv
    rw [hR]; exact ⟨Ext.refl _, [], 1, none, 0, 0, rfl, .inl ⟨by omega, rfl, rfl⟩, strs_nil _, Own.nil⟩
  have h1 : n ≤ 400 := by simp [hE.cmp, cmpR, hx] at h1; omega
  conv => cbv
  refine st_len hE tStrs fun x hx => ?_
  conv => cbv
  refine loop_rule hr (fun (i : Nat) w' => i ≤ n ∧ Ext w w' ∧ ∀ s ∈ xs.take i, validName s) (fun i => [(0, .slice A n c), (10, .slice A n c), (11, .int .i64 x), (12, .int .i64 (E.nat i))]) (fun i => n - i) 0
    (by simp [Fits, lk, hE.nat]) ⟨by simp, Ext.refl _, by simp⟩ ?_
  rintro I hI i w' ⟨hi, hw, hv⟩
  conv => cbv
  refine br (fun h2 => ?_) (fun h2 => ?_)
  · have h2 : i < n := by simpa [hE.cmp, cmpR, hE.nat, hx] using h2
    conv => cbv
    refine st_str hE tStrs (h.ext hw) (nk hE i) h2 fun p s gk hsm hp => ?_
    conv => cbv
    refine st_load hE cStr hp ?_
    conv => cbv
    refine st_qb hE (sValidName_q s w' hsm) fun b hb w2 hs2 => ?_
    replace hw := hw.trans hs2.ext
    conv => cbv
    refine brn (fun g => ?_) (fun g => ?_)
    · have g := hb.1 g
      conv => cbv
      exact ⟨i + 1, by simp [Fits, lk, inc hE (show i < 9223372036854775807 by omega)], hI _ _ ⟨by omega, hw, fun t ht => by
        rw [take_succ_get gk] at ht
        rcases List.mem_append.1 ht with ht | ht
        · exact hv t ht
        · rw [List.mem_singleton.1 ht]; exact g⟩, by omega⟩
    · conv => cbv
      rw [hR]; exact ⟨hw, [], 2, none, 0, 0, rfl, .inr (.inl ⟨by omega, fun k => g (hb.2 (k s (List.mem_of_getElem? gk))), rfl, rfl⟩), strs_nil _, Own.nil⟩
  · have h2 : i = n := by simp [hE.cmp, cmpR, hE.nat, hx] at h2; omega
    subst h2
    rw [List.take_of_length_le (by omega)] at hv
    conv => cbv
    refine st_f hr (l1sorted_f (h.ext hw) (by omega)) fun v w3 hx3 ⟨r, hso, A', n', c', ev, hst, how⟩ => ?_
    subst ev
    replace how := how.mono hw.size
    replace hw := hw.trans hx3
    have hrl := hst.len
    conv => cbv
    refine st_len hE tStrs fun y hy => ?_
    conv => cbv
    refine br (fun h3 => ?_) (fun h3 => ?_)
    · have h3 : 64 < n' := by simp [hE.cmp, cmpR, hy] at h3; omega
      conv => cbv
      rw [hR]; exact ⟨hw, [], 3, none, 0, 0, rfl, .inr (.inr ⟨by omega, hv, r, hso, .inl ⟨by omega, rfl, rfl⟩⟩), strs_nil _, Own.nil⟩
    · have h3 : n' ≤ 64 := by simp [hE.cmp, cmpR, hy] at h3; omega
      conv => cbv
      rw [hR]; exact ⟨hw, r, 0, A', n', c', rfl, .inr (.inr ⟨by omega, hv, r, hso, .inr ⟨by omega, rfl, rfl⟩⟩), hst, how⟩
end Go.Proofs.YtjaejonnbhdddaaDoor
