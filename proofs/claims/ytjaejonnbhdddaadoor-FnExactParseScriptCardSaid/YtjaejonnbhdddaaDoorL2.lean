/- Scope sets: what IsSet answers; the laws' helpers on lists of strings. -/
import Derived.Test.YtjaejonnbhdddaaDoorL1
import Derived.Test.YtjaejonnbhdddaaDoorOrd
namespace Go.Proofs.YtjaejonnbhdddaaDoor
open Go.Eng
theorem _root_.Go.Eng.Strs.get {w : World} {A : Option Addr} {n c : Nat} {xs : List ByteArray} (h : Strs w A n c xs) {i : Nat} (hi : i < n) : xs[i]? = some (xs[i]'(by rw [h.len]; exact hi)) := by simp [h.len, hi]
/-- The values that a list of strings counts: its length and its letters. -/
def bulk : List ByteArray → Nat
  | [] => 0
  | s :: xs => 1 + s.size + bulk xs
def letters : List ByteArray → Nat
  | [] => 0
  | s :: xs => s.size + letters xs
theorem bulk_eq : ∀ xs, bulk xs = xs.length + letters xs
  | [] => rfl
  | s :: xs => by simp [bulk, letters, bulk_eq xs]; omega
theorem letters_take_succ : ∀ (xs : List ByteArray) (k : Nat) (h : k < xs.length), letters (xs.take (k + 1)) = letters (xs.take k) + xs[k].size
  | [], k, h => by simp at h
  | s :: xs, 0, h => by simp [letters]
  | s :: xs, k + 1, h => by
    have := letters_take_succ xs k (by simpa using h)
    simp only [List.take_succ_cons, letters, this, List.getElem_cons_succ]; omega
theorem letters_take_le : ∀ (xs : List ByteArray) (k : Nat), letters (xs.take k) ≤ letters xs
  | [], k => by simp
  | s :: xs, 0 => by simp [letters]
  | s :: xs, k + 1 => by simp [letters]; exact letters_take_le xs k
/-- What is left of a room of l: -1 if nothing is. -/
def room (l : Int) (b : Nat) : Int := if l < b then -1 else l - b
/-- A copy in new memory. -/
def Copied (w : World) (xs : List ByteArray) (v : Value) (w' : World) : Prop :=
  ∃ A n c, v = .slice A n c ∧ Strs w' A n c xs ∧ Own w.heap.size 9 1 w' A n c (xs.map .string)
theorem eqStringS_q {w : World} {A A' : Option Addr} {n n' c c' : Nat} {xs ys : List ByteArray} (h : Strs w A n c xs) (h' : Strs w A' n' c' ys) :
    QB Tryd.prog 52 [.slice A n c, .slice A' n' c'] w (xs = ys) := by
  refine QB.intro (cs := []) Tryd.func52 (by kernel_rfl) fun w hx0 w1 hs E R hE hr hR => ?_
  have h := h.ext hx0
  have h' := h'.ext hx0
  have hl := h.len
  have hl' := h'.len
  have hle := h.le
  conv => cbv
  refine st_len hE tStrs fun x hx => ?_
  conv => cbv
  refine st_len hE tStrs fun y hy => ?_
  conv => cbv
  split
  · rename_i hn
    have hn : n ≠ n' := by simp [hE.cmp, cmpR] at hn; omega
    conv => cbv
    exact hR _ _ hs (by simp; intro e; subst e; omega)
  rename_i hn
  obtain rfl : n = n' := by simp [hE.cmp, cmpR] at hn; omega
  clear hn
  conv => cbv
  refine loop_rule hr (fun k w' => Same w w' ∧ k ≤ n ∧ xs.take k = ys.take k) (fun k => [(0, .slice A n c), (1, .slice A' n c'), (5, .int .i64 (E.nat k))]) (fun k => n - k) 0
    (by simp [Fits, lk, hE.nat]) (by simp [hs]) ?_
  clear hs
  rintro I hI k w' ⟨hs, hk, heq⟩
  conv => cbv
  refine st_len hE tStrs fun x' hx' => ?_
  conv => cbv
  split
  · rename_i hkn
    have hkn : k < n := by simpa [hE.cmp, cmpR, hE.nat, hx'] using hkn
    conv => cbv
    refine draw_q hr fol (by kernel_rfl) fun E' hE' => ?_
    have gx := h.get hkn
    have gy := h'.get hkn
    conv => cbv
    refine st_elem hE' tStrs (h.same hs).cells (by simp [hl]) (by simp [hE.nat]) (by simp [hE.nat, hkn]) fun p v hv hp => ?_
    obtain rfl : v = .string (xs[k]'(by omega)) := by simpa [hE.nat, hl, hkn] using hv.symm
    generalize xs[k]'(by omega) = sk at *
    conv => cbv
    refine st_load hE' cStr hp ?_
    conv => cbv
    refine st_elem hE' tStrs (h'.same hs).cells (by simp [hl']) (by simp [hE.nat]) (by simp [hE.nat, hkn]) fun p v hv hp => ?_
    obtain rfl : v = .string (ys[k]'(by omega)) := by simpa [hE.nat, hl', hkn] using hv.symm
    generalize ys[k]'(by omega) = tk at *
    conv => cbv
    refine st_load hE' cStr hp ?_
    conv => cbv
    intro w2 hs2
    have hs := hs.trans hs2
    conv => cbv
    have hne : E'.scmp .neq sk tk = true ↔ sk ≠ tk := by rw [hE'.scmp]; exact scmp_neq _ _
    split
    · rename_i hn
      conv => cbv
      refine hR _ _ hs ?_
      simp only [Bool.false_eq_true, false_iff]
      intro e; subst e; rw [gx] at gy; cases gy; exact hne.1 hn rfl
    · rename_i hn
      have hn : sk = tk := Classical.not_not.1 (fun h => hn (hne.2 h))
      subst hn
      conv => cbv
      refine ⟨k + 1, by simp [Fits, lk, inc hE (show k < 9223372036854775807 by omega)], hI _ _ ⟨hs, by omega, ?_⟩, by omega⟩
      rw [List.take_add_one, List.take_add_one, heq, gx, gy]
  · rename_i hkn
    have hkn : n ≤ k := by simpa [hE.cmp, cmpR, hE.nat, hx'] using hkn
    conv => cbv
    exact hR _ _ hs (by simpa [List.take_of_length_le (show xs.length ≤ k by omega), List.take_of_length_le (show ys.length ≤ k by omega)] using heq)
end Go.Proofs.YtjaejonnbhdddaaDoor
