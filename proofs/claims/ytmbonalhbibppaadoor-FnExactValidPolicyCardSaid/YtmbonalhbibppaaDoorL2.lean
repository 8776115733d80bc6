/- Scope sets: what IsSet answers; the laws' helpers on lists of strings. -/
import Derived.Test.YtmbonalhbibppaaDoorL1
import Derived.Test.YtmbonalhbibppaaDoorOrd
namespace Go.Proofs.YtmbonalhbibppaaDoor
open Go.Eng
theorem _root_.Go.Eng.Strs.get {w : World} {A : Option Addr} {n c : Nat} {xs : List ByteArray} (h : Strs w A n c xs) {i : Nat} (hi : i < n) : xs[i]? = some (xs[i]'(by rw [h.len]; exact hi)) := by simp [h.len, hi]
/-- The values that a list of strings counts: its length and its letters. -/
def bulk : List ByteArray → Nat
  | [] => 0
  | s :: xs => 1 + s.size + bulk xs
def letters : List ByteArray → Nat
  | [] => 0
  | s :: xs => s.size + letters xs
theorem bulk_eq : ∀ xs, bulk xs = xs.length + letters xs
  | [] => rfl
  | s :: xs => by simp [bulk, letters, bulk_eq xs]; omega
theorem letters_take_succ : ∀ (xs : List ByteArray) (k : Nat) (h : k < xs.length), letters (xs.take (k + 1)) = letters (xs.take k) + xs[k].size
  | [], k, h => by simp at h
  | s :: xs, 0, h => by simp [letters]
  | s :: xs, k + 1, h => by
    have := letters_take_succ xs k (by simpa using h)
    simp only [List.take_succ_cons, letters, this, List.getElem_cons_succ]; omega
theorem letters_take_le : ∀ (xs : List ByteArray) (k : Nat), letters (xs.take k) ≤ letters xs
  | [], k => by simp
  | s :: xs, 0 => by simp [letters]
  | s :: xs, k + 1 => by simp [letters]; exact letters_take_le xs k
/-- What is left of a room of l: -1 if nothing is. -/
def room (l : Int) (b : Nat) : Int := if l < b then -1 else l - b
set_option maxRecDepth 100000 in
theorem szStringS_q {w : World} {A : Option Addr} {n c : Nat} {xs : List ByteArray} (h : Strs w A n c xs) (l : Int) (h0 : 0 ≤ l) (h1 : l ≤ 1048576) :
    QF Tryd.prog 113 [.slice A n c, .int .i64 l] w (.int .i64 (room l (bulk xs))) := by
  refine QF.intro (cs := []) Tryd.func113 (by kernel_rfl) fun w hx0 w1 hs E R hE hr hR => ?_
  have h := h.ext hx0
  have hl := h.len
  have hle := h.le
  conv => cbv
  refine st_len hE tStrs fun x hx => ?_
  conv => cbv
  obtain ⟨y, hy⟩ : ∃ y, y = l - x := ⟨_, rfl⟩
  have e1 : E.ar .sub .i64 l x = y := by rw [hE.ar, hy]; exact wrap_in (by omega) (by omega)
  simp only [e1]
  split
  · rename_i hlt
    have hlt : y < 0 := by simpa [hE.cmp, cmpR] using hlt
    conv => cbv
    rw [hR]; refine ⟨?_, hs⟩
    simp only [one, room, bulk_eq]; rw [if_pos (by omega)]
  rename_i hlt
  have hlt : 0 ≤ y := by simpa [hE.cmp, cmpR] using hlt
  conv => cbv
  refine loop_rule hr (fun (s : Nat × Int) w' => Same w w' ∧ s.1 ≤ n ∧ 0 ≤ s.2 ∧ s.2 = y - letters (xs.take s.1)) (fun s => [(0, .slice A n c), (1, .int .i64 s.2), (5, .int .i64 (E.nat s.1))]) (fun s => n - s.1) (0, y)
    (by simp [Fits, lk, hE.nat]) (by simp [hs, letters, hlt]) ?_
  clear hs
  rintro I hI ⟨k, z⟩ w' ⟨hs, hk, hz, hz'⟩
  simp only at hk hz hz'
  conv => cbv
  refine st_len hE tStrs fun x' hx' => ?_
  conv => cbv
  split
  · rename_i hkn
    have hkn : k < n := by simpa [hE.cmp, cmpR, hE.nat, hx'] using hkn
    conv => cbv
    refine st_elem hE tStrs (h.same hs).cells (by simp [hl]) (by simp [hE.nat]) (by simp [hE.nat, hkn]) fun p v hv hp => ?_
    obtain rfl : v = .string (xs[k]'(by omega)) := by simpa [hE.nat, hl, hkn] using hv.symm
    have hsm := h.small xs[k] (List.getElem_mem _)
    have ht := letters_take_succ xs k (by omega)
    generalize xs[k]'(by omega) = sk at *
    conv => cbv
    refine st_load hE cStr hp ?_
    conv => cbv
    refine st_slen hE uStr fun m hm => ?_
    conv => cbv
    obtain ⟨z', hzz⟩ : ∃ z', z' = z - m := ⟨_, rfl⟩
    have e1 : E.ar .sub .i64 z m = z' := by rw [hE.ar, hzz]; exact wrap_in (by omega) (by omega)
    simp only [e1]
    split
    · rename_i hn
      have hn : z' < 0 := by simpa [hE.cmp, cmpR] using hn
      conv => cbv
      rw [hR]; refine ⟨?_, hs⟩
      have := letters_take_le xs (k + 1)
      simp only [one, room, bulk_eq]; rw [if_pos (by omega)]
    · rename_i hn
      have hn : 0 ≤ z' := by simpa [hE.cmp, cmpR] using hn
      conv => cbv
      exact ⟨(k + 1, z'), by simp [Fits, lk, inc hE (show k < 9223372036854775807 by omega)], hI _ _ ⟨hs, by omega, by omega, by simp only; omega⟩, by simp only; omega⟩
  · rename_i hkn
    have hkn : n ≤ k := by simpa [hE.cmp, cmpR, hE.nat, hx'] using hkn
    conv => cbv
    rw [hR]; refine ⟨?_, hs⟩
    rw [List.take_of_length_le (by omega)] at hz'
    simp only [one, room, bulk_eq]; rw [if_neg (by omega)]
    congr 1; omega
/-- A copy in new memory. -/
def Copied (w : World) (xs : List ByteArray) (v : Value) (w' : World) : Prop :=
  ∃ A n c, v = .slice A n c ∧ Strs w' A n c xs ∧ Own w.heap.size 9 1 w' A n c (xs.map .string)
theorem toStringS_f {w : World} {A : Option Addr} {n c : Nat} {xs : List ByteArray} (h : Strs w A n c xs) (hb : n ≤ 1048576) :
    FC Tryd.prog 117 [.slice A n c] w (Copied w xs) := by
  refine FC.intro (cs := []) Tryd.func117 (by kernel_rfl) fun E R hE hr hR => ?_
  have hl := h.len
  conv => cbv
  refine st_len hE tStrs fun x hx => ?_
  conv => cbv
  refine st_make hr tStrs rfl hx (by omega) (by omega) fun A1 w1 hx1 hown => ?_
  have ho := hown _ (Nat.le_refl _)
  conv => cbv
  refine loop_rule hr (fun k w' => Ext w w' ∧ k ≤ n ∧ Own w.heap.size 9 1 w' A1 n n ((xs.take k).map .string ++ List.replicate (n - k) (.string ⟨#[]⟩))) (fun k => [(0, .slice A n c), (3, .slice A1 n n), (4, .int .i64 (E.nat k))]) (fun k => n - k) 0
    (by simp [Fits, lk, hE.nat]) ⟨hx1, by omega, by simpa using ho⟩ ?_
  clear ho hown hx1
  rintro I hI k w' ⟨hxt, hk, ho⟩
  conv => cbv
  refine st_len hE tStrs fun x' hx' => ?_
  conv => cbv
  split
  · rename_i hkn
    have hkn : k < n := by simpa [hE.cmp, cmpR, hE.nat, hx'] using hkn
    conv => cbv
    refine st_elem hE tStrs (h.ext hxt).cells (by simp [hl]) (by simp [hE.nat]) (by simp [hE.nat, hkn]) fun p v hv hp => ?_
    obtain rfl : v = .string (xs[k]'(by omega)) := by simpa [hE.nat, hl, hkn] using hv.symm
    have ht : xs.take (k + 1) = xs.take k ++ [xs[k]'(by omega)] := by rw [List.take_succ_eq_append_getElem]
    generalize xs[k]'(by omega) = sk at *
    conv => cbv
    refine st_load hE cStr hp ?_
    conv => cbv
    obtain ⟨gb, hgb, _⟩ := ho.addr (by omega)
    refine st_idx hE tStrs hgb (by simp [hE.nat]) (by simp [hE.nat, hkn]) fun q hq => ?_
    conv => cbv
    refine st_set hr tStrs ho hgb hkn (by simpa [hE.nat] using hq) rfl fun w2 hb2 _ ho2 => ?_
    conv => cbv
    refine ⟨k + 1, by simp [Fits, lk, inc hE (show k < 9223372036854775807 by omega)], hI _ _ ⟨hxt.then hb2, by omega, ?_⟩, by omega⟩
    have e : ((xs.take k).map Value.string ++ List.replicate (n - k) (Value.string ⟨#[]⟩)).set k (.string sk) = (xs.take (k + 1)).map Value.string ++ List.replicate (n - (k + 1)) (Value.string ⟨#[]⟩) := by
      rw [ht, List.set_append_right _ _ (by simp; omega)]
      have : n - k = (n - (k + 1)) + 1 := by omega
      rw [this, List.replicate_succ]
      have e0 : k - ((xs.take k).map Value.string).length = 0 := by simp; omega
      rw [e0]; simp
    rw [← e]; exact ho2
  · rename_i hkn
    have hkn : n ≤ k := by simpa [hE.cmp, cmpR, hE.nat, hx'] using hkn
    obtain rfl : k = n := by omega
    rw [List.take_of_length_le (by omega)] at ho
    simp only [Nat.sub_self, List.replicate_zero, List.append_nil] at ho
    conv => cbv
    rw [hR]; exact ⟨hxt, A1, k, k, rfl, ⟨hl, h.le, Nat.le_refl _, ho.cells, h.small⟩, ho⟩
theorem eqStringS_q {w : World} {A A' : Option Addr} {n n' c c' : Nat} {xs ys : List ByteArray} (h : Strs w A n c xs) (h' : Strs w A' n' c' ys) :
    QB Tryd.prog 125 [.slice A n c, .slice A' n' c'] w (xs = ys) := by
  refine QB.intro (cs := []) Tryd.func125 (by kernel_rfl) fun w hx0 w1 hs E R hE hr hR => ?_
  have h := h.ext hx0
  have h' := h'.ext hx0
  have hl := h.len
  have hl' := h'.len
  have hle := h.le
  conv => cbv
  refine st_len hE tStrs fun x hx => ?_
  conv => cbv
  refine st_len hE tStrs fun y hy => ?_
  conv => cbv
  split
  · rename_i hn
    have hn : n ≠ n' := by simp [hE.cmp, cmpR] at hn; omega
    conv => cbv
    exact hR _ _ hs (by simp; intro e; subst e; omega)
  rename_i hn
  obtain rfl : n = n' := by simp [hE.cmp, cmpR] at hn; omega
  clear hn
  conv => cbv
  refine loop_rule hr (fun k w' => Same w w' ∧ k ≤ n ∧ xs.take k = ys.take k) (fun k => [(0, .slice A n c), (1, .slice A' n c'), (5, .int .i64 (E.nat k))]) (fun k => n - k) 0
    (by simp [Fits, lk, hE.nat]) (by simp [hs]) ?_
  clear hs
  rintro I hI k w' ⟨hs, hk, heq⟩
  conv => cbv
  refine st_len hE tStrs fun x' hx' => ?_
  conv => cbv
  split
  · rename_i hkn
    have hkn : k < n := by simpa [hE.cmp, cmpR, hE.nat, hx'] using hkn
    conv => cbv
    refine draw_q hr fol (by kernel_rfl) fun E' hE' => ?_
    have gx := h.get hkn
    have gy := h'.get hkn
    conv => cbv
    refine st_elem hE' tStrs (h.same hs).cells (by simp [hl]) (by simp [hE.nat]) (by simp [hE.nat, hkn]) fun p v hv hp => ?_
    obtain rfl : v = .string (xs[k]'(by omega)) := by simpa [hE.nat, hl, hkn] using hv.symm
    generalize xs[k]'(by omega) = sk at *
    conv => cbv
    refine st_load hE' cStr hp ?_
    conv => cbv
    refine st_elem hE' tStrs (h'.same hs).cells (by simp [hl']) (by simp [hE.nat]) (by simp [hE.nat, hkn]) fun p v hv hp => ?_
    obtain rfl : v = .string (ys[k]'(by omega)) := by simpa [hE.nat, hl', hkn] using hv.symm
    generalize ys[k]'(by omega) = tk at *
    conv => cbv
    refine st_load hE' cStr hp ?_
    conv => cbv
    intro w2 hs2
    have hs := hs.trans hs2
    conv => cbv
    have hne : E'.scmp .neq sk tk = true ↔ sk ≠ tk := by rw [hE'.scmp]; exact scmp_neq _ _
    split
    · rename_i hn
      conv => cbv
      refine hR _ _ hs ?_
      simp only [Bool.false_eq_true, false_iff]
      intro e; subst e; rw [gx] at gy; cases gy; exact hne.1 hn rfl
    · rename_i hn
      have hn : sk = tk := Classical.not_not.1 (fun h => hn (hne.2 h))
      subst hn
      conv => cbv
      refine ⟨k + 1, by simp [Fits, lk, inc hE (show k < 9223372036854775807 by omega)], hI _ _ ⟨hs, by omega, ?_⟩, by omega⟩
      rw [List.take_add_one, List.take_add_one, heq, gx, gy]
  · rename_i hkn
    have hkn : n ≤ k := by simpa [hE.cmp, cmpR, hE.nat, hx'] using hkn
    conv => cbv
    exact hR _ _ hs (by simpa [List.take_of_length_le (show xs.length ≤ k by omega), List.take_of_length_le (show ys.length ≤ k by omega)] using heq)
end Go.Proofs.YtmbonalhbibppaaDoor
