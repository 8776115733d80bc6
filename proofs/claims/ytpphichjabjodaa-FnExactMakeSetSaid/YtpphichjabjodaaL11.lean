/- MakeSet: what the program and the reference answer; the law (printed by gen11.py). -/
import Derived.Test.YtpphichjabjodaaL10
namespace Go.Proofs.Ytpphichjabjodaa
open Go.Eng
set_option linter.unusedVariables false
/-- What MakeSet answers. -/
def MkSet (xs r : List ByteArray) (z : Int) : Prop :=
  (400 < xs.length ∧ r = [] ∧ z = 1) ∨ (xs.length ≤ 400 ∧ (¬ ∀ s ∈ xs, validName s) ∧ r = [] ∧ z = 2) ∨
  (xs.length ≤ 400 ∧ (∀ s ∈ xs, validName s) ∧ ∃ q, SortOf xs q ∧ ((64 < q.length ∧ r = [] ∧ z = 3) ∨ (q.length ≤ 64 ∧ r = q ∧ z = 0)))
theorem MkSet.same {xs r r' : List ByteArray} {z z' : Int} (h : MkSet xs r z) (h' : MkSet xs r' z') : r = r' ∧ z = z' := by
  rcases h with ⟨h1, rfl, rfl⟩ | ⟨h1, h2, rfl, rfl⟩ | ⟨h1, h2, q, h3, h4⟩ <;> rcases h' with ⟨k1, rfl, rfl⟩ | ⟨k1, k2, rfl, rfl⟩ | ⟨k1, k2, q', k3, k4⟩
  · exact ⟨rfl, rfl⟩
  · omega
  · omega
  · omega
  · exact ⟨rfl, rfl⟩
  · exact absurd k2 h2
  · omega
  · exact absurd h2 k2
  · obtain rfl := h3.same k3
    rcases h4 with ⟨h4, rfl, rfl⟩ | ⟨h4, rfl, rfl⟩ <;> rcases k4 with ⟨k4, rfl, rfl⟩ | ⟨k4, rfl, rfl⟩
    · exact ⟨rfl, rfl⟩
    · omega
    · omega
    · exact ⟨rfl, rfl⟩
theorem MkSet.len {xs r : List ByteArray} {z : Int} (h : MkSet xs r z) : r.length ≤ 64 := by
  rcases h with ⟨h1, rfl, rfl⟩ | ⟨h1, h2, rfl, rfl⟩ | ⟨h1, h2, q, h3, h4⟩
  · simp
  · simp
  · rcases h4 with ⟨h4, rfl, rfl⟩ | ⟨h4, rfl, rfl⟩
    · simp
    · exact h4
theorem strs_nil (w : World) : Strs w none 0 0 [] := ⟨rfl, by omega, by omega, ⟨by simp, by simp⟩, by simp⟩
theorem MakeSet_f {w : World} {A : Option Addr} {n c : Nat} {xs : List ByteArray} (h : Strs w A n c xs) (hn : n ≤ 1048576) :
    FC Try.prog 32 [.slice A n c] w fun v w' => ∃ r z A' n' c', v = .tuple ⟨[.slice A' n' c', .int .i64 z]⟩ ∧ MkSet xs r z ∧ Strs w' A' n' c' r ∧ Own w.heap.size 9 1 w' A' n' c' (r.map .string) := by
  refine FC.intro (cs := []) Try.func32 (by kernel_rfl) fun E R hE hr hR => ?_
  have hl := h.len
  conv => cbv
  refine st_len hE tStrs fun x hx => ?_
  conv => cbv
  refine br (fun h1 => ?_) (fun h1 => ?_)
  · have h1 : 400 < n := by simp [hE.cmp, cmpR, hx] at h1; omega
    conv => cbv
    rw [hR]; exact ⟨Ext.refl _, [], 1, none, 0, 0, rfl, .inl ⟨by omega, rfl, rfl⟩, strs_nil _, Own.nil⟩
  have h1 : n ≤ 400 := by simp [hE.cmp, cmpR, hx] at h1; omega
  conv => cbv
  refine st_len hE tStrs fun x hx => ?_
  conv => cbv
  refine loop_rule hr (fun (i : Nat) w' => i ≤ n ∧ Ext w w' ∧ ∀ s ∈ xs.take i, validName s) (fun i => [(0, .slice A n c), (10, .slice A n c), (11, .int .i64 x), (12, .int .i64 (E.nat i))]) (fun i => n - i) 0
    (by simp [Fits, lk, hE.nat]) ⟨by simp, Ext.refl _, by simp⟩ ?_
  rintro I hI i w' ⟨hi, hw, hv⟩
  conv => cbv
  refine br (fun h2 => ?_) (fun h2 => ?_)
  · have h2 : i < n := by simpa [hE.cmp, cmpR, hE.nat, hx] using h2
    conv => cbv
    refine st_str hE tStrs (h.ext hw) (nk hE i) h2 fun p s gk hsm hp => ?_
    conv => cbv
    refine st_load hE cStr hp ?_
    conv => cbv
    refine st_qb hE (ValidName_q s w' hsm) fun b hb w2 hs2 => ?_
    replace hw := hw.trans hs2.ext
    conv => cbv
    refine brn (fun g => ?_) (fun g => ?_)
    · have g := hb.1 g
      conv => cbv
      exact ⟨i + 1, by simp [Fits, lk, inc hE (show i < 9223372036854775807 by omega)], hI _ _ ⟨by omega, hw, fun t ht => by
        rw [take_succ_get gk] at ht
        rcases List.mem_append.1 ht with ht | ht
        · exact hv t ht
        · rw [List.mem_singleton.1 ht]; exact g⟩, by omega⟩
    · conv => cbv
      rw [hR]; exact ⟨hw, [], 2, none, 0, 0, rfl, .inr (.inl ⟨by omega, fun k => g (hb.2 (k s (List.mem_of_getElem? gk))), rfl, rfl⟩), strs_nil _, Own.nil⟩
  · have h2 : i = n := by simp [hE.cmp, cmpR, hE.nat, hx] at h2; omega
    subst h2
    rw [List.take_of_length_le (by omega)] at hv
    conv => cbv
    refine st_f hr (sortedNames_f (h.ext hw) (by omega)) fun v w3 hx3 ⟨r, hso, A', n', c', ev, hst, how⟩ => ?_
    subst ev
    replace how := how.mono hw.size
    replace hw := hw.trans hx3
    have hrl := hst.len
    conv => cbv
    refine st_len hE tStrs fun y hy => ?_
    conv => cbv
    refine br (fun h3 => ?_) (fun h3 => ?_)
    · have h3 : 64 < n' := by simp [hE.cmp, cmpR, hy] at h3; omega
      conv => cbv
      rw [hR]; exact ⟨hw, [], 3, none, 0, 0, rfl, .inr (.inr ⟨by omega, hv, r, hso, .inl ⟨by omega, rfl, rfl⟩⟩), strs_nil _, Own.nil⟩
    · have h3 : n' ≤ 64 := by simp [hE.cmp, cmpR, hy] at h3; omega
      conv => cbv
      rw [hR]; exact ⟨hw, r, 0, A', n', c', rfl, .inr (.inr ⟨by omega, hv, r, hso, .inr ⟨by omega, rfl, rfl⟩⟩), hst, how⟩
theorem sMakeSet_f {w : World} {A : Option Addr} {n c : Nat} {xs : List ByteArray} (h : Strs w A n c xs) (hn : n ≤ 1048576) :
    FC Try.prog 31 [.slice A n c] w fun v w' => ∃ r z A' n' c', v = .tuple ⟨[.slice A' n' c', .int .i64 z]⟩ ∧ MkSet xs r z ∧ Strs w' A' n' c' r ∧ Own w.heap.size 9 1 w' A' n' c' (r.map .string) := by
  refine FC.intro (cs := []) Try.func31 (by kernel_rfl) fun E R hE hr hR => ?_
  have hl := h.len
  conv => cbv
  refine st_len hE tStrs fun x hx => ?_
  conv => cbv
  refine br (fun h1 => ?_) (fun h1 => ?_)
  · have h1 : 400 < n := by simp [hE.cmp, cmpR, hx] at h1; omega
    conv => cbv
    rw [hR]; exact ⟨Ext.refl _, [], 1, none, 0, 0, rfl, .inl ⟨by omega, rfl, rfl⟩, strs_nil _, Own.nil⟩
  have h1 : n ≤ 400 := by simp [hE.cmp, cmpR, hx] at h1; omega
  conv => cbv
  refine st_len hE tStrs fun x hx => ?_
  conv => cbv
  refine loop_rule hr (fun (i : Nat) w' => i ≤ n ∧ Ext w w' ∧ ∀ s ∈ xs.take i, validName s) (fun i => [(0, .slice A n c), (10, .slice A n c), (11, .int .i64 x), (12, .int .i64 (E.nat i))]) (fun i => n - i) 0
    (by simp [Fits, lk, hE.nat]) ⟨by simp, Ext.refl _, by simp⟩ ?_
  rintro I hI i w' ⟨hi, hw, hv⟩
  conv => cbv
  refine br (fun h2 => ?_) (fun h2 => ?_)
  · have h2 : i < n := by simpa [hE.cmp, cmpR, hE.nat, hx] using h2
    conv => cbv
    refine st_str hE tStrs (h.ext hw) (nk hE i) h2 fun p s gk hsm hp => ?_
    conv => cbv
    refine st_load hE cStr hp ?_
    conv => cbv
    refine st_qb hE (sValidName_q s w' hsm) fun b hb w2 hs2 => ?_
    replace hw := hw.trans hs2.ext
    conv => cbv
    refine brn (fun g => ?_) (fun g => ?_)
    · have g := hb.1 g
      conv => cbv
      exact ⟨i + 1, by simp [Fits, lk, inc hE (show i < 9223372036854775807 by omega)], hI _ _ ⟨by omega, hw, fun t ht => by
        rw [take_succ_get gk] at ht
        rcases List.mem_append.1 ht with ht | ht
        · exact hv t ht
        · rw [List.mem_singleton.1 ht]; exact g⟩, by omega⟩
    · conv => cbv
      rw [hR]; exact ⟨hw, [], 2, none, 0, 0, rfl, .inr (.inl ⟨by omega, fun k => g (hb.2 (k s (List.mem_of_getElem? gk))), rfl, rfl⟩), strs_nil _, Own.nil⟩
  · have h2 : i = n := by simp [hE.cmp, cmpR, hE.nat, hx] at h2; omega
    subst h2
    rw [List.take_of_length_le (by omega)] at hv
    conv => cbv
    refine st_f hr (l1sorted_f (h.ext hw) (by omega)) fun v w3 hx3 ⟨r, hso, A', n', c', ev, hst, how⟩ => ?_
    subst ev
    replace how := how.mono hw.size
    replace hw := hw.trans hx3
    have hrl := hst.len
    conv => cbv
    refine st_len hE tStrs fun y hy => ?_
    conv => cbv
    refine br (fun h3 => ?_) (fun h3 => ?_)
    · have h3 : 64 < n' := by simp [hE.cmp, cmpR, hy] at h3; omega
      conv => cbv
      rw [hR]; exact ⟨hw, [], 3, none, 0, 0, rfl, .inr (.inr ⟨by omega, hv, r, hso, .inl ⟨by omega, rfl, rfl⟩⟩), strs_nil _, Own.nil⟩
    · have h3 : n' ≤ 64 := by simp [hE.cmp, cmpR, hy] at h3; omega
      conv => cbv
      rw [hR]; exact ⟨hw, r, 0, A', n', c', rfl, .inr (.inr ⟨by omega, hv, r, hso, .inr ⟨by omega, rfl, rfl⟩⟩), hst, how⟩
theorem lawMakeSet (A : Option Addr) (n c : Nat) (xs : List ByteArray) (w : World) (h : Strs w A n c xs) : Law Try.prog 10 [.slice A n c] w := by
  refine FC.intro (cs := []) Try.func10 (by kernel_rfl) fun E R hE hr hR => ?_
  conv => cbv
  refine st_qi hE (szStringS_q h 1048576 (by omega) (by omega)) fun l hl w1 hs1 => ?_
  have hx := hs1.ext
  conv => cbv
  refine br (fun _ => ?_) (fun g => ?_)
  · conv => cbv
    rw [hR]; exact ⟨hx, rfl⟩
  have g : 0 ≤ l := by simpa [hE.cmp, cmpR] using g
  have hn := room_bulk h.len (by omega : 0 ≤ room 1048576 (bulk xs))
  rw [← hl] at hn
  have l1 := h.len
  conv => cbv
  refine st_f hr (toStringS_f (h.ext hx) (by omega)) fun v w3 hx3 ⟨A3, n3, c3, ev, h3, _⟩ => ?_
  subst ev
  have e3 := h3.len
  have hx := hx.trans hx3
  conv => cbv
  refine st_f hr (sMakeSet_f h3 (by omega)) fun v w5 hx5 ⟨r, z, A5, n5, c5, ev, hop, h5, o5⟩ => ?_
  subst ev
  have hx := hx.trans hx5
  have k5 := hx.size
  conv => cbv
  refine st_f hr (toStringS_f (h.ext hx) (by omega)) fun v w6 hx6 ⟨A6, n6, c6, ev, h6, o6⟩ => ?_
  subst ev
  have e6 := h6.len
  have a56 := (o5.apart o6 (Nat.le_refl _)).1
  have hx := hx.trans hx6
  have k7 := hx.size
  conv => cbv
  refine st_f hr (MakeSet_f h6 (by omega)) fun v w8 hx8 ⟨r', z', A8, n8, c8, ev, hop', h8, o8⟩ => ?_
  subst ev
  obtain ⟨rfl, rfl⟩ := hop.same hop'
  clear hop'
  have e8 := h8.len
  have lr := hop.len
  have a58 := ((o5.bel hx6).apart o8 (Nat.le_refl _)).1
  have a68 := (o6.apart o8 (Nat.le_refl _)).2
  have sr := h8.small
  have hx := hx.trans hx8
  have q5 := (o5.bel hx6).bel hx8
  have q6 := (o6.mono k5).bel hx8
  have q8 := o8.mono k7
  clear h3 o5 o6 o8
  have ezz : E.cmp .neq z z = false := by rw [hE.cmp]; simp [cmpR]
  conv => cbv
  refine st_qb hE (eqStringS_q h8 (h5.ext (hx6.trans hx8))) fun v hv w9 hs9 => ?_
  obtain rfl : v = true := hv.2 rfl
  have hx := hx.trans hs9.ext
  have hy := hs9.ext
  conv => cbv
  simp only [ezz]
  conv => cbv
  refine st_f hr (toStringS_f (h.ext hx) (by omega)) fun v w10 hx10 ⟨A10, n10, c10, ev, h10, _⟩ => ?_
  subst ev
  have hx := hx.trans hx10
  have hy := hy.trans hx10
  conv => cbv
  refine st_qb hE (eqStringS_q (h6.ext (hx8.trans hy)) h10) fun v hv w11 hs11 => ?_
  obtain rfl : v = true := hv.2 rfl
  have hx := hx.trans hs11.ext
  have hy := hy.trans hs11.ext
  replace q5 := q5.bel hy
  replace q6 := q6.bel hy
  replace q8 := q8.bel hy
  clear h5 h6 h8 h10 hy
  conv => cbv
  refine st_g hr (markStringS_g q6 1 (by omega) (by omega)) fun v w14 ⟨ev, _, hw⟩ => ?_
  subst ev
  replace hx := hx.then (hw.bel q6 hx.size)
  clear q6
  replace q5 := q5.wr hw a56
  replace q8 := q8.wr hw a68
  obtain ⟨z1, hz1⟩ : ∃ z : Int, z = 1 + (n6 : Int) := ⟨_, rfl⟩
  rw [← hz1]
  have ez : E.cmp .lss z1 0 = false := by rw [hE.cmp]; simp [cmpR]; omega
  conv => cbv
  simp only [ez]
  conv => cbv
  refine st_qb hE (eqStringS_q (q8.strs sr) (q5.strs sr)) fun v hv w16 hs16 => ?_
  obtain rfl : v = true := hv.2 rfl
  have hx := hx.trans hs16.ext
  replace q5 := q5.bel hs16.ext
  replace q8 := q8.bel hs16.ext
  conv => cbv
  simp only [ezz]
  conv => cbv
  refine st_g hr (markStringS_g q8 1 (by omega) (by omega)) fun v w17 ⟨ev, q8', hw⟩ => ?_
  subst ev
  replace hx := hx.then (hw.bel q8 hx.size)
  clear q8
  replace q5 := q5.wr hw a58
  have s8 := q8'.strs (marks_small (by omega))
  clear q8'
  obtain ⟨z3, hz3⟩ : ∃ z : Int, z = 1 + (n8 : Int) := ⟨_, rfl⟩
  rw [← hz3]
  conv => cbv
  refine st_v hr (heldStringS_v s8 (by omega) (by omega)) fun w18 hx18 => ?_
  rw [← hz3]
  have hx := hx.trans hx18
  replace q5 := q5.bel hx18
  replace s8 := s8.ext hx18
  have ez : E.cmp .lss z3 0 = false := by rw [hE.cmp]; simp [cmpR]; omega
  have ez2 : E.cmp .neq z3 z3 = false := by rw [hE.cmp]; simp [cmpR]
  conv => cbv
  simp only [ez]
  conv => cbv
  simp only [ez2]
  conv => cbv
  refine st_f hr (toStringS_f (h.ext hx) (by omega)) fun v w19 hx19 ⟨A19, n19, c19, ev, h19, _⟩ => ?_
  subst ev
  have e19 := h19.len
  have hx := hx.trans hx19
  conv => cbv
  refine st_f hr (MakeSet_f h19 (by omega)) fun v w21 hx21 ⟨r', z', A21, n21, c21, ev, hop', h21, _⟩ => ?_
  subst ev
  obtain ⟨rfl, rfl⟩ := hop.same hop'
  have hx := hx.trans hx21
  have hy := hx19.trans hx21
  conv => cbv
  refine st_qb hE (eqStringS_q h21 ((q5.bel hy).strs sr)) fun v hv w22 hs22 => ?_
  obtain rfl : v = true := hv.2 rfl
  have hx := hx.trans hs22.ext
  have hy := hy.trans hs22.ext
  conv => cbv
  simp only [ezz]
  conv => cbv
  refine st_v hr (heldStringS_v (s8.ext hy) (by omega) (by omega)) fun w23 hx23 => ?_
  rw [← hz3]
  conv => cbv
  simp only [ez]
  conv => cbv
  simp only [ez2]
  conv => cbv
  rw [hR]; exact ⟨hx.trans hx23, rfl⟩
end Go.Proofs.Ytpphichjabjodaa
