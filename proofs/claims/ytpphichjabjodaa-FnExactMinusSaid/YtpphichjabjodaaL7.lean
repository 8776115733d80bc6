/- The laws of Meet and Minus (printed by gen7.py). -/
import Derived.Test.YtpphichjabjodaaL6
namespace Go.Proofs.Ytpphichjabjodaa
open Go.Eng
set_option linter.unusedVariables false
theorem lawMeet (A : Option Addr) (n c : Nat) (xs : List ByteArray) (A' : Option Addr) (n' c' : Nat) (ys : List ByteArray) (w : World) (h : Strs w A n c xs) (h' : Strs w A' n' c' ys) : Law Try.prog 8 [.slice A n c, .slice A' n' c'] w := by
  refine FC.intro (cs := []) Try.func8 (by kernel_rfl) fun E R hE hr hR => ?_
  conv => cbv
  refine st_qi hE (szStringS_q h 1048576 (by omega) (by omega)) fun l hl w1 hs1 => ?_
  have hx := hs1.ext
  conv => cbv
  refine br (fun _ => ?_) (fun g => ?_)
  · conv => cbv
    rw [hR]; exact ⟨hx, rfl⟩
  have g : 0 ≤ l := by simpa [hE.cmp, cmpR] using g
  have hn := room_bulk h.len (by omega : 0 ≤ room 1048576 (bulk xs))
  rw [← hl] at hn
  conv => cbv
  refine st_qi hE (szStringS_q (h'.ext hx) l g (by omega)) fun l' hl' w2 hs2 => ?_
  have hx := hx.trans hs2.ext
  conv => cbv
  refine br (fun _ => ?_) (fun g' => ?_)
  · conv => cbv
    rw [hR]; exact ⟨hx, rfl⟩
  have g' : 0 ≤ l' := by simpa [hE.cmp, cmpR] using g'
  have hn' := room_bulk h'.len (by omega : 0 ≤ room l (bulk ys))
  rw [← hl'] at hn'
  have l1 := h.len
  have l2 := h'.len
  conv => cbv
  refine st_f hr (toStringS_f (h.ext hx) (by omega)) fun v w3 hx3 ⟨A3, n3, c3, ev, h3, _⟩ => ?_
  subst ev
  have e3 := h3.len
  have hx := hx.trans hx3
  conv => cbv
  refine st_f hr (toStringS_f (h'.ext hx) (by omega)) fun v w4 hx4 ⟨A4, n4, c4, ev, h4, _⟩ => ?_
  subst ev
  have e4 := h4.len
  have hx := hx.trans hx4
  conv => cbv
  refine st_f hr (sMeet_f (h3.ext hx4) h4 (by omega) (by omega)) fun v w5 hx5 ⟨r, hop, A5, n5, c5, ev, h5, o5⟩ => ?_
  subst ev
  have hx := hx.trans hx5
  have k5 := hx.size
  conv => cbv
  refine st_f hr (toStringS_f (h.ext hx) (by omega)) fun v w6 hx6 ⟨A6, n6, c6, ev, h6, o6⟩ => ?_
  subst ev
  have e6 := h6.len
  have a56 := (o5.apart o6 (Nat.le_refl _)).1
  have hx := hx.trans hx6
  have k6 := hx.size
  conv => cbv
  refine st_f hr (toStringS_f (h'.ext hx) (by omega)) fun v w7 hx7 ⟨A7, n7, c7, ev, h7, o7⟩ => ?_
  subst ev
  have e7 := h7.len
  have a57 := ((o5.bel hx6).apart o7 (Nat.le_refl _)).1
  have a67 := o6.apart o7 (Nat.le_refl _)
  have hx := hx.trans hx7
  have k7 := hx.size
  conv => cbv
  refine st_f hr (Meet_f (h6.ext hx7) h7 (by omega) (by omega)) fun v w8 hx8 ⟨r', hop', A8, n8, c8, ev, h8, o8⟩ => ?_
  subst ev
  obtain rfl := hop.same hop'
  clear hop'
  have e8 := h8.len
  have lr := hop.len
  have a58 := ((o5.bel (hx6.trans hx7)).apart o8 (Nat.le_refl _)).1
  have a68 := ((o6.bel hx7).apart o8 (Nat.le_refl _)).2
  have a78 := (o7.apart o8 (Nat.le_refl _)).2
  have sr := h8.small
  have hx := hx.trans hx8
  have q5 := ((o5.bel hx6).bel hx7).bel hx8
  have q6 := ((o6.mono k5).bel hx7).bel hx8
  have q7 := (o7.mono k6).bel hx8
  have q8 := o8.mono k7
  clear h3 h4 o5 o6 o7 o8
  conv => cbv
  refine st_qb hE (eqStringS_q h8 (h5.ext ((hx6.trans hx7).trans hx8))) fun v hv w9 hs9 => ?_
  obtain rfl : v = true := hv.2 rfl
  have hx := hx.trans hs9.ext
  have hy := hs9.ext
  conv => cbv
  refine st_f hr (toStringS_f (h.ext hx) (by omega)) fun v w10 hx10 ⟨A10, n10, c10, ev, h10, _⟩ => ?_
  subst ev
  have hx := hx.trans hx10
  have hy := hy.trans hx10
  conv => cbv
  refine st_qb hE (eqStringS_q (h6.ext ((hx7.trans hx8).trans hy)) h10) fun v hv w11 hs11 => ?_
  obtain rfl : v = true := hv.2 rfl
  have hx := hx.trans hs11.ext
  have hy := hy.trans hs11.ext
  conv => cbv
  refine st_f hr (toStringS_f (h'.ext hx) (by omega)) fun v w12 hx12 ⟨A12, n12, c12, ev, h12, _⟩ => ?_
  subst ev
  have hx := hx.trans hx12
  have hy := hy.trans hx12
  conv => cbv
  refine st_qb hE (eqStringS_q (h7.ext (hx8.trans hy)) h12) fun v hv w13 hs13 => ?_
  obtain rfl : v = true := hv.2 rfl
  have hx := hx.trans hs13.ext
  have hy := hy.trans hs13.ext
  replace q5 := q5.bel hy
  replace q6 := q6.bel hy
  replace q7 := q7.bel hy
  replace q8 := q8.bel hy
  clear h5 h6 h7 h8 h10 h12 hy
  conv => cbv
  refine st_g hr (markStringS_g q6 1 (by omega) (by omega)) fun v w14 ⟨ev, _, hw⟩ => ?_
  subst ev
  replace hx := hx.then (hw.bel q6 hx.size)
  clear q6
  replace q5 := q5.wr hw a56
  replace q7 := q7.wr hw a67.2
  replace q8 := q8.wr hw a68
  obtain ⟨z1, hz1⟩ : ∃ z : Int, z = 1 + (n6 : Int) := ⟨_, rfl⟩
  rw [← hz1]
  conv => cbv
  refine st_g hr (markStringS_g q7 z1 (by omega) (by omega)) fun v w15 ⟨ev, _, hw⟩ => ?_
  subst ev
  replace hx := hx.then (hw.bel q7 hx.size)
  clear q7
  replace q5 := q5.wr hw a57
  replace q8 := q8.wr hw a78
  obtain ⟨z2, hz2⟩ : ∃ z : Int, z = z1 + (n7 : Int) := ⟨_, rfl⟩
  rw [← hz2]
  conv => cbv
  have ez : E.cmp .lss z2 0 = false := by rw [hE.cmp]; simp [cmpR]; omega
  simp only [ez]
  conv => cbv
  refine st_qb hE (eqStringS_q (q8.strs sr) (q5.strs sr)) fun v hv w16 hs16 => ?_
  obtain rfl : v = true := hv.2 rfl
  have hx := hx.trans hs16.ext
  replace q5 := q5.bel hs16.ext
  replace q8 := q8.bel hs16.ext
  conv => cbv
  refine st_g hr (markStringS_g q8 1 (by omega) (by omega)) fun v w17 ⟨ev, q8', hw⟩ => ?_
  subst ev
  replace hx := hx.then (hw.bel q8 hx.size)
  clear q8
  replace q5 := q5.wr hw a58
  have s8 := q8'.strs (marks_small (by omega))
  clear q8'
  obtain ⟨z3, hz3⟩ : ∃ z : Int, z = 1 + (n8 : Int) := ⟨_, rfl⟩
  rw [← hz3]
  conv => cbv
  refine st_v hr (heldStringS_v s8 (by omega) (by omega)) fun w18 hx18 => ?_
  rw [← hz3]
  have hx := hx.trans hx18
  replace q5 := q5.bel hx18
  replace s8 := s8.ext hx18
  have ez : E.cmp .lss z3 0 = false := by rw [hE.cmp]; simp [cmpR]; omega
  have ez2 : E.cmp .neq z3 z3 = false := by rw [hE.cmp]; simp [cmpR]
  conv => cbv
  simp only [ez]
  conv => cbv
  simp only [ez2]
  conv => cbv
  refine st_f hr (toStringS_f (h.ext hx) (by omega)) fun v w19 hx19 ⟨A19, n19, c19, ev, h19, _⟩ => ?_
  subst ev
  have e19 := h19.len
  have hx := hx.trans hx19
  conv => cbv
  refine st_f hr (toStringS_f (h'.ext hx) (by omega)) fun v w20 hx20 ⟨A20, n20, c20, ev, h20, _⟩ => ?_
  subst ev
  have e20 := h20.len
  have hx := hx.trans hx20
  conv => cbv
  refine st_f hr (Meet_f (h19.ext hx20) h20 (by omega) (by omega)) fun v w21 hx21 ⟨r', hop', A21, n21, c21, ev, h21, _⟩ => ?_
  subst ev
  obtain rfl := hop.same hop'
  have hx := hx.trans hx21
  have hy := (hx19.trans hx20).trans hx21
  conv => cbv
  refine st_qb hE (eqStringS_q h21 ((q5.bel hy).strs sr)) fun v hv w22 hs22 => ?_
  obtain rfl : v = true := hv.2 rfl
  have hx := hx.trans hs22.ext
  have hy := hy.trans hs22.ext
  conv => cbv
  refine st_v hr (heldStringS_v (s8.ext hy) (by omega) (by omega)) fun w23 hx23 => ?_
  rw [← hz3]
  conv => cbv
  simp only [ez]
  conv => cbv
  simp only [ez2]
  conv => cbv
  rw [hR]; exact ⟨hx.trans hx23, rfl⟩
theorem lawMinus (A : Option Addr) (n c : Nat) (xs : List ByteArray) (A' : Option Addr) (n' c' : Nat) (ys : List ByteArray) (w : World) (h : Strs w A n c xs) (h' : Strs w A' n' c' ys) : Law Try.prog 9 [.slice A n c, .slice A' n' c'] w := by
  refine FC.intro (cs := []) Try.func9 (by kernel_rfl) fun E R hE hr hR => ?_
  conv => cbv
  refine st_qi hE (szStringS_q h 1048576 (by omega) (by omega)) fun l hl w1 hs1 => ?_
  have hx := hs1.ext
  conv => cbv
  refine br (fun _ => ?_) (fun g => ?_)
  · conv => cbv
    rw [hR]; exact ⟨hx, rfl⟩
  have g : 0 ≤ l := by simpa [hE.cmp, cmpR] using g
  have hn := room_bulk h.len (by omega : 0 ≤ room 1048576 (bulk xs))
  rw [← hl] at hn
  conv => cbv
  refine st_qi hE (szStringS_q (h'.ext hx) l g (by omega)) fun l' hl' w2 hs2 => ?_
  have hx := hx.trans hs2.ext
  conv => cbv
  refine br (fun _ => ?_) (fun g' => ?_)
  · conv => cbv
    rw [hR]; exact ⟨hx, rfl⟩
  have g' : 0 ≤ l' := by simpa [hE.cmp, cmpR] using g'
  have hn' := room_bulk h'.len (by omega : 0 ≤ room l (bulk ys))
  rw [← hl'] at hn'
  have l1 := h.len
  have l2 := h'.len
  conv => cbv
  refine st_f hr (toStringS_f (h.ext hx) (by omega)) fun v w3 hx3 ⟨A3, n3, c3, ev, h3, _⟩ => ?_
  subst ev
  have e3 := h3.len
  have hx := hx.trans hx3
  conv => cbv
  refine st_f hr (toStringS_f (h'.ext hx) (by omega)) fun v w4 hx4 ⟨A4, n4, c4, ev, h4, _⟩ => ?_
  subst ev
  have e4 := h4.len
  have hx := hx.trans hx4
  conv => cbv
  refine st_f hr (sMinus_f (h3.ext hx4) h4 (by omega) (by omega)) fun v w5 hx5 ⟨r, hop, A5, n5, c5, ev, h5, o5⟩ => ?_
  subst ev
  have hx := hx.trans hx5
  have k5 := hx.size
  conv => cbv
  refine st_f hr (toStringS_f (h.ext hx) (by omega)) fun v w6 hx6 ⟨A6, n6, c6, ev, h6, o6⟩ => ?_
  subst ev
  have e6 := h6.len
  have a56 := (o5.apart o6 (Nat.le_refl _)).1
  have hx := hx.trans hx6
  have k6 := hx.size
  conv => cbv
  refine st_f hr (toStringS_f (h'.ext hx) (by omega)) fun v w7 hx7 ⟨A7, n7, c7, ev, h7, o7⟩ => ?_
  subst ev
  have e7 := h7.len
  have a57 := ((o5.bel hx6).apart o7 (Nat.le_refl _)).1
  have a67 := o6.apart o7 (Nat.le_refl _)
  have hx := hx.trans hx7
  have k7 := hx.size
  conv => cbv
  refine st_f hr (Minus_f (h6.ext hx7) h7 (by omega) (by omega)) fun v w8 hx8 ⟨r', hop', A8, n8, c8, ev, h8, o8⟩ => ?_
  subst ev
  obtain rfl := hop.same hop'
  clear hop'
  have e8 := h8.len
  have lr := hop.len
  have a58 := ((o5.bel (hx6.trans hx7)).apart o8 (Nat.le_refl _)).1
  have a68 := ((o6.bel hx7).apart o8 (Nat.le_refl _)).2
  have a78 := (o7.apart o8 (Nat.le_refl _)).2
  have sr := h8.small
  have hx := hx.trans hx8
  have q5 := ((o5.bel hx6).bel hx7).bel hx8
  have q6 := ((o6.mono k5).bel hx7).bel hx8
  have q7 := (o7.mono k6).bel hx8
  have q8 := o8.mono k7
  clear h3 h4 o5 o6 o7 o8
  conv => cbv
  refine st_qb hE (eqStringS_q h8 (h5.ext ((hx6.trans hx7).trans hx8))) fun v hv w9 hs9 => ?_
  obtain rfl : v = true := hv.2 rfl
  have hx := hx.trans hs9.ext
  have hy := hs9.ext
  conv => cbv
  refine st_f hr (toStringS_f (h.ext hx) (by omega)) fun v w10 hx10 ⟨A10, n10, c10, ev, h10, _⟩ => ?_
  subst ev
  have hx := hx.trans hx10
  have hy := hy.trans hx10
  conv => cbv
  refine st_qb hE (eqStringS_q (h6.ext ((hx7.trans hx8).trans hy)) h10) fun v hv w11 hs11 => ?_
  obtain rfl : v = true := hv.2 rfl
  have hx := hx.trans hs11.ext
  have hy := hy.trans hs11.ext
  conv => cbv
  refine st_f hr (toStringS_f (h'.ext hx) (by omega)) fun v w12 hx12 ⟨A12, n12, c12, ev, h12, _⟩ => ?_
  subst ev
  have hx := hx.trans hx12
  have hy := hy.trans hx12
  conv => cbv
  refine st_qb hE (eqStringS_q (h7.ext (hx8.trans hy)) h12) fun v hv w13 hs13 => ?_
  obtain rfl : v = true := hv.2 rfl
  have hx := hx.trans hs13.ext
  have hy := hy.trans hs13.ext
  replace q5 := q5.bel hy
  replace q6 := q6.bel hy
  replace q7 := q7.bel hy
  replace q8 := q8.bel hy
  clear h5 h6 h7 h8 h10 h12 hy
  conv => cbv
  refine st_g hr (markStringS_g q6 1 (by omega) (by omega)) fun v w14 ⟨ev, _, hw⟩ => ?_
  subst ev
  replace hx := hx.then (hw.bel q6 hx.size)
  clear q6
  replace q5 := q5.wr hw a56
  replace q7 := q7.wr hw a67.2
  replace q8 := q8.wr hw a68
  obtain ⟨z1, hz1⟩ : ∃ z : Int, z = 1 + (n6 : Int) := ⟨_, rfl⟩
  rw [← hz1]
  conv => cbv
  refine st_g hr (markStringS_g q7 z1 (by omega) (by omega)) fun v w15 ⟨ev, _, hw⟩ => ?_
  subst ev
  replace hx := hx.then (hw.bel q7 hx.size)
  clear q7
  replace q5 := q5.wr hw a57
  replace q8 := q8.wr hw a78
  obtain ⟨z2, hz2⟩ : ∃ z : Int, z = z1 + (n7 : Int) := ⟨_, rfl⟩
  rw [← hz2]
  conv => cbv
  have ez : E.cmp .lss z2 0 = false := by rw [hE.cmp]; simp [cmpR]; omega
  simp only [ez]
  conv => cbv
  refine st_qb hE (eqStringS_q (q8.strs sr) (q5.strs sr)) fun v hv w16 hs16 => ?_
  obtain rfl : v = true := hv.2 rfl
  have hx := hx.trans hs16.ext
  replace q5 := q5.bel hs16.ext
  replace q8 := q8.bel hs16.ext
  conv => cbv
  refine st_g hr (markStringS_g q8 1 (by omega) (by omega)) fun v w17 ⟨ev, q8', hw⟩ => ?_
  subst ev
  replace hx := hx.then (hw.bel q8 hx.size)
  clear q8
  replace q5 := q5.wr hw a58
  have s8 := q8'.strs (marks_small (by omega))
  clear q8'
  obtain ⟨z3, hz3⟩ : ∃ z : Int, z = 1 + (n8 : Int) := ⟨_, rfl⟩
  rw [← hz3]
  conv => cbv
  refine st_v hr (heldStringS_v s8 (by omega) (by omega)) fun w18 hx18 => ?_
  rw [← hz3]
  have hx := hx.trans hx18
  replace q5 := q5.bel hx18
  replace s8 := s8.ext hx18
  have ez : E.cmp .lss z3 0 = false := by rw [hE.cmp]; simp [cmpR]; omega
  have ez2 : E.cmp .neq z3 z3 = false := by rw [hE.cmp]; simp [cmpR]
  conv => cbv
  simp only [ez]
  conv => cbv
  simp only [ez2]
  conv => cbv
  refine st_f hr (toStringS_f (h.ext hx) (by omega)) fun v w19 hx19 ⟨A19, n19, c19, ev, h19, _⟩ => ?_
  subst ev
  have e19 := h19.len
  have hx := hx.trans hx19
  conv => cbv
  refine st_f hr (toStringS_f (h'.ext hx) (by omega)) fun v w20 hx20 ⟨A20, n20, c20, ev, h20, _⟩ => ?_
  subst ev
  have e20 := h20.len
  have hx := hx.trans hx20
  conv => cbv
  refine st_f hr (Minus_f (h19.ext hx20) h20 (by omega) (by omega)) fun v w21 hx21 ⟨r', hop', A21, n21, c21, ev, h21, _⟩ => ?_
  subst ev
  obtain rfl := hop.same hop'
  have hx := hx.trans hx21
  have hy := (hx19.trans hx20).trans hx21
  conv => cbv
  refine st_qb hE (eqStringS_q h21 ((q5.bel hy).strs sr)) fun v hv w22 hs22 => ?_
  obtain rfl : v = true := hv.2 rfl
  have hx := hx.trans hs22.ext
  have hy := hy.trans hs22.ext
  conv => cbv
  refine st_v hr (heldStringS_v (s8.ext hy) (by omega) (by omega)) fun w23 hx23 => ?_
  rw [← hz3]
  conv => cbv
  simp only [ez]
  conv => cbv
  simp only [ez2]
  conv => cbv
  rw [hR]; exact ⟨hx.trans hx23, rfl⟩
end Go.Proofs.Ytpphichjabjodaa
