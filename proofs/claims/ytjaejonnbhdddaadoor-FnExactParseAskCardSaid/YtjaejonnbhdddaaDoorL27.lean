/- The law FnExactParseAsk. -/
import Derived.Test.YtjaejonnbhdddaaDoorL26
namespace Go.Proofs.YtjaejonnbhdddaaDoor
open Go.Eng
set_option linter.unusedVariables false
set_option linter.unusedSimpArgs false
theorem ParseOf.len {t cl us : ByteArray} {o : Bool} {lv : Int} {xs : List ByteArray} (h : ParseOf t o cl us lv xs) : xs.length ≤ 64 := by
  rcases h with ⟨_, _, _, _, _, _, L, _, hL⟩ | ⟨_, _, _, _, rfl, _⟩
  · exact hL.set.2.2
  · exact Nat.zero_le _
theorem markAsk_g {w : World} {B : Nat} {cl us : ByteArray} {lv : Int} {A : Option Addr} {n c : Nat} {xs : List ByteArray} (h : Own B 9 1 w A n c (xs.map .string)) (k : Int) (hk : 0 ≤ k) (hkn : k + n < 9223372036854775807) :
    GC Tryd.prog 22 [askV cl us lv A n c, .int .i64 k] w fun v w' => v = .int .i64 (k + n) ∧ Own B 9 1 w' A n c ((marks k n).map .string) ∧ ∃ w1, Ext w w1 ∧ Wr A w1 w' := by
  refine GC.intro (cs := []) Tryd.func22 (by kernel_rfl) fun E R hE hr hR => ?_
  conv => cbv
  refine st_box hr fun a w1 hx ha0 => ?_
  have ha := ha0 _ (Nat.le_refl _)
  obtain ⟨z3, hz3⟩ : ∃ z : Int, z = k + (n : Int) := ⟨_, rfl⟩
  conv => cbv
  (refine st_fld hE fK3 fun pf hpf => ?_; (conv => cbv); refine st_load hE cStrsa (by rw [hpf]; exact (ha).at _ _ rfl) ?_; clear hpf; (conv => cbv))
  refine st_g hr (markStringS_g (h.bel hx) k hk hkn) fun v w2 ⟨ev, ho, hw⟩ => ?_
  subst ev
  rw [← hz3]
  conv => cbv
  rw [hR]; exact ⟨by rw [hz3]; rfl, ho, w1, hx, hw⟩
theorem heldAsk_f {w : World} {cl us : ByteArray} {lv : Int} {A : Option Addr} {n c : Nat} {k : Int} (h : Strs w A n c (marks k n)) (hk : 0 ≤ k) (hkn : k + n < 9223372036854775807) :
    FC Tryd.prog 23 [askV cl us lv A n c, .int .i64 k] w fun v _ => v = .int .i64 (k + n) := by
  refine FC.intro (cs := []) Tryd.func23 (by kernel_rfl) fun E R hE hr hR => ?_
  conv => cbv
  refine st_box hr fun a w1 hx ha0 => ?_
  have ha := ha0 _ (Nat.le_refl _)
  obtain ⟨z3, hz3⟩ : ∃ z : Int, z = k + (n : Int) := ⟨_, rfl⟩
  have ez : E.cmp .lss z3 0 = false := by rw [hE.cmp]; simp [cmpR]; omega
  conv => cbv
  (refine st_fld hE fK3 fun pf hpf => ?_; (conv => cbv); refine st_load hE cStrsa (by rw [hpf]; exact (ha).at _ _ rfl) ?_; clear hpf; (conv => cbv))
  refine st_v hr (heldStringS_v (h.ext hx) hk hkn) fun w2 hx2 => ?_
  rw [← hz3]
  conv => cbv
  simp only [ez]
  conv => cbv
  rw [hR]; exact ⟨hx.trans hx2, by rw [hz3]; rfl⟩
theorem lawParseAsk (t : ByteArray) (w : World) (hl : LibV w) (ht0 : t.size ≤ 9223372036854775807) : Law Tryd.prog 5 [.string t] w := by
  refine FC.intro (cs := []) Tryd.func5 (by kernel_rfl) fun E R hE hr hR => ?_
  conv => cbv
  refine st_slen hE uStr fun x hx0 => ?_
  conv => cbv
  refine br (fun _ => ?_) (fun g => ?_)
  · conv => cbv
    rw [hR]; exact ⟨Ext.refl _, rfl⟩
  have ht : t.size ≤ 1048576 := by simp [hE.cmp, cmpR] at g; omega
  conv => cbv
  refine st_f hr (sParseAsk_f t ht) fun v w1 hx ⟨cl, us, lv, A1, n1, c1, xs, o, ev, hp, s1, o1⟩ => ?_
  subst ev
  have e1 := s1.len
  have e64 := hp.len
  conv => cbv
  refine st_alloc hr tIAsk rfl fun a3 w2 hx2 h30 => ?_
  have h3 := h30 _ hx.size
  have ap13 := o1.apart (h30 _ (Nat.le_refl _)) (Nat.le_refl _)
  replace o1 := o1.bel hx2
  replace hx := hx.trans hx2
  clear h30 hx2
  conv => cbv
  refine st_putS hr (by kernel_rfl) h3 (add_zero _).symm (by simp) (by simp [Value.oneCell']) fun w3 hw3 h32 => ?_
  simp only [List.take_zero, List.nil_append, List.length_cons, List.length_nil, List.drop_succ_cons, List.drop_nil, List.append_nil] at h32
  replace hx := hx.then (hw3.bel h3 hx.size)
  replace o1 := o1.wr hw3 ap13.1
  replace h3 := h32
  clear h32 hw3
  conv => cbv
  refine st_f hr (ParseAsk_f (hl.ext hx) t ht) fun v w4 hx4 ⟨cl', us', lv', A4, n4, c4, xs', o', ev, hp', s4, o4⟩ => ?_
  subst ev
  obtain ⟨rfl, rfl, rfl, rfl, rfl⟩ := hp.same hp'
  have e4 := s4.len
  have ap14 := o1.apart o4 (Nat.le_refl _)
  have ap34 := h3.apart o4 (Nat.le_refl _)
  replace o4 := o4.mono hx.size
  replace o1 := o1.bel hx4
  replace h3 := h3.bel hx4
  replace hx := hx.trans hx4
  conv => cbv
  refine st_alloc hr tIAsk rfl fun a5 w5 hx5 h50 => ?_
  have h5 := h50 _ hx.size
  have ap15 := o1.apart (h50 _ (Nat.le_refl _)) (Nat.le_refl _)
  have ap35 := h3.apart (h50 _ (Nat.le_refl _)) (Nat.le_refl _)
  have ap45 := o4.apart (h50 _ (Nat.le_refl _)) (Nat.le_refl _)
  replace o1 := o1.bel hx5
  replace h3 := h3.bel hx5
  replace o4 := o4.bel hx5
  replace hx := hx.trans hx5
  clear h50 hx5
  conv => cbv
  refine st_putS hr (by kernel_rfl) h5 (add_zero _).symm (by simp) (by simp [Value.oneCell']) fun w6 hw6 h52 => ?_
  simp only [List.take_zero, List.nil_append, List.length_cons, List.length_nil, List.drop_succ_cons, List.drop_nil, List.append_nil] at h52
  replace hx := hx.then (hw6.bel h5 hx.size)
  replace o1 := o1.wr hw6 ap15.1
  replace h3 := h3.wr hw6 ap35.1
  replace o4 := o4.wr hw6 ap45.1
  replace h5 := h52
  clear h52 hw6
  conv => cbv
  refine st_loadS hE tIAsk rfl h5.at ?_
  conv => cbv
  refine st_loadS hE tIAsk rfl h3.at ?_
  conv => cbv
  refine st_f hr (eqAsk_f (cl := cl) (us := us) (lv := lv) (cl' := cl) (us' := us) (lv' := lv) (o4.strs s4.small) (o1.strs s1.small)) fun v w7 hx7 ⟨b, ev, hb⟩ => ?_
  obtain rfl : b = true := hb.2 ⟨rfl, rfl, rfl, rfl⟩
  subst ev
  replace o1 := o1.bel hx7
  replace h3 := h3.bel hx7
  replace o4 := o4.bel hx7
  replace h5 := h5.bel hx7
  replace hx := hx.trans hx7
  conv => cbv
  refine st_bne hE uBool fun v hv => ?_
  obtain rfl : v = false := by rw [← Bool.not_eq_true, hv]; simp
  conv => cbv
  refine st_loadS hE tIAsk rfl h5.at ?_
  conv => cbv
  refine st_g hr (markAsk_g (cl := cl) (us := us) (lv := lv) o4 1 (by omega) (by omega)) fun v w8 ⟨ev, o4', wm, hxm, hwm⟩ => ?_
  subst ev
  obtain ⟨z3, hz3⟩ : ∃ z : Int, z = 1 + (n4 : Int) := ⟨_, rfl⟩
  rw [← hz3]
  replace o1 := (o1.bel hxm).wr hwm ap14.1
  replace h3 := (h3.bel hxm).wr hwm ap34.1
  replace h5 := (h5.bel hxm).wr hwm ap45.2
  replace hx := (hx.trans hxm).then (hwm.bel (o4.bel hxm) (Nat.le_trans hx.size hxm.size))
  clear o4 hwm hxm
  have s8 := o4'.strs (marks_small (by omega))
  have ez : E.cmp .lss z3 0 = false := by rw [hE.cmp]; simp [cmpR]; omega
  have ez2 : E.cmp .neq z3 z3 = false := by rw [hE.cmp]; simp [cmpR]
  conv => cbv
  refine st_loadS hE tIAsk rfl h5.at ?_
  conv => cbv
  refine st_f hr (heldAsk_f (cl := cl) (us := us) (lv := lv) s8 (by omega) (by omega)) fun v w9 hx9 ev => ?_
  rw [← hz3] at ev
  subst ev
  replace o1 := o1.bel hx9
  replace h3 := h3.bel hx9
  replace h5 := h5.bel hx9
  replace s8 := s8.ext hx9
  replace hx := hx.trans hx9
  conv => cbv
  simp only [ez]
  conv => cbv
  simp only [ez2]
  conv => cbv
  refine st_f hr (ParseAsk_f (hl.ext hx) t ht) fun v w10 hx10 ⟨cl', us', lv', A7, n7, c7, xs', o', ev, hp7, s7, o7⟩ => ?_
  subst ev
  obtain ⟨rfl, rfl, rfl, rfl, rfl⟩ := hp.same hp7
  replace o1 := o1.bel hx10
  replace h3 := h3.bel hx10
  replace h5 := h5.bel hx10
  replace s8 := s8.ext hx10
  replace o7 := o7.mono hx.size
  replace hx := hx.trans hx10
  conv => cbv
  refine st_alloc hr tIAsk rfl fun a9 w11 hx11 h90 => ?_
  have h9 := h90 _ hx.size
  have ap19 := o1.apart (h90 _ (Nat.le_refl _)) (Nat.le_refl _)
  have ap39 := h3.apart (h90 _ (Nat.le_refl _)) (Nat.le_refl _)
  have ap59 := h5.apart (h90 _ (Nat.le_refl _)) (Nat.le_refl _)
  have ap79 := o7.apart (h90 _ (Nat.le_refl _)) (Nat.le_refl _)
  have hk9 := h90 w10.heap.size (Nat.le_refl _)
  have x8 := hx11
  replace o1 := o1.bel hx11
  replace h3 := h3.bel hx11
  replace h5 := h5.bel hx11
  replace o7 := o7.bel hx11
  replace hx := hx.trans hx11
  conv => cbv
  refine st_putS hr (by kernel_rfl) h9 (add_zero _).symm (by simp) (by simp [Value.oneCell']) fun w12 hw12 h92 => ?_
  simp only [List.take_zero, List.nil_append, List.length_cons, List.length_nil, List.drop_succ_cons, List.drop_nil, List.append_nil] at h92
  have x12 : Ext w10 w12 := x8.then (hw12.bel hk9 x8.size)
  replace s8 := s8.ext x12
  replace hx := hx.then (hw12.bel h9 hx.size)
  replace o1 := o1.wr hw12 ap19.1
  replace h3 := h3.wr hw12 ap39.1
  replace h5 := h5.wr hw12 ap59.1
  replace o7 := o7.wr hw12 ap79.1
  conv => cbv
  refine st_loadS hE tIAsk rfl h92.at ?_
  conv => cbv
  refine st_loadS hE tIAsk rfl h3.at ?_
  conv => cbv
  refine st_f hr (eqAsk_f (cl := cl) (us := us) (lv := lv) (cl' := cl) (us' := us) (lv' := lv) (o7.strs s7.small) (o1.strs s1.small)) fun v w13 hx13 ⟨b, ev, hb⟩ => ?_
  obtain rfl : b = true := hb.2 ⟨rfl, rfl, rfl, rfl⟩
  subst ev
  replace h5 := h5.bel hx13
  replace s8 := s8.ext hx13
  replace hx := hx.trans hx13
  conv => cbv
  refine st_bne hE uBool fun v hv => ?_
  obtain rfl : v = false := by rw [← Bool.not_eq_true, hv]; simp
  conv => cbv
  refine st_loadS hE tIAsk rfl h5.at ?_
  conv => cbv
  refine st_f hr (heldAsk_f (cl := cl) (us := us) (lv := lv) s8 (by omega) (by omega)) fun v w14 hx14 ev => ?_
  rw [← hz3] at ev
  subst ev
  conv => cbv
  simp only [ez]
  conv => cbv
  simp only [ez2]
  conv => cbv
  rw [hR]; exact ⟨hx.trans hx14, rfl⟩
end Go.Proofs.YtjaejonnbhdddaaDoor
