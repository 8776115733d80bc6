/- The law FnExactValidPolicy walked. -/
import Derived.Test.YtmbonalhbibppaaDoorP16
namespace Go.Proofs.YtmbonalhbibppaaDoor
open Go.Eng
set_option linter.unusedVariables false
set_option linter.unusedSimpArgs false
set_option maxHeartbeats 2000000 in
theorem lawValidPolicy {A A2 : Option Addr} {n c n2 c2 : Nat} {nv : List PN} {sv : List PS} (w : World) (hT : STab w 5 words ∧ Tab w 6 constF) (h : PolR w A n A2 n2 nv sv) (hn : n ≤ 9223372036854775807) (hn2 : n2 ≤ 9223372036854775807) :
    Law Tryd.prog 3 [polV A n c A2 n2 c2] w := by
  refine FC.intro (cs := []) Tryd.func3 (by kernel_rfl) fun E R hE hr hR => ?_
  conv => cbv
  refine st_box hr fun a0 w1 hx hb0 => ?_
  have hb := hb0 _ (Nat.le_refl _)
  clear hb0
  conv => cbv
  refine st_loadS hE tLPol rfl hb.at ?_
  conv => cbv
  refine st_f hr (szPolicy_f (c := c) (c2 := c2) (h.ext hx) hn hn2) fun v w2 hx2 ⟨r, ev, hsz⟩ => ?_
  subst ev
  replace hb := hb.bel hx2
  replace hx := hx.trans hx2
  clear hx2
  conv => cbv
  refine br (fun g => ?_) (fun g => ?_)
  · conv => cbv
    rw [hR]; exact ⟨hx, rfl⟩
  have g : 0 ≤ r := by simpa [hE.cmp, cmpR] using g
  have hwt := hsz g
  conv => cbv
  refine st_loadS hE tLPol rfl hb.at ?_
  conv => cbv
  refine st_f hr (toPolicy_f (c := c) (c2 := c2) (h.ext hx) hwt) fun v w3 hx3 ⟨A3, c3, A4, c4, ev, h3⟩ => ?_
  subst ev
  replace hb := hb.bel hx3
  replace hx := hx.trans hx3
  clear hx3
  conv => cbv
  refine st_f hr (specValidPolicy_f (c := c3) (c2 := c4) h3 hn hn2) fun v w4 hx4 ⟨v0, ev, hv0⟩ => ?_
  subst ev
  replace hb := hb.bel hx4
  replace hx := hx.trans hx4
  clear hx4 h3
  conv => cbv
  refine st_loadS hE tLPol rfl hb.at ?_
  conv => cbv
  refine st_f hr (toPolicy_f (c := c) (c2 := c2) (h.ext hx) hwt) fun v w5 hx5 ⟨A5, c5, A6, c6, ev, h5⟩ => ?_
  subst ev
  replace hb := hb.bel hx5
  replace hx := hx.trans hx5
  clear hx5
  conv => cbv
  refine st_alloc hr tIPol rfl fun q w6 hx6 hq0 => ?_
  have hq := hq0 _ hx.size
  have hbq := (hb.apart (hq0 _ (Nat.le_refl _)) (Nat.le_refl _)).1
  conv => cbv
  refine st_putS hr (by kernel_rfl) hq (add_zero _).symm (by simp) (by simp [Value.oneCell']) fun w7 hw7 hq2 => ?_
  simp only [List.take_zero, List.nil_append, List.length_cons, List.length_nil, List.drop_succ_cons, List.drop_nil, List.append_nil] at hq2
  replace h5 := h5.ext (hx6.then (hw7.bel (hq0 _ (Nat.le_refl _)) hx6.size))
  replace hb := (hb.bel hx6).wr hw7 hbq
  replace hx := hx.trans (hx6.then (hw7.bel (hq0 _ (Nat.le_refl _)) hx6.size))
  clear hx6 hq0 hw7 hq
  conv => cbv
  refine st_loadS hE tIPol rfl hq2.at ?_
  conv => cbv
  refine st_f hr (implValidPolicy_f (c := c5) (c2 := c6) (hT.2.ext hx) (hT.1.ext hx) h5 hn hn2) fun v w8 hx8 ⟨v1, ev, hv1⟩ => ?_
  subst ev
  obtain rfl : v1 = v0 := Bool.eq_iff_iff.2 (hv1.trans hv0.symm)
  replace hb := hb.bel hx8
  replace hq2 := hq2.bel hx8
  replace h5 := h5.ext hx8
  replace hx := hx.trans hx8
  clear hx8
  conv => cbv
  refine st_bne hE uBool fun v2 hv2 => ?_
  cases v2 with
  | true => exact absurd Iff.rfl (hv2.1 rfl)
  | false =>
  conv => cbv
  refine draw_h [0, 1] [(2, false), (3, false), (4, true)] hr fol (by kernel_rfl) fun E' hE' w9 hs9 S hS => ?_
  replace hb := hb.bel hs9.ext
  replace hq2 := hq2.bel hs9.ext
  replace h5 := h5.ext hs9.ext
  replace hx := hx.trans hs9.ext
  conv => cbv
  refine st_loadS hE' tIPol rfl hq2.at ?_
  conv => cbv
  refine st_loadS hE' tLPol rfl hb.at ?_
  conv => cbv
  refine st_f hr (toPolicy_f (c := c) (c2 := c2) (h.ext hx) hwt) fun v w10 hx10 ⟨A7, c7, A8, c8, ev, h7⟩ => ?_
  subst ev
  refine ⟨hS _ hx10, ?_⟩
  conv => cbv
  refine st_f hr (eqPolicy_f (c := c5) (c2 := c6) (c3 := c7) (c4 := c8) (h5.ext hx10) h7 hn hn2) fun v w11 hx11 ev => ?_
  subst ev
  refine ⟨hS _ (hx10.trans hx11), ?_⟩
  conv => cbv
  rw [hR]; exact ⟨(hx.trans hx10).trans hx11, rfl⟩
end Go.Proofs.YtmbonalhbibppaaDoor
