/- The law FnExactVerify walked. -/
import Derived.Test.YtmbonalhbibppaaDoorV16
namespace Go.Proofs.YtmbonalhbibppaaDoor
open Go.Eng
set_option linter.unusedVariables false
set_option linter.unusedSimpArgs false
set_option maxHeartbeats 2000000 in
theorem lawVerify {A A2 : Option Addr} {n c n2 c2 : Nat} {sl : Int} {pv : List PV} {is : List (Int × Int)} (w : World) (hT : Tab w 6 constF ∧ Tab w 8 opF) (h : CodeR w A n A2 n2 pv is) (hn : n ≤ 9223372036854775807) (hn2 : n2 ≤ 9223372036854775807) :
    Law Tryd.prog 4 [codeV A n c sl A2 n2 c2] w := by
  refine FC.intro (cs := []) Tryd.func4 (by kernel_rfl) fun E R hE hr hR => ?_
  conv => cbv
  refine st_box hr fun a0 w1 hx hb0 => ?_
  have hb := hb0 _ (Nat.le_refl _)
  clear hb0
  conv => cbv
  refine st_loadS hE tLC rfl hb.at ?_
  conv => cbv
  refine st_f hr (szCode_f (c := c) (c2 := c2) (sl := sl) (h.ext hx) hn hn2) fun v w2 hx2 ⟨r, ev, hsz⟩ => ?_
  subst ev
  replace hb := hb.bel hx2
  replace hx := hx.trans hx2
  clear hx2
  conv => cbv
  refine br (fun g => ?_) (fun g => ?_)
  · conv => cbv
    rw [hR]; exact ⟨hx, rfl⟩
  have g : 0 ≤ r := by simpa [hE.cmp, cmpR] using g
  obtain ⟨b1, b2, b3⟩ := hsz g
  conv => cbv
  refine st_loadS hE tLC rfl hb.at ?_
  conv => cbv
  refine st_f hr (toCode_f (c := c) (c2 := c2) (sl := sl) (h.ext hx) b1 b2 b3) fun v w3 hx3 ⟨A3, c3, A4, c4, ev, h3⟩ => ?_
  subst ev
  replace hb := hb.bel hx3
  replace hx := hx.trans hx3
  clear hx3
  conv => cbv
  refine st_f hr (specVerify_f (c := c3) (c2 := c4) (sl := sl) h3 hn hn2) fun v w4 hx4 ev => ?_
  subst ev
  replace hb := hb.bel hx4
  replace hx := hx.trans hx4
  clear hx4 h3
  obtain ⟨v0, hv0⟩ : ∃ v0, v0 = (verF pv sl is).1 := ⟨_, rfl⟩
  obtain ⟨v1, hv1⟩ : ∃ v1, v1 = (verF pv sl is).2 := ⟨_, rfl⟩
  rw [← hv0, ← hv1]
  conv => cbv
  refine st_loadS hE tLC rfl hb.at ?_
  conv => cbv
  refine st_f hr (toCode_f (c := c) (c2 := c2) (sl := sl) (h.ext hx) b1 b2 b3) fun v w5 hx5 ⟨A5, c5, A6, c6, ev, h5⟩ => ?_
  subst ev
  replace hb := hb.bel hx5
  replace hx := hx.trans hx5
  clear hx5
  conv => cbv
  refine st_alloc hr tIC rfl fun q w6 hx6 hq0 => ?_
  have hq := hq0 _ hx.size
  have hbq := (hb.apart (hq0 _ (Nat.le_refl _)) (Nat.le_refl _)).1
  conv => cbv
  refine st_putS hr (by kernel_rfl) hq (add_zero _).symm (by simp) (by simp [Value.oneCell']) fun w7 hw7 hq2 => ?_
  simp only [List.take_zero, List.nil_append, List.length_cons, List.length_nil, List.drop_succ_cons, List.drop_nil, List.append_nil] at hq2
  replace h5 := h5.ext (hx6.then (hw7.bel (hq0 _ (Nat.le_refl _)) hx6.size))
  replace hb := (hb.bel hx6).wr hw7 hbq
  replace hx := hx.trans (hx6.then (hw7.bel (hq0 _ (Nat.le_refl _)) hx6.size))
  clear hx6 hq0 hw7 hq
  conv => cbv
  refine st_loadS hE tIC rfl hq2.at ?_
  conv => cbv
  refine st_f hr (implVerify_f (c := c5) (c2 := c6) (sl := sl) (hT.1.ext hx) (hT.2.ext hx) h5 hn hn2) fun v w8 hx8 ev => ?_
  subst ev
  replace hb := hb.bel hx8
  replace hq2 := hq2.bel hx8
  replace h5 := h5.ext hx8
  replace hx := hx.trans hx8
  clear hx8
  rw [← hv0, ← hv1]
  have en : ∀ z : Int, ¬ E.cmp .neq z z = true := fun z => by rw [hE.cmp]; simp [cmpR]
  conv => cbv
  refine br (fun q => absurd q (en _)) (fun q => ?_)
  conv => cbv
  refine br (fun q => absurd q (en _)) (fun q => ?_)
  conv => cbv
  refine draw_h [0, 1] [(2, false), (3, false), (4, true)] hr fol (by kernel_rfl) fun E' hE' w9 hs9 S hS => ?_
  replace hb := hb.bel hs9.ext
  replace hq2 := hq2.bel hs9.ext
  replace h5 := h5.ext hs9.ext
  replace hx := hx.trans hs9.ext
  conv => cbv
  refine st_loadS hE' tIC rfl hq2.at ?_
  conv => cbv
  refine st_loadS hE' tLC rfl hb.at ?_
  conv => cbv
  refine st_f hr (toCode_f (c := c) (c2 := c2) (sl := sl) (h.ext hx) b1 b2 b3) fun v w10 hx10 ⟨A7, c7, A8, c8, ev, h7⟩ => ?_
  subst ev
  refine ⟨hS _ hx10, ?_⟩
  conv => cbv
  refine st_f hr (eqCode_f (c := c5) (c2 := c6) (c3 := c7) (c4 := c8) (sl := sl) (h5.ext hx10) h7 hn hn2) fun v w11 hx11 ev => ?_
  subst ev
  refine ⟨hS _ (hx10.trans hx11), ?_⟩
  conv => cbv
  rw [hR]; exact ⟨(hx.trans hx10).trans hx11, rfl⟩
end Go.Proofs.YtmbonalhbibppaaDoor
