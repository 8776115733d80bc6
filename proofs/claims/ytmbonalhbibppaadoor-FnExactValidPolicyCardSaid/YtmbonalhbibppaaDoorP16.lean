/- The program's policyTrees and ValidPolicy. -/
import Derived.Test.YtmbonalhbibppaaDoorP15
namespace Go.Proofs.YtmbonalhbibppaaDoor
open Go.Eng
set_option linter.unusedVariables false
set_option linter.unusedSimpArgs false
theorem policyTrees_f {w : World} (hT : Tab w 6 constF) (hR0 : STab w 5 words) {A A2 : Option Addr} {n c n2 c2 : Nat} {nv : List PN} {sv : List PS} (h : PolR w A n A2 n2 nv sv) (hn : n ≤ 9223372036854775807) (hn2 : n2 ≤ 9223372036854775807) :
    FC Tryd.prog 36 [polV A n c A2 n2 c2] w fun v w' => ∃ (B : Option Addr) (m d : Nat) (b : Bool), v = .tuple ⟨[.slice B m d, .bool b]⟩ ∧ (b = true ↔ policyP false nv sv) ∧
      (b = true → ∃ acc, runS nv (fun _ => leafU) sv 0 0 [] = some (acc, nv.length) ∧ LaidS w' B m d sv acc) := by
  refine FC.intro (cs := []) Tryd.func36 (by kernel_rfl) fun E R hE hr hR => ?_
  conv => cbv
  refine st_box hr fun a w1 hx hb0 => ?_
  have hb := hb0 _ (Nat.le_refl _)
  conv => cbv
  (refine st_fld hE fIPol0 fun p hp => ?_; (conv => cbv); refine st_load hE cINs (by rw [hp]; exact (hb).at _ _ rfl) ?_; clear hp; (conv => cbv))
  (refine st_fld hE fIPol1 fun p hp => ?_; (conv => cbv); refine st_load hE cISs (by rw [hp]; exact (hb).at _ _ rfl) ?_; clear hp; (conv => cbv))
  refine st_f hr (trees_f (cN' := c) (c2 := c2) (hT.ext hx) (hR0.ext hx) (h.ext hx) hn hn2 (leafU_a (hR0.ext hx))) fun v w2 hx2 ⟨B, m, d, b, ev, h1, h2⟩ => ?_
  subst ev
  rw [← policyU_iff] at h1
  conv => cbv
  rw [hR]; exact ⟨hx.trans hx2, B, m, d, b, rfl, h1, h2⟩
theorem implValidPolicy_f {w : World} (hT : Tab w 6 constF) (hR0 : STab w 5 words) {A A2 : Option Addr} {n c n2 c2 : Nat} {nv : List PN} {sv : List PS} (h : PolR w A n A2 n2 nv sv) (hn : n ≤ 9223372036854775807) (hn2 : n2 ≤ 9223372036854775807) :
    FC Tryd.prog 11 [polV A n c A2 n2 c2] w fun v w' => ∃ b : Bool, v = .bool b ∧ (b = true ↔ policyP false nv sv) := by
  refine FC.intro (cs := []) Tryd.func11 (by kernel_rfl) fun E R hE hr hR => ?_
  conv => cbv
  refine st_box hr fun a w1 hx hb0 => ?_
  have hb := hb0 _ (Nat.le_refl _)
  conv => cbv
  refine st_loadS hE tIPol rfl hb.at ?_
  conv => cbv
  refine st_f hr (policyTrees_f (c := c) (c2 := c2) (hT.ext hx) (hR0.ext hx) (h.ext hx) hn hn2) fun v w2 hx2 ⟨B, m, d, b, ev, h1, h2⟩ => ?_
  subst ev
  conv => cbv
  rw [hR]; exact ⟨hx.trans hx2, b, rfl, h1⟩
end Go.Proofs.YtmbonalhbibppaaDoor
