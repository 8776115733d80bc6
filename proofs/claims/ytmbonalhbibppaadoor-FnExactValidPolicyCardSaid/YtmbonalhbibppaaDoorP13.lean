/- The leaves that a plain policy may have; the program's closure about them. -/
import Derived.Test.YtmbonalhbibppaaDoorP12
import Derived.Test.YtmbonalhbibppaaDoorP7
namespace Go.Proofs.YtmbonalhbibppaaDoor
open Go.Eng
set_option linter.unusedVariables false
set_option linter.unusedSimpArgs false
def cOK (p : PN) : Prop := (p.o = 1 ∧ p.tx = ⟨#[]⟩ ∧ p.xs = []) ∨ (p.o = 2 ∧ p.z = 0 ∧ nameBytes p.tx ∧ p.xs = []) ∨ (p.o = 3 ∧ (p.z = 0 ∨ p.z = 1) ∧ p.tx = ⟨#[]⟩ ∧ p.xs = []) ∨ (p.o = 4 ∧ p.z = 0 ∧ p.tx = ⟨#[]⟩ ∧ isSet p.xs)
def leafU (p : PN) : Prop := if p.o = 5 then p.z = 0 ∧ ident p.tx ∧ p.xs = [] else cOK p ∧ (p.o ≠ 1 ∨ 0 ≤ p.z)
set_option maxHeartbeats 1000000 in
theorem leafU_f {w : World} (hT : STab w 5 words) (v : VN) (h : OKN w v) (l : Int) :
    FC Tryd.prog 75 [.int .i64 l, .agg ⟨cN v⟩] w fun r _ => ∃ b : Bool, r = .bool b ∧ (b = true ↔ leafU v.p) := by
  refine FC.intro (cs := []) Tryd.func75 (by kernel_rfl) fun E R hE hr hR => ?_
  obtain ⟨⟨o, z, tx, xs, ks⟩, A0, m0, c0, A1, m1, c1⟩ := v
  have s_tx := h.s_tx
  have r_xs := h.r_xs
  simp only at s_tx r_xs
  obtain ⟨FP, hFP0⟩ : ∃ FP, FP = leafU ⟨o, z, tx, xs, ks⟩ := ⟨_, rfl⟩
  simp only [← hFP0] at hR
  have hFP := hFP0
  unfold leafU at hFP
  simp only at hFP
  conv => cbv
  refine st_box hr fun a w1 hx hb0 => ?_
  have hb := hb0 _ (Nat.le_refl _)
  clear hb0
  conv => cbv
  (refine st_fld hE fINd0 fun p hp => ?_; (conv => cbv); refine st_load hE cInt (by rw [hp]; exact (hb).at _ _ rfl) ?_; clear hp; (conv => cbv))
  refine br (fun g => ?_) (fun g => ?_)
  · have g : o = 5 := by simpa [hE.cmp, cmpR] using g
    rw [if_pos g] at hFP
    conv => cbv
    refine st_loadS hE tINd rfl hb.at ?_
    conv => cbv
    refine st_f hr (bare_f (o := o) (z := z) (tx := tx) (r_xs.ext hx).len false true false) fun r w2 hx2 ⟨b, ev, hbb⟩ => ?_
    subst ev
    simp only [Bool.false_eq_true, false_or, true_or, true_and] at hbb
    replace hb := hb.bel hx2
    replace hx := hx.trans hx2
    cases b with
    | false =>
      conv => cbv
      rw [hR]; exact ⟨hx, false, rfl, by rw [hFP]; exact ⟨(fun q => nomatch q), fun q => hbb.2 ⟨q.1, q.2.2⟩⟩⟩
    | true =>
      have hbb := hbb.1 rfl
      conv => cbv
      (refine st_fld hE fINd2 fun p hp => ?_; (conv => cbv); refine st_load hE cStr (by rw [hp]; exact (hb).at _ _ rfl) ?_; clear hp; (conv => cbv))
      refine st_qb hE (isNameToken_f (hT.ext hx) tx s_tx) fun b hb2 w3 hs3 => ?_
      conv => cbv
      rw [hR]; exact ⟨hx.trans hs3.ext, b, rfl, by rw [hFP, hb2]; simp [hbb]⟩
  · have g : o ≠ 5 := by simpa [hE.cmp, cmpR] using g
    rw [if_neg g] at hFP
    conv => cbv
    refine st_loadS hE tINd rfl hb.at ?_
    conv => cbv
    refine st_f hr (validConst_f (o := o) (z := z) (tx := tx) (r_xs.ext hx) s_tx) fun r w2 hx2 ⟨b, ev, hbb⟩ => ?_
    subst ev
    have hbb : b = true ↔ cOK ⟨o, z, tx, xs, ks⟩ := hbb
    replace hb := hb.bel hx2
    replace hx := hx.trans hx2
    cases b with
    | false =>
      conv => cbv
      rw [hR]; exact ⟨hx, false, rfl, by rw [hFP]; exact ⟨(fun q => nomatch q), fun q => hbb.2 q.1⟩⟩
    | true =>
      have hbb := hbb.1 rfl
      conv => cbv
      (refine st_fld hE fINd0 fun p hp => ?_; (conv => cbv); refine st_load hE cInt (by rw [hp]; exact (hb).at _ _ rfl) ?_; clear hp; (conv => cbv))
      refine br (fun g2 => ?_) (fun g2 => ?_)
      · have g2 : o ≠ 1 := by simpa [hE.cmp, cmpR] using g2
        conv => cbv
        rw [hR]; exact ⟨hx, true, rfl, by rw [hFP]; simp [hbb, g2]⟩
      · have g2 : o = 1 := by simpa [hE.cmp, cmpR] using g2
        conv => cbv
        (refine st_fld hE fINd1 fun p hp => ?_; (conv => cbv); refine st_load hE cI64 (by rw [hp]; exact (hb).at _ _ rfl) ?_; clear hp; (conv => cbv))
        obtain ⟨q4, hq4⟩ : ∃ q4, q4 = E.cmp .geq z 0 := ⟨_, rfl⟩
        have hq5 : q4 = true ↔ 0 ≤ z := by rw [hq4, hE.cmp]; simp [cmpR]
        simp only [← hq4]
        rw [hR]; exact ⟨hx, q4, rfl, by rw [hFP, hq5]; exact ⟨fun q => ⟨hbb, .inr q⟩, fun q => q.2.resolve_left fun r => r g2⟩⟩
/-- What trees asks of the leaf function that it is given. -/
def LeafA (w0 : World) (f0 : FuncId) (lp : Nat → PN → Prop) : Prop :=
  ∀ w', Ext w0 w' → ∀ (l : Nat), l ≤ 600 → ∀ (ll : Int), ll = (l : Int) → ∀ v : VN, OKN w' v → FC Tryd.prog f0 [.int .i64 ll, .agg ⟨cN v⟩] w' fun r _ => ∃ b : Bool, r = .bool b ∧ (b = true ↔ lp l v.p)
theorem leafU_a {w0 : World} (hT : STab w0 5 words) : LeafA w0 75 (fun _ => leafU) :=
  fun w' hx l _ ll _ v hv => leafU_f (hT.ext hx) v hv ll
theorem cF2 : Cel Tryd.prog 147 := ⟨_, Tryd.underlying147, by simp, by simp⟩
theorem trees1_f {w0 w : World} {f0 : FuncId} {lp : Nat → PN → Prop} (hf : LeafA w0 f0 lp) (hx0 : Ext w0 w) {q5 q8 : Addr} {l : Nat} (hl : l ≤ 600) {ll : Int} (hll : ll = (l : Int)) (h5 : w.cell? q5 = some (.func (.func f0) #[] #[])) (h8 : w.cell? q8 = some (.int .i64 ll)) (v : VN) (h : OKN w v) :
    FC Tryd.prog 118 [.agg ⟨cN v⟩, .pointer (some q5), .pointer (some q8)] w fun r _ => ∃ b : Bool, r = .bool b ∧ (b = true ↔ lp l v.p) := by
  refine FC.intro (cs := []) Tryd.func118 (by kernel_rfl) fun E R hE hr hR => ?_
  obtain ⟨cv, hcv⟩ : ∃ cv, cv = cN v := ⟨_, rfl⟩
  have hcl : cv.length = 5 := by rw [hcv]; rfl
  rw [← hcv]
  conv => cbv
  refine st_box hr fun a w1 hx hb0 => ?_
  have hb : Box w.heap.size 137 5 w1 a cv := by have := hb0 _ (Nat.le_refl _); rwa [hcl] at this
  clear hb0
  conv => cbv
  refine st_load hE cF2 (hx.cell h5) ?_
  conv => cbv
  refine st_load hE cInt (hx.cell h8) ?_
  conv => cbv
  refine st_loadS hE tINd hcl hb.at ?_
  conv => cbv
  rw [hcv]
  refine st_f hr (hf w1 (hx0.trans hx) l hl ll hll v (h.ext hx)) fun r w2 hx2 ⟨b, ev, hbb⟩ => ?_
  subst ev
  conv => cbv
  rw [hR]; exact ⟨hx.trans hx2, b, rfl, hbb⟩
theorem trees1_a {w0 w : World} {f0 : FuncId} {lp : Nat → PN → Prop} (hf : LeafA w0 f0 lp) (hx0 : Ext w0 w) {a q5 q8 : Addr} (ha : w0.heap.size ≤ a.block ∧ a.block < w.heap.size) (ha0 : blk (some a) = some a.block) {B : Nat} {e5 e8 : TypeId} {l : Nat} (hl : l ≤ 600) {ll : Int} (hll : ll = (l : Int)) (h5 : Box B e5 1 w q5 [.func (.func f0) #[] #[]]) (h8 : Box B e8 1 w q8 [.int .i64 ll]) (a5 : Apart (some q5) (some a)) (a8 : Apart (some q8) (some a)) :
    LeafC w a 118 #[] #[.pointer (some q5), .pointer (some q8)] (lp l) := fun w' hw v hv => by
  have h5 := (h5.wr hw a5).at 0 _ rfl
  have h8 := (h8.wr hw a8).at 0 _ rfl
  rw [add_zero] at h5 h8
  have hxw : Ext w0 w' := hx0.then ⟨hw.os, hw.tape, hw.output, hw.size, fun i h1 => hw.block i (by omega) (by rw [ha0]; intro q; cases q; omega)⟩
  exact trees1_f hf hxw hl hll (h5) (h8) v hv
end Go.Proofs.YtmbonalhbibppaaDoor
