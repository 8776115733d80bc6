/- Texts that the law FnExactCheck leans on, part 3 of 7: contracts of the functions that it reaches and plain lemmas. Each holds under the conditions that it states. -/
import Derived.Test.YtgnjkdkedjljjaaGreatDoorMFnExactCheck2
set_option maxHeartbeats 16000000
set_option linter.unusedVariables false
set_option linter.unusedSimpArgs false
namespace Go.Proofs.YtgnjkdkedjljjaaGreatDoor
open Go.Eng
set_option linter.unusedVariables false
set_option linter.unusedSimpArgs false
theorem l2kids_q (op : Int) (w : World) : QF Tryz.prog 234 [.int .i64 op] w (.int .i64 (kidsF op)) := by
 refine QF.intro (cs := []) Tryz.func234 (by kernel_rfl) fun w0 hx0 w1 hs E R hE hr hR => ?_
 have fin : ∀ z : Int, z = kidsF op → R (.int .i64 z) w1 := fun z hz => by rw [hR, hz]; exact ⟨rfl, hs⟩
 conv => cbv
 refine br (fun g0 => ?_) (fun g0 => ?_)
 ·have g0 : 1 ≤ op := by simpa [hE.cmp, cmpR] using g0
  conv => cbv
  refine br (fun k0 => ?_) (fun k0 => ?_)
  ·have k0 : op ≤ 7 := by simpa [hE.cmp, cmpR] using k0
   conv => cbv
   exact fin _ (by unfold kidsF; (repeat' split) <;> omega)
  ·have k0 : ¬ op ≤ 7 := by simpa [hE.cmp, cmpR] using k0
   conv => cbv
   refine br (fun g1 => ?_) (fun g1 => ?_)
   ·have g1 : 8 ≤ op := by simpa [hE.cmp, cmpR] using g1
    conv => cbv
    refine br (fun k1 => ?_) (fun k1 => ?_)
    ·have k1 : op ≤ 10 := by simpa [hE.cmp, cmpR] using k1
     conv => cbv
     exact fin _ (by unfold kidsF; (repeat' split) <;> omega)
    ·have k1 : ¬ op ≤ 10 := by simpa [hE.cmp, cmpR] using k1
     conv => cbv
     refine br (fun g2 => ?_) (fun g2 => ?_)
     ·have g2 : 11 ≤ op := by simpa [hE.cmp, cmpR] using g2
      conv => cbv
      refine br (fun k2 => ?_) (fun k2 => ?_)
      ·have k2 : op ≤ 26 := by simpa [hE.cmp, cmpR] using k2
       conv => cbv
       exact fin _ (by unfold kidsF; (repeat' split) <;> omega)
      ·have k2 : ¬ op ≤ 26 := by simpa [hE.cmp, cmpR] using k2
       conv => cbv
       refine br (fun g27 => ?_) (fun g27 => ?_)
       ·have g27 : op = 27 := by simpa [hE.cmp, cmpR] using g27
        conv => cbv
        exact fin _ (by unfold kidsF; (repeat' split) <;> omega)
       ·have g27 : op ≠ 27 := by simpa [hE.cmp, cmpR] using g27
        conv => cbv
        exact fin _ (by unfold kidsF; (repeat' split) <;> omega)
     ·have g2 : ¬ 11 ≤ op := by simpa [hE.cmp, cmpR] using g2
      conv => cbv
      refine br (fun g27 => ?_) (fun g27 => ?_)
      ·have g27 : op = 27 := by simpa [hE.cmp, cmpR] using g27
       conv => cbv
       exact fin _ (by unfold kidsF; (repeat' split) <;> omega)
      ·have g27 : op ≠ 27 := by simpa [hE.cmp, cmpR] using g27
       conv => cbv
       exact fin _ (by unfold kidsF; (repeat' split) <;> omega)
   ·have g1 : ¬ 8 ≤ op := by simpa [hE.cmp, cmpR] using g1
    conv => cbv
    refine br (fun g2 => ?_) (fun g2 => ?_)
    ·have g2 : 11 ≤ op := by simpa [hE.cmp, cmpR] using g2
     conv => cbv
     refine br (fun k2 => ?_) (fun k2 => ?_)
     ·have k2 : op ≤ 26 := by simpa [hE.cmp, cmpR] using k2
      conv => cbv
      exact fin _ (by unfold kidsF; (repeat' split) <;> omega)
     ·have k2 : ¬ op ≤ 26 := by simpa [hE.cmp, cmpR] using k2
      conv => cbv
      refine br (fun g27 => ?_) (fun g27 => ?_)
      ·have g27 : op = 27 := by simpa [hE.cmp, cmpR] using g27
       conv => cbv
       exact fin _ (by unfold kidsF; (repeat' split) <;> omega)
      ·have g27 : op ≠ 27 := by simpa [hE.cmp, cmpR] using g27
       conv => cbv
       exact fin _ (by unfold kidsF; (repeat' split) <;> omega)
    ·have g2 : ¬ 11 ≤ op := by simpa [hE.cmp, cmpR] using g2
     conv => cbv
     refine br (fun g27 => ?_) (fun g27 => ?_)
     ·have g27 : op = 27 := by simpa [hE.cmp, cmpR] using g27
      conv => cbv
      exact fin _ (by unfold kidsF; (repeat' split) <;> omega)
     ·have g27 : op ≠ 27 := by simpa [hE.cmp, cmpR] using g27
      conv => cbv
      exact fin _ (by unfold kidsF; (repeat' split) <;> omega)
 ·have g0 : ¬ 1 ≤ op := by simpa [hE.cmp, cmpR] using g0
  conv => cbv
  refine br (fun g1 => ?_) (fun g1 => ?_)
  ·have g1 : 8 ≤ op := by simpa [hE.cmp, cmpR] using g1
   conv => cbv
   refine br (fun k1 => ?_) (fun k1 => ?_)
   ·have k1 : op ≤ 10 := by simpa [hE.cmp, cmpR] using k1
    conv => cbv
    exact fin _ (by unfold kidsF; (repeat' split) <;> omega)
   ·have k1 : ¬ op ≤ 10 := by simpa [hE.cmp, cmpR] using k1
    conv => cbv
    refine br (fun g2 => ?_) (fun g2 => ?_)
    ·have g2 : 11 ≤ op := by simpa [hE.cmp, cmpR] using g2
     conv => cbv
     refine br (fun k2 => ?_) (fun k2 => ?_)
     ·have k2 : op ≤ 26 := by simpa [hE.cmp, cmpR] using k2
      conv => cbv
      exact fin _ (by unfold kidsF; (repeat' split) <;> omega)
     ·have k2 : ¬ op ≤ 26 := by simpa [hE.cmp, cmpR] using k2
      conv => cbv
      refine br (fun g27 => ?_) (fun g27 => ?_)
      ·have g27 : op = 27 := by simpa [hE.cmp, cmpR] using g27
       conv => cbv
       exact fin _ (by unfold kidsF; (repeat' split) <;> omega)
      ·have g27 : op ≠ 27 := by simpa [hE.cmp, cmpR] using g27
       conv => cbv
       exact fin _ (by unfold kidsF; (repeat' split) <;> omega)
    ·have g2 : ¬ 11 ≤ op := by simpa [hE.cmp, cmpR] using g2
     conv => cbv
     refine br (fun g27 => ?_) (fun g27 => ?_)
     ·have g27 : op = 27 := by simpa [hE.cmp, cmpR] using g27
      conv => cbv
      exact fin _ (by unfold kidsF; (repeat' split) <;> omega)
     ·have g27 : op ≠ 27 := by simpa [hE.cmp, cmpR] using g27
      conv => cbv
      exact fin _ (by unfold kidsF; (repeat' split) <;> omega)
  ·have g1 : ¬ 8 ≤ op := by simpa [hE.cmp, cmpR] using g1
   conv => cbv
   refine br (fun g2 => ?_) (fun g2 => ?_)
   ·have g2 : 11 ≤ op := by simpa [hE.cmp, cmpR] using g2
    conv => cbv
    refine br (fun k2 => ?_) (fun k2 => ?_)
    ·have k2 : op ≤ 26 := by simpa [hE.cmp, cmpR] using k2
     conv => cbv
     exact fin _ (by unfold kidsF; (repeat' split) <;> omega)
    ·have k2 : ¬ op ≤ 26 := by simpa [hE.cmp, cmpR] using k2
     conv => cbv
     refine br (fun g27 => ?_) (fun g27 => ?_)
     ·have g27 : op = 27 := by simpa [hE.cmp, cmpR] using g27
      conv => cbv
      exact fin _ (by unfold kidsF; (repeat' split) <;> omega)
     ·have g27 : op ≠ 27 := by simpa [hE.cmp, cmpR] using g27
      conv => cbv
      exact fin _ (by unfold kidsF; (repeat' split) <;> omega)
   ·have g2 : ¬ 11 ≤ op := by simpa [hE.cmp, cmpR] using g2
    conv => cbv
    refine br (fun g27 => ?_) (fun g27 => ?_)
    ·have g27 : op = 27 := by simpa [hE.cmp, cmpR] using g27
     conv => cbv
     exact fin _ (by unfold kidsF; (repeat' split) <;> omega)
    ·have g27 : op ≠ 27 := by simpa [hE.cmp, cmpR] using g27
     conv => cbv
     exact fin _ (by unfold kidsF; (repeat' split) <;> omega)
def fieldsP (ty : Bool) (p : PN) : Prop := (p.ks.length : Int) = kidsF p.o ∧
 (if p.o = 1 then (0 ≤ p.z ∨ ty = true) ∧ p.tx = ⟨#[]⟩ ∧ p.xs = []
  else if p.o = 3 then (p.z = 0 ∨ p.z = 1) ∧ p.tx = ⟨#[]⟩ ∧ p.xs = []
  else if p.o = 2 then p.z = 0 ∧ nameBytes p.tx ∧ p.xs = []
  else if p.o = 5 then ty = false ∧ ident p.tx ∧ p.z = 0 ∧ p.xs = []
  else if p.o = 4 then p.z = 0 ∧ p.tx = ⟨#[]⟩ ∧ isSet p.xs
  else if p.o = 6 then ty = true ∧ 0 ≤ p.z ∧ p.z ≤ 5 ∧ p.tx = ⟨#[]⟩ ∧ p.xs = []
  else if p.o = 7 then ty = true ∧ 0 ≤ p.z ∧ p.z < 600 ∧ p.tx = ⟨#[]⟩ ∧ p.xs = []
  else p.z = 0 ∧ p.tx = ⟨#[]⟩ ∧ p.xs = [])
theorem kidsF_le (o : Int) : kidsF o ≤ 3 := by unfold kidsF; (repeat' split) <;> omega
theorem run_bNd (o : Int) (w : World) : (Instr.build 90 #[(0, .int .i64 o)]).run Tryz.prog w = .ok (.agg #[.int .i64 o, .int .i64 0, .string ⟨#[]⟩, .slice none 0 0, .slice none 0 0]) w := by kernel_rfl
theorem st_bNd {E : Sym} {w : World} {K : Value → World → Prop} {d : Option Tmp} {ty : TypeId} {pos : String} {aft : Array Edge} {g : Option (Nat × Bool)} {bq : Bool} (hE : EngB bq Tryz.prog E) {o : Int} {x : Operand} (hk : K (.agg ⟨[.int .i64 o, .int .i64 0, .string ⟨#[]⟩, .slice none 0 0, .slice none 0 0]⟩) w) : E.stop ⟨d, .build 90 ⟨[(0, x)]⟩, ty, pos, aft, g⟩ [.int .i64 o] w K := by
 refine hE.det (v := .agg ⟨[.int .i64 o, .int .i64 0, .string ⟨#[]⟩, .slice none 0 0, .slice none 0 0]⟩) (fun w1 _ ρ hρ => ?_) hk
 simp only [opnds, b2_, b3_, b1_, and_true] at hρ
 have := run_bNd o w1
 simp [execOp, hρ, this]
theorem l2fields_f {w : World} (v : VN) (h : OKN w v) (ty : Bool) :
  FC Tryz.prog 149 [.agg ⟨cN v⟩, .bool ty] w fun u _ => ∃ b : Bool, u = .bool b ∧ (b = true ↔ fieldsP ty v.p) := by
 refine FC.intro (cs := [31]) Tryz.func149 (by kernel_rfl) fun E R hE hr hR => ?_
 obtain ⟨⟨o, z, tx, xs, ks⟩, A0, m0, c0, A1, m1, c1⟩ := v
 have s_tx := h.s_tx
 have r_xs := h.r_xs
 have r_ks := h.r_ks
 clear h
 simp only at s_tx r_xs r_ks hR
 have hkl := r_ks.len
 have hxl := r_xs.len
 obtain ⟨FP, hFP0⟩ : ∃ FP, FP = fieldsP ty ⟨o, z, tx, xs, ks⟩ := ⟨_, rfl⟩
 rw [← hFP0] at hR
 have hFP := hFP0
 unfold fieldsP at hFP
 simp only at hFP
 have no : ¬ FP → ∀ w', Ext w w' → R (.bool false) w' := fun h w' hx => by rw [hR]; exact ⟨hx, false, rfl, by simp [h]⟩
 conv => cbv
 refine st_box hr fun a w1 hx hb0 => ?_
 have hb := hb0 _ (n1_ _)
 clear hb0
 conv => cbv
 refine draw_q hr fol (by kernel_rfl) fun E' hE' => ?_
 conv => cbv
 (refine st_fld hE' fINd4 fun p hp => ?_; (conv => cbv); refine st_load hE' cInts (by rw [hp]; exact (hb).at _ _ rfl) ?_; (conv => cbv))
 refine st_len hE' tInts fun x1 hx1 => ?_
 conv => cbv
 (refine st_fld hE' fINd0 fun p hp => ?_; (conv => cbv); refine st_load hE' cInt (by rw [hp]; exact (hb).at _ _ rfl) ?_; (conv => cbv))
 refine st_q hE' (l2kids_q o _) fun w2 hs2 => ?_
 obtain ⟨kf, hkf⟩ : ∃ kf, kf = kidsF o := ⟨_, rfl⟩
 rw [← hkf]
 obtain ⟨q4, hq4⟩ : ∃ q4, q4 = E'.cmp .neq x1 kf := ⟨_, rfl⟩
 have hq5 : q4 = true ↔ x1 ≠ kf := by rw [hq4, hE'.cmp]; simp [cmpR]
 conv => cbv
 simp only [← hq4]
 intro w3 hs3
 replace hb := hb.bel hs3.ext
 replace hx := hx.trans hs3.ext
 clear hs3 hs2 hq4
 conv => cbv
 refine br (fun g => ?_) (fun g => ?_)
 ·have g := hq5.1 g
  conv => cbv
  exact no (by rw [hFP]; exact fun q => g (by have := q.1; omega)) _ hx
 have g : x1 = kf := Classical.byContradiction fun q => g (hq5.2 q)
 have hks : (ks.length : Int) = kidsF o := by omega
 replace hFP : FP = _ := hFP.trans (propext (and_iff_right hks))
 clear g hq5
 conv => cbv
 (refine st_fld hE fINd0 fun p hp => ?_; (conv => cbv); refine st_load hE cInt (by rw [hp]; exact (hb).at _ _ rfl) ?_; (conv => cbv))
 refine st_bNd hE ?_
 conv => cbv
 refine st_alloc hr tINd rfl fun q w4 hx4 hq0 => ?_
 have hq1 := hq0 _ hx.size
 have aq := (hb.apart (hq0 _ (n1_ _)) (n1_ _)).1
 conv => cbv
 refine st_putS hr (by kernel_rfl) hq1 (add_zero _).symm (by simp) (by simp [Value.oneCell']) fun w5 hw5 hq => ?_
 simp only [a1_, a2_, a3_, a4_, a5_, a6_, a7_] at hq
 replace hb := (hb.bel hx4).wr hw5 aq
 replace hx := hx.trans (hx4.then (hw5.bel (hq0 _ (n1_ _)) hx4.size))
 clear hq0 hq1 hw5 hx4
 conv => cbv
 refine cut_rule [] [] hr (fun (s : Int × ByteArray) w' => Ext w w' ∧ Box w.heap.size 90 5 w' a [.int .i64 o, .int .i64 z, .string tx, .slice A0 m0 c0, .slice A1 m1 c1] ∧ Box w.heap.size 90 5 w' q [.int .i64 o, .int .i64 s.1, .string s.2, .slice none 0 0, .slice none 0 0] ∧ ((z = s.1 ∧ tx = s.2 ∧ xs = []) ↔ FP))
  (fun s => [(1, .bool ty), (2, .pointer (some a)), (5, .pointer (some q))]) (fun I hI => ?_) ?_
 ·conv => cbv
  (refine st_fld hE fINd0 fun p hp => ?_; (conv => cbv); refine st_load hE cInt (by rw [hp]; exact (hb).at _ _ rfl) ?_; (conv => cbv))
  refine br (fun g => ?_) (fun g => ?_)
  ·have g : o = 1 := by simpa [hE.cmp, cmpR] using g
   conv => cbv
   (refine st_fld hE fINd1 fun p hp => ?_; (conv => cbv); refine st_load hE cI64 (by rw [hp]; exact (hb).at _ _ rfl) ?_; (conv => cbv))
   refine br (fun g2 => ?_) (fun g2 => ?_)
   ·have g2 : z < 0 := by simpa [hE.cmp, cmpR] using g2
    conv => cbv
    cases ty with
    | false =>
     conv => cbv
     exact no (by rw [hFP]; rw [if_pos g]; simp; omega) _ hx
    | true =>
     conv => cbv
     (refine st_fld hE fINd1 fun p hp => ?_; (conv => cbv); refine st_load hE cI64 (by rw [hp]; exact (hb).at _ _ rfl) ?_; (conv => cbv))
     refine st_fld hE fINd1 fun p hp => ?_
     conv => cbv
     refine st_put hr zI64 hq hp (by simp) rfl fun w6 hw6 hq6 => ?_
     simp only [b4_, b5_] at hq6
     conv => cbv
     exact ⟨(z, ⟨#[]⟩), by simp [Fits, lk], hI _ _ ⟨hx.then (hw6.bel hq hx.size), hb.wr hw6 aq, hq6, by rw [hFP]; simp only; rw [if_pos g]; simp⟩⟩
   ·have g2 : ¬ z < 0 := by simpa [hE.cmp, cmpR] using g2
    conv => cbv
    (refine st_fld hE fINd1 fun p hp => ?_; (conv => cbv); refine st_load hE cI64 (by rw [hp]; exact (hb).at _ _ rfl) ?_; (conv => cbv))
    refine st_fld hE fINd1 fun p hp => ?_
    conv => cbv
    refine st_put hr zI64 hq hp (by simp) rfl fun w6 hw6 hq6 => ?_
    simp only [b4_, b5_] at hq6
    conv => cbv
    exact ⟨(z, ⟨#[]⟩), by simp [Fits, lk], hI _ _ ⟨hx.then (hw6.bel hq hx.size), hb.wr hw6 aq, hq6, by rw [hFP]; simp only; rw [if_pos g]; simp; intro _ _; omega⟩⟩
  have g1 : o ≠ 1 := by simpa [hE.cmp, cmpR] using g
  clear g
  conv => cbv
  refine br (fun g => ?_) (fun g => ?_)
  ·have g : o = 3 := by simpa [hE.cmp, cmpR] using g
   conv => cbv
   (refine st_fld hE fINd1 fun p hp => ?_; (conv => cbv); refine st_load hE cI64 (by rw [hp]; exact (hb).at _ _ rfl) ?_; (conv => cbv))
   refine br (fun g2 => ?_) (fun g2 => ?_)
   ·have g2 : z ≠ 0 := by simpa [hE.cmp, cmpR] using g2
    conv => cbv
    (refine st_fld hE fINd1 fun p hp => ?_; (conv => cbv); refine st_load hE cI64 (by rw [hp]; exact (hb).at _ _ rfl) ?_; (conv => cbv))
    refine br (fun g3 => ?_) (fun g3 => ?_)
    ·have g3 : z ≠ 1 := by simpa [hE.cmp, cmpR] using g3
     conv => cbv
     exact no (by rw [hFP]; rw [if_neg g1, if_pos g]; simp; omega) _ hx
    ·have g3 : z = 1 := by simpa [hE.cmp, cmpR] using g3
     conv => cbv
     (refine st_fld hE fINd1 fun p hp => ?_; (conv => cbv); refine st_load hE cI64 (by rw [hp]; exact (hb).at _ _ rfl) ?_; (conv => cbv))
     refine st_fld hE fINd1 fun p hp => ?_
     conv => cbv
     refine st_put hr zI64 hq hp (by simp) rfl fun w6 hw6 hq6 => ?_
     simp only [b4_, b5_] at hq6
     conv => cbv
     exact ⟨(z, ⟨#[]⟩), by simp [Fits, lk], hI _ _ ⟨hx.then (hw6.bel hq hx.size), hb.wr hw6 aq, hq6, by rw [hFP]; simp only; rw [if_neg g1, if_pos g]; simp [g3]⟩⟩
   ·have g2 : z = 0 := by simpa [hE.cmp, cmpR] using g2
    conv => cbv
    (refine st_fld hE fINd1 fun p hp => ?_; (conv => cbv); refine st_load hE cI64 (by rw [hp]; exact (hb).at _ _ rfl) ?_; (conv => cbv))
    refine st_fld hE fINd1 fun p hp => ?_
    conv => cbv
    refine st_put hr zI64 hq hp (by simp) rfl fun w6 hw6 hq6 => ?_
    simp only [b4_, b5_] at hq6
    conv => cbv
    exact ⟨(z, ⟨#[]⟩), by simp [Fits, lk], hI _ _ ⟨hx.then (hw6.bel hq hx.size), hb.wr hw6 aq, hq6, by rw [hFP]; simp only; rw [if_neg g1, if_pos g]; simp [g2]⟩⟩
  have g3 : o ≠ 3 := by simpa [hE.cmp, cmpR] using g
  clear g
  conv => cbv
  refine br (fun g => ?_) (fun g => ?_)
  ·have g : o = 2 := by simpa [hE.cmp, cmpR] using g
   conv => cbv
   (refine st_fld hE fINd2 fun p hp => ?_; (conv => cbv); refine st_load hE cStr (by rw [hp]; exact (hb).at _ _ rfl) ?_; (conv => cbv))
   refine st_f hr (l2quoted_f (w := _) tx s_tx) fun u w6 hx6 ⟨b, ev, hbq⟩ => ?_
   subst ev
   replace hb := hb.bel hx6
   replace hq := hq.bel hx6
   replace hx := hx.trans hx6
   clear hx6
   cases b with
   | false =>
    have hbq : ¬ nameBytes tx := fun q => absurd (hbq.2 q) (by simp)
    conv => cbv
    exact no (by rw [hFP]; rw [if_neg g1, if_neg g3, if_pos g]; simp [hbq]) _ hx
   | true =>
    have hbq := hbq.1 rfl
    conv => cbv
    (refine st_fld hE fINd2 fun p hp => ?_; (conv => cbv); refine st_load hE cStr (by rw [hp]; exact (hb).at _ _ rfl) ?_; (conv => cbv))
    refine st_fld hE fINd2 fun p hp => ?_
    conv => cbv
    refine st_put hr zStr hq hp (by simp) rfl fun w6 hw6 hq6 => ?_
    simp only [b4_, b5_] at hq6
    conv => cbv
    exact ⟨(0, tx), by simp [Fits, lk], hI _ _ ⟨hx.then (hw6.bel hq hx.size), hb.wr hw6 aq, hq6, by rw [hFP]; simp only; rw [if_neg g1, if_neg g3, if_pos g]; simp [hbq]⟩⟩
  have g2 : o ≠ 2 := by simpa [hE.cmp, cmpR] using g
  clear g
  conv => cbv
  refine br (fun g => ?_) (fun g => ?_)
  ·have g : o = 5 := by simpa [hE.cmp, cmpR] using g
   cases ty with
   | true =>
    conv => cbv
    exact no (by rw [hFP]; rw [if_neg g1, if_neg g3, if_neg g2, if_pos g]; simp) _ hx
   | false =>
    conv => cbv
    (refine st_fld hE fINd2 fun p hp => ?_; (conv => cbv); refine st_load hE cStr (by rw [hp]; exact (hb).at _ _ rfl) ?_; (conv => cbv))
    refine st_f hr (l2ident_f tx s_tx _) fun u w6 hx6 ⟨b, ev, hbq⟩ => ?_
    subst ev
    replace hb := hb.bel hx6
    replace hq := hq.bel hx6
    replace hx := hx.trans hx6
    clear hx6
    cases b with
    | false =>
     have hbq : ¬ ident tx := fun q => absurd (hbq.2 q) (by simp)
     conv => cbv
     exact no (by rw [hFP]; rw [if_neg g1, if_neg g3, if_neg g2, if_pos g]; simp [hbq]) _ hx
    | true =>
     have hbq := hbq.1 rfl
     conv => cbv
     (refine st_fld hE fINd2 fun p hp => ?_; (conv => cbv); refine st_load hE cStr (by rw [hp]; exact (hb).at _ _ rfl) ?_; (conv => cbv))
     refine st_fld hE fINd2 fun p hp => ?_
     conv => cbv
     refine st_put hr zStr hq hp (by simp) rfl fun w6 hw6 hq6 => ?_
     simp only [b4_, b5_] at hq6
     conv => cbv
     exact ⟨(0, tx), by simp [Fits, lk], hI _ _ ⟨hx.then (hw6.bel hq hx.size), hb.wr hw6 aq, hq6, by rw [hFP]; simp only; rw [if_neg g1, if_neg g3, if_neg g2, if_pos g]; simp [hbq]⟩⟩
  have g5 : o ≠ 5 := by simpa [hE.cmp, cmpR] using g
  clear g
  conv => cbv
  refine br (fun g => ?_) (fun g => ?_)
  ·have g : o = 4 := by simpa [hE.cmp, cmpR] using g
   conv => cbv
   (refine st_fld hE fINd1 fun p hp => ?_; (conv => cbv); refine st_load hE cI64 (by rw [hp]; exact (hb).at _ _ rfl) ?_; (conv => cbv))
   refine br (fun k2 => ?_) (fun k2 => ?_)
   ·have k2 : z = 0 := by simpa [hE.cmp, cmpR] using k2
    conv => cbv
    (refine st_fld hE fINd2 fun p hp => ?_; (conv => cbv); refine st_load hE cStr (by rw [hp]; exact (hb).at _ _ rfl) ?_; (conv => cbv))
    refine br (fun k3 => ?_) (fun k3 => ?_)
    ·have k3 : tx = ⟨#[]⟩ := (scq hE _ _).1 k3
     conv => cbv
     (refine st_fld hE fINd3 fun p hp => ?_; (conv => cbv); refine st_load hE cStrs (by rw [hp]; exact (hb).at _ _ rfl) ?_; (conv => cbv))
     refine st_qb hE (sIsSet_q (r_xs.ext hx)) fun b hbs w6 hs6 => ?_
     conv => cbv
     rw [hR]; exact ⟨hx.trans hs6.ext, b, rfl, by rw [hbs, hFP]; rw [if_neg g1, if_neg g3, if_neg g2, if_neg g5, if_pos g]; simp [k2, k3]⟩
    ·have k3 : tx ≠ ⟨#[]⟩ := fun e => k3 ((scq hE _ _).2 e)
     conv => cbv
     exact no (by rw [hFP]; rw [if_neg g1, if_neg g3, if_neg g2, if_neg g5, if_pos g]; simp [k3]) _ hx
   ·have k2 : z ≠ 0 := by simpa [hE.cmp, cmpR] using k2
    conv => cbv
    exact no (by rw [hFP]; rw [if_neg g1, if_neg g3, if_neg g2, if_neg g5, if_pos g]; simp [k2]) _ hx
  have g4 : o ≠ 4 := by simpa [hE.cmp, cmpR] using g
  clear g
  conv => cbv
  refine br (fun g => ?_) (fun g => ?_)
  ·have g : o = 6 := by simpa [hE.cmp, cmpR] using g
   cases ty with
   | false =>
    conv => cbv
    exact no (by rw [hFP]; rw [if_neg g1, if_neg g3, if_neg g2, if_neg g5, if_neg g4, if_pos g]; simp) _ hx
   | true =>
    conv => cbv
    (refine st_fld hE fINd1 fun p hp => ?_; (conv => cbv); refine st_load hE cI64 (by rw [hp]; exact (hb).at _ _ rfl) ?_; (conv => cbv))
    refine br (fun k2 => ?_) (fun k2 => ?_)
    ·have k2 : z < 0 := by simpa [hE.cmp, cmpR] using k2
     conv => cbv
     exact no (by rw [hFP]; rw [if_neg g1, if_neg g3, if_neg g2, if_neg g5, if_neg g4, if_pos g]; simp; omega) _ hx
    have k2 : ¬ z < 0 := by simpa [hE.cmp, cmpR] using k2
    conv => cbv
    (refine st_fld hE fINd1 fun p hp => ?_; (conv => cbv); refine st_load hE cI64 (by rw [hp]; exact (hb).at _ _ rfl) ?_; (conv => cbv))
    refine br (fun k3 => ?_) (fun k3 => ?_)
    ·have k3 : 5 < z := by simpa [hE.cmp, cmpR] using k3
     conv => cbv
     exact no (by rw [hFP]; rw [if_neg g1, if_neg g3, if_neg g2, if_neg g5, if_neg g4, if_pos g]; simp; omega) _ hx
    have k3 : ¬ (5 < z) := by simpa [hE.cmp, cmpR] using k3
    conv => cbv
    (refine st_fld hE fINd1 fun p hp => ?_; (conv => cbv); refine st_load hE cI64 (by rw [hp]; exact (hb).at _ _ rfl) ?_; (conv => cbv))
    refine st_fld hE fINd1 fun p hp => ?_
    conv => cbv
    refine st_put hr zI64 hq hp (by simp) rfl fun w6 hw6 hq6 => ?_
    simp only [b4_, b5_] at hq6
    conv => cbv
    exact ⟨(z, ⟨#[]⟩), by simp [Fits, lk], hI _ _ ⟨hx.then (hw6.bel hq hx.size), hb.wr hw6 aq, hq6, by rw [hFP]; simp only; rw [if_neg g1, if_neg g3, if_neg g2, if_neg g5, if_neg g4, if_pos g]; simp only [true_and]; exact ⟨fun q => ⟨by omega, by omega, q⟩, fun q => q.2.2⟩⟩⟩
  have g6 : o ≠ 6 := by simpa [hE.cmp, cmpR] using g
  clear g
  conv => cbv
  refine br (fun g => ?_) (fun g => ?_)
  ·have g : o = 7 := by simpa [hE.cmp, cmpR] using g
   cases ty with
   | false =>
    conv => cbv
    exact no (by rw [hFP]; rw [if_neg g1, if_neg g3, if_neg g2, if_neg g5, if_neg g4, if_neg g6, if_pos g]; simp) _ hx
   | true =>
    conv => cbv
    (refine st_fld hE fINd1 fun p hp => ?_; (conv => cbv); refine st_load hE cI64 (by rw [hp]; exact (hb).at _ _ rfl) ?_; (conv => cbv))
    refine br (fun k2 => ?_) (fun k2 => ?_)
    ·have k2 : z < 0 := by simpa [hE.cmp, cmpR] using k2
     conv => cbv
     exact no (by rw [hFP]; rw [if_neg g1, if_neg g3, if_neg g2, if_neg g5, if_neg g4, if_neg g6, if_pos g]; simp; omega) _ hx
    have k2 : ¬ z < 0 := by simpa [hE.cmp, cmpR] using k2
    conv => cbv
    (refine st_fld hE fINd1 fun p hp => ?_; (conv => cbv); refine st_load hE cI64 (by rw [hp]; exact (hb).at _ _ rfl) ?_; (conv => cbv))
    refine br (fun k3 => ?_) (fun k3 => ?_)
    ·have k3 : 600 ≤ z := by simpa [hE.cmp, cmpR] using k3
     conv => cbv
     exact no (by rw [hFP]; rw [if_neg g1, if_neg g3, if_neg g2, if_neg g5, if_neg g4, if_neg g6, if_pos g]; simp; omega) _ hx
    have k3 : ¬ (600 ≤ z) := by simpa [hE.cmp, cmpR] using k3
    conv => cbv
    (refine st_fld hE fINd1 fun p hp => ?_; (conv => cbv); refine st_load hE cI64 (by rw [hp]; exact (hb).at _ _ rfl) ?_; (conv => cbv))
    refine st_fld hE fINd1 fun p hp => ?_
    conv => cbv
    refine st_put hr zI64 hq hp (by simp) rfl fun w6 hw6 hq6 => ?_
    simp only [b4_, b5_] at hq6
    conv => cbv
    exact ⟨(z, ⟨#[]⟩), by simp [Fits, lk], hI _ _ ⟨hx.then (hw6.bel hq hx.size), hb.wr hw6 aq, hq6, by rw [hFP]; simp only; rw [if_neg g1, if_neg g3, if_neg g2, if_neg g5, if_neg g4, if_neg g6, if_pos g]; simp only [true_and]; exact ⟨fun q => ⟨by omega, by omega, q⟩, fun q => q.2.2⟩⟩⟩
  have g7 : o ≠ 7 := by simpa [hE.cmp, cmpR] using g
  clear g
  conv => cbv
  exact ⟨(0, ⟨#[]⟩), by simp [Fits, lk], hI _ _ ⟨hx, hb, hq, by rw [hFP]; simp only; rw [if_neg g1, if_neg g3, if_neg g2, if_neg g5, if_neg g4, if_neg g6, if_neg g7]⟩⟩
 ·clear hb hq hx
  rintro ⟨wz, wt⟩ w6 ⟨hx, hb, hq, hI⟩
  simp only at hq hI
  have no2 : ¬ (z = wz ∧ tx = wt ∧ xs = []) → ∀ w', Ext w w' → R (.bool false) w' := fun h => no fun q => h (hI.2 q)
  conv => cbv
  (refine st_fld hE fINd1 fun p hp => ?_; (conv => cbv); refine st_load hE cI64 (by rw [hp]; exact (hb).at _ _ rfl) ?_; (conv => cbv))
  (refine st_fld hE fINd1 fun p hp => ?_; (conv => cbv); refine st_load hE cI64 (by rw [hp]; exact (hq).at _ _ rfl) ?_; (conv => cbv))
  refine br (fun g => ?_) (fun g => ?_)
  ·have g : z = wz := by simpa [hE.cmp, cmpR] using g
   conv => cbv
   (refine st_fld hE fINd2 fun p hp => ?_; (conv => cbv); refine st_load hE cStr (by rw [hp]; exact (hb).at _ _ rfl) ?_; (conv => cbv))
   (refine st_fld hE fINd2 fun p hp => ?_; (conv => cbv); refine st_load hE cStr (by rw [hp]; exact (hq).at _ _ rfl) ?_; (conv => cbv))
   refine br (fun g2 => ?_) (fun g2 => ?_)
   ·have g2 : tx = wt := (scq hE _ _).1 g2
    conv => cbv
    (refine st_fld hE fINd3 fun p hp => ?_; (conv => cbv); refine st_load hE cStrs (by rw [hp]; exact (hb).at _ _ rfl) ?_; (conv => cbv))
    refine st_len hE tStrs fun x9 hx9 => ?_
    obtain ⟨q4, hq4⟩ : ∃ q4, q4 = E.cmp .eql x9 0 := ⟨_, rfl⟩
    have hq5 : q4 = true ↔ x9 = 0 := by rw [hq4, hE.cmp]; simp [cmpR]
    conv => cbv
    simp only [← hq4]
    rw [hR]; exact ⟨hx, q4, rfl, by
     rw [hq5, ← hI]
     exact ⟨fun q => ⟨g, g2, List.eq_nil_of_length_eq_zero (by omega)⟩, fun q => by rw [q.2.2] at hxl; simp at hxl; omega⟩⟩
   ·have g2 : tx ≠ wt := fun e => g2 ((scq hE _ _).2 e)
    conv => cbv
    exact no2 (fun q => g2 q.2.1) _ hx
  ·have g : z ≠ wz := by simpa [hE.cmp, cmpR] using g
   conv => cbv
   exact no2 (fun q => g q.1) _ hx
theorem IsTs.uniqT {ns : List PN} {a b : Nat} {ks : List Int} {ts : List Tr} (h : IsTs ns a b ks ts) : ∀ {a' b' : Nat} {ts' : List Tr}, IsTs ns a' b' ks ts' → ts = ts' := by
 induction h with
 | nil => intro a' b' ts' h; cases h; rfl
 | @cons a b k p ks kids ts hp hk h1 h2 i1 i2 =>
  intro a' b' ts' h
  generalize hq : ((k : Int) :: ks) = kk at h
  cases h with
  | nil => cases hq
  | cons hp' hk' h1' h2' =>
   simp only [b1_] at hq
   obtain ⟨e1, e2⟩ := hq
   have e1 : k = _ := Int.ofNat.inj e1
   subst e1; subst e2
   rw [hp] at hp'
   cases hp'
   rw [i1 h1', i2 h2']
theorem IsTs.at {ns : List PN} {a b : Nat} {ks : List Int} {ts : List Tr} (h : IsTs ns a b ks ts) : ∀ {j : Nat} {k : Int}, ks[j]? = some k → ∃ t a' b', ts[j]? = some t ∧ IsTs ns a' b' [k] [t] := by
 induction h with
 | nil => intro j k h; simp at h
 | @cons a b k p ks kids ts hp hk h1 h2 i1 i2 =>
  intro j q hq
  cases j with
  | zero => simp at hq; subst hq; exact ⟨_, a, k + 1, rfl, .cons hp hk h1 (.nil _)⟩
  | succ j => simpa using i2 (by simpa using hq)
theorem IsTs.of_mem {ns : List PN} {a b : Nat} {ks : List Int} {ts : List Tr} (h : IsTs ns a b ks ts) {t : Tr} (ht : t ∈ ts) : ∃ k ∈ ks, ∃ a' b', IsTs ns a' b' [k] [t] := by
 obtain ⟨j, hj⟩ := List.mem_iff_getElem?.1 ht
 have hlt : j < ks.length := by rw [← h.len]; exact (List.getElem?_eq_some_iff.1 hj).1
 obtain ⟨t', a', b', h1, h2⟩ := h.at (g2_ hlt)
 rw [hj] at h1
 cases h1
 exact ⟨_, List.getElem_mem hlt, a', b', h2⟩
theorem IsTs.dep_le {ns : List PN} {a b : Nat} {ks : List Int} {ts : List Tr} (h : IsTs ns a b ks ts) : deps ts ≤ b := by
 induction h with
 | nil => simp [deps]
 | @cons a b k p ks kids ts hp hk h1 h2 i1 i2 =>
  have := h2.le
  rw [deps]
  have : dep (mkT p k kids) ≤ deps kids + 1 := by
   unfold mkT
   split
   ·rw [dep_leaf]; omega
   ·rw [dep]; omega
  omega
theorem kidsW_pre {g : Int → List Int → List Int} (hg : ∀ k o, o <+: g k o) {top : Int} : ∀ (ks out : List Int), out <+: kidsW g top ks out
 | [], out => List.prefix_append _ _
 | k :: ks, out => by
  rw [kidsW]
  split
  ·exact List.prefix_append _ _
  ·exact (hg k out).trans (kidsW_pre hg ks _)
theorem pre_len {a b : List Int} (h : a <+: b) : a.length ≤ b.length := h.length_le
structure Gro (w : World) (A : Option Addr) (w' : World) (A' : Option Addr) : Prop where
 wr : Wr A w w'
 at_ : blk A' = blk A ∨ ∃ b, blk A' = some b ∧ w.heap.size ≤ b
theorem Gro.refl (w : World) (A : Option Addr) : Gro w A w A := ⟨Wr.refl _ _, .inl rfl⟩
theorem Gro.trans {a b c : World} {A B C : Option Addr} (h : Gro a A b B) (k : Gro b B c C) : Gro a A c C := by
 refine ⟨⟨k.wr.os.trans h.wr.os, k.wr.tape.trans h.wr.tape, k.wr.output.trans h.wr.output, n2_ h.wr.size k.wr.size, fun i hi hn => ?_⟩, ?_⟩
 ·have e1 := h.wr.block i hi hn
  have e2 := k.wr.block i (n3_ hi h.wr.size) (by
   rcases h.at_ with e | ⟨b0, e, hb⟩
   ·rw [e]; exact hn
   ·rw [e]; intro q; cases q; omega)
  rw [e2, e1]
 ·rcases k.at_ with e | ⟨b0, e, hb⟩
  ·rw [e]; exact h.at_
  ·exact .inr ⟨b0, e, n2_ h.wr.size hb⟩
theorem Gro.ext {a b c : World} {A C : Option Addr} (h : Ext a b) (k : Gro b A c C) : Gro a A c C := Gro.trans ⟨h.wr A, .inl rfl⟩ k
theorem Gro.app {a b c : World} {A C : Option Addr} (h : Ext a b) (hw : Wr A b c) (hk : blk C = blk A ∨ blk C = some b.heap.size) : Gro a A c C :=
 Gro.ext h ⟨hw, hk.imp id fun e => ⟨_, e, n1_ _⟩⟩
theorem Gro.apart {a c : World} {A C : Option Addr} {x : Addr} {B e k m cc : Nat} {xs : List Value} (h : Gro a A c C) (hx : Own B e k a (some x) m cc xs) (ha : Apart A (some x) ∧ Apart (some x) A) : Apart C (some x) ∧ Apart (some x) C := by
 obtain ⟨gb, rfl, _, hlt⟩ := hx.form
 have hb : blk (some (⟨gb, 0, none⟩ : Addr)) = some gb := rfl
 have key : blk C ≠ some gb := by
  rcases h.at_ with e | ⟨b0, e, hb0⟩
  ·rw [e]
   rcases ha.2 with h1 | h1
   ·cases h1
   ·rw [hb] at h1; exact fun q => h1 q.symm
  ·rw [e]; intro q; cases q; omega
 exact ⟨.inr (by rw [hb]; exact key), .inr (by rw [hb]; exact fun q => key q.symm)⟩
theorem l2walk_g {w0 : World} {AN : Option Addr} {N cN : Nat} {nv : List PN} (hN : RNs w0 AN N nv) (hk : ∀ p ∈ nv, p.ks.length ≤ 3) (hNb : N ≤ 4000) : ∀ (f : Nat), f ≤ 4001 → ∀ (top : Int) (w : World) (A : Option Addr) (n c : Nat) (out : List Int), (top < f ∨ (N : Int) ≤ top) → Ext w0 w → Own w0.heap.size 3 1 w A n c (out.map (.int .i64)) → n + f ≤ 60000 →
  GC Tryz.prog 151 [.slice AN N cN, .int .i64 top, .slice A n c] w fun v w' => ∃ A' n' c', v = .slice A' n' c' ∧ Ext w0 w' ∧ Own w0.heap.size 3 1 w' A' n' c' ((walkF nv f top out).map (.int .i64)) ∧ Gro w A w' A' := by
 intro f
 induction f with
 | zero =>
  intro hf top w A n c out htop hx ho hnf
  refine GC.intro (cs := []) Tryz.func151 (by kernel_rfl) fun E R hE hr hR => ?_
  have hol := ho.len
  rw [List.length_map, Nat.mul_one] at hol
  have bad : ∀ w2, w2 = w → E.cmp .eql 0 0 = E.cmp .eql 0 0 := fun _ _ => rfl
  clear bad
  conv => cbv
  refine br (fun g => ?_) (fun g => ?_)
  ·conv => cbv
   refine st_one hr tInts rfl rfl fun A1 w1 hx1 hc1 => ?_
   conv => cbv
   refine st_appsG hr tInts rfl (ho.bel hx1) hc1 rfl (by simp [Value.oneCell']) (n2_ hx.size hx1.size) (by omega) (by omega) fun A2 c2 m2 w2 hm2 hw2 ho2 hk2 => ?_
   conv => cbv
   rw [hR]; exact ⟨A2, m2, c2, rfl, (hx.trans hx1).then (hw2.bel (ho.bel hx1) (n2_ hx.size hx1.size)), by rw [walkF, List.map_append]; exact ho2, Gro.app hx1 hw2 hk2⟩
  have g : ¬ top < 0 := by simpa [hE.cmp, cmpR] using g
  conv => cbv
  refine st_len hE sINd fun x hx9 => ?_
  conv => cbv
  refine br (fun g2 => ?_) (fun g2 => ?_)
  ·conv => cbv
   refine st_one hr tInts rfl rfl fun A1 w1 hx1 hc1 => ?_
   conv => cbv
   refine st_appsG hr tInts rfl (ho.bel hx1) hc1 rfl (by simp [Value.oneCell']) (n2_ hx.size hx1.size) (by omega) (by omega) fun A2 c2 m2 w2 hm2 hw2 ho2 hk2 => ?_
   conv => cbv
   rw [hR]; exact ⟨A2, m2, c2, rfl, (hx.trans hx1).then (hw2.bel (ho.bel hx1) (n2_ hx.size hx1.size)), by rw [walkF, List.map_append]; exact ho2, Gro.app hx1 hw2 hk2⟩
  have g2 : ¬ x ≤ top := by simpa [hE.cmp, cmpR] using g2
  exfalso; omega
 | succ f ih =>
  intro hf top w A n c out htop hx ho hnf
  refine GC.intro (cs := []) Tryz.func151 (by kernel_rfl) fun E R hE hr hR => ?_
  have hol := ho.len
  rw [List.length_map, Nat.mul_one] at hol
  have hNl := hN.len
  have hlen := walk_len hk (f + 1) top out
  obtain ⟨V, hV0⟩ : ∃ V, V = walkF nv (f + 1) top out := ⟨_, rfl⟩
  rw [← hV0] at hR hlen
  have hV := hV0
  rw [walkF] at hV
  conv => cbv
  refine br (fun g => ?_) (fun g => ?_)
  ·have g : top < 0 := by simpa [hE.cmp, cmpR] using g
   rw [if_pos (.inl g)] at hV
   conv => cbv
   refine st_one hr tInts rfl rfl fun A1 w1 hx1 hc1 => ?_
   conv => cbv
   refine st_appsG hr tInts rfl (ho.bel hx1) hc1 rfl (by simp [Value.oneCell']) (n2_ hx.size hx1.size) (by omega) (by omega) fun A2 c2 m2 w2 hm2 hw2 ho2 hk2 => ?_
   conv => cbv
   rw [hR]; exact ⟨A2, m2, c2, rfl, (hx.trans hx1).then (hw2.bel (ho.bel hx1) (n2_ hx.size hx1.size)), by rw [hV, List.map_append]; exact ho2, Gro.app hx1 hw2 hk2⟩
  have g : ¬ top < 0 := by simpa [hE.cmp, cmpR] using g
  conv => cbv
  refine st_len hE sINd fun x hx9 => ?_
  conv => cbv
  refine br (fun g2 => ?_) (fun g2 => ?_)
  ·have g2 : x ≤ top := by simpa [hE.cmp, cmpR] using g2
   rw [if_pos (.inr (.inl (by omega)))] at hV
   conv => cbv
   refine st_one hr tInts rfl rfl fun A1 w1 hx1 hc1 => ?_
   conv => cbv
   refine st_appsG hr tInts rfl (ho.bel hx1) hc1 rfl (by simp [Value.oneCell']) (n2_ hx.size hx1.size) (by omega) (by omega) fun A2 c2 m2 w2 hm2 hw2 ho2 hk2 => ?_
   conv => cbv
   rw [hR]; exact ⟨A2, m2, c2, rfl, (hx.trans hx1).then (hw2.bel (ho.bel hx1) (n2_ hx.size hx1.size)), by rw [hV, List.map_append]; exact ho2, Gro.app hx1 hw2 hk2⟩
  have g2 : ¬ x ≤ top := by simpa [hE.cmp, cmpR] using g2
  conv => cbv
  refine st_len hE tInts fun x3 hx3 => ?_
  conv => cbv
  refine st_len hE sINd fun x4 hx4 => ?_
  conv => cbv
  refine br (fun g3 => ?_) (fun g3 => ?_)
  ·have g3 : x4 < x3 := by simpa [hE.cmp, cmpR] using g3
   rw [if_pos (.inr (.inr (by omega)))] at hV
   conv => cbv
   refine st_one hr tInts rfl rfl fun A1 w1 hx1 hc1 => ?_
   conv => cbv
   refine st_appsG hr tInts rfl (ho.bel hx1) hc1 rfl (by simp [Value.oneCell']) (n2_ hx.size hx1.size) (by omega) (by omega) fun A2 c2 m2 w2 hm2 hw2 ho2 hk2 => ?_
   conv => cbv
   rw [hR]; exact ⟨A2, m2, c2, rfl, (hx.trans hx1).then (hw2.bel (ho.bel hx1) (n2_ hx.size hx1.size)), by rw [hV, List.map_append]; exact ho2, Gro.app hx1 hw2 hk2⟩
  have g3 : ¬ x4 < x3 := by simpa [hE.cmp, cmpR] using g3
  rw [if_neg (by omega)] at hV
  obtain ⟨tn, htn⟩ : ∃ tn : Nat, top = tn := ⟨top.toNat, by omega⟩
  obtain ⟨a, v, hA, hg, hc, hok⟩ := hN.get (i := tn) (by omega)
  rw [show top.toNat = tn by omega, hg] at hV
  simp only [Option.map_some, Option.getD_some] at hV
  conv => cbv
  refine st_idx hE sINd hA (by omega) (by omega) fun q hq => ?_
  rw [show top.toNat = tn by omega] at hq
  conv => cbv
  refine st_fld hE fINd4 fun q2 hq2 => ?_
  conv => cbv
  refine st_load hE cInts (v := .slice v.A1 v.m1 v.c1) (by rw [hq2, hq]; exact hx.cell (hc 4 _ rfl)) ?_
  have rk := hok.r_ks
  have hkl := rk.len
  have hk3 := hk _ (m1_ hg)
  obtain ⟨ks, hks⟩ : ∃ ks, ks = v.p.ks := ⟨_, rfl⟩
  obtain ⟨A5, hA5⟩ : ∃ x, x = v.A1 := ⟨_, rfl⟩
  obtain ⟨m5, hm5⟩ : ∃ x, x = v.m1 := ⟨_, rfl⟩
  obtain ⟨c5, hc5⟩ : ∃ x, x = v.c1 := ⟨_, rfl⟩
  rw [← hks, ← hA5, ← hm5, ← hc5] at rk
  rw [← hks, ← hm5] at hkl
  rw [← hks] at hV hk3
  rw [← hA5, ← hm5, ← hc5]
  conv => cbv
  clear hq hq2 hc hok
  refine st_len hE tInts fun x5 hx5 => ?_
  conv => cbv
  have hle5 := rk.le
  refine loop_rule hr (fun (s : Nat × Int × Option Addr × Nat × Nat × List Int) w' => s.1 ≤ m5 ∧ s.2.1 = (s.1 : Int) ∧ Ext w0 w' ∧ Own w0.heap.size 3 1 w' s.2.2.1 s.2.2.2.1 s.2.2.2.2.1 (s.2.2.2.2.2.map (.int .i64)) ∧ kidsW (walkF nv f) top (ks.drop s.1) s.2.2.2.2.2 = V ∧ Gro w A w' s.2.2.1)
   (fun s => [(0, .slice AN N cN), (1, .int .i64 top), (2, .slice s.2.2.1 s.2.2.2.1 s.2.2.2.2.1), (31, .slice A5 m5 c5), (32, .int .i64 x5), (33, .int .i64 s.2.1)]) (fun s => m5 - s.1) (0, 0, A, n, c, out)
   (by simp [Fits, lk]) ⟨by simp, by simp, hx, ho, by simpa using hV.symm, Gro.refl _ _⟩ ?_
  clear hx ho
  rintro I hI ⟨j, jj, A', n', c', out'⟩ w' ⟨hj, hjj, hx, ho, hKV, hG⟩
  simp only at hj hjj ho hKV hG
  have hol' := ho.len
  rw [List.length_map, Nat.mul_one] at hol'
  have hpl : n' ≤ V.length := by rw [← hol', ← hKV]; exact pre_len (kidsW_pre (walk_pre nv f) _ _)
  have hn' : n' + f ≤ 60000 := by omega
  obtain ⟨jk, hjk⟩ : ∃ z, z = jj + 1 := ⟨_, rfl⟩
  conv => cbv
  refine br (fun g4 => ?_) (fun g4 => ?_)
  ·have g4 : j < m5 := by
    have : jj < x5 := by simpa [hE.cmp, cmpR] using g4
    omega
   have ej : E.ar .add .i64 jj 1 = jk := by rw [hE.ar, hjk]; exact wrap_in (by omega) (by omega)
   conv => cbv
   refine st_int hE tInts (rk.ext hx) (k := j) (by omega) g4 fun p u hu hp => ?_
   have hdr : ks.drop j = u :: ks.drop (j + 1) := by
    obtain ⟨z1, z2⟩ := List.getElem?_eq_some_iff.1 hu
    rw [List.drop_eq_getElem_cons z1, z2]
   rw [hdr, kidsW] at hKV
   conv => cbv
   refine st_load hE cInt hp ?_
   conv => cbv
   refine br (fun g5 => ?_) (fun g5 => ?_)
   ·have g5 : top ≤ u := by simpa [hE.cmp, cmpR] using g5
    rw [if_pos g5] at hKV
    conv => cbv
    refine st_one hr tInts rfl rfl fun A1 w1 hx1 hc1 => ?_
    conv => cbv
    refine st_appsG hr tInts rfl (ho.bel hx1) hc1 rfl (by simp [Value.oneCell']) (n2_ hx.size hx1.size) (by omega) (by omega) fun A2 c2 m2 w2 hm2 hw2 ho2 hk2 => ?_
    conv => cbv
    rw [hR]; exact ⟨A2, m2, c2, rfl, (hx.trans hx1).then (hw2.bel (ho.bel hx1) (n2_ hx.size hx1.size)), by rw [← hKV, List.map_append]; exact ho2, hG.trans (Gro.app hx1 hw2 hk2)⟩
   ·have g5 : ¬ top ≤ u := by simpa [hE.cmp, cmpR] using g5
    rw [if_neg g5] at hKV
    conv => cbv
    refine st_g hr (ih (by omega) u w' A' n' c' out' (.inl (by omega)) hx ho hn') fun r w2 ⟨A2, n2, c2, ev, hx2, ho2, hG2⟩ => ?_
    subst ev
    conv => cbv
    simp only [ej]
    exact ⟨(j + 1, jk, A2, n2, c2, walkF nv f u out'), by simp [Fits, lk], hI _ _ ⟨by simp only; omega, by simp only; omega, hx2, ho2, hKV, hG.trans hG2⟩, by simp only; omega⟩
  ·have g4 : j = m5 := by
    have : ¬ jj < x5 := by simpa [hE.cmp, cmpR] using g4
    omega
   rw [List.drop_of_length_le (by omega), kidsW] at hKV
   conv => cbv
   refine st_one hr tInts rfl rfl fun A1 w1 hx1 hc1 => ?_
   conv => cbv
   refine st_appsG hr tInts rfl (ho.bel hx1) hc1 rfl (by simp [Value.oneCell']) (n2_ hx.size hx1.size) (by omega) (by omega) fun A2 c2 m2 w2 hm2 hw2 ho2 hk2 => ?_
   conv => cbv
   rw [hR]; exact ⟨A2, m2, c2, rfl, (hx.trans hx1).then (hw2.bel (ho.bel hx1) (n2_ hx.size hx1.size)), by rw [← hKV, List.map_append]; exact ho2, hG.trans (Gro.app hx1 hw2 hk2)⟩
theorem l2depth_q {w : World} {AN : Option Addr} {N cN : Nat} {nv : List PN} (hN : RNs w AN N nv) (hNb : N ≤ 4000) : ∀ (k : Nat) (a b : Nat) (t : Tr), IsTs nv a b [(k : Int)] [t] → QF Tryz.prog 152 [.slice AN N cN, .int .i64 (k : Int)] w (.int .i64 (dep t : Int)) := by
 intro k
 induction k using Nat.strongRecOn with
 | _ k ih =>
  intro a b t ht
  refine QF.intro (cs := []) Tryz.func152 (by kernel_rfl) fun w0 hx0 w1 hs E R hE hr hR => ?_
  have hNl := hN.len
  have hdt : dep t ≤ 4000 := by
   have h1 := ht.dep_le
   have h2 := ht.bound (by have := (ht.roots k (by simp)).1; have := (ht.roots k (by simp)).2; omega)
   rw [deps] at h1; omega
  obtain ⟨kn, p, kids, e1, e2, hp, hk, hks, et⟩ := ht.one
  have e1 : k = kn := by omega
  subst e1
  have et : t = mkT p k kids := by simpa using et
  have hkn := (List.getElem?_eq_some_iff.1 hp).1
  obtain ⟨ad, v, hA, hg, hc, hok⟩ := hN.get (i := k) (by omega)
  rw [hp] at hg
  have hpv : p = v.p := Option.some.inj hg
  subst hpv
  have hx1 : Ext w w1 := hx0.trans hs.ext
  obtain ⟨kk, hkk⟩ : ∃ kk : Int, kk = k := ⟨_, rfl⟩
  rw [← hkk]
  obtain ⟨D, hD⟩ : ∃ D : Int, D = dep t := ⟨_, rfl⟩
  rw [← hD] at hR
  conv => cbv
  refine st_idx hE sINd hA (by omega) (by omega) fun q hq => ?_
  rw [show kk.toNat = k by omega] at hq
  conv => cbv
  refine st_fld hE fINd4 fun q2 hq2 => ?_
  conv => cbv
  refine st_load hE cInts (v := .slice v.A1 v.m1 v.c1) (by rw [hq2, hq]; exact hx1.cell (hc 4 _ rfl)) ?_
  have rk := hok.r_ks
  have hkl := rk.len
  have hlen := hks.len
  have hdk : dep t = deps kids + 1 ∨ (kids = [] ∧ dep t = 1) := by
   rw [et, mkT]
   split
   ·rw [dep_leaf]; exact .inr ⟨List.eq_nil_of_length_eq_zero (by omega), rfl⟩
   ·exact .inl (by rw [dep])
  obtain ⟨ks, hks0⟩ : ∃ ks, ks = v.p.ks := ⟨_, rfl⟩
  obtain ⟨A5, hA5⟩ : ∃ x, x = v.A1 := ⟨_, rfl⟩
  obtain ⟨m5, hm5⟩ : ∃ x, x = v.m1 := ⟨_, rfl⟩
  obtain ⟨c5, hc5⟩ : ∃ x, x = v.c1 := ⟨_, rfl⟩
  rw [← hks0, ← hA5, ← hm5, ← hc5] at rk
  rw [← hks0, ← hm5] at hkl
  rw [← hks0] at hks hlen
  rw [← hA5, ← hm5, ← hc5]
  conv => cbv
  clear hq hq2 hc hok
  refine st_len hE tInts fun x5 hx5 => ?_
  conv => cbv
  have hle5 := rk.le
  refine loop_rule hr (fun (s : Nat × Int × Int) w' => s.1 ≤ m5 ∧ s.2.1 = (s.1 : Int) ∧ Same w0 w' ∧ s.2.2 = (deps (kids.take s.1) : Int))
   (fun s => [(0, .slice AN N cN), (1, .int .i64 kk), (5, .int .i64 s.2.2), (13, .slice A5 m5 c5), (14, .int .i64 x5), (15, .int .i64 s.2.1)]) (fun s => m5 - s.1) (0, 0, 0)
   (by simp [Fits, lk]) ⟨by simp, by simp, hs, by simp [deps]⟩ ?_
  rintro I hI ⟨j, jj, d⟩ w' ⟨hj, hjj, hs', hd⟩
  simp only at hj hjj hd
  have hxw : Ext w w' := hx0.trans hs'.ext
  obtain ⟨jk, hjk⟩ : ∃ z, z = jj + 1 := ⟨_, rfl⟩
  have take1 : ∀ (u : Int) (t' : Tr), kids[j]? = some t' → deps (kids.take (j + 1)) = max (deps (kids.take j)) (dep t') := by
   intro u t' h
   rw [g4_, h]
   have : ∀ l : List Tr, deps (l ++ [t']) = max (deps l) (dep t') := by
    intro l
    induction l with
    | nil => simp [deps]
    | cons x l ih => rw [List.cons_append, deps, ih, deps]; omega
   exact this _
  have dle : deps (kids.take j) ≤ deps kids := deps_le fun t ht => deps_mem (List.mem_of_mem_take ht)
  conv => cbv
  refine br (fun g4 => ?_) (fun g4 => ?_)
  ·have g4 : j < m5 := by
    have : jj < x5 := by simpa [hE.cmp, cmpR] using g4
    omega
   have ej : E.ar .add .i64 jj 1 = jk := by rw [hE.ar, hjk]; exact wrap_in (by omega) (by omega)
   conv => cbv
   refine st_int hE tInts (rk.ext hxw) (k := j) (by omega) g4 fun p u hu hp => ?_
   obtain ⟨t', a', b', ht1, ht2⟩ := hks.at hu
   obtain ⟨un, hun⟩ : ∃ un : Nat, u = un := ⟨u.toNat, by have := (hks.roots u (m1_ hu)).1; omega⟩
   have hult : un < k := by have := (hks.roots u (m1_ hu)).2; omega
   conv => cbv
   refine st_load hE cInt hp ?_
   conv => cbv
   have hc := ih un hult a' b' t' (by rw [← hun]; exact ht2)
   rw [← hun] at hc
   have hcx : QF Tryz.prog 152 [.slice AN N cN, .int .i64 u] w' (.int .i64 (dep t' : Int)) := ⟨hc.1, fun w2 h2 => hc.2 w2 (hxw.trans h2)⟩
   refine st_qi hE hcx fun e he w2 hs2 => ?_
   conv => cbv
   refine br (fun g5 => ?_) (fun g5 => ?_)
   ·have g5 : d < e := by simpa [hE.cmp, cmpR] using g5
    conv => cbv
    simp only [ej]
    exact ⟨(j + 1, jk, e), by simp [Fits, lk], hI _ _ ⟨by simp only; omega, by simp only; omega, hs'.trans hs2, by simp only; rw [take1 u t' ht1]; omega⟩, by simp only; omega⟩
   ·have g5 : ¬ d < e := by simpa [hE.cmp, cmpR] using g5
    conv => cbv
    simp only [ej]
    exact ⟨(j + 1, jk, d), by simp [Fits, lk], hI _ _ ⟨by simp only; omega, by simp only; omega, hs'.trans hs2, by simp only; rw [take1 u t' ht1]; omega⟩, by simp only; omega⟩
  ·have g4 : j = m5 := by
    have : ¬ jj < x5 := by simpa [hE.cmp, cmpR] using g4
    omega
   rw [g3_ (by omega)] at hd
   have hD2 : D = d + 1 := by
    rcases hdk with h1 | ⟨h1, h2⟩
    ·omega
    ·rw [h1] at hd; simp [deps] at hd; omega
   have ed : E.ar .add .i64 d 1 = D := by rw [hE.ar, hD2]; exact wrap_in (by omega) (by omega)
   conv => cbv
   simp only [ed]
   rw [hR]; exact ⟨rfl, hs'⟩
theorem room_sum {l : Int} {b : Nat} (h : 0 ≤ room l b) : room l b + b ≤ l := by
 unfold room at *
 split at h
 ·omega
 ·rename_i q; rw [if_neg q]; omega
theorem szIntS_f {w : World} {A : Option Addr} {n c : Nat} {zs : List Int} (h : Ints w A n c zs) (l : Int) (h0 : 0 ≤ l) (h1 : l ≤ 1048576) :
  FC Tryz.prog 79 [.slice A n c, .int .i64 l] w fun v _ => ∃ r : Int, v = .int .i64 r ∧ r ≤ l ∧ (0 ≤ r → r + n ≤ l) := by
 refine FC.intro (cs := []) Tryz.func79 (by kernel_rfl) fun E R hE hr hR => ?_
 have hle := h.le
 conv => cbv
 refine st_len hE tInts fun x hx => ?_
 conv => cbv
 obtain ⟨y1, hy1⟩ : ∃ y, y = l - x := ⟨_, rfl⟩
 have e1 : E.ar .sub .i64 l x = y1 := by rw [hE.ar, hy1]; exact wrap_in (by omega) (by omega)
 simp only [e1]
 refine br (fun _ => ?_) (fun g1 => ?_)
 ·conv => cbv
  rw [hR]; exact ⟨Ext.refl _, -1, rfl, by omega, fun h => by omega⟩
 conv => cbv
 rw [hR]; exact ⟨Ext.refl _, y1, rfl, by omega, fun h => by omega⟩
theorem toIntS_f {w : World} {A : Option Addr} {n c : Nat} {zs : List Int} (h : Ints w A n c zs) (hn : n ≤ 1048576) :
  FC Tryz.prog 82 [.slice A n c] w fun v w' => ∃ A1 c1, v = .slice A1 n c1 ∧ Own w.heap.size 3 1 w' A1 n c1 (zs.map (.int .i64)) := by
 refine FC.intro (cs := []) Tryz.func82 (by kernel_rfl) fun E R hE hr hR => ?_
 have hl := h.len
 conv => cbv
 refine st_len hE tInts fun x hx => ?_
 conv => cbv
 refine st_make hr tInts rfl (m := n) (by omega) (by omega) (by omega) fun A1 w1 hx1 h10 => ?_
 have h1 := h10 _ (n1_ _)
 conv => cbv
 refine loop_rule hr (fun (s : Nat × Int) w' => s.1 ≤ n ∧ s.2 = (s.1 : Int) ∧ Ext w w' ∧ Own w.heap.size 3 1 w' A1 n n ((zs.take s.1).map (.int .i64) ++ List.replicate (n - s.1) (.int .i64 0)))
  (fun s => [(0, .slice A n c), (3, .slice A1 n n), (4, .int .i64 s.2)]) (fun s => n - s.1) (0, 0)
  (by simp [Fits, lk]) ⟨by simp, by simp, hx1, by simpa using h1⟩ ?_
 rintro I hI ⟨i, ii⟩ w' ⟨hi, hii, hxw, ho⟩
 simp only at hi hii ho
 obtain ⟨ii', hii'⟩ : ∃ z, z = ii + 1 := ⟨_, rfl⟩
 conv => cbv
 refine st_len hE tInts fun x2 hx2 => ?_
 conv => cbv
 refine br (fun g2 => ?_) (fun g2 => ?_)
 ·have g2 : i < n := by
   have : ii < x2 := by simpa [hE.cmp, cmpR] using g2
   omega
  have ei : E.ar .add .i64 ii 1 = ii' := by rw [hE.ar, hii']; exact wrap_in (by omega) (by omega)
  obtain ⟨gb, rfl, _⟩ := ho.addr (by omega)
  conv => cbv
  refine st_int hE tInts (h.ext hxw) (k := i) (by omega) g2 fun p u hu hp => ?_
  conv => cbv
  refine st_load hE cInt hp ?_
  conv => cbv
  refine st_idx hE tInts rfl (by omega) (by omega) fun q hq => ?_
  rw [show ii.toNat = i by omega] at hq
  conv => cbv
  refine st_set hr tInts ho rfl (j := i) g2 hq rfl fun w3 hb3 hw3 ho3 => ?_
  conv => cbv
  simp only [ei]
  have hset : ((zs.take i).map (Value.int .i64) ++ List.replicate (n - i) (Value.int .i64 0)).set i (Value.int .i64 u) = (zs.take (i + 1)).map (Value.int .i64) ++ List.replicate (n - (i + 1)) (Value.int .i64 0) := by
   have hli : ((zs.take i).map (Value.int .i64)).length = i := by simp; omega
   rw [List.set_append_right _ _ (by omega), hli, Nat.sub_self, show n - i = (n - (i + 1)) + 1 by omega, List.replicate_succ, b4_, g4_, hu, List.map_append, List.append_assoc]; rfl
  rw [hset] at ho3
  exact ⟨(i + 1, ii'), by simp [Fits, lk], hI _ _ ⟨by simp only; omega, by simp only; omega, hxw.then hb3, ho3⟩, by simp only; omega⟩
 ·have g2 : i = n := by
   have : ¬ ii < x2 := by simpa [hE.cmp, cmpR] using g2
   omega
  subst g2
  rw [g3_ (by omega), Nat.sub_self, List.replicate_zero, a7_] at ho
  conv => cbv
  rw [hR]; exact ⟨hxw, A1, i, rfl, ho⟩
theorem eqIntS_q {w : World} {A A1 : Option Addr} {n c n1 c1 : Nat} {zs ys : List Int} (h : Ints w A n c zs) (h1 : Ints w A1 n1 c1 ys) :
  QB Tryz.prog 54 [.slice A n c, .slice A1 n1 c1] w (zs = ys) := by
 refine QB.intro (cs := []) Tryz.func54 (by kernel_rfl) fun w0 hx0 w1 hs E R hE hr hR => ?_
 replace h := (h.ext hx0).ext hs.ext
 replace h1 := (h1.ext hx0).ext hs.ext
 have hl := h.len
 have hl1 := h1.len
 have hle := h.le
 conv => cbv
 refine st_len hE tInts fun x hx => ?_
 conv => cbv
 refine st_len hE tInts fun x1 hx1 => ?_
 conv => cbv
 refine br (fun g => ?_) (fun g => ?_)
 ·have g : x ≠ x1 := by simpa [hE.cmp, cmpR] using g
  conv => cbv
  exact hR _ _ hs (by simp only [Bool.false_eq_true, false_iff]; exact fun e => g (by rw [e] at hl; omega))
 have g : n = n1 := by
  have : x = x1 := by simpa [hE.cmp, cmpR] using g
  omega
 subst g
 conv => cbv
 refine loop_rule hr (fun (s : Nat × Int) w' => s.1 ≤ n ∧ s.2 = (s.1 : Int) ∧ Same w1 w' ∧ zs.take s.1 = ys.take s.1) (fun s => [(0, .slice A n c), (1, .slice A1 n c1), (5, .int .i64 s.2)]) (fun s => n - s.1) (0, 0)
  (by simp [Fits, lk]) ⟨by simp, by simp, Same.refl _, by simp⟩ ?_
 rintro I hI ⟨i, ii⟩ w' ⟨hi, hii, hxw, hall⟩
 simp only at hi hii hall
 obtain ⟨ii', hii'⟩ : ∃ z, z = ii + 1 := ⟨_, rfl⟩
 conv => cbv
 refine st_len hE tInts fun x2 hx2 => ?_
 conv => cbv
 refine br (fun g => ?_) (fun g => ?_)
 ·have g : i < n := by
   have : ii < x2 := by simpa [hE.cmp, cmpR] using g
   omega
  have e1 : E.ar .add .i64 ii 1 = ii' := by rw [hE.ar, hii']; exact wrap_in (by omega) (by omega)
  conv => cbv
  refine draw_q hr fol (by kernel_rfl) fun E' hE' => ?_
  conv => cbv
  refine st_int hE' tInts (h.ext hxw.ext) (k := i) (by omega) g fun p u hu hp => ?_
  conv => cbv
  refine st_load hE' cInt hp ?_
  conv => cbv
  refine st_int hE' tInts (h1.ext hxw.ext) (k := i) (by omega) g fun p2 y hy hp2 => ?_
  conv => cbv
  refine st_load hE' cInt hp2 ?_
  obtain ⟨q, hq⟩ : ∃ q, q = E'.cmp .neq u y := ⟨_, rfl⟩
  have hq' : q = true ↔ u ≠ y := by rw [hq, hE'.cmp]; simp [cmpR]
  conv => cbv
  simp only [← hq]
  intro w4 hs4
  conv => cbv
  refine br (fun g2 => ?_) (fun g2 => ?_)
  ·have g2 := hq'.1 g2
   conv => cbv
   exact hR _ _ ((hs.trans hxw).trans hs4) (by
    simp only [Bool.false_eq_true, false_iff]
    intro e; rw [e, hy] at hu; exact g2 (Option.some.inj hu).symm)
  ·have g2 : u = y := by
    refine Classical.byContradiction fun e => g2 (hq'.2 e)
   conv => cbv
   simp only [e1]
   exact ⟨(i + 1, ii'), by simp [Fits, lk], hI _ _ ⟨by simp only; omega, by simp only; omega, hxw.trans hs4, by simp only; rw [g4_, g4_, hall, hu, hy, g2]⟩, by simp only; omega⟩
 ·have g : i = n := by
   have : ¬ ii < x2 := by simpa [hE.cmp, cmpR] using g
   omega
  rw [g3_ (by omega), g3_ (by omega)] at hall
  conv => cbv
  exact hR _ _ (hs.trans hxw) (by simp [hall])
theorem szNode_f {w : World} (v : VN) (h : OKN w v) (l : Int) (h0 : 0 ≤ l) (h1 : l ≤ 1048576) :
  FC Tryz.prog 93 [.agg ⟨cN v⟩, .int .i64 l] w fun u _ => ∃ r : Int, u = .int .i64 r ∧ r ≤ l ∧ (0 ≤ r → r + wtN v.p ≤ l) := by
 refine FC.intro (cs := []) Tryz.func93 (by kernel_rfl) fun E R hE hr hR => ?_
 obtain ⟨⟨o, z, tx, xs, ks⟩, A0, m0, c0, A1, m1, c1⟩ := v
 have s_tx := h.s_tx
 have r_xs := h.r_xs
 have r_ks := h.r_ks
 clear h
 simp only at s_tx r_xs r_ks
 conv => cbv
 refine st_box hr fun a w1 hx hb0 => ?_
 have hb := hb0 _ (n1_ _)
 conv => cbv
 (refine st_fld hE fLNd2 fun p hp => ?_; (conv => cbv); refine st_load hE cStr (by rw [hp]; exact (hb).at _ _ rfl) ?_; (conv => cbv))
 refine st_slen hE uStr fun x1 hx1 => ?_
 conv => cbv
 obtain ⟨y1, hy1⟩ : ∃ y, y = l - x1 := ⟨_, rfl⟩
 have e1 : E.ar .sub .i64 l x1 = y1 := by rw [hE.ar, hy1]; exact wrap_in (by omega) (by omega)
 simp only [e1]
 refine br (fun _ => ?_) (fun g1 => ?_)
 ·conv => cbv
  rw [hR]; exact ⟨hx, -1, rfl, by omega, fun h => by omega⟩
 have g1 : 0 ≤ y1 := by simpa [hE.cmp, cmpR] using g1
 conv => cbv
 (refine st_fld hE fLNd3 fun p hp => ?_; (conv => cbv); refine st_load hE cStrs (by rw [hp]; exact (hb).at _ _ rfl) ?_; (conv => cbv))
 refine st_qi hE (szStringS_q (r_xs.ext hx) y1 (by omega) (by omega)) fun y2 hl2 w7 hs2 => ?_
 replace hb := hb.bel hs2.ext
 replace hx := hx.trans hs2.ext
 have hy2 : 0 ≤ y2 → y2 + bulk xs ≤ y1 := fun q => by rw [hl2] at q ⊢; exact room_sum q
 have hz2 : y2 ≤ y1 := by rw [hl2]; unfold room; split <;> omega
 conv => cbv
 refine br (fun _ => ?_) (fun g2 => ?_)
 ·conv => cbv
  rw [hR]; exact ⟨hx, -1, rfl, by omega, fun h => by omega⟩
 have g2 : 0 ≤ y2 := by simpa [hE.cmp, cmpR] using g2
 conv => cbv
 have hy2 := hy2 g2
 (refine st_fld hE fLNd4 fun p hp => ?_; (conv => cbv); refine st_load hE cInts (by rw [hp]; exact (hb).at _ _ rfl) ?_; (conv => cbv))
 refine st_f hr (szIntS_f (r_ks.ext hx) y2 (by omega) (by omega)) fun v w8 hx3 ⟨y3, ev, hz3, hy3⟩ => ?_
 subst ev
 have hl_ks := r_ks.len
 replace hb := hb.bel hx3
 replace hx := hx.trans hx3
 conv => cbv
 refine br (fun _ => ?_) (fun g3 => ?_)
 ·conv => cbv
  rw [hR]; exact ⟨hx, -1, rfl, by omega, fun h => by omega⟩
 have g3 : 0 ≤ y3 := by simpa [hE.cmp, cmpR] using g3
 conv => cbv
 have hy3 := hy3 g3
 rw [hR]; exact ⟨hx, y3, rfl, by omega, fun _ => by simp only [wtN]; omega⟩
theorem szNodeS_f {w : World} {A : Option Addr} {n c : Nat} {pv : List PN} (h : RNs w A n pv) (hn : n ≤ 9223372036854775807) (l : Int) (h0 : 0 ≤ l) (h1 : l ≤ 1048576) :
  FC Tryz.prog 39 [.slice A n c, .int .i64 l] w fun v _ => ∃ r : Int, v = .int .i64 r ∧ r ≤ l ∧ (0 ≤ r → r + wtNs pv ≤ l) := by
 refine FC.intro (cs := []) Tryz.func39 (by kernel_rfl) fun E R hE hr hR => ?_
 have hl := h.len
 conv => cbv
 refine st_len hE sLNd fun x hx => ?_
 conv => cbv
 obtain ⟨y1, hy1⟩ : ∃ y, y = l - x := ⟨_, rfl⟩
 have e1 : E.ar .sub .i64 l x = y1 := by rw [hE.ar, hy1]; exact wrap_in (by omega) (by omega)
 simp only [e1]
 refine br (fun _ => ?_) (fun g1 => ?_)
 ·conv => cbv
  rw [hR]; exact ⟨Ext.refl _, -1, rfl, by omega, fun h => by omega⟩
 have g1 : 0 ≤ y1 := by simpa [hE.cmp, cmpR] using g1
 conv => cbv
 refine loop_rule hr (fun (s : Nat × Int × Int) w' => s.1 ≤ n ∧ s.2.1 = (s.1 : Int) ∧ 0 ≤ s.2.2 ∧ s.2.2 ≤ y1 ∧ Ext w w' ∧ s.2.2 + wtNs (pv.take s.1) ≤ y1 + s.1) (fun s => [(0, .slice A n c), (1, .int .i64 s.2.2), (5, .int .i64 s.2.1)]) (fun s => n - s.1) (0, 0, y1)
  (by simp [Fits, lk]) ⟨by simp, by simp, g1, by simp, Ext.refl _, by simp [wtNs]⟩ ?_
 rintro I hI ⟨i, ii, l'⟩ w' ⟨hi, hii, hl0, hl1, hxw, hall⟩
 simp only at hi hii hl0 hl1 hall
 obtain ⟨ii', hii'⟩ : ∃ z, z = ii + 1 := ⟨_, rfl⟩
 conv => cbv
 refine st_len hE sLNd fun x2 hx2 => ?_
 conv => cbv
 refine br (fun g2 => ?_) (fun g2 => ?_)
 ·have g2 : i < n := by
   have : ii < x2 := by simpa [hE.cmp, cmpR] using g2
   omega
  have ei : E.ar .add .i64 ii 1 = ii' := by rw [hE.ar, hii']; exact wrap_in (by omega) (by omega)
  obtain ⟨a, v, hA, hg, hc, hok⟩ := (h.ext hxw).get g2
  conv => cbv
  refine st_idx hE sLNd hA (by omega) (by omega) fun q hq => ?_
  rw [show ii.toNat = i by omega] at hq
  conv => cbv
  refine st_loadS hE tLNd (vs := cN v) rfl (by rw [hq]; exact hc) ?_
  obtain ⟨cv, hcv⟩ : ∃ cv, cv = cN v := ⟨_, rfl⟩
  rw [← hcv]
  conv => cbv
  rw [hcv]
  refine st_f hr (szNode_f v hok l' hl0 (by omega)) fun u w2 hx3 ⟨r, ev, hr1, hr2⟩ => ?_
  subst ev
  rw [← hcv]
  conv => cbv
  refine br (fun _ => ?_) (fun g3 => ?_)
  ·conv => cbv
   rw [hR]; exact ⟨hxw.trans hx3, -1, rfl, by omega, fun h => by omega⟩
  have g3 : 0 ≤ r := by simpa [hE.cmp, cmpR] using g3
  have hr2 := hr2 g3
  conv => cbv
  simp only [ei]
  refine ⟨(i + 1, ii', r), by simp [Fits, lk], hI _ _ ⟨by simp only; omega, by simp only; omega, g3, by simp only; omega, hxw.trans hx3, ?_⟩, by simp only; omega⟩
  simp only
  rw [g4_, hg, wtNs_app]
  simp only [Option.toList, wtNs]
  omega
 ·have g2 : i = n := by
   have : ¬ ii < x2 := by simpa [hE.cmp, cmpR] using g2
   omega
  rw [g3_ (by omega)] at hall
  conv => cbv
  rw [hR]; exact ⟨hxw, l', rfl, by omega, fun _ => by omega⟩
theorem szStmt_f {w : World} (v : VS) (h : OKS w v) (l : Int) (h0 : 0 ≤ l) (h1 : l ≤ 1048576) :
  FC Tryz.prog 94 [.agg ⟨cS v⟩, .int .i64 l] w fun u _ => ∃ r : Int, u = .int .i64 r ∧ r ≤ l ∧ (0 ≤ r → r + wtS v ≤ l) := by
 refine FC.intro (cs := []) Tryz.func94 (by kernel_rfl) fun E R hE hr hR => ?_
 obtain ⟨k, nm, c, g⟩ := v
 have s_nm := h.s_nm
 clear h
 simp only at s_nm
 conv => cbv
 refine st_box hr fun a w1 hx hb0 => ?_
 have hb := hb0 _ (n1_ _)
 conv => cbv
 (refine st_fld hE fLSd1 fun p hp => ?_; (conv => cbv); refine st_load hE cStr (by rw [hp]; exact (hb).at _ _ rfl) ?_; (conv => cbv))
 refine st_slen hE uStr fun x1 hx1 => ?_
 conv => cbv
 obtain ⟨y1, hy1⟩ : ∃ y, y = l - x1 := ⟨_, rfl⟩
 have e1 : E.ar .sub .i64 l x1 = y1 := by rw [hE.ar, hy1]; exact wrap_in (by omega) (by omega)
 simp only [e1]
 refine br (fun _ => ?_) (fun g1 => ?_)
 ·conv => cbv
  rw [hR]; exact ⟨hx, -1, rfl, by omega, fun h => by omega⟩
 have g1 : 0 ≤ y1 := by simpa [hE.cmp, cmpR] using g1
 conv => cbv
 rw [hR]; exact ⟨hx, y1, rfl, by omega, fun _ => by simp only [wtS]; omega⟩
theorem szStmtS_f {w : World} {A : Option Addr} {n c : Nat} {pv : List PS} (h : RSs w A n pv) (hn : n ≤ 9223372036854775807) (l : Int) (h0 : 0 ≤ l) (h1 : l ≤ 1048576) :
  FC Tryz.prog 40 [.slice A n c, .int .i64 l] w fun v _ => ∃ r : Int, v = .int .i64 r ∧ r ≤ l ∧ (0 ≤ r → r + wtSs pv ≤ l) := by
 refine FC.intro (cs := []) Tryz.func40 (by kernel_rfl) fun E R hE hr hR => ?_
 have hl := h.len
 conv => cbv
 refine st_len hE sLSd fun x hx => ?_
 conv => cbv
 obtain ⟨y1, hy1⟩ : ∃ y, y = l - x := ⟨_, rfl⟩
 have e1 : E.ar .sub .i64 l x = y1 := by rw [hE.ar, hy1]; exact wrap_in (by omega) (by omega)
 simp only [e1]
 refine br (fun _ => ?_) (fun g1 => ?_)
 ·conv => cbv
  rw [hR]; exact ⟨Ext.refl _, -1, rfl, by omega, fun h => by omega⟩
 have g1 : 0 ≤ y1 := by simpa [hE.cmp, cmpR] using g1
 conv => cbv
 refine loop_rule hr (fun (s : Nat × Int × Int) w' => s.1 ≤ n ∧ s.2.1 = (s.1 : Int) ∧ 0 ≤ s.2.2 ∧ s.2.2 ≤ y1 ∧ Ext w w' ∧ s.2.2 + wtSs (pv.take s.1) ≤ y1 + s.1) (fun s => [(0, .slice A n c), (1, .int .i64 s.2.2), (5, .int .i64 s.2.1)]) (fun s => n - s.1) (0, 0, y1)
  (by simp [Fits, lk]) ⟨by simp, by simp, g1, by simp, Ext.refl _, by simp [wtSs]⟩ ?_
 rintro I hI ⟨i, ii, l'⟩ w' ⟨hi, hii, hl0, hl1, hxw, hall⟩
 simp only at hi hii hl0 hl1 hall
 obtain ⟨ii', hii'⟩ : ∃ z, z = ii + 1 := ⟨_, rfl⟩
 conv => cbv
 refine st_len hE sLSd fun x2 hx2 => ?_
 conv => cbv
 refine br (fun g2 => ?_) (fun g2 => ?_)
 ·have g2 : i < n := by
   have : ii < x2 := by simpa [hE.cmp, cmpR] using g2
   omega
  have ei : E.ar .add .i64 ii 1 = ii' := by rw [hE.ar, hii']; exact wrap_in (by omega) (by omega)
  obtain ⟨a, v, hA, hg, hc, hok⟩ := (h.ext hxw).get g2
  conv => cbv
  refine st_idx hE sLSd hA (by omega) (by omega) fun q hq => ?_
  rw [show ii.toNat = i by omega] at hq
  conv => cbv
  refine st_loadS hE tLSd (vs := cS v) rfl (by rw [hq]; exact hc) ?_
  obtain ⟨cv, hcv⟩ : ∃ cv, cv = cS v := ⟨_, rfl⟩
  rw [← hcv]
  conv => cbv
  rw [hcv]
  refine st_f hr (szStmt_f v hok l' hl0 (by omega)) fun u w2 hx3 ⟨r, ev, hr1, hr2⟩ => ?_
  subst ev
  rw [← hcv]
  conv => cbv
  refine br (fun _ => ?_) (fun g3 => ?_)
  ·conv => cbv
   rw [hR]; exact ⟨hxw.trans hx3, -1, rfl, by omega, fun h => by omega⟩
  have g3 : 0 ≤ r := by simpa [hE.cmp, cmpR] using g3
  have hr2 := hr2 g3
  conv => cbv
  simp only [ei]
  refine ⟨(i + 1, ii', r), by simp [Fits, lk], hI _ _ ⟨by simp only; omega, by simp only; omega, g3, by simp only; omega, hxw.trans hx3, ?_⟩, by simp only; omega⟩
  simp only
  rw [g4_, hg, wtSs_app]
  simp only [Option.toList, wtSs]
  omega
 ·have g2 : i = n := by
   have : ¬ ii < x2 := by simpa [hE.cmp, cmpR] using g2
   omega
  rw [g3_ (by omega)] at hall
  conv => cbv
  rw [hR]; exact ⟨hxw, l', rfl, by omega, fun _ => by omega⟩
theorem toNode_f {w : World} (v : VN) (h : OKN w v) (b_xs : v.m0 ≤ 1048576) (b_ks : v.m1 ≤ 1048576) :
  FC Tryz.prog 97 [.agg ⟨cN v⟩] w fun u w' => ∃ B0 n0 d0 B1 n1 d1, u = .agg ⟨[.int .i64 v.p.o, .int .i64 v.p.z, .string v.p.tx, .slice B0 n0 d0, .slice B1 n1 d1]⟩ ∧ Own w.heap.size 9 1 w' B0 n0 d0 (v.p.xs.map (.string)) ∧ Own w.heap.size 3 1 w' B1 n1 d1 (v.p.ks.map (.int .i64)) := by
 refine FC.intro (cs := []) Tryz.func97 (by kernel_rfl) fun E R hE hr hR => ?_
 obtain ⟨⟨o, z, tx, xs, ks⟩, A0, m0, c0, A1, m1, c1⟩ := v
 have r_xs := h.r_xs
 have r_ks := h.r_ks
 clear h
 simp only at r_xs b_xs r_ks b_ks hR
 conv => cbv
 refine st_box hr fun a w1 hx hb0 => ?_
 have hb := hb0 _ (n1_ _)
 conv => cbv
 refine st_alloc hr tINd rfl fun oo w2 hx2 ho0 => ?_
 have ho := ho0 _ hx.size
 have hb := hb.bel hx2
 have hx := hx.trans hx2
 conv => cbv
 refine st_alloc hr tINd rfl fun q w3 hx3 hq0 => ?_
 have hq := hq0 _ hx.size
 have aq := (hb.apart (hq0 _ (n1_ _)) (n1_ _)).1
 have oq := (ho.apart (hq0 _ (n1_ _)) (n1_ _)).1
 have hb := hb.bel hx3
 have ho := ho.bel hx3
 have hx := hx.trans hx3
 clear hb0 ho0 hq0
 conv => cbv
 (refine st_fld hE fLNd0 fun p hp => ?_; (conv => cbv); refine st_load hE cInt (by rw [hp]; exact (hb).at _ _ rfl) ?_; (conv => cbv))
 (refine st_fld hE fINd0 fun p hp => ?_; (conv => cbv); refine st_put hr zInt hq hp (by simp) rfl fun wn hw hq2 => ?_; replace hx := hx.then (hw.bel hq hx.size); (try clear hq); (have hq := hq2); clear hq2; (simp only [b4_, b5_] at hq); clear hp)
 replace hb := hb.wr hw aq
 replace ho := ho.wr hw oq
 conv => cbv
 (refine st_fld hE fLNd1 fun p hp => ?_; (conv => cbv); refine st_load hE cI64 (by rw [hp]; exact (hb).at _ _ rfl) ?_; (conv => cbv))
 (refine st_fld hE fINd1 fun p hp => ?_; (conv => cbv); refine st_put hr zI64 hq hp (by simp) rfl fun wn hw hq2 => ?_; replace hx := hx.then (hw.bel hq hx.size); (try clear hq); (have hq := hq2); clear hq2; (simp only [b4_, b5_] at hq); clear hp)
 replace hb := hb.wr hw aq
 replace ho := ho.wr hw oq
 conv => cbv
 (refine st_fld hE fLNd2 fun p hp => ?_; (conv => cbv); refine st_load hE cStr (by rw [hp]; exact (hb).at _ _ rfl) ?_; (conv => cbv))
 (refine st_fld hE fINd2 fun p hp => ?_; (conv => cbv); refine st_put hr zStr hq hp (by simp) rfl fun wn hw hq2 => ?_; replace hx := hx.then (hw.bel hq hx.size); (try clear hq); (have hq := hq2); clear hq2; (simp only [b4_, b5_] at hq); clear hp)
 replace hb := hb.wr hw aq
 replace ho := ho.wr hw oq
 conv => cbv
 (refine st_fld hE fLNd3 fun p hp => ?_; (conv => cbv); refine st_load hE cStrs (by rw [hp]; exact (hb).at _ _ rfl) ?_; (conv => cbv))
 refine st_f hr (toStringS_f (r_xs.ext hx) b_xs) fun u ww hxx ⟨B0, n0, d0, ev, hcp, o_xs⟩ => ?_
 clear hcp
 subst ev
 have ax_xs := (hq.apart o_xs (n1_ _)).2
 have bx_xs := (ho.apart o_xs (n1_ _)).2
 replace o_xs := o_xs.mono hx.size
 replace hb := hb.bel hxx
 replace ho := ho.bel hxx
 replace hq := hq.bel hxx
 replace hx := hx.trans hxx
 clear hxx
 conv => cbv
 (refine st_fld hE fINd3 fun p hp => ?_; (conv => cbv); refine st_put hr zStrs hq hp (by simp) rfl fun wn hw hq2 => ?_; replace hx := hx.then (hw.bel hq hx.size); (try clear hq); (have hq := hq2); clear hq2; (simp only [b4_, b5_] at hq); clear hp)
 replace hb := hb.wr hw aq
 replace ho := ho.wr hw oq
 replace o_xs := o_xs.wr hw ax_xs
 conv => cbv
 (refine st_fld hE fLNd4 fun p hp => ?_; (conv => cbv); refine st_load hE cInts (by rw [hp]; exact (hb).at _ _ rfl) ?_; (conv => cbv))
 refine st_f hr (toIntS_f (r_ks.ext hx) b_ks) fun u ww hxx ⟨B1, d1, ev, o_ks⟩ => ?_
 subst ev
 have ax_ks := (hq.apart o_ks (n1_ _)).2
 have bx_ks := (ho.apart o_ks (n1_ _)).2
 replace o_ks := o_ks.mono hx.size
 replace hb := hb.bel hxx
 replace ho := ho.bel hxx
 replace hq := hq.bel hxx
 replace hx := hx.trans hxx
 replace o_xs := o_xs.bel hxx
 clear hxx
 conv => cbv
 (refine st_fld hE fINd4 fun p hp => ?_; (conv => cbv); refine st_put hr zInts hq hp (by simp) rfl fun wn hw hq2 => ?_; replace hx := hx.then (hw.bel hq hx.size); (try clear hq); (have hq := hq2); clear hq2; (simp only [b4_, b5_] at hq); clear hp)
 replace hb := hb.wr hw aq
 replace ho := ho.wr hw oq
 replace o_xs := o_xs.wr hw ax_xs
 replace o_ks := o_ks.wr hw ax_ks
 conv => cbv
 refine st_loadS hE tINd rfl hq.at ?_
 conv => cbv
 refine st_putS hr (by kernel_rfl) ho (add_zero _).symm (by simp) (by simp [Value.oneCell']) fun w5 hw5 ho5 => ?_
 simp only [a1_, a2_, a3_, a4_, a5_, a6_, a7_] at ho5
 conv => cbv
 refine st_cell hr tINd rfl ho5.at ?_
 rw [hR]; exact ⟨hx.then (hw5.bel ho hx.size), B0, n0, d0, B1, _, d1, rfl, o_xs.wr hw5 bx_xs, o_ks.wr hw5 bx_ks⟩
def v0N : VN := (⟨⟨0, 0, ⟨#[]⟩, [], []⟩, none, 0, 0, none, 0, 0⟩ : VN)
theorem toNodeS_f {w : World} {A : Option Addr} {n c : Nat} {pv : List PN} (h : RNs w A n pv) (hn : n ≤ 1048576) (hp_xs : ∀ p ∈ pv, p.xs.length ≤ 1048576) (hp_ks : ∀ p ∈ pv, p.ks.length ≤ 1048576) :
  FC Tryz.prog 46 [.slice A n c] w fun v w' => ∃ A1 c1, v = .slice A1 n c1 ∧ ∀ w2, Above w.heap.size w' w2 → RNs w2 A1 n pv := by
 refine FC.intro (cs := []) Tryz.func46 (by kernel_rfl) fun E R hE hr hR => ?_
 have hl := h.len
 conv => cbv
 refine st_len hE sLNd fun x hx => ?_
 conv => cbv
 refine st_makeK hr sINd rfl (m := n) (by omega) (by omega) (by omega) fun A1 w1 hx1 h10 => ?_
 have h1 := h10 _ (n1_ _)
 rw [show (Value.agg ⟨zNd⟩).cells = ⟨cN v0N⟩ from rfl, made_fl (f := cN) v0N n 5 rfl (by omega)] at h1
 conv => cbv
 refine loop_rule hr (fun (s : Nat × Int × List VN) w' => s.1 ≤ n ∧ s.2.1 = (s.1 : Int) ∧ s.2.2.length = s.1 ∧ s.2.2.map (·.p) = pv.take s.1 ∧ Ext w w' ∧ Own w.heap.size 90 5 w' A1 n n ((s.2.2 ++ List.replicate (n - s.1) v0N).flatMap cN) ∧
   (∀ v ∈ s.2.2, Own w1.heap.size 9 1 w' v.A0 v.m0 v.c0 (v.p.xs.map (.string)) ∧ Own w1.heap.size 3 1 w' v.A1 v.m1 v.c1 (v.p.ks.map (.int .i64)) ∧ v.p.tx.size ≤ 9223372036854775807 ∧ (∀ u ∈ v.p.xs, u.size ≤ 9223372036854775807)) ∧ w1.heap.size ≤ w'.heap.size)
  (fun s => [(0, .slice A n c), (3, .slice A1 n n), (4, .int .i64 s.2.1)]) (fun s => n - s.1) (0, 0, [])
  (by simp [Fits, lk]) ⟨by simp, by simp, rfl, by simp, hx1, by simpa using h1, by simp, n1_ _⟩ ?_
 rintro I hI ⟨i, ii, ds⟩ w' ⟨hi, hii, hdl, hdp, hxw, ho, hds, hsz⟩
 simp only at hi hii hdl hdp ho hds
 obtain ⟨ii', hii'⟩ : ∃ z, z = ii + 1 := ⟨_, rfl⟩
 conv => cbv
 refine st_len hE sLNd fun x2 hx2 => ?_
 conv => cbv
 refine br (fun g2 => ?_) (fun g2 => ?_)
 ·have g2 : i < n := by
   have : ii < x2 := by simpa [hE.cmp, cmpR] using g2
   omega
  have ei : E.ar .add .i64 ii 1 = ii' := by rw [hE.ar, hii']; exact wrap_in (by omega) (by omega)
  obtain ⟨a, v, hA, hg, hc, hok⟩ := (h.ext hxw).get g2
  have hb_xs : v.m0 ≤ 1048576 := by rw [← hok.r_xs.len]; exact hp_xs _ (m1_ hg)
  have hb_ks : v.m1 ≤ 1048576 := by rw [← hok.r_ks.len]; exact hp_ks _ (m1_ hg)
  obtain ⟨gb, rfl, _⟩ := ho.addr (by omega)
  conv => cbv
  refine st_idx hE sLNd hA (by omega) (by omega) fun q hq => ?_
  rw [show ii.toNat = i by omega] at hq
  conv => cbv
  refine st_loadS hE tLNd (vs := cN v) rfl (by rw [hq]; exact hc) ?_
  obtain ⟨cv, hcv⟩ : ∃ cv, cv = cN v := ⟨_, rfl⟩
  rw [← hcv]
  conv => cbv
  rw [hcv]
  refine st_f hr (toNode_f v hok hb_xs hb_ks) fun u w2 hx3 ⟨B0, n0, d0, B1, n1, d1, ev, o_xs, o_ks⟩ => ?_
  subst ev
  rw [← hcv]
  replace o_xs := o_xs.mono hsz
  replace o_ks := o_ks.mono hsz
  have ap : ∀ {e m5 c5 ys A5}, Own w1.heap.size e 1 w2 A5 m5 c5 ys → Apart A5 (some ⟨gb, 0, none⟩) := fun h5 => (h1.apart h5 (n1_ _)).2
  replace ho := ho.bel hx3
  have hds2 : ∀ v ∈ ds, Own w1.heap.size 9 1 w2 v.A0 v.m0 v.c0 (v.p.xs.map (.string)) ∧ Own w1.heap.size 3 1 w2 v.A1 v.m1 v.c1 (v.p.ks.map (.int .i64)) ∧ v.p.tx.size ≤ 9223372036854775807 ∧ (∀ u ∈ v.p.xs, u.size ≤ 9223372036854775807) := fun v hv => by
   obtain ⟨k0, k1, k2, k3⟩ := hds v hv
   exact ⟨k0.bel hx3, k1.bel hx3, k2, k3⟩
  replace hxw := hxw.trans hx3
  conv => cbv
  refine st_idx hE sINd rfl (by omega) (by omega) fun q1 hq1 => ?_
  rw [show ii.toNat = i by omega] at hq1
  conv => cbv
  obtain ⟨y, hy⟩ : ∃ y : VN, y = ⟨v.p, B0, n0, d0, B1, n1, d1⟩ := ⟨_, rfl⟩
  refine st_putS hr (vs := [.int .i64 v.p.o, .int .i64 v.p.z, .string v.p.tx, .slice B0 n0 d0, .slice B1 n1 d1]) (by kernel_rfl) ho (j := i * 5) hq1 (by rw [fl_len cN_len]; simp; omega) (by simp [Value.oneCell']) fun w3 hw3 ho3 => ?_
  rw [show ([.int .i64 v.p.o, .int .i64 v.p.z, .string v.p.tx, .slice B0 n0 d0, .slice B1 n1 d1] : List Value) = cN y by rw [hy]; rfl, fl_put cN_len _ i y (by simp; omega)] at ho3
  have hset : (ds ++ List.replicate (n - i) v0N).set i y = (ds ++ [y]) ++ List.replicate (n - (i + 1)) v0N := by
   rw [List.set_append_right _ _ (by omega), hdl, Nat.sub_self, show n - i = (n - (i + 1)) + 1 by omega, List.replicate_succ, b4_, List.append_assoc]; rfl
  rw [hset] at ho3
  conv => cbv
  simp only [ei]
  refine ⟨(i + 1, ii', ds ++ [y]), by simp [Fits, lk], hI _ _ ⟨by simp only; omega, by simp only; omega, by simp [hdl], ?_, hxw.then (hw3.bel ho hxw.size), ho3, ?_, ?_⟩, by simp only; omega⟩
  ·simp only
   rw [List.map_append, hdp, g4_, hg, hy]; rfl
  ·intro v2 hv
   rcases List.mem_append.1 hv with hv | hv
   ·obtain ⟨k0, k1, k2, k3⟩ := hds2 v2 hv
    exact ⟨k0.wr hw3 (ap k0), k1.wr hw3 (ap k1), k2, k3⟩
   ·simp at hv
    subst hv
    rw [hy]
    exact ⟨o_xs.wr hw3 (ap o_xs), o_ks.wr hw3 (ap o_ks), hok.s_tx, hok.r_xs.small⟩
  ·have := hw3.size; have := hx3.size; omega
 ·have g2 : i = n := by
   have : ¬ ii < x2 := by simpa [hE.cmp, cmpR] using g2
   omega
  subst g2
  rw [g3_ (by omega)] at hdp
  simp only [Nat.sub_self, List.replicate_zero, a7_] at ho
  conv => cbv
  rw [hR]; refine ⟨hxw, A1, i, rfl, fun w2 ha => ⟨ds, hdp, hdl, (ho.above ha).cells, fun v hv => ?_⟩⟩
  obtain ⟨k0, k1, k2, k3⟩ := hds v hv
  exact ⟨k2, ((k0.mono hx1.size).above ha).strs k3, ((k1.mono hx1.size).above ha).ints⟩
theorem toStmt_f {w : World} (v : VS) (h : OKS w v) :
  FC Tryz.prog 98 [.agg ⟨cS v⟩] w fun u w' => u = .agg ⟨[.int .i64 v.k, .string v.nm, .int .i64 v.c, .int .i64 v.g]⟩ := by
 refine FC.intro (cs := []) Tryz.func98 (by kernel_rfl) fun E R hE hr hR => ?_
 obtain ⟨k, nm, c, g⟩ := v
 simp only at hR
 conv => cbv
 refine st_box hr fun a w1 hx hb0 => ?_
 have hb := hb0 _ (n1_ _)
 conv => cbv
 refine st_alloc hr tISd rfl fun oo w2 hx2 ho0 => ?_
 have ho := ho0 _ hx.size
 have hb := hb.bel hx2
 have hx := hx.trans hx2
 conv => cbv
 refine st_alloc hr tISd rfl fun q w3 hx3 hq0 => ?_
 have hq := hq0 _ hx.size
 have aq := (hb.apart (hq0 _ (n1_ _)) (n1_ _)).1
 have oq := (ho.apart (hq0 _ (n1_ _)) (n1_ _)).1
 have hb := hb.bel hx3
 have ho := ho.bel hx3
 have hx := hx.trans hx3
 clear hb0 ho0 hq0
 conv => cbv
 (refine st_fld hE fLSd0 fun p hp => ?_; (conv => cbv); refine st_load hE cInt (by rw [hp]; exact (hb).at _ _ rfl) ?_; (conv => cbv))
 (refine st_fld hE fISd0 fun p hp => ?_; (conv => cbv); refine st_put hr zInt hq hp (by simp) rfl fun wn hw hq2 => ?_; replace hx := hx.then (hw.bel hq hx.size); (try clear hq); (have hq := hq2); clear hq2; (simp only [b4_, b5_] at hq); clear hp)
 replace hb := hb.wr hw aq
 replace ho := ho.wr hw oq
 conv => cbv
 (refine st_fld hE fLSd1 fun p hp => ?_; (conv => cbv); refine st_load hE cStr (by rw [hp]; exact (hb).at _ _ rfl) ?_; (conv => cbv))
 (refine st_fld hE fISd1 fun p hp => ?_; (conv => cbv); refine st_put hr zStr hq hp (by simp) rfl fun wn hw hq2 => ?_; replace hx := hx.then (hw.bel hq hx.size); (try clear hq); (have hq := hq2); clear hq2; (simp only [b4_, b5_] at hq); clear hp)
 replace hb := hb.wr hw aq
 replace ho := ho.wr hw oq
 conv => cbv
 (refine st_fld hE fLSd2 fun p hp => ?_; (conv => cbv); refine st_load hE cInt (by rw [hp]; exact (hb).at _ _ rfl) ?_; (conv => cbv))
 (refine st_fld hE fISd2 fun p hp => ?_; (conv => cbv); refine st_put hr zInt hq hp (by simp) rfl fun wn hw hq2 => ?_; replace hx := hx.then (hw.bel hq hx.size); (try clear hq); (have hq := hq2); clear hq2; (simp only [b4_, b5_] at hq); clear hp)
 replace hb := hb.wr hw aq
 replace ho := ho.wr hw oq
 conv => cbv
 (refine st_fld hE fLSd3 fun p hp => ?_; (conv => cbv); refine st_load hE cInt (by rw [hp]; exact (hb).at _ _ rfl) ?_; (conv => cbv))
 (refine st_fld hE fISd3 fun p hp => ?_; (conv => cbv); refine st_put hr zInt hq hp (by simp) rfl fun wn hw hq2 => ?_; replace hx := hx.then (hw.bel hq hx.size); (try clear hq); (have hq := hq2); clear hq2; (simp only [b4_, b5_] at hq); clear hp)
 replace hb := hb.wr hw aq
 replace ho := ho.wr hw oq
 conv => cbv
 refine st_loadS hE tISd rfl hq.at ?_
 conv => cbv
 refine st_putS hr (by kernel_rfl) ho (add_zero _).symm (by simp) (by simp [Value.oneCell']) fun w5 hw5 ho5 => ?_
 simp only [a1_, a2_, a3_, a4_, a5_, a6_, a7_] at ho5
 conv => cbv
 refine st_cell hr tISd rfl ho5.at ?_
 rw [hR]; exact ⟨hx.then (hw5.bel ho hx.size), rfl⟩
def v0S : VS := (⟨0, ⟨#[]⟩, 0, 0⟩ : VS)
theorem toStmtS_f {w : World} {A : Option Addr} {n c : Nat} {pv : List PS} (h : RSs w A n pv) (hn : n ≤ 1048576) :
  FC Tryz.prog 47 [.slice A n c] w fun v w' => ∃ A1 c1, v = .slice A1 n c1 ∧ ∀ w2, Above w.heap.size w' w2 → RSs w2 A1 n pv := by
 refine FC.intro (cs := []) Tryz.func47 (by kernel_rfl) fun E R hE hr hR => ?_
 have hl := h.len
 conv => cbv
 refine st_len hE sLSd fun x hx => ?_
 conv => cbv
 refine st_makeK hr sISd rfl (m := n) (by omega) (by omega) (by omega) fun A1 w1 hx1 h10 => ?_
 have h1 := h10 _ (n1_ _)
 rw [show (Value.agg ⟨zSd⟩).cells = ⟨cS v0S⟩ from rfl, made_fl (f := cS) v0S n 4 rfl (by omega)] at h1
 conv => cbv
 refine loop_rule hr (fun (s : Nat × Int × List VS) w' => s.1 ≤ n ∧ s.2.1 = (s.1 : Int) ∧ s.2.2.length = s.1 ∧ s.2.2 = pv.take s.1 ∧ Ext w w' ∧ Own w.heap.size 155 4 w' A1 n n ((s.2.2 ++ List.replicate (n - s.1) v0S).flatMap cS) ∧
   (∀ v ∈ s.2.2, v.nm.size ≤ 9223372036854775807) ∧ w1.heap.size ≤ w'.heap.size)
  (fun s => [(0, .slice A n c), (3, .slice A1 n n), (4, .int .i64 s.2.1)]) (fun s => n - s.1) (0, 0, [])
  (by simp [Fits, lk]) ⟨by simp, by simp, rfl, by simp, hx1, by simpa using h1, by simp, n1_ _⟩ ?_
 rintro I hI ⟨i, ii, ds⟩ w' ⟨hi, hii, hdl, hdp, hxw, ho, hds, hsz⟩
 simp only at hi hii hdl hdp ho hds
 obtain ⟨ii', hii'⟩ : ∃ z, z = ii + 1 := ⟨_, rfl⟩
 conv => cbv
 refine st_len hE sLSd fun x2 hx2 => ?_
 conv => cbv
 refine br (fun g2 => ?_) (fun g2 => ?_)
 ·have g2 : i < n := by
   have : ii < x2 := by simpa [hE.cmp, cmpR] using g2
   omega
  have ei : E.ar .add .i64 ii 1 = ii' := by rw [hE.ar, hii']; exact wrap_in (by omega) (by omega)
  obtain ⟨a, v, hA, hg, hc, hok⟩ := (h.ext hxw).get g2
  obtain ⟨gb, rfl, _⟩ := ho.addr (by omega)
  conv => cbv
  refine st_idx hE sLSd hA (by omega) (by omega) fun q hq => ?_
  rw [show ii.toNat = i by omega] at hq
  conv => cbv
  refine st_loadS hE tLSd (vs := cS v) rfl (by rw [hq]; exact hc) ?_
  obtain ⟨cv, hcv⟩ : ∃ cv, cv = cS v := ⟨_, rfl⟩
  rw [← hcv]
  conv => cbv
  rw [hcv]
  refine st_f hr (toStmt_f v hok) fun u w2 hx3 ev => ?_
  subst ev
  rw [← hcv]
  replace ho := ho.bel hx3
  have hds2 : ∀ v ∈ ds, v.nm.size ≤ 9223372036854775807 := fun v hv => by
   have k0 := hds v hv
   exact k0
  replace hxw := hxw.trans hx3
  conv => cbv
  refine st_idx hE sISd rfl (by omega) (by omega) fun q1 hq1 => ?_
  rw [show ii.toNat = i by omega] at hq1
  conv => cbv
  obtain ⟨y, hy⟩ : ∃ y : VS, y = v := ⟨_, rfl⟩
  refine st_putS hr (vs := [.int .i64 v.k, .string v.nm, .int .i64 v.c, .int .i64 v.g]) (by kernel_rfl) ho (j := i * 4) hq1 (by rw [fl_len cS_len]; simp; omega) (by simp [Value.oneCell']) fun w3 hw3 ho3 => ?_
  rw [show ([.int .i64 v.k, .string v.nm, .int .i64 v.c, .int .i64 v.g] : List Value) = cS y by rw [hy]; rfl, fl_put cS_len _ i y (by simp; omega)] at ho3
  have hset : (ds ++ List.replicate (n - i) v0S).set i y = (ds ++ [y]) ++ List.replicate (n - (i + 1)) v0S := by
   rw [List.set_append_right _ _ (by omega), hdl, Nat.sub_self, show n - i = (n - (i + 1)) + 1 by omega, List.replicate_succ, b4_, List.append_assoc]; rfl
  rw [hset] at ho3
  conv => cbv
  simp only [ei]
  refine ⟨(i + 1, ii', ds ++ [y]), by simp [Fits, lk], hI _ _ ⟨by simp only; omega, by simp only; omega, by simp [hdl], ?_, hxw.then (hw3.bel ho hxw.size), ho3, ?_, ?_⟩, by simp only; omega⟩
  ·simp only
   rw [hdp, g4_, hg, hy]; rfl
  ·intro v2 hv
   rcases List.mem_append.1 hv with hv | hv
   ·have k0 := hds2 v2 hv
    exact k0
   ·simp at hv
    subst hv
    rw [hy]
    exact hok.s_nm
  ·have := hw3.size; have := hx3.size; omega
 ·have g2 : i = n := by
   have : ¬ ii < x2 := by simpa [hE.cmp, cmpR] using g2
   omega
  subst g2
  rw [g3_ (by omega)] at hdp
  simp only [Nat.sub_self, List.replicate_zero, a7_] at ho
  conv => cbv
  rw [hR]; refine ⟨hxw, A1, i, rfl, fun w2 ha => ⟨ds, hdp, hdl, (ho.above ha).cells, fun v hv => ?_⟩⟩
  have k0 := hds v hv
  exact ⟨k0⟩
theorem eqNode_f {w : World} (v u : VN) (h : OKN w v) (h1 : OKN w u) (he : v.p = u.p) :
  FC Tryz.prog 111 [.agg ⟨cN v⟩, .agg ⟨cN u⟩] w fun r _ => r = .bool true := by
 refine FC.intro (cs := []) Tryz.func111 (by kernel_rfl) fun E R hE hr hR => ?_
 have ei : ∀ z : Int, ¬ E.cmp .neq z z = true := fun z => by rw [hE.cmp]; simp [cmpR]
 have es : ∀ z : ByteArray, ¬ E.scmp .neq z z = true := fun z => by rw [hE.scmp, scmp_neq]; simp
 obtain ⟨⟨o, z, tx, xs, ks⟩, A0, m0, c0, A1, m1, c1⟩ := v
 obtain ⟨p2, B0, n0, d0, B1, n1, d1⟩ := u
 simp only at he
 subst he
 have r_xs := h.r_xs
 have u_xs := h1.r_xs
 have r_ks := h.r_ks
 have u_ks := h1.r_ks
 clear h h1
 simp only at r_xs u_xs r_ks u_ks
 conv => cbv
 refine st_box hr fun a w1 hx ha0 => ?_
 have ha := ha0 _ (n1_ _)
 conv => cbv
 refine st_box hr fun b w2 hx2 hb0 => ?_
 have hb := hb0 _ hx.size
 replace ha := ha.bel hx2
 replace hx := hx.trans hx2
 clear ha0 hb0
 conv => cbv
 (refine st_fld hE fINd0 fun p hp => ?_; (conv => cbv); refine st_load hE cInt (by rw [hp]; exact (ha).at _ _ rfl) ?_; (conv => cbv))
 (refine st_fld hE fINd0 fun p hp => ?_; (conv => cbv); refine st_load hE cInt (by rw [hp]; exact (hb).at _ _ rfl) ?_; (conv => cbv))
 refine br (fun g => absurd g (ei _)) (fun _ => ?_)
 conv => cbv
 (refine st_fld hE fINd1 fun p hp => ?_; (conv => cbv); refine st_load hE cI64 (by rw [hp]; exact (ha).at _ _ rfl) ?_; (conv => cbv))
 (refine st_fld hE fINd1 fun p hp => ?_; (conv => cbv); refine st_load hE cI64 (by rw [hp]; exact (hb).at _ _ rfl) ?_; (conv => cbv))
 refine br (fun g => absurd g (ei _)) (fun _ => ?_)
 conv => cbv
 (refine st_fld hE fINd2 fun p hp => ?_; (conv => cbv); refine st_load hE cStr (by rw [hp]; exact (ha).at _ _ rfl) ?_; (conv => cbv))
 (refine st_fld hE fINd2 fun p hp => ?_; (conv => cbv); refine st_load hE cStr (by rw [hp]; exact (hb).at _ _ rfl) ?_; (conv => cbv))
 refine br (fun g => absurd g (es _)) (fun _ => ?_)
 conv => cbv
 (refine st_fld hE fINd3 fun p hp => ?_; (conv => cbv); refine st_load hE cStrs (by rw [hp]; exact (ha).at _ _ rfl) ?_; (conv => cbv))
 (refine st_fld hE fINd3 fun p hp => ?_; (conv => cbv); refine st_load hE cStrs (by rw [hp]; exact (hb).at _ _ rfl) ?_; (conv => cbv))
 refine st_qb hE (eqStringS_q (r_xs.ext hx) (u_xs.ext hx)) fun v hv ww hss => ?_
 obtain rfl : v = true := hv.2 rfl
 replace ha := ha.bel hss.ext
 replace hb := hb.bel hss.ext
 replace hx := hx.trans hss.ext
 clear hss hv
 conv => cbv
 (refine st_fld hE fINd4 fun p hp => ?_; (conv => cbv); refine st_load hE cInts (by rw [hp]; exact (ha).at _ _ rfl) ?_; (conv => cbv))
 (refine st_fld hE fINd4 fun p hp => ?_; (conv => cbv); refine st_load hE cInts (by rw [hp]; exact (hb).at _ _ rfl) ?_; (conv => cbv))
 refine st_qb hE (eqIntS_q (r_ks.ext hx) (u_ks.ext hx)) fun v hv ww hss => ?_
 obtain rfl : v = true := hv.2 rfl
 replace ha := ha.bel hss.ext
 replace hb := hb.bel hss.ext
 replace hx := hx.trans hss.ext
 clear hss hv
 conv => cbv
 rw [hR]; exact ⟨hx, rfl⟩
theorem eqNodeS_f {w : World} {A A1 : Option Addr} {n c c1 : Nat} {xs : List PN} (h : RNs w A n xs) (h1 : RNs w A1 n xs) (hn : n ≤ 9223372036854775807) :
  FC Tryz.prog 52 [.slice A n c, .slice A1 n c1] w fun v _ => v = .bool true := by
 refine FC.intro (cs := []) Tryz.func52 (by kernel_rfl) fun E R hE hr hR => ?_
 have ei : ∀ z : Int, ¬ E.cmp .neq z z = true := fun z => by rw [hE.cmp]; simp [cmpR]
 conv => cbv
 refine st_len hE sINd fun x hx => ?_
 conv => cbv
 refine st_len hE sINd fun x' hx' => ?_
 obtain rfl : x = x' := by rw [hx, hx']
 conv => cbv
 refine br (fun g => absurd g (ei _)) (fun _ => ?_)
 conv => cbv
 refine loop_rule hr (fun (s : Nat × Int) w' => s.1 ≤ n ∧ s.2 = (s.1 : Int) ∧ Ext w w') (fun s => [(0, .slice A n c), (1, .slice A1 n c1), (5, .int .i64 s.2)]) (fun s => n - s.1) (0, 0)
  (by simp [Fits, lk]) ⟨by simp, by simp, Ext.refl _⟩ ?_
 rintro I hI ⟨i, z⟩ w' ⟨hi, hz, hxw⟩
 simp only at hi hz
 obtain ⟨z', hz'⟩ : ∃ z', z' = z + 1 := ⟨_, rfl⟩
 conv => cbv
 refine st_len hE sINd fun y hy => ?_
 conv => cbv
 refine br (fun g => ?_) (fun g => ?_)
 ·have g : i < n := by
   have : z < y := by simpa [hE.cmp, cmpR] using g
   omega
  have e1 : E.ar .add .i64 z 1 = z' := by rw [hE.ar, hz']; exact wrap_in (by omega) (by omega)
  conv => cbv
  refine draw_h [0, 1, 2, 3, 4, 5, 6, 7] [(8, false), (9, false)] hr fol (by kernel_rfl) fun E' hE' w0 hs0 S hS => ?_
  replace hxw := hxw.trans hs0.ext
  obtain ⟨a, v, hA, hg, hc, hv⟩ := (h.ext hxw).get g
  obtain ⟨a1, u, hA1, hg1, hc1, hu⟩ := (h1.ext hxw).get g
  have he : v.p = u.p := by rw [hg] at hg1; exact Option.some.inj hg1
  conv => cbv
  refine st_idx hE' sINd hA (by omega) (by omega) fun q hq => ?_
  rw [show z.toNat = i by omega] at hq
  conv => cbv
  refine st_loadS hE' tINd (vs := cN v) rfl (by rw [hq]; exact hc) ?_
  obtain ⟨cv, hcv⟩ : ∃ cv, cv = cN v := ⟨_, rfl⟩
  rw [← hcv]
  conv => cbv
  refine st_idx hE' sINd hA1 (by omega) (by omega) fun q1 hq1 => ?_
  rw [show z.toNat = i by omega] at hq1
  conv => cbv
  refine st_loadS hE' tINd (vs := cN u) rfl (by rw [hq1]; exact hc1) ?_
  obtain ⟨cu, hcu⟩ : ∃ cu, cu = cN u := ⟨_, rfl⟩
  rw [← hcu]
  conv => cbv
  rw [hcv, hcu]
  refine st_f hr (eqNode_f v u hv hu he) fun r w2 hx2 ev => ?_
  subst ev
  rw [← hcv, ← hcu]
  replace hxw := hxw.trans hx2
  refine ⟨hS _ hx2, ?_⟩
  conv => cbv
  refine ⟨hS _ hx2, ?_⟩
  conv => cbv
  simp only [e1]
  exact ⟨(i + 1, z'), by simp [Fits, lk], hI _ _ ⟨by simp only; omega, by simp only; omega, hxw⟩, by simp only; omega⟩
 ·conv => cbv
  rw [hR]; exact ⟨hxw, rfl⟩
theorem eqStmt_f {w : World} (v u : VS) (h : OKS w v) (h1 : OKS w u) (he : v = u) :
  FC Tryz.prog 112 [.agg ⟨cS v⟩, .agg ⟨cS u⟩] w fun r _ => r = .bool true := by
 refine FC.intro (cs := []) Tryz.func112 (by kernel_rfl) fun E R hE hr hR => ?_
 have ei : ∀ z : Int, ¬ E.cmp .neq z z = true := fun z => by rw [hE.cmp]; simp [cmpR]
 have es : ∀ z : ByteArray, ¬ E.scmp .neq z z = true := fun z => by rw [hE.scmp, scmp_neq]; simp
 subst he
 obtain ⟨k, nm, c, g⟩ := v
 clear h h1
 conv => cbv
 refine st_box hr fun a w1 hx ha0 => ?_
 have ha := ha0 _ (n1_ _)
 conv => cbv
 refine st_box hr fun b w2 hx2 hb0 => ?_
 have hb := hb0 _ hx.size
 replace ha := ha.bel hx2
 replace hx := hx.trans hx2
 clear ha0 hb0
 conv => cbv
 (refine st_fld hE fISd0 fun p hp => ?_; (conv => cbv); refine st_load hE cInt (by rw [hp]; exact (ha).at _ _ rfl) ?_; (conv => cbv))
 (refine st_fld hE fISd0 fun p hp => ?_; (conv => cbv); refine st_load hE cInt (by rw [hp]; exact (hb).at _ _ rfl) ?_; (conv => cbv))
 refine br (fun g => absurd g (ei _)) (fun _ => ?_)
 conv => cbv
 (refine st_fld hE fISd1 fun p hp => ?_; (conv => cbv); refine st_load hE cStr (by rw [hp]; exact (ha).at _ _ rfl) ?_; (conv => cbv))
 (refine st_fld hE fISd1 fun p hp => ?_; (conv => cbv); refine st_load hE cStr (by rw [hp]; exact (hb).at _ _ rfl) ?_; (conv => cbv))
 refine br (fun g => absurd g (es _)) (fun _ => ?_)
 conv => cbv
 (refine st_fld hE fISd2 fun p hp => ?_; (conv => cbv); refine st_load hE cInt (by rw [hp]; exact (ha).at _ _ rfl) ?_; (conv => cbv))
 (refine st_fld hE fISd2 fun p hp => ?_; (conv => cbv); refine st_load hE cInt (by rw [hp]; exact (hb).at _ _ rfl) ?_; (conv => cbv))
 refine br (fun g => absurd g (ei _)) (fun _ => ?_)
 conv => cbv
 (refine st_fld hE fISd3 fun p hp => ?_; (conv => cbv); refine st_load hE cInt (by rw [hp]; exact (ha).at _ _ rfl) ?_; (conv => cbv))
 (refine st_fld hE fISd3 fun p hp => ?_; (conv => cbv); refine st_load hE cInt (by rw [hp]; exact (hb).at _ _ rfl) ?_; (conv => cbv))
 refine br (fun g => absurd g (ei _)) (fun _ => ?_)
 conv => cbv
 rw [hR]; exact ⟨hx, rfl⟩
theorem eqStmtS_f {w : World} {A A1 : Option Addr} {n c c1 : Nat} {xs : List PS} (h : RSs w A n xs) (h1 : RSs w A1 n xs) (hn : n ≤ 9223372036854775807) :
  FC Tryz.prog 53 [.slice A n c, .slice A1 n c1] w fun v _ => v = .bool true := by
 refine FC.intro (cs := []) Tryz.func53 (by kernel_rfl) fun E R hE hr hR => ?_
 have ei : ∀ z : Int, ¬ E.cmp .neq z z = true := fun z => by rw [hE.cmp]; simp [cmpR]
 conv => cbv
 refine st_len hE sISd fun x hx => ?_
 conv => cbv
 refine st_len hE sISd fun x' hx' => ?_
 obtain rfl : x = x' := by rw [hx, hx']
 conv => cbv
 refine br (fun g => absurd g (ei _)) (fun _ => ?_)
 conv => cbv
 refine loop_rule hr (fun (s : Nat × Int) w' => s.1 ≤ n ∧ s.2 = (s.1 : Int) ∧ Ext w w') (fun s => [(0, .slice A n c), (1, .slice A1 n c1), (5, .int .i64 s.2)]) (fun s => n - s.1) (0, 0)
  (by simp [Fits, lk]) ⟨by simp, by simp, Ext.refl _⟩ ?_
 rintro I hI ⟨i, z⟩ w' ⟨hi, hz, hxw⟩
 simp only at hi hz
 obtain ⟨z', hz'⟩ : ∃ z', z' = z + 1 := ⟨_, rfl⟩
 conv => cbv
 refine st_len hE sISd fun y hy => ?_
 conv => cbv
 refine br (fun g => ?_) (fun g => ?_)
 ·have g : i < n := by
   have : z < y := by simpa [hE.cmp, cmpR] using g
   omega
  have e1 : E.ar .add .i64 z 1 = z' := by rw [hE.ar, hz']; exact wrap_in (by omega) (by omega)
  conv => cbv
  refine draw_h [0, 1, 2, 3, 4, 5, 6, 7] [(8, false), (9, false)] hr fol (by kernel_rfl) fun E' hE' w0 hs0 S hS => ?_
  replace hxw := hxw.trans hs0.ext
  obtain ⟨a, v, hA, hg, hc, hv⟩ := (h.ext hxw).get g
  obtain ⟨a1, u, hA1, hg1, hc1, hu⟩ := (h1.ext hxw).get g
  have he : v = u := by rw [hg] at hg1; exact Option.some.inj hg1
  conv => cbv
  refine st_idx hE' sISd hA (by omega) (by omega) fun q hq => ?_
  rw [show z.toNat = i by omega] at hq
  conv => cbv
  refine st_loadS hE' tISd (vs := cS v) rfl (by rw [hq]; exact hc) ?_
  obtain ⟨cv, hcv⟩ : ∃ cv, cv = cS v := ⟨_, rfl⟩
  rw [← hcv]
  conv => cbv
  refine st_idx hE' sISd hA1 (by omega) (by omega) fun q1 hq1 => ?_
  rw [show z.toNat = i by omega] at hq1
  conv => cbv
  refine st_loadS hE' tISd (vs := cS u) rfl (by rw [hq1]; exact hc1) ?_
  obtain ⟨cu, hcu⟩ : ∃ cu, cu = cS u := ⟨_, rfl⟩
  rw [← hcu]
  conv => cbv
  rw [hcv, hcu]
  refine st_f hr (eqStmt_f v u hv hu he) fun r w2 hx2 ev => ?_
  subst ev
  rw [← hcv, ← hcu]
  replace hxw := hxw.trans hx2
  refine ⟨hS _ hx2, ?_⟩
  conv => cbv
  refine ⟨hS _ hx2, ?_⟩
  conv => cbv
  simp only [e1]
  exact ⟨(i + 1, z'), by simp [Fits, lk], hI _ _ ⟨by simp only; omega, by simp only; omega, hxw⟩, by simp only; omega⟩
 ·conv => cbv
  rw [hR]; exact ⟨hxw, rfl⟩
abbrev zPol : List Value := [.slice none 0 0, .slice none 0 0]
theorem tLPol : Stc Tryz.prog 25 2 zPol := ⟨by kernel_rfl, by kernel_rfl⟩
theorem tIPol : Stc Tryz.prog 37 2 zPol := ⟨by kernel_rfl, by kernel_rfl⟩
theorem fLPol0 : Fld Tryz.prog 25 0 0 := ⟨by kernel_rfl⟩
theorem fLPol1 : Fld Tryz.prog 25 1 1 := ⟨by kernel_rfl⟩
theorem fIPol0 : Fld Tryz.prog 37 0 0 := ⟨by kernel_rfl⟩
theorem fIPol1 : Fld Tryz.prog 37 1 1 := ⟨by kernel_rfl⟩
theorem bulk_len : ∀ xs : List ByteArray, xs.length ≤ bulk xs
 | [] => by simp [bulk]
 | x :: xs => by have := bulk_len xs; rw [bulk, a3_]; omega
theorem wt_b {nv : List PN} (h : wtNs nv ≤ 1048576) : nv.length ≤ 1048576 ∧ (∀ p ∈ nv, p.xs.length ≤ 1048576) ∧ ∀ p ∈ nv, p.ks.length ≤ 1048576 := by
 refine ⟨by have := wtNs_len nv; omega, fun p hp => ?_, fun p hp => ?_⟩
 ·have h1 := wtNs_mem hp; have h2 := bulk_len p.xs; unfold wtN at h1; omega
 ·have h1 := wtNs_mem hp; unfold wtN at h1; omega
theorem szPolicy_f {w : World} {A A2 : Option Addr} {n c n2 c2 : Nat} {nv : List PN} {sv : List PS} (h : PolR w A n A2 n2 nv sv) (hn : n ≤ 9223372036854775807) (hn2 : n2 ≤ 9223372036854775807) :
  FC Tryz.prog 7 [polV A n c A2 n2 c2, .int .i64 1048576] w fun v _ => ∃ r : Int, v = .int .i64 r ∧ (0 ≤ r → wtNs nv + wtSs sv ≤ 1048576) := by
 refine FC.intro (cs := []) Tryz.func7 (by kernel_rfl) fun E R hE hr hR => ?_
 conv => cbv
 refine st_box hr fun a w1 hx hb0 => ?_
 have hb := hb0 _ (n1_ _)
 conv => cbv
 (refine st_fld hE fLPol0 fun p hp => ?_; (conv => cbv); refine st_load hE cLNs (by rw [hp]; exact (hb).at _ _ rfl) ?_; (conv => cbv))
 refine st_f hr (szNodeS_f (h.nodes.ext hx) hn 1048576 (by omega) (by omega)) fun v w2 hx2 ⟨r, ev, hr1, hr2⟩ => ?_
 subst ev
 replace hb := hb.bel hx2
 replace hx := hx.trans hx2
 conv => cbv
 refine br (fun _ => ?_) (fun g1 => ?_)
 ·conv => cbv
  rw [hR]; exact ⟨hx, -1, rfl, fun h => by omega⟩
 have g1 : 0 ≤ r := by simpa [hE.cmp, cmpR] using g1
 have hr2 := hr2 g1
 conv => cbv
 (refine st_fld hE fLPol1 fun p hp => ?_; (conv => cbv); refine st_load hE cLSs (by rw [hp]; exact (hb).at _ _ rfl) ?_; (conv => cbv))
 refine st_f hr (szStmtS_f (h.stmts.ext hx) hn2 r g1 hr1) fun v w3 hx3 ⟨r', ev, hr3, hr4⟩ => ?_
 subst ev
 replace hx := hx.trans hx3
 conv => cbv
 refine br (fun _ => ?_) (fun g2 => ?_)
 ·conv => cbv
  rw [hR]; exact ⟨hx, -1, rfl, fun h => by omega⟩
 have g2 : 0 ≤ r' := by simpa [hE.cmp, cmpR] using g2
 have hr4 := hr4 g2
 conv => cbv
 rw [hR]; exact ⟨hx, r', rfl, fun _ => by omega⟩
theorem toPolicy_f {w : World} {A A2 : Option Addr} {n c n2 c2 : Nat} {nv : List PN} {sv : List PS} (h : PolR w A n A2 n2 nv sv) (hw : wtNs nv + wtSs sv ≤ 1048576) :
  FC Tryz.prog 9 [polV A n c A2 n2 c2] w fun v w' => ∃ A1 c1 A3 c3, v = polV A1 n c1 A3 n2 c3 ∧ PolR w' A1 n A3 n2 nv sv := by
 refine FC.intro (cs := []) Tryz.func9 (by kernel_rfl) fun E R hE hr hR => ?_
 obtain ⟨b1, b2, b3⟩ := wt_b (nv := nv) (by omega)
 have b4 := wtSs_len sv
 have hl1 := h.nodes.len
 have hl2 := h.stmts.len
 conv => cbv
 refine st_box hr fun a w1 hx hb0 => ?_
 have hb := hb0 _ (n1_ _)
 conv => cbv
 refine st_alloc hr tIPol rfl fun o w2 hx2 ho0 => ?_
 have ho := ho0 _ hx.size
 have hb := hb.bel hx2
 have hx := hx.trans hx2
 conv => cbv
 refine st_alloc hr tIPol rfl fun q w3 hx3 hq0 => ?_
 have hq := hq0 _ hx.size
 have aq := (hb.apart (hq0 _ (n1_ _)) (n1_ _)).1
 have oq := (ho.apart (hq0 _ (n1_ _)) (n1_ _)).1
 have o0 := ho
 have hso := hx3.size
 have hb := hb.bel hx3
 have ho := ho.bel hx3
 have hx := hx.trans hx3
 clear hb0 ho0 hq0
 conv => cbv
 (refine st_fld hE fLPol0 fun p hp => ?_; (conv => cbv); refine st_load hE cLNs (by rw [hp]; exact (hb).at _ _ rfl) ?_; (conv => cbv))
 refine st_f hr (toNodeS_f (h.nodes.ext hx) (by omega) b2 b3) fun v w4 hx4 ⟨A4, c4, ev, h4⟩ => ?_
 subst ev
 have hs4 := hx4.size
 have q0 := hq
 replace hb := hb.bel hx4
 replace ho := ho.bel hx4
 replace hq := hq.bel hx4
 replace hx := hx.trans hx4
 conv => cbv
 refine st_fld hE fIPol0 fun p hp => ?_
 conv => cbv
 refine st_put hr zINs hq hp (by simp) rfl fun wm hwm hq2 => ?_
 replace hx := hx.then (hwm.bel hq hx.size)
 have y4 : Above w3.heap.size w4 wm := hwm.above q0 (n1_ _)
 simp only [b4_, b5_] at hq2
 replace hq := hq2
 replace hb := hb.wr hwm aq
 replace ho := ho.wr hwm oq
 have hsz : w3.heap.size ≤ wm.heap.size := n2_ hs4 y4.size
 conv => cbv
 (refine st_fld hE fLPol1 fun p hp => ?_; (conv => cbv); refine st_load hE cLSs (by rw [hp]; exact (hb).at _ _ rfl) ?_; (conv => cbv))
 refine st_f hr (toStmtS_f (h.stmts.ext hx) (by omega)) fun v w6 hx6 ⟨A6, c6, ev, h6⟩ => ?_
 subst ev
 replace ho := ho.bel hx6
 replace hq := hq.bel hx6
 replace hx := hx.trans hx6
 replace y4 := y4.trans (hx6.above _)
 conv => cbv
 refine st_fld hE fIPol1 fun p2 hp2 => ?_
 conv => cbv
 refine st_put hr zISs hq hp2 (by simp) rfl fun w7 hw7 hq3 => ?_
 have y7 : Above w3.heap.size w6 w7 := hw7.above q0 (n1_ _)
 replace hx := hx.then (hw7.bel hq hx.size)
 replace ho := ho.wr hw7 oq
 simp only [b4_, b5_] at hq3
 replace y4 := y4.trans y7
 conv => cbv
 refine st_loadS hE tIPol rfl hq3.at ?_
 conv => cbv
 refine st_putS hr (by kernel_rfl) ho (add_zero _).symm (by simp) (by simp [Value.oneCell']) fun w8 hw8 ho8 => ?_
 simp only [a1_, a2_, a3_, a4_, a5_, a6_, a7_] at ho8
 have y8 : Above w3.heap.size w7 w8 := hw8.above o0 hso
 conv => cbv
 refine st_cell hr tIPol rfl ho8.at ?_
 rw [hR]; exact ⟨hx.then (hw8.bel ho hx.size), A4, c4, A6, c6, rfl, h4 _ (y4.trans y8), h6 _ ((y7.trans y8).mono hsz)⟩
theorem eqPolicy_f {w : World} {A A2 A3 A4 : Option Addr} {n c n2 c2 c3 c4 : Nat} {nv : List PN} {sv : List PS} (h : PolR w A n A2 n2 nv sv) (h' : PolR w A3 n A4 n2 nv sv) (hn : n ≤ 9223372036854775807) (hn2 : n2 ≤ 9223372036854775807) :
  FC Tryz.prog 13 [polV A n c A2 n2 c2, polV A3 n c3 A4 n2 c4] w fun v _ => v = .bool true := by
 refine FC.intro (cs := []) Tryz.func13 (by kernel_rfl) fun E R hE hr hR => ?_
 conv => cbv
 refine st_box hr fun a w1 hx ha0 => ?_
 have ha := ha0 _ (n1_ _)
 conv => cbv
 refine st_box hr fun b w2 hx2 hb0 => ?_
 have hb := hb0 _ hx.size
 replace ha := ha.bel hx2
 replace hx := hx.trans hx2
 clear ha0 hb0
 conv => cbv
 (refine st_fld hE fIPol0 fun p hp => ?_; (conv => cbv); refine st_load hE cINs (by rw [hp]; exact (ha).at _ _ rfl) ?_; (conv => cbv))
 (refine st_fld hE fIPol0 fun p hp => ?_; (conv => cbv); refine st_load hE cINs (by rw [hp]; exact (hb).at _ _ rfl) ?_; (conv => cbv))
 refine st_f hr (eqNodeS_f (h.nodes.ext hx) (h'.nodes.ext hx) hn) fun v w3 hx3 ev => ?_
 subst ev
 replace ha := ha.bel hx3
 replace hb := hb.bel hx3
 replace hx := hx.trans hx3
 conv => cbv
 (refine st_fld hE fIPol1 fun p hp => ?_; (conv => cbv); refine st_load hE cISs (by rw [hp]; exact (ha).at _ _ rfl) ?_; (conv => cbv))
 (refine st_fld hE fIPol1 fun p hp => ?_; (conv => cbv); refine st_load hE cISs (by rw [hp]; exact (hb).at _ _ rfl) ?_; (conv => cbv))
 refine st_f hr (eqStmtS_f (h.stmts.ext hx) (h'.stmts.ext hx) hn2) fun v w4 hx4 ev => ?_
 subst ev
 conv => cbv
 rw [hR]; exact ⟨hx.trans hx4, rfl⟩
def stmtP (last : Bool) (s : PS) : Prop :=
 if s.k = 1 then last = false ∧ ident s.nm ∧ 0 ≤ s.c ∧ s.g = -1
 else if s.k = 2 then last = false ∧ s.nm = ⟨#[]⟩ ∧ 0 ≤ s.c ∧ -1 ≤ s.g
 else if s.k = 3 then last = true ∧ s.nm = ⟨#[]⟩ ∧ s.c = -1 ∧ -1 ≤ s.g
 else False
def rootS (s : PS) : List Int := (if 0 ≤ s.c then [s.c] else []) ++ (if 0 ≤ s.g then [s.g] else [])
def roots (sv : List PS) : List Int := sv.flatMap rootS
def stmtsP (sv : List PS) : Prop := ∀ i s, sv[i]? = some s → stmtP (decide (i + 1 = sv.length)) s
def policyP (ty : Bool) (nv : List PN) (sv : List PS) : Prop :=
 nv.length ≤ 4000 ∧ 1 ≤ sv.length ∧ sv.length ≤ 600 ∧ (∀ p ∈ nv, fieldsP ty p) ∧ stmtsP sv ∧ ∃ ts, IsTs nv 0 nv.length (roots sv) ts ∧ ∀ t ∈ ts, dep t ≤ 64
theorem foldW_append (ns : List PN) (f : Nat) : ∀ (k1 k2 out : List Int), foldW ns f (k1 ++ k2) out = foldW ns f k2 (foldW ns f k1 out)
 | [], k2, out => rfl
 | k :: k1, k2, out => by rw [List.cons_append, foldW, foldW_append ns f k1 k2]; rfl
theorem roots_take {sv : List PS} {i : Nat} {s : PS} (h : sv[i]? = some s) : roots (sv.take (i + 1)) = roots (sv.take i) ++ rootS s := by
 unfold roots; rw [g4_, h, List.flatMap_append]; simp
theorem rg_eq {l : List Int} : (∀ (i : Nat) (z : Int), l[i]? = some z → z = i) → l = rg l.length := by
 intro h
 apply List.ext_getElem?
 intro i
 rcases Nat.lt_or_ge i l.length with hi | hi
 ·have e := h i _ (g2_ hi)
  rw [g2_ hi, e]
  simp [rg, hi]
 ·rw [List.getElem?_eq_none hi, List.getElem?_eq_none (by rw [rg_len]; exact hi)]
theorem l2shape_f {w : World} {A A2 : Option Addr} {n c n2 c2 : Nat} {nv : List PN} {sv : List PS} (h : PolR w A n A2 n2 nv sv) (hn : n ≤ 9223372036854775807) (hn2 : n2 ≤ 9223372036854775807) (ty : Bool) :
  FC Tryz.prog 95 [.slice A n c, .slice A2 n2 c2, .bool ty] w fun v _ => ∃ b : Bool, v = .bool b ∧ (b = true ↔ policyP ty nv sv) := by
 refine FC.intro (cs := []) Tryz.func95 (by kernel_rfl) fun E R hE hr hR => ?_
 have hl := h.nodes.len
 have hl2 := h.stmts.len
 obtain ⟨F, hF⟩ : ∃ F : Nat, F = 4001 := ⟨_, rfl⟩
 have no : ¬ policyP ty nv sv → ∀ w', Ext w w' → R (.bool false) w' := fun h w' hx => by rw [hR]; exact ⟨hx, false, rfl, by simp [h]⟩
 conv => cbv
 refine st_len hE sINd fun x1 hx1 => ?_
 conv => cbv
 refine br (fun g => ?_) (fun g => ?_)
 ·have g : 4000 < x1 := by simpa [hE.cmp, cmpR] using g
  conv => cbv
  exact no (fun q => by have := q.1; omega) _ (Ext.refl _)
 have g1 : n ≤ 4000 := by simp [hE.cmp, cmpR] at g; omega
 clear g
 conv => cbv
 refine st_len hE sISd fun x2 hx2 => ?_
 conv => cbv
 refine br (fun g => ?_) (fun g => ?_)
 ·have g : x2 < 1 := by simpa [hE.cmp, cmpR] using g
  conv => cbv
  exact no (fun q => by have := q.2.1; omega) _ (Ext.refl _)
 have g2 : 1 ≤ n2 := by simp [hE.cmp, cmpR] at g; omega
 clear g
 conv => cbv
 refine st_len hE sISd fun x3 hx3 => ?_
 conv => cbv
 refine br (fun g => ?_) (fun g => ?_)
 ·have g : 600 < x3 := by simpa [hE.cmp, cmpR] using g
  conv => cbv
  exact no (fun q => by have := q.2.2.1; omega) _ (Ext.refl _)
 have g3 : n2 ≤ 600 := by simp [hE.cmp, cmpR] at g; omega
 clear g
 conv => cbv
 refine st_len hE sINd fun x4 hx4 => ?_
 conv => cbv
 refine loop_rule hr (fun (s : Nat × Int) w' => s.1 ≤ n ∧ s.2 = (s.1 : Int) ∧ Ext w w' ∧ ∀ p ∈ nv.take s.1, fieldsP ty p) (fun s => [(0, .slice A n c), (1, .slice A2 n2 c2), (2, .bool ty), (31, .slice A n c), (32, .int .i64 x4), (33, .int .i64 s.2)]) (fun s => n - s.1) (0, 0)
  (by simp [Fits, lk]) ⟨by simp, by simp, Ext.refl _, by simp⟩ ?_
 rintro I hI ⟨i, ii⟩ w' ⟨hi, hii, hx, hall⟩
 simp only at hi hii hall
 obtain ⟨ij, hij⟩ : ∃ z, z = ii + 1 := ⟨_, rfl⟩
 conv => cbv
 refine br (fun g => ?_) (fun g => ?_)
 ·have g : i < n := by
   have : ii < x4 := by simpa [hE.cmp, cmpR] using g
   omega
  have ei : E.ar .add .i64 ii 1 = ij := by rw [hE.ar, hij]; exact wrap_in (by omega) (by omega)
  obtain ⟨a, v, hA, hg, hc, hok⟩ := (h.nodes.ext hx).get g
  conv => cbv
  refine st_idx hE sINd hA (by omega) (by omega) fun q hq => ?_
  rw [show ii.toNat = i by omega] at hq
  conv => cbv
  refine st_loadS hE tINd (vs := cN v) rfl (by rw [hq]; exact hc) ?_
  obtain ⟨cv, hcv⟩ : ∃ cv, cv = cN v := ⟨_, rfl⟩
  have hcl : cv.length = 5 := by rw [hcv]; rfl
  have hc1 : ∀ v ∈ cv, v.oneCell' = true := by rw [hcv]; simp [cN, Value.oneCell']
  rw [← hcv]
  conv => cbv
  refine st_alloc hr tINd rfl fun q2 w2 hx2 hq0 => ?_
  conv => cbv
  refine st_putS hr (by rw [hcl]; kernel_rfl) (hq0 _ hx.size) (add_zero _).symm (by simp [hcl]) hc1 fun w3 hw3 hq3 => ?_
  have hq4 : Box w.heap.size 90 5 w3 q2 cv := by
   have e : zNd.take 0 ++ cv ++ zNd.drop (0 + cv.length) = cv := by rw [hcl]; simp
   rwa [e] at hq3
  have hx3 := hx2.then (hw3.bel (hq0 _ (n1_ _)) hx2.size)
  conv => cbv
  refine st_loadS hE tINd hcl hq4.at ?_
  conv => cbv
  rw [hcv]
  refine st_f hr (l2fields_f v (hok.ext hx3) ty) fun u w4 hx4' ⟨b, ev, hb⟩ => ?_
  subst ev
  have hx4 := (hx.trans hx3).trans hx4'
  conv => cbv
  cases b with
  | false =>
   conv => cbv
   exact no (fun q => absurd (hb.2 (q.2.2.2.1 _ (m1_ hg))) (by simp)) _ hx4
  | true =>
   conv => cbv
   simp only [ei]
   refine ⟨(i + 1, ij), by simp [Fits, lk], hI _ _ ⟨by simp only; omega, by simp only; omega, hx4, fun p hp => ?_⟩, by simp only; omega⟩
   simp only at hp
   rw [g4_, hg] at hp
   rcases List.mem_append.1 hp with hp | hp
   ·exact hall p hp
   ·simp at hp; subst hp; exact hb.1 rfl
 have g : i = n := by
  have : ¬ ii < x4 := by simpa [hE.cmp, cmpR] using g
  omega
 rw [g3_ (by omega)] at hall
 conv => cbv
 clear hI I hij ij hii hi
 have hk3 : ∀ p ∈ nv, p.ks.length ≤ 3 := fun p hp => by have := (hall p hp).1; have := kidsF_le p.o; omega
 refine st_len hE sISd fun x5 hx5 => ?_
 conv => cbv
 refine loop_rulec [22] hr (fun (s : Nat × Int × Option Addr × Nat × Nat) w' => s.1 ≤ n2 ∧ s.2.1 = (s.1 : Int) ∧ Ext w w' ∧ Own w.heap.size 3 1 w' s.2.2.1 s.2.2.2.1 s.2.2.2.2 ((foldW nv F (roots (sv.take s.1)) []).map (.int .i64)) ∧ s.2.2.2.1 ≤ 25000 + 2 * s.1 ∧ ∀ j t, j < s.1 → sv[j]? = some t → stmtP (decide (j + 1 = sv.length)) t)
  (fun s => [(0, .slice A n c), (1, .slice A2 n2 c2), (9, .slice s.2.2.1 s.2.2.2.1 s.2.2.2.2), (42, .slice A2 n2 c2), (43, .int .i64 x5), (44, .int .i64 s.2.1)]) (fun s => n2 - s.1) (0, 0, none, 0, 0)
  (by simp [Fits, lk]) ⟨by simp, by simp, hx, Own.nil, by simp, fun j t h => by simp only at h; omega⟩ ?_
 clear hx
 rintro I hI ⟨i, ii, A5, n5, c5⟩ w' ⟨hi, hii, hx, ho, hn5, hst⟩
 simp only at hi hii ho hn5 hst
 obtain ⟨ij, hij⟩ : ∃ z, z = ii + 1 := ⟨_, rfl⟩
 obtain ⟨im, him⟩ : ∃ z : Int, z = n2 - 1 := ⟨_, rfl⟩
 conv => cbv
 refine br (fun g => ?_) (fun g => ?_)
 ·have g : i < n2 := by
   have : ii < x5 := by simpa [hE.cmp, cmpR] using g
   omega
  have ei : E.ar .add .i64 ii 1 = ij := by rw [hE.ar, hij]; exact wrap_in (by omega) (by omega)
  obtain ⟨a, v, hA, hg, hc, hok⟩ := (h.stmts.ext hx).get g
  obtain ⟨k, nm, cc, gg⟩ := v
  have s_nm := hok.s_nm
  simp only at s_nm
  conv => cbv
  refine st_idx hE sISd hA (by omega) (by omega) fun q hq => ?_
  rw [show ii.toNat = i by omega] at hq
  conv => cbv
  refine st_loadS hE tISd (vs := [.int .i64 k, .string nm, .int .i64 cc, .int .i64 gg]) rfl (by rw [hq]; exact hc) ?_
  conv => cbv
  refine st_alloc hr tISd rfl fun q2 w2 hx2 hq0 => ?_
  conv => cbv
  refine st_putS hr (by kernel_rfl) (hq0 _ hx.size) (add_zero _).symm (by simp) (by simp [Value.oneCell']) fun w3 hw3 hq3 => ?_
  simp only [a1_, a2_, a3_, a4_, a5_, a6_, a7_] at hq3
  have hxy := hx2.then (hw3.bel (hq0 _ (n1_ _)) hx2.size)
  replace hx := hx.trans hxy
  have apq : Apart A5 (some q2) ∧ Apart (some q2) A5 := ho.apart (hq0 _ (n1_ _)) (n1_ _)
  replace ho := ho.bel hxy
  clear hq0 hw3 hx2
  conv => cbv
  refine st_len hE sISd fun x6 hx6 => ?_
  have em : E.ar .sub .i64 x6 1 = im := by rw [hE.ar, show arR .sub .i64 x6 1 = IntKind.i64.wrap (x6 - 1) from rfl, wrap_in (by omega) (by omega)]; omega
  obtain ⟨la, hla⟩ : ∃ la, la = E.cmp .eql ii im := ⟨_, rfl⟩
  have hla2 : la = decide (i + 1 = sv.length) := by rw [hla, hE.cmp, Bool.eq_iff_iff]; simp [cmpR]; omega
  conv => cbv
  simp only [em, ← hla]
  refine cut_rule [] [] hr (fun (s : Bool) w9 => Ext w3 w9 ∧ (s = true ↔ stmtP la ⟨k, nm, cc, gg⟩)) (fun s => [(0, .slice A n c), (1, .slice A2 n2 c2), (9, .slice A5 n5 c5), (11, .pointer (some q2)), (13, .bool s), (42, .slice A2 n2 c2), (43, .int .i64 x5), (44, .int .i64 ii)]) (fun J hJ => ?_) ?_
  ·cases la with
   | true =>
    conv => cbv
    (refine st_fld hE fISd0 fun p hp => ?_; (conv => cbv); refine st_load hE cInt (by rw [hp]; exact (hq3).at _ _ rfl) ?_; (conv => cbv))
    refine br (fun g5 => ?_) (fun g5 => ?_)
    ·have g5 : k = 1 := by simpa [hE.cmp, cmpR] using g5
     conv => cbv
     exact ⟨false, by simp [Fits, lk], hJ _ _ ⟨Ext.refl _, by unfold stmtP; rw [if_pos g5]; simp⟩⟩
    have k1 : k ≠ 1 := by simpa [hE.cmp, cmpR] using g5
    clear g5
    conv => cbv
    refine br (fun g5 => ?_) (fun g5 => ?_)
    ·have g5 : k = 2 := by simpa [hE.cmp, cmpR] using g5
     conv => cbv
     exact ⟨false, by simp [Fits, lk], hJ _ _ ⟨Ext.refl _, by unfold stmtP; rw [if_neg k1, if_pos g5]; simp⟩⟩
    have k2 : k ≠ 2 := by simpa [hE.cmp, cmpR] using g5
    clear g5
    conv => cbv
    refine br (fun g5 => ?_) (fun g5 => ?_)
    ·have g5 : k = 3 := by simpa [hE.cmp, cmpR] using g5
     conv => cbv
     (refine st_fld hE fISd1 fun p hp => ?_; (conv => cbv); refine st_load hE cStr (by rw [hp]; exact (hq3).at _ _ rfl) ?_; (conv => cbv))
     refine br (fun t1 => ?_) (fun t1 => ?_)
     ·have t1 : nm = ⟨#[]⟩ := (scq hE _ _).1 t1
      conv => cbv
      (refine st_fld hE fISd2 fun p hp => ?_; (conv => cbv); refine st_load hE cInt (by rw [hp]; exact (hq3).at _ _ rfl) ?_; (conv => cbv))
      refine br (fun t2 => ?_) (fun t2 => ?_)
      ·have t2 : cc = -1 := by simpa [hE.cmp, cmpR] using t2
       conv => cbv
       (refine st_fld hE fISd3 fun p hp => ?_; (conv => cbv); refine st_load hE cInt (by rw [hp]; exact (hq3).at _ _ rfl) ?_; (conv => cbv))
       obtain ⟨q4, hq4⟩ : ∃ q4, q4 = E.cmp .geq gg (-1) := ⟨_, rfl⟩
       have hq5 : q4 = true ↔ -1 ≤ gg := by rw [hq4, hE.cmp]; simp [cmpR]
       simp only [← hq4]
       exact ⟨q4, by simp [Fits, lk], hJ _ _ ⟨Ext.refl _, by rw [hq5]; unfold stmtP; rw [if_neg k1, if_neg k2, if_pos g5]; simp [t1, t2]⟩⟩
      ·have t2 : ¬ (cc = -1) := by simpa [hE.cmp, cmpR] using t2
       conv => cbv
       exact ⟨false, by simp [Fits, lk], hJ _ _ ⟨Ext.refl _, by unfold stmtP; rw [if_neg k1, if_neg k2, if_pos g5]; simp [t1, t2]⟩⟩
     ·have t1 : nm ≠ ⟨#[]⟩ := fun e => t1 ((scq hE _ _).2 e)
      conv => cbv
      exact ⟨false, by simp [Fits, lk], hJ _ _ ⟨Ext.refl _, by unfold stmtP; rw [if_neg k1, if_neg k2, if_pos g5]; simp [t1]⟩⟩
    have k3 : k ≠ 3 := by simpa [hE.cmp, cmpR] using g5
    clear g5
    conv => cbv
    exact ⟨false, by simp [Fits, lk], hJ _ _ ⟨Ext.refl _, by unfold stmtP; rw [if_neg k1, if_neg k2, if_neg k3]; simp⟩⟩
   | false =>
    conv => cbv
    (refine st_fld hE fISd0 fun p hp => ?_; (conv => cbv); refine st_load hE cInt (by rw [hp]; exact (hq3).at _ _ rfl) ?_; (conv => cbv))
    refine br (fun g5 => ?_) (fun g5 => ?_)
    ·have g5 : k = 1 := by simpa [hE.cmp, cmpR] using g5
     conv => cbv
     (refine st_fld hE fISd1 fun p hp => ?_; (conv => cbv); refine st_load hE cStr (by rw [hp]; exact (hq3).at _ _ rfl) ?_; (conv => cbv))
     refine st_f hr (l2ident_f nm s_nm _) fun u w6 hx6 ⟨b, ev, hbq⟩ => ?_
     subst ev
     have hq6 := hq3.bel hx6
     cases b with
     | false =>
      have hbq : ¬ ident nm := fun q => absurd (hbq.2 q) (by simp)
      conv => cbv
      exact ⟨false, by simp [Fits, lk], hJ _ _ ⟨hx6, by unfold stmtP; rw [if_pos g5]; simp [hbq]⟩⟩
     | true =>
      have hbq := hbq.1 rfl
      conv => cbv
      (refine st_fld hE fISd2 fun p hp => ?_; (conv => cbv); refine st_load hE cInt (by rw [hp]; exact (hq6).at _ _ rfl) ?_; (conv => cbv))
      refine br (fun t2 => ?_) (fun t2 => ?_)
      ·have t2 : 0 ≤ cc := by simpa [hE.cmp, cmpR] using t2
       conv => cbv
       (refine st_fld hE fISd3 fun p hp => ?_; (conv => cbv); refine st_load hE cInt (by rw [hp]; exact (hq6).at _ _ rfl) ?_; (conv => cbv))
       obtain ⟨q4, hq4⟩ : ∃ q4, q4 = E.cmp .eql gg (-1) := ⟨_, rfl⟩
       have hq5 : q4 = true ↔ gg = -1 := by rw [hq4, hE.cmp]; simp [cmpR]
       simp only [← hq4]
       exact ⟨q4, by simp [Fits, lk], hJ _ _ ⟨hx6, by rw [hq5]; unfold stmtP; rw [if_pos g5]; simp [hbq, t2]⟩⟩
      ·have t2 : ¬ (0 ≤ cc) := by simpa [hE.cmp, cmpR] using t2
       conv => cbv
       exact ⟨false, by simp [Fits, lk], hJ _ _ ⟨hx6, by unfold stmtP; rw [if_pos g5]; simp [hbq, t2]⟩⟩
    have k1 : k ≠ 1 := by simpa [hE.cmp, cmpR] using g5
    clear g5
    conv => cbv
    refine br (fun g5 => ?_) (fun g5 => ?_)
    ·have g5 : k = 2 := by simpa [hE.cmp, cmpR] using g5
     conv => cbv
     (refine st_fld hE fISd1 fun p hp => ?_; (conv => cbv); refine st_load hE cStr (by rw [hp]; exact (hq3).at _ _ rfl) ?_; (conv => cbv))
     refine br (fun t1 => ?_) (fun t1 => ?_)
     ·have t1 : nm = ⟨#[]⟩ := (scq hE _ _).1 t1
      conv => cbv
      (refine st_fld hE fISd2 fun p hp => ?_; (conv => cbv); refine st_load hE cInt (by rw [hp]; exact (hq3).at _ _ rfl) ?_; (conv => cbv))
      refine br (fun t2 => ?_) (fun t2 => ?_)
      ·have t2 : 0 ≤ cc := by simpa [hE.cmp, cmpR] using t2
       conv => cbv
       (refine st_fld hE fISd3 fun p hp => ?_; (conv => cbv); refine st_load hE cInt (by rw [hp]; exact (hq3).at _ _ rfl) ?_; (conv => cbv))
       obtain ⟨q4, hq4⟩ : ∃ q4, q4 = E.cmp .geq gg (-1) := ⟨_, rfl⟩
       have hq5 : q4 = true ↔ -1 ≤ gg := by rw [hq4, hE.cmp]; simp [cmpR]
       simp only [← hq4]
       exact ⟨q4, by simp [Fits, lk], hJ _ _ ⟨Ext.refl _, by rw [hq5]; unfold stmtP; rw [if_neg k1, if_pos g5]; simp [t1, t2]⟩⟩
      ·have t2 : ¬ (0 ≤ cc) := by simpa [hE.cmp, cmpR] using t2
       conv => cbv
       exact ⟨false, by simp [Fits, lk], hJ _ _ ⟨Ext.refl _, by unfold stmtP; rw [if_neg k1, if_pos g5]; simp [t1, t2]⟩⟩
     ·have t1 : nm ≠ ⟨#[]⟩ := fun e => t1 ((scq hE _ _).2 e)
      conv => cbv
      exact ⟨false, by simp [Fits, lk], hJ _ _ ⟨Ext.refl _, by unfold stmtP; rw [if_neg k1, if_pos g5]; simp [t1]⟩⟩
    have k2 : k ≠ 2 := by simpa [hE.cmp, cmpR] using g5
    clear g5
    conv => cbv
    refine br (fun g5 => ?_) (fun g5 => ?_)
    ·have g5 : k = 3 := by simpa [hE.cmp, cmpR] using g5
     conv => cbv
     exact ⟨false, by simp [Fits, lk], hJ _ _ ⟨Ext.refl _, by unfold stmtP; rw [if_neg k1, if_neg k2, if_pos g5]; simp⟩⟩
    have k3 : k ≠ 3 := by simpa [hE.cmp, cmpR] using g5
    clear g5
    conv => cbv
    exact ⟨false, by simp [Fits, lk], hJ _ _ ⟨Ext.refl _, by unfold stmtP; rw [if_neg k1, if_neg k2, if_neg k3]; simp⟩⟩
  ·rintro b w9 ⟨hx9, hb⟩
   replace hx := hx.trans hx9
   replace ho := ho.bel hx9
   replace hq3 := hq3.bel hx9
   have hol0 := ho.len
   rw [List.length_map, Nat.mul_one] at hol0
   clear hx9
   cases b with
   | false =>
    have hb : ¬ stmtP la ⟨k, nm, cc, gg⟩ := fun q => absurd (hb.2 q) (by simp)
    conv => cbv
    exact no (fun q => hb (by rw [hla2]; exact q.2.2.2.2.1 i _ hg)) _ hx
   | true =>
    have hb := hb.1 rfl
    conv => cbv
    (refine st_fld hE fISd2 fun p hp => ?_; (conv => cbv); refine st_load hE cInt (by rw [hp]; exact (hq3).at _ _ rfl) ?_; (conv => cbv))
    refine br (fun r1 => ?_) (fun r1 => ?_)
    ·have r1 : 0 ≤ cc := by simpa [hE.cmp, cmpR] using r1
     conv => cbv
     (refine st_fld hE fISd2 fun p hp => ?_; (conv => cbv); refine st_load hE cInt (by rw [hp]; exact (hq3).at _ _ rfl) ?_; (conv => cbv))
     have wl1 := walk_len hk3 F cc (foldW nv F (roots (sv.take i)) [])
     refine st_g hr (l2walk_g h.nodes hk3 g1 F (by omega) cc _ _ _ _ (foldW nv F (roots (sv.take i)) []) (by omega) hx ho (by omega)) fun u ww1 ⟨AX1, nX1, cX1, ev, hxx, hoo, hgro⟩ => ?_
     subst ev
     have hol1 := hoo.len
     rw [List.length_map, Nat.mul_one] at hol1
     clear hx ho
     have hx := hxx
     have ho := hoo
     clear hxx hoo
     have hqq := hq3.wr hgro.wr apq.2
     conv => cbv
     (refine st_fld hE fISd3 fun p hp => ?_; (conv => cbv); refine st_load hE cInt (by rw [hp]; exact (hqq).at _ _ rfl) ?_; (conv => cbv))
     refine br (fun r2 => ?_) (fun r2 => ?_)
     ·have r2 : 0 ≤ gg := by simpa [hE.cmp, cmpR] using r2
      conv => cbv
      (refine st_fld hE fISd3 fun p hp => ?_; (conv => cbv); refine st_load hE cInt (by rw [hp]; exact (hqq).at _ _ rfl) ?_; (conv => cbv))
      have wl2 := walk_len hk3 F gg (walkF nv F cc (foldW nv F (roots (sv.take i)) []))
      refine st_g hr (l2walk_g h.nodes hk3 g1 F (by omega) gg _ _ _ _ (walkF nv F cc (foldW nv F (roots (sv.take i)) [])) (by omega) hx ho (by omega)) fun u ww2 ⟨AX2, nX2, cX2, ev, hxx, hoo, hgro⟩ => ?_
      subst ev
      have hol2 := hoo.len
      rw [List.length_map, Nat.mul_one] at hol2
      clear hx ho
      have hx := hxx
      have ho := hoo
      clear hxx hoo
      conv => cbv
      simp only [ei]
      refine ⟨(i + 1, ij, AX2, nX2, cX2), by simp [Fits, lk], hI _ _ ⟨by simp only; omega, by simp only; omega, hx, ?_, by simp only; omega, fun j t hj ht => ?_⟩, by simp only; omega⟩
      ·simp only
       rw [roots_take hg, foldW_append]
       unfold rootS
       simp only [r1, r2, if_true, if_false, a7_, a2_, foldW]
       exact ho
      ·simp only at hj
       rcases Nat.lt_or_ge j i with e | e
       ·exact hst j t e ht
       ·obtain rfl : j = i := by omega
        rw [hg] at ht; cases ht
        rw [← hla2]; exact hb
     ·have r2 : ¬ 0 ≤ gg := by simpa [hE.cmp, cmpR] using r2
      conv => cbv
      simp only [ei]
      refine ⟨(i + 1, ij, AX1, nX1, cX1), by simp [Fits, lk], hI _ _ ⟨by simp only; omega, by simp only; omega, hx, ?_, by simp only; omega, fun j t hj ht => ?_⟩, by simp only; omega⟩
      ·simp only
       rw [roots_take hg, foldW_append]
       unfold rootS
       simp only [r1, r2, if_true, if_false, a7_, a2_, foldW]
       exact ho
      ·simp only at hj
       rcases Nat.lt_or_ge j i with e | e
       ·exact hst j t e ht
       ·obtain rfl : j = i := by omega
        rw [hg] at ht; cases ht
        rw [← hla2]; exact hb
    ·have r1 : ¬ 0 ≤ cc := by simpa [hE.cmp, cmpR] using r1
     have hqq := hq3
     conv => cbv
     (refine st_fld hE fISd3 fun p hp => ?_; (conv => cbv); refine st_load hE cInt (by rw [hp]; exact (hqq).at _ _ rfl) ?_; (conv => cbv))
     refine br (fun r2 => ?_) (fun r2 => ?_)
     ·have r2 : 0 ≤ gg := by simpa [hE.cmp, cmpR] using r2
      conv => cbv
      (refine st_fld hE fISd3 fun p hp => ?_; (conv => cbv); refine st_load hE cInt (by rw [hp]; exact (hqq).at _ _ rfl) ?_; (conv => cbv))
      have wl2 := walk_len hk3 F gg (foldW nv F (roots (sv.take i)) [])
      refine st_g hr (l2walk_g h.nodes hk3 g1 F (by omega) gg _ _ _ _ (foldW nv F (roots (sv.take i)) []) (by omega) hx ho (by omega)) fun u ww2 ⟨AX2, nX2, cX2, ev, hxx, hoo, hgro⟩ => ?_
      subst ev
      have hol2 := hoo.len
      rw [List.length_map, Nat.mul_one] at hol2
      clear hx ho
      have hx := hxx
      have ho := hoo
      clear hxx hoo
      conv => cbv
      simp only [ei]
      refine ⟨(i + 1, ij, AX2, nX2, cX2), by simp [Fits, lk], hI _ _ ⟨by simp only; omega, by simp only; omega, hx, ?_, by simp only; omega, fun j t hj ht => ?_⟩, by simp only; omega⟩
      ·simp only
       rw [roots_take hg, foldW_append]
       unfold rootS
       simp only [r1, r2, if_true, if_false, a7_, a2_, foldW]
       exact ho
      ·simp only at hj
       rcases Nat.lt_or_ge j i with e | e
       ·exact hst j t e ht
       ·obtain rfl : j = i := by omega
        rw [hg] at ht; cases ht
        rw [← hla2]; exact hb
     ·have r2 : ¬ 0 ≤ gg := by simpa [hE.cmp, cmpR] using r2
      conv => cbv
      simp only [ei]
      refine ⟨(i + 1, ij, A5, n5, c5), by simp [Fits, lk], hI _ _ ⟨by simp only; omega, by simp only; omega, hx, ?_, by simp only; omega, fun j t hj ht => ?_⟩, by simp only; omega⟩
      ·simp only
       rw [roots_take hg, foldW_append]
       unfold rootS
       simp only [r1, r2, if_true, if_false, a7_, a2_, foldW]
       exact ho
      ·simp only at hj
       rcases Nat.lt_or_ge j i with e | e
       ·exact hst j t e ht
       ·obtain rfl : j = i := by omega
        rw [hg] at ht; cases ht
        rw [← hla2]; exact hb
 have g : i = n2 := by
  have : ¬ ii < x5 := by simpa [hE.cmp, cmpR] using g
  omega
 subst g
 rw [g3_ (by omega)] at ho
 have hol0 := ho.len
 rw [List.length_map, Nat.mul_one] at hol0
 have hst2 : stmtsP sv := fun j t ht => hst j t (by have := (List.getElem?_eq_some_iff.1 ht).1; omega) ht
 obtain ⟨L, hL⟩ : ∃ L, L = foldW nv F (roots sv) [] := ⟨_, rfl⟩
 rw [← hL] at ho hol0
 have hkk : ∀ p ∈ nv, (p.ks.length : Int) = kidsF p.o := fun p hp => (hall p hp).1
 have toL : (∃ ts, IsTs nv 0 nv.length (roots sv) ts ∧ ∀ t ∈ ts, dep t ≤ 64) → L = rg nv.length := by
  rintro ⟨ts, h1, _⟩
  rw [hL]
  exact walk_of h1 (n1_ _) F fun k hk => by have := (h1.roots k hk).2; omega
 conv => cbv
 clear hI I hij ij him im
 refine st_len hE tInts fun x7 hx7 => ?_
 conv => cbv
 refine st_len hE sINd fun x8 hx8 => ?_
 conv => cbv
 refine br (fun g => ?_) (fun g => ?_)
 ·have g : x7 ≠ x8 := by simpa [hE.cmp, cmpR] using g
  conv => cbv
  exact no (fun q => g (by have := toL q.2.2.2.2.2; rw [this, rg_len] at hol0; omega)) _ hx
 have g : x7 = x8 := by simpa [hE.cmp, cmpR] using g
 have hLn : L.length = nv.length := by omega
 conv => cbv
 refine st_len hE tInts fun x9 hx9 => ?_
 conv => cbv
 refine loop_rule hr (fun (s : Nat × Int) w2 => s.1 ≤ n5 ∧ s.2 = (s.1 : Int) ∧ w2 = w' ∧ ∀ j z, j < s.1 → L[j]? = some z → z = j)
  (fun s => [(0, .slice A n c), (1, .slice A2 i c2), (136, .slice A5 n5 c5), (137, .int .i64 x9), (138, .int .i64 s.2)]) (fun s => n5 - s.1) (0, 0)
  (by simp [Fits, lk]) ⟨by simp, by simp, rfl, fun j z h => by simp only at h; omega⟩ ?_
 rintro I hI ⟨j, jj⟩ w2 ⟨hj, hjj, hw2, hlj⟩
 simp only at hj hjj hlj
 subst hw2
 obtain ⟨jk, hjk⟩ : ∃ z, z = jj + 1 := ⟨_, rfl⟩
 conv => cbv
 refine br (fun g4 => ?_) (fun g4 => ?_)
 ·have g4 : j < n5 := by
   have : jj < x9 := by simpa [hE.cmp, cmpR] using g4
   omega
  have ej : E.ar .add .i64 jj 1 = jk := by rw [hE.ar, hjk]; exact wrap_in (by omega) (by omega)
  conv => cbv
  refine st_int hE tInts ho.ints (k := j) (by omega) g4 fun p u hu hp => ?_
  conv => cbv
  refine st_load hE cInt hp ?_
  conv => cbv
  refine br (fun g5 => ?_) (fun g5 => ?_)
  ·have g5 : jj ≠ u := by simpa [hE.cmp, cmpR] using g5
   conv => cbv
   exact no (fun q => g5 (by have := toL q.2.2.2.2.2; rw [this] at hu; have := (rg_get hu).1; omega)) _ hx
  ·have g5 : jj = u := by simpa [hE.cmp, cmpR] using g5
   conv => cbv
   simp only [ej]
   refine ⟨(j + 1, jk), by simp [Fits, lk], hI _ _ ⟨by simp only; omega, by simp only; omega, rfl, fun q z h1 h2 => ?_⟩, by simp only; omega⟩
   simp only at h1
   rcases Nat.lt_or_ge q j with e | e
   ·exact hlj q z e h2
   ·obtain rfl : q = j := by omega
    rw [hu] at h2; cases h2; omega
 have g4 : j = n5 := by
  have : ¬ jj < x9 := by simpa [hE.cmp, cmpR] using g4
  omega
 have hLr : L = rg nv.length := by
  have := rg_eq (l := L) fun q z hq => hlj q z (by have := (List.getElem?_eq_some_iff.1 hq).1; omega) hq
  rw [hLn] at this; exact this
 obtain ⟨b0, ts, hb0, hts⟩ := walk_conv hkk (M := nv.length) F (roots sv) 0 (by rw [show rg 0 = [] from rfl, ← hL, hLr]; exact List.prefix_refl _)
 have eb : b0 = nv.length := by
  have := congrArg List.length hb0
  rw [rg_len, show rg 0 = [] from rfl, ← hL] at this; omega
 subst eb
 conv => cbv
 clear hI I hjk jk hlj hj hjj g4
 refine st_len hE sISd fun x10 hx10 => ?_
 conv => cbv
 refine loop_rule hr (fun (s : Nat × Int) w2 => s.1 ≤ i ∧ s.2 = (s.1 : Int) ∧ Ext w w2 ∧ ∀ j z, j < s.1 → sv[j]? = some z → ∀ k ∈ rootS z, ∀ a b t, IsTs nv a b [k] [t] → dep t ≤ 64)
  (fun s => [(0, .slice A n c), (147, .slice A2 i c2), (148, .int .i64 x10), (149, .int .i64 s.2)]) (fun s => i - s.1) (0, 0)
  (by simp [Fits, lk]) ⟨by simp, by simp, hx, fun j z h => by simp only at h; omega⟩ ?_
 clear hx ho
 rintro I hI ⟨j, jj⟩ w2 ⟨hj, hjj, hx, hdj⟩
 simp only at hj hjj hdj
 obtain ⟨jk, hjk⟩ : ∃ z, z = jj + 1 := ⟨_, rfl⟩
 conv => cbv
 refine br (fun g4 => ?_) (fun g4 => ?_)
 ·have g4 : j < i := by
   have : jj < x10 := by simpa [hE.cmp, cmpR] using g4
   omega
  have ej : E.ar .add .i64 jj 1 = jk := by rw [hE.ar, hjk]; exact wrap_in (by omega) (by omega)
  obtain ⟨a, v, hA, hg, hc, hok⟩ := (h.stmts.ext hx).get g4
  obtain ⟨k, nm, cc, gg⟩ := v
  have hin : ∀ k ∈ rootS ⟨k, nm, cc, gg⟩, k ∈ roots sv := fun k hk => List.mem_flatMap.2 ⟨_, m1_ hg, hk⟩
  have tr : ∀ q : Int, q ∈ roots sv → ∃ (qn : Nat) (a b : Nat) (t : Tr), q = qn ∧ IsTs nv a b [(qn : Int)] [t] ∧ t ∈ ts := fun q hq => by
   obtain ⟨m, hm⟩ := List.mem_iff_getElem?.1 hq
   obtain ⟨t, a', b', h1, h2⟩ := hts.at hm
   have h3 := (hts.roots q hq).1
   exact ⟨q.toNat, a', b', t, by omega, by rw [show ((q.toNat : Nat) : Int) = q by omega]; exact h2, m1_ h1⟩
  conv => cbv
  refine st_idx hE sISd hA (by omega) (by omega) fun q hq => ?_
  rw [show jj.toNat = j by omega] at hq
  conv => cbv
  refine st_loadS hE tISd (vs := [.int .i64 k, .string nm, .int .i64 cc, .int .i64 gg]) rfl (by rw [hq]; exact hc) ?_
  conv => cbv
  refine st_alloc hr tISd rfl fun q2 w3 hx3 hq0 => ?_
  conv => cbv
  refine st_putS hr (by kernel_rfl) (hq0 _ hx.size) (add_zero _).symm (by simp) (by simp [Value.oneCell']) fun w4 hw4 hq3 => ?_
  simp only [a1_, a2_, a3_, a4_, a5_, a6_, a7_] at hq3
  replace hx := hx.trans (hx3.then (hw4.bel (hq0 _ (n1_ _)) hx3.size))
  clear hq0 hw4 hx3 hq hc hok
  have bad : ∀ q : Int, q ∈ rootS ⟨k, nm, cc, gg⟩ → ∀ t ∈ ts, 64 < dep t → ∀ w', Ext w w' → R (.bool false) w' := fun q hq t ht hd => no fun p => by
   obtain ⟨ts', h1, h2⟩ := p.2.2.2.2.2
   have := hts.uniqT h1
   rw [← this] at h2
   have := h2 t ht; omega
  have go : (∀ q ∈ rootS ⟨k, nm, cc, gg⟩, ∀ a b t, IsTs nv a b [q] [t] → dep t ≤ 64) → ∀ w2, Ext w w2 → I (j + 1, jk) w2 := fun hd w2 h2 => hI _ _ ⟨by simp only; omega, by simp only; omega, h2, fun q z h1 h3 => by
   simp only at h1
   rcases Nat.lt_or_ge q j with e | e
   ·exact hdj q z e h3
   ·obtain rfl : q = j := by omega
    rw [hg] at h3; cases h3; exact hd⟩
  conv => cbv
  (refine st_fld hE fISd2 fun p hp => ?_; (conv => cbv); refine st_load hE cInt (by rw [hp]; exact (hq3).at _ _ rfl) ?_; (conv => cbv))
  refine br (fun m2 => ?_) (fun m2 => ?_)
  ·have m2 : 0 ≤ cc := by simpa [hE.cmp, cmpR] using m2
   obtain ⟨qn2, qa2, qb2, t2, qe2, qt2, qm2⟩ := tr cc (hin cc (by unfold rootS; simp [m2]))
   conv => cbv
   (refine st_fld hE fISd2 fun p hp => ?_; (conv => cbv); refine st_load hE cInt (by rw [hp]; exact (hq3).at _ _ rfl) ?_; (conv => cbv))
   rw [qe2]
   refine st_qi hE (l2depth_q (h.nodes.ext hx) g1 qn2 qa2 qb2 t2 qt2) fun d2 hd2 ww2 hss2 => ?_
   have hx2 := hx.trans hss2.ext
   have hq3 := hq3.bel hss2.ext
   rw [← qe2]
   conv => cbv
   refine br (fun u2 => ?_) (fun u2 => ?_)
   ·have u2 : 64 < d2 := by simpa [hE.cmp, cmpR] using u2
    conv => cbv
    exact bad cc (by unfold rootS; simp [m2]) t2 qm2 (by omega) _ hx2
   have u2 : ¬ 64 < d2 := by simpa [hE.cmp, cmpR] using u2
   have dd2 : ∀ a b t, IsTs nv a b [cc] [t] → dep t ≤ 64 := fun a b t ht => by
    rw [qe2] at ht
    have := qt2.uniqT ht
    simp at this
    rw [← this]; omega
   conv => cbv
   (refine st_fld hE fISd3 fun p hp => ?_; (conv => cbv); refine st_load hE cInt (by rw [hp]; exact (hq3).at _ _ rfl) ?_; (conv => cbv))
   refine br (fun m3 => ?_) (fun m3 => ?_)
   ·have m3 : 0 ≤ gg := by simpa [hE.cmp, cmpR] using m3
    obtain ⟨qn3, qa3, qb3, t3, qe3, qt3, qm3⟩ := tr gg (hin gg (by unfold rootS; simp [m3]))
    conv => cbv
    (refine st_fld hE fISd3 fun p hp => ?_; (conv => cbv); refine st_load hE cInt (by rw [hp]; exact (hq3).at _ _ rfl) ?_; (conv => cbv))
    rw [qe3]
    refine st_qi hE (l2depth_q (h.nodes.ext hx2) g1 qn3 qa3 qb3 t3 qt3) fun d3 hd3 ww3 hss3 => ?_
    have hx3 := hx2.trans hss3.ext
    have hq3 := hq3.bel hss3.ext
    rw [← qe3]
    conv => cbv
    refine br (fun u3 => ?_) (fun u3 => ?_)
    ·have u3 : 64 < d3 := by simpa [hE.cmp, cmpR] using u3
     conv => cbv
     exact bad gg (by unfold rootS; simp [m3]) t3 qm3 (by omega) _ hx3
    have u3 : ¬ 64 < d3 := by simpa [hE.cmp, cmpR] using u3
    have dd3 : ∀ a b t, IsTs nv a b [gg] [t] → dep t ≤ 64 := fun a b t ht => by
     rw [qe3] at ht
     have := qt3.uniqT ht
     simp at this
     rw [← this]; omega
    conv => cbv
    simp only [ej]
    refine ⟨(j + 1, jk), by simp [Fits, lk], go (fun q hq => ?_) _ hx3, by simp only; omega⟩
    unfold rootS at hq
    simp only [m2, m3, if_true, List.mem_append, List.mem_singleton] at hq
    rcases hq with rfl | rfl
    ·exact dd2
    ·exact dd3
   ·have m3 : ¬ 0 ≤ gg := by simpa [hE.cmp, cmpR] using m3
    conv => cbv
    simp only [ej]
    refine ⟨(j + 1, jk), by simp [Fits, lk], go (fun q hq => ?_) _ hx2, by simp only; omega⟩
    unfold rootS at hq
    simp only [m2, m3, if_true, if_false, a7_, List.mem_singleton] at hq
    subst hq
    exact dd2
  ·have m2 : ¬ 0 ≤ cc := by simpa [hE.cmp, cmpR] using m2
   conv => cbv
   (refine st_fld hE fISd3 fun p hp => ?_; (conv => cbv); refine st_load hE cInt (by rw [hp]; exact (hq3).at _ _ rfl) ?_; (conv => cbv))
   refine br (fun m3 => ?_) (fun m3 => ?_)
   ·have m3 : 0 ≤ gg := by simpa [hE.cmp, cmpR] using m3
    obtain ⟨qn3, qa3, qb3, t3, qe3, qt3, qm3⟩ := tr gg (hin gg (by unfold rootS; simp [m3]))
    conv => cbv
    (refine st_fld hE fISd3 fun p hp => ?_; (conv => cbv); refine st_load hE cInt (by rw [hp]; exact (hq3).at _ _ rfl) ?_; (conv => cbv))
    rw [qe3]
    refine st_qi hE (l2depth_q (h.nodes.ext hx) g1 qn3 qa3 qb3 t3 qt3) fun d3 hd3 ww3 hss3 => ?_
    have hx3 := hx.trans hss3.ext
    have hq3 := hq3.bel hss3.ext
    rw [← qe3]
    conv => cbv
    refine br (fun u3 => ?_) (fun u3 => ?_)
    ·have u3 : 64 < d3 := by simpa [hE.cmp, cmpR] using u3
     conv => cbv
     exact bad gg (by unfold rootS; simp [m3]) t3 qm3 (by omega) _ hx3
    have u3 : ¬ 64 < d3 := by simpa [hE.cmp, cmpR] using u3
    have dd3 : ∀ a b t, IsTs nv a b [gg] [t] → dep t ≤ 64 := fun a b t ht => by
     rw [qe3] at ht
     have := qt3.uniqT ht
     simp at this
     rw [← this]; omega
    conv => cbv
    simp only [ej]
    refine ⟨(j + 1, jk), by simp [Fits, lk], go (fun q hq => ?_) _ hx3, by simp only; omega⟩
    unfold rootS at hq
    simp only [m2, m3, if_true, if_false, a2_, List.mem_singleton] at hq
    subst hq
    exact dd3
   ·have m3 : ¬ 0 ≤ gg := by simpa [hE.cmp, cmpR] using m3
    conv => cbv
    simp only [ej]
    refine ⟨(j + 1, jk), by simp [Fits, lk], go (fun q hq => ?_) _ hx, by simp only; omega⟩
    unfold rootS at hq
    simp only [m2, m3, if_false, a7_, List.not_mem_nil] at hq
 have g4 : j = i := by
  have : ¬ jj < x10 := by simpa [hE.cmp, cmpR] using g4
  omega
 conv => cbv
 rw [hR]; refine ⟨hx, true, rfl, fun _ => ⟨by omega, by omega, by omega, hall, hst2, ts, hts, fun t ht => ?_⟩, fun _ => rfl⟩
 obtain ⟨q, hq, a', b', ht'⟩ := hts.of_mem ht
 obtain ⟨z, hz1, hz2⟩ := List.mem_flatMap.1 hq
 obtain ⟨m, hm⟩ := List.mem_iff_getElem?.1 hz1
 exact hdj m z (by have := (List.getElem?_eq_some_iff.1 hm).1; omega) hm q hz2 a' b' t ht'
theorem specValidPolicy_f {w : World} {A A2 : Option Addr} {n c n2 c2 : Nat} {nv : List PN} {sv : List PS} (h : PolR w A n A2 n2 nv sv) (hn : n ≤ 9223372036854775807) (hn2 : n2 ≤ 9223372036854775807) :
  FC Tryz.prog 41 [polV A n c A2 n2 c2] w fun v _ => ∃ b : Bool, v = .bool b ∧ (b = true ↔ policyP false nv sv) := by
 refine FC.intro (cs := []) Tryz.func41 (by kernel_rfl) fun E R hE hr hR => ?_
 conv => cbv
 refine st_box hr fun a w1 hx hb0 => ?_
 have hb := hb0 _ (n1_ _)
 conv => cbv
 (refine st_fld hE fIPol0 fun p hp => ?_; (conv => cbv); refine st_load hE cINs (by rw [hp]; exact (hb).at _ _ rfl) ?_; (conv => cbv))
 (refine st_fld hE fIPol1 fun p hp => ?_; (conv => cbv); refine st_load hE cISs (by rw [hp]; exact (hb).at _ _ rfl) ?_; (conv => cbv))
 refine st_f hr (l2shape_f (c := c) (c2 := c2) (h.ext hx) hn hn2 false) fun v w2 hx2 ⟨b, ev, hb2⟩ => ?_
 subst ev
 conv => cbv
 rw [hR]; exact ⟨hx.trans hx2, b, rfl, hb2⟩
def posF : List ByteArray → ByteArray → Option Nat
 | [], _ => none
 | x :: l, s => if x = s then some 0 else (posF l s).map (· + 1)
def posI (l : List ByteArray) (s : ByteArray) : Int := match posF l s with | none => -1 | some i => i
theorem posF_none : ∀ {l : List ByteArray} {s : ByteArray}, s ∉ l → posF l s = none
 | [], s, _ => rfl
 | x :: l, s, h => by
  rw [posF, if_neg (fun e => h (by simp [e])), posF_none fun q => h (by simp [q])]; rfl
theorem posF_some : ∀ {l : List ByteArray} {s : ByteArray} {k : Nat}, s ∉ l.take k → l[k]? = some s → posF l s = some k
 | [], s, k, _, h => by simp at h
 | x :: l, s, 0, _, h => by simp at h; rw [posF, if_pos h]
 | x :: l, s, k + 1, h1, h => by
  rw [posF, if_neg (fun e => h1 (by simp [e])), posF_some (k := k) (fun q => h1 (by simp [q])) (by simpa using h)]; rfl
theorem posF_lt : ∀ {l : List ByteArray} {s : ByteArray} {k : Nat}, posF l s = some k → l[k]? = some s
 | [], s, k, h => by cases h
 | x :: l, s, k, h => by
  rw [posF] at h
  split at h
  ·rename_i e; cases h; simp [e]
  ·obtain ⟨j, hj, rfl⟩ := Option.map_eq_some_iff.1 h
   simpa using posF_lt hj
theorem posI_ge {l : List ByteArray} {s : ByteArray} : 0 ≤ posI l s ↔ (posF l s).isSome = true := by
 unfold posI; cases posF l s with
 | none => simp
 | some k => simp
def attrs : List ByteArray := [⟨⟨[99, 108, 105, 101, 110, 116]⟩⟩, ⟨⟨[117, 115, 101, 114]⟩⟩, ⟨⟨[108, 101, 118, 101, 108]⟩⟩, ⟨⟨[110, 111, 119]⟩⟩, ⟨⟨[97, 115, 107, 101, 100]⟩⟩, ⟨⟨[97, 103, 114, 101, 101, 100]⟩⟩]
theorem attrs_small : ∀ s ∈ attrs, s.size ≤ 9223372036854775807 := by
 have h : ∀ s ∈ attrs, s.size ≤ 6 := by decide
 exact fun s hs => by have := h s hs; omega
def typG (o : Int) (ts : List Int) : Int :=
 if o = 25 ∨ o = 26 then (if allT 1 ts = true then 1 else 0)
 else if o = 27 then (if ts[0]? = some 1 ∧ ts[1]? = ts[2]? then ts.getD 1 0 else 0)
 else typF o ts
def rowF (o : Int) : List Int × Int :=
 if o = 1 then ([], 2) else if o = 2 then ([], 3) else if o = 3 then ([], 1) else if o = 4 then ([], 4)
 else if o = 8 then ([2], 2) else if o = 9 then ([1], 1) else if o = 10 then ([4], 2)
 else if 11 ≤ o ∧ o ≤ 15 then ([2, 2], 2) else if 16 ≤ o ∧ o ≤ 18 then ([4, 4], 4)
 else if o = 19 ∨ o = 20 then ([0, 0], 1) else if o = 21 ∨ o = 22 then ([2, 2], 1)
 else if o = 23 then ([3, 4], 1) else if o = 24 then ([4, 4], 1) else if o = 25 ∨ o = 26 then ([1, 1], 1)
 else ([1, 0, 0], 0)
def wantM : List Int → List Int → Int → Option Int
 | [], _, any => some any
 | w :: ws, ks, any =>
  let any' := if w = 0 then (if any = 0 then ks.headD 0 else any) else any
  let w' := if w = 0 then any' else w
  if ks.headD 0 ≠ w' then none else wantM ws ks.tail any'
def typR (o : Int) (ks : List Int) : Int := match wantM (rowF o).1 ks 0 with | none => 0 | some any => if (rowF o).2 = 0 then any else (rowF o).2
theorem typR_leaf {o : Int} (h : 1 ≤ o ∧ o ≤ 4) : typR o [] = knd o := by
 have : o = 1 ∨ o = 2 ∨ o = 3 ∨ o = 4 := by omega
 rcases this with rfl | rfl | rfl | rfl <;> rfl
theorem rowLen {o : Int} (h1 : 1 ≤ kidsF o) : ((rowF o).1.length : Int) = kidsF o := by
 have hr : 8 ≤ o ∧ o ≤ 27 := by unfold kidsF at h1; (repeat' split at h1) <;> omega
 have : o = 8 ∨ o = 9 ∨ o = 10 ∨ o = 11 ∨ o = 12 ∨ o = 13 ∨ o = 14 ∨ o = 15 ∨ o = 16 ∨ o = 17 ∨ o = 18 ∨ o = 19 ∨ o = 20 ∨ o = 21 ∨ o = 22 ∨ o = 23 ∨ o = 24 ∨ o = 25 ∨ o = 26 ∨ o = 27 := by omega
 rcases this with rfl | rfl | rfl | rfl | rfl | rfl | rfl | rfl | rfl | rfl | rfl | rfl | rfl | rfl | rfl | rfl | rfl | rfl | rfl | rfl <;> rfl
theorem typR_eq {o : Int} {ks : List Int} (hk : (ks.length : Int) = kidsF o) (h1 : 1 ≤ kidsF o) (hz : ∀ k ∈ ks, k ≠ 0) : typR o ks = typG o ks := by
 have hr : 8 ≤ o ∧ o ≤ 27 := by unfold kidsF at h1; (repeat' split at h1) <;> omega
 have : o = 8 ∨ o = 9 ∨ o = 10 ∨ o = 11 ∨ o = 12 ∨ o = 13 ∨ o = 14 ∨ o = 15 ∨ o = 16 ∨ o = 17 ∨ o = 18 ∨ o = 19 ∨ o = 20 ∨ o = 21 ∨ o = 22 ∨ o = 23 ∨ o = 24 ∨ o = 25 ∨ o = 26 ∨ o = 27 := by omega
 have hl : ks.length = 1 ∨ ks.length = 2 ∨ ks.length = 3 := by
  have : kidsF o ≤ 3 := kidsF_le o
  omega
 have h3 : (∃ a, ks = [a]) ∨ (∃ a b, ks = [a, b]) ∨ ∃ a b c, ks = [a, b, c] := by
  match ks, hl with
  | [a], _ => exact .inl ⟨a, rfl⟩
  | [a, b], _ => exact .inr (.inl ⟨a, b, rfl⟩)
  | [a, b, c], _ => exact .inr (.inr ⟨a, b, c, rfl⟩)
 rcases this with rfl | rfl | rfl | rfl | rfl | rfl | rfl | rfl | rfl | rfl | rfl | rfl | rfl | rfl | rfl | rfl | rfl | rfl | rfl | rfl <;>
  rcases h3 with ⟨a, rfl⟩ | ⟨a, b, rfl⟩ | ⟨a, b, c, rfl⟩ <;> simp [kidsF] at hk <;> simp at hz <;>
  simp [typR, rowF, wantM, typG, typF, allT, hz] <;> (repeat' split) <;> simp_all <;> omega
theorem l3attr_f (s : ByteArray) (w : World) : FC Tryz.prog 44 [.string s] w fun v _ => v = .int .i64 (posI attrs s) := by
 refine FC.intro (cs := []) Tryz.func44 (by kernel_rfl) fun E R hE hr hR => ?_
 conv => cbv
 refine st_lits hr tStrs rfl (vs := attrs.map .string) (m := 6) rfl (by omega) (by omega) rfl (by simp [attrs, Value.cells]) fun A w1 hx ho => ?_
 have hS : Strs w1 A 6 6 attrs := Own.strs (ho _ (n1_ _)) attrs_small
 conv => cbv
 refine st_len hE tStrs fun x hx2 => ?_
 conv => cbv
 refine loop_rule hr (fun (t : Nat × Int) w' => Same w1 w' ∧ t.2 = (t.1 : Int) ∧ t.1 ≤ 6 ∧ s ∉ attrs.take t.1) (fun t => [(0, .string s), (5, .slice A 6 6), (6, .int .i64 x), (7, .int .i64 t.2)]) (fun t => 6 - t.1) (0, 0)
  (by simp [Fits, lk]) ⟨Same.refl _, rfl, by omega, by simp⟩ ?_
 rintro I hI ⟨k, kk⟩ w' ⟨hs', hkk, hk2, hall⟩
 simp only at hkk hk2 hall
 obtain ⟨kj, hkj⟩ : ∃ z, z = kk + 1 := ⟨_, rfl⟩
 conv => cbv
 refine br (fun g => ?_) (fun g => ?_)
 ·have g : k < 6 := by
   have : kk < x := by simpa [hE.cmp, cmpR] using g
   omega
  have ek : E.ar .add .i64 kk 1 = kj := by rw [hE.ar, hkj]; exact wrap_in (by omega) (by omega)
  conv => cbv
  refine st_str hE tStrs (hS.same hs') (k := k) hkk g fun p u hu _ hp => ?_
  conv => cbv
  refine st_load hE cStr hp ?_
  conv => cbv
  refine br (fun g2 => ?_) (fun g2 => ?_)
  ·have g2 : u = s := (scq hE _ _).1 g2
   conv => cbv
   rw [hR]; exact ⟨hx.trans hs'.ext, by unfold posI; rw [posF_some hall (by rw [hu, g2])]; rw [hkk]; rfl⟩
  ·have g2 : u ≠ s := fun e => g2 ((scq hE _ _).2 e)
   conv => cbv
   simp only [ek]
   refine ⟨(k + 1, kj), by simp [Fits, lk], hI _ _ ⟨hs', by simp only; omega, by simp only; omega, ?_⟩, by simp only; omega⟩
   simp only
   rw [g4_, hu, List.mem_append]
   rintro (q | q)
   ·exact hall q
   ·simp at q; exact g2 q.symm
 ·have g : k = 6 := by
   have : ¬ kk < x := by simpa [hE.cmp, cmpR] using g
   omega
  subst g
  rw [g3_ (by decide)] at hall
  conv => cbv
  rw [hR]; exact ⟨hx.trans hs'.ext, by unfold posI; rw [posF_none hall]; rfl⟩
theorem l3row_f (o : Int) (w : World) : FC Tryz.prog 247 [.int .i64 o] w fun v w' => ∃ A n c, v = .tuple ⟨[.slice A n c, .int .i64 (rowF o).2]⟩ ∧ Ints w' A n c (rowF o).1 := by
 refine FC.intro (cs := []) Tryz.func247 (by kernel_rfl) fun E R hE hr hR => ?_
 conv => cbv
 refine br (fun g => ?_) (fun g => ?_)
 ·have g : o = 1 := by simpa [hE.cmp, cmpR] using g
  conv => cbv
  rw [hR]; exact ⟨Ext.refl _, none, 0, 0, by rw [g]; rfl, by rw [g]; exact ints_nil _⟩
 have g1 : o ≠ 1 := by simpa [hE.cmp, cmpR] using g
 clear g
 conv => cbv
 refine br (fun g => ?_) (fun g => ?_)
 ·have g : o = 2 := by simpa [hE.cmp, cmpR] using g
  conv => cbv
  rw [hR]; exact ⟨Ext.refl _, none, 0, 0, by rw [g]; rfl, by rw [g]; exact ints_nil _⟩
 have g2 : o ≠ 2 := by simpa [hE.cmp, cmpR] using g
 clear g
 conv => cbv
 refine br (fun g => ?_) (fun g => ?_)
 ·have g : o = 3 := by simpa [hE.cmp, cmpR] using g
  conv => cbv
  rw [hR]; exact ⟨Ext.refl _, none, 0, 0, by rw [g]; rfl, by rw [g]; exact ints_nil _⟩
 have g3 : o ≠ 3 := by simpa [hE.cmp, cmpR] using g
 clear g
 conv => cbv
 refine br (fun g => ?_) (fun g => ?_)
 ·have g : o = 4 := by simpa [hE.cmp, cmpR] using g
  conv => cbv
  rw [hR]; exact ⟨Ext.refl _, none, 0, 0, by rw [g]; rfl, by rw [g]; exact ints_nil _⟩
 have g4 : o ≠ 4 := by simpa [hE.cmp, cmpR] using g
 clear g
 conv => cbv
 refine br (fun g => ?_) (fun g => ?_)
 ·have g : o = 8 := by simpa [hE.cmp, cmpR] using g
  conv => cbv
  refine st_lits hr tInts rfl (vs := [.int .i64 2]) (m := 1) rfl (by omega) (by omega) rfl (by simp [Value.cells]) fun A w1 hx ho => ?_
  conv => cbv
  rw [hR]; exact ⟨hx, A, 1, 1, by rw [g]; rfl, by rw [g]; exact Own.ints (zs := [2]) (ho _ (n1_ _))⟩
 have g8 : o ≠ 8 := by simpa [hE.cmp, cmpR] using g
 clear g
 conv => cbv
 refine br (fun g => ?_) (fun g => ?_)
 ·have g : o = 9 := by simpa [hE.cmp, cmpR] using g
  conv => cbv
  refine st_lits hr tInts rfl (vs := [.int .i64 1]) (m := 1) rfl (by omega) (by omega) rfl (by simp [Value.cells]) fun A w1 hx ho => ?_
  conv => cbv
  rw [hR]; exact ⟨hx, A, 1, 1, by rw [g]; rfl, by rw [g]; exact Own.ints (zs := [1]) (ho _ (n1_ _))⟩
 have g9 : o ≠ 9 := by simpa [hE.cmp, cmpR] using g
 clear g
 conv => cbv
 refine br (fun g => ?_) (fun g => ?_)
 ·have g : o = 10 := by simpa [hE.cmp, cmpR] using g
  conv => cbv
  refine st_lits hr tInts rfl (vs := [.int .i64 4]) (m := 1) rfl (by omega) (by omega) rfl (by simp [Value.cells]) fun A w1 hx ho => ?_
  conv => cbv
  rw [hR]; exact ⟨hx, A, 1, 1, by rw [g]; rfl, by rw [g]; exact Own.ints (zs := [4]) (ho _ (n1_ _))⟩
 have g10 : o ≠ 10 := by simpa [hE.cmp, cmpR] using g
 clear g
 conv => cbv
 refine br (fun g => ?_) (fun g => ?_)
 ·have g0 := g
  have g : o = 11 := by simpa [hE.cmp, cmpR] using g
  conv => cbv
  refine br (fun _ => ?_) (fun q => absurd g0 q)
  conv => cbv
  refine st_lits hr tInts rfl (vs := [.int .i64 2, .int .i64 2]) (m := 2) rfl (by omega) (by omega) rfl (by simp [Value.cells]) fun A w1 hx ho => ?_
  conv => cbv
  rw [hR]; exact ⟨hx, A, 2, 2, by rw [g]; rfl, by rw [g]; exact Own.ints (zs := [2, 2]) (ho _ (n1_ _))⟩
 have g11 : o ≠ 11 := by simpa [hE.cmp, cmpR] using g
 clear g
 conv => cbv
 refine br (fun g => ?_) (fun g => ?_)
 ·have g0 := g
  have g : o = 12 := by simpa [hE.cmp, cmpR] using g
  conv => cbv
  refine br (fun _ => ?_) (fun q => absurd g0 q)
  conv => cbv
  refine st_lits hr tInts rfl (vs := [.int .i64 2, .int .i64 2]) (m := 2) rfl (by omega) (by omega) rfl (by simp [Value.cells]) fun A w1 hx ho => ?_
  conv => cbv
  rw [hR]; exact ⟨hx, A, 2, 2, by rw [g]; rfl, by rw [g]; exact Own.ints (zs := [2, 2]) (ho _ (n1_ _))⟩
 have g12 : o ≠ 12 := by simpa [hE.cmp, cmpR] using g
 clear g
 conv => cbv
 refine br (fun g => ?_) (fun g => ?_)
 ·have g0 := g
  have g : o = 13 := by simpa [hE.cmp, cmpR] using g
  conv => cbv
  refine br (fun _ => ?_) (fun q => absurd g0 q)
  conv => cbv
  refine st_lits hr tInts rfl (vs := [.int .i64 2, .int .i64 2]) (m := 2) rfl (by omega) (by omega) rfl (by simp [Value.cells]) fun A w1 hx ho => ?_
  conv => cbv
  rw [hR]; exact ⟨hx, A, 2, 2, by rw [g]; rfl, by rw [g]; exact Own.ints (zs := [2, 2]) (ho _ (n1_ _))⟩
 have g13 : o ≠ 13 := by simpa [hE.cmp, cmpR] using g
 clear g
 conv => cbv
 refine br (fun g => ?_) (fun g => ?_)
 ·have g0 := g
  have g : o = 14 := by simpa [hE.cmp, cmpR] using g
  conv => cbv
  refine br (fun _ => ?_) (fun q => absurd g0 q)
  conv => cbv
  refine st_lits hr tInts rfl (vs := [.int .i64 2, .int .i64 2]) (m := 2) rfl (by omega) (by omega) rfl (by simp [Value.cells]) fun A w1 hx ho => ?_
  conv => cbv
  rw [hR]; exact ⟨hx, A, 2, 2, by rw [g]; rfl, by rw [g]; exact Own.ints (zs := [2, 2]) (ho _ (n1_ _))⟩
 have g14 : o ≠ 14 := by simpa [hE.cmp, cmpR] using g
 clear g
 conv => cbv
 refine br (fun g => ?_) (fun g => ?_)
 ·have g0 := g
  have g : o = 15 := by simpa [hE.cmp, cmpR] using g
  conv => cbv
  refine st_lits hr tInts rfl (vs := [.int .i64 2, .int .i64 2]) (m := 2) rfl (by omega) (by omega) rfl (by simp [Value.cells]) fun A w1 hx ho => ?_
  conv => cbv
  rw [hR]; exact ⟨hx, A, 2, 2, by rw [g]; rfl, by rw [g]; exact Own.ints (zs := [2, 2]) (ho _ (n1_ _))⟩
 have g15 : o ≠ 15 := by simpa [hE.cmp, cmpR] using g
 clear g
 conv => cbv
 refine br (fun g => ?_) (fun g => ?_)
 ·have g0 := g
  have g : o = 16 := by simpa [hE.cmp, cmpR] using g
  conv => cbv
  refine br (fun _ => ?_) (fun q => absurd g0 q)
  conv => cbv
  refine st_lits hr tInts rfl (vs := [.int .i64 4, .int .i64 4]) (m := 2) rfl (by omega) (by omega) rfl (by simp [Value.cells]) fun A w1 hx ho => ?_
  conv => cbv
  rw [hR]; exact ⟨hx, A, 2, 2, by rw [g]; rfl, by rw [g]; exact Own.ints (zs := [4, 4]) (ho _ (n1_ _))⟩
 have g16 : o ≠ 16 := by simpa [hE.cmp, cmpR] using g
 clear g
 conv => cbv
 refine br (fun g => ?_) (fun g => ?_)
 ·have g0 := g
  have g : o = 17 := by simpa [hE.cmp, cmpR] using g
  conv => cbv
  refine br (fun _ => ?_) (fun q => absurd g0 q)
  conv => cbv
  refine st_lits hr tInts rfl (vs := [.int .i64 4, .int .i64 4]) (m := 2) rfl (by omega) (by omega) rfl (by simp [Value.cells]) fun A w1 hx ho => ?_
  conv => cbv
  rw [hR]; exact ⟨hx, A, 2, 2, by rw [g]; rfl, by rw [g]; exact Own.ints (zs := [4, 4]) (ho _ (n1_ _))⟩
 have g17 : o ≠ 17 := by simpa [hE.cmp, cmpR] using g
 clear g
 conv => cbv
 refine br (fun g => ?_) (fun g => ?_)
 ·have g0 := g
  have g : o = 18 := by simpa [hE.cmp, cmpR] using g
  conv => cbv
  refine st_lits hr tInts rfl (vs := [.int .i64 4, .int .i64 4]) (m := 2) rfl (by omega) (by omega) rfl (by simp [Value.cells]) fun A w1 hx ho => ?_
  conv => cbv
  rw [hR]; exact ⟨hx, A, 2, 2, by rw [g]; rfl, by rw [g]; exact Own.ints (zs := [4, 4]) (ho _ (n1_ _))⟩
 have g18 : o ≠ 18 := by simpa [hE.cmp, cmpR] using g
 clear g
 conv => cbv
 refine br (fun g => ?_) (fun g => ?_)
 ·have g0 := g
  have g : o = 19 := by simpa [hE.cmp, cmpR] using g
  conv => cbv
  refine br (fun _ => ?_) (fun q => absurd g0 q)
  conv => cbv
  refine st_lits hr tInts rfl (vs := [.int .i64 0, .int .i64 0]) (m := 2) rfl (by omega) (by omega) rfl (by simp [Value.cells]) fun A w1 hx ho => ?_
  conv => cbv
  rw [hR]; exact ⟨hx, A, 2, 2, by rw [g]; rfl, by rw [g]; exact Own.ints (zs := [0, 0]) (ho _ (n1_ _))⟩
 have g19 : o ≠ 19 := by simpa [hE.cmp, cmpR] using g
 clear g
 conv => cbv
 refine br (fun g => ?_) (fun g => ?_)
 ·have g0 := g
  have g : o = 20 := by simpa [hE.cmp, cmpR] using g
  conv => cbv
  refine st_lits hr tInts rfl (vs := [.int .i64 0, .int .i64 0]) (m := 2) rfl (by omega) (by omega) rfl (by simp [Value.cells]) fun A w1 hx ho => ?_
  conv => cbv
  rw [hR]; exact ⟨hx, A, 2, 2, by rw [g]; rfl, by rw [g]; exact Own.ints (zs := [0, 0]) (ho _ (n1_ _))⟩
 have g20 : o ≠ 20 := by simpa [hE.cmp, cmpR] using g
 clear g
 conv => cbv
 refine br (fun g => ?_) (fun g => ?_)
 ·have g0 := g
  have g : o = 21 := by simpa [hE.cmp, cmpR] using g
  conv => cbv
  refine br (fun _ => ?_) (fun q => absurd g0 q)
  conv => cbv
  refine st_lits hr tInts rfl (vs := [.int .i64 2, .int .i64 2]) (m := 2) rfl (by omega) (by omega) rfl (by simp [Value.cells]) fun A w1 hx ho => ?_
  conv => cbv
  rw [hR]; exact ⟨hx, A, 2, 2, by rw [g]; rfl, by rw [g]; exact Own.ints (zs := [2, 2]) (ho _ (n1_ _))⟩
 have g21 : o ≠ 21 := by simpa [hE.cmp, cmpR] using g
 clear g
 conv => cbv
 refine br (fun g => ?_) (fun g => ?_)
 ·have g0 := g
  have g : o = 22 := by simpa [hE.cmp, cmpR] using g
  conv => cbv
  refine st_lits hr tInts rfl (vs := [.int .i64 2, .int .i64 2]) (m := 2) rfl (by omega) (by omega) rfl (by simp [Value.cells]) fun A w1 hx ho => ?_
  conv => cbv
  rw [hR]; exact ⟨hx, A, 2, 2, by rw [g]; rfl, by rw [g]; exact Own.ints (zs := [2, 2]) (ho _ (n1_ _))⟩
 have g22 : o ≠ 22 := by simpa [hE.cmp, cmpR] using g
 clear g
 conv => cbv
 refine br (fun g => ?_) (fun g => ?_)
 ·have g : o = 23 := by simpa [hE.cmp, cmpR] using g
  conv => cbv
  refine st_lits hr tInts rfl (vs := [.int .i64 3, .int .i64 4]) (m := 2) rfl (by omega) (by omega) rfl (by simp [Value.cells]) fun A w1 hx ho => ?_
  conv => cbv
  rw [hR]; exact ⟨hx, A, 2, 2, by rw [g]; rfl, by rw [g]; exact Own.ints (zs := [3, 4]) (ho _ (n1_ _))⟩
 have g23 : o ≠ 23 := by simpa [hE.cmp, cmpR] using g
 clear g
 conv => cbv
 refine br (fun g => ?_) (fun g => ?_)
 ·have g : o = 24 := by simpa [hE.cmp, cmpR] using g
  conv => cbv
  refine st_lits hr tInts rfl (vs := [.int .i64 4, .int .i64 4]) (m := 2) rfl (by omega) (by omega) rfl (by simp [Value.cells]) fun A w1 hx ho => ?_
  conv => cbv
  rw [hR]; exact ⟨hx, A, 2, 2, by rw [g]; rfl, by rw [g]; exact Own.ints (zs := [4, 4]) (ho _ (n1_ _))⟩
 have g24 : o ≠ 24 := by simpa [hE.cmp, cmpR] using g
 clear g
 conv => cbv
 refine br (fun g => ?_) (fun g => ?_)
 ·have g0 := g
  have g : o = 25 := by simpa [hE.cmp, cmpR] using g
  conv => cbv
  refine br (fun _ => ?_) (fun q => absurd g0 q)
  conv => cbv
  refine st_lits hr tInts rfl (vs := [.int .i64 1, .int .i64 1]) (m := 2) rfl (by omega) (by omega) rfl (by simp [Value.cells]) fun A w1 hx ho => ?_
  conv => cbv
  rw [hR]; exact ⟨hx, A, 2, 2, by rw [g]; rfl, by rw [g]; exact Own.ints (zs := [1, 1]) (ho _ (n1_ _))⟩
 have g25 : o ≠ 25 := by simpa [hE.cmp, cmpR] using g
 clear g
 conv => cbv
 refine br (fun g => ?_) (fun g => ?_)
 ·have g0 := g
  have g : o = 26 := by simpa [hE.cmp, cmpR] using g
  conv => cbv
  refine st_lits hr tInts rfl (vs := [.int .i64 1, .int .i64 1]) (m := 2) rfl (by omega) (by omega) rfl (by simp [Value.cells]) fun A w1 hx ho => ?_
  conv => cbv
  rw [hR]; exact ⟨hx, A, 2, 2, by rw [g]; rfl, by rw [g]; exact Own.ints (zs := [1, 1]) (ho _ (n1_ _))⟩
 have g26 : o ≠ 26 := by simpa [hE.cmp, cmpR] using g
 clear g
 conv => cbv
 have hd : rowF o = ([1, 0, 0], 0) := by unfold rowF; (repeat rw [if_neg (by omega)])
 refine st_lits hr tInts rfl (vs := [.int .i64 1, .int .i64 0, .int .i64 0]) (m := 3) rfl (by omega) (by omega) rfl (by simp [Value.cells]) fun A w1 hx ho => ?_
 conv => cbv
 rw [hR]; exact ⟨hx, A, 3, 3, by rw [hd]; rfl, by rw [hd]; exact Own.ints (zs := [1, 0, 0]) (ho _ (n1_ _))⟩
theorem l3type_f {w : World} {A : Option Addr} {n c : Nat} {ks : List Int} (h : Ints w A n c ks) (o : Int) (hl : (rowF o).1.length ≤ n) :
  FC Tryz.prog 240 [.int .i64 o, .slice A n c] w fun v _ => v = .int .i64 (typR o ks) := by
 refine FC.intro (cs := []) Tryz.func240 (by kernel_rfl) fun E R hE hr hR => ?_
 have hkl := h.len
 have hnl := h.le
 conv => cbv
 refine st_f hr (l3row_f o w) fun v w1 hx ⟨B, m, d, ev, hrow⟩ => ?_
 subst ev
 obtain ⟨ws, hws⟩ : ∃ ws, ws = (rowF o).1 := ⟨_, rfl⟩
 obtain ⟨out, hout⟩ : ∃ out, out = (rowF o).2 := ⟨_, rfl⟩
 obtain ⟨V, hV0⟩ : ∃ V, V = typR o ks := ⟨_, rfl⟩
 rw [← hV0] at hR
 have hV : V = match wantM ws ks 0 with | none => 0 | some any => if out = 0 then any else out := by rw [hV0, hws, hout]; rfl
 rw [← hws] at hrow hl
 rw [← hout]
 have hml := hrow.len
 clear hV0 hws hout
 conv => cbv
 refine st_len hE tInts fun x hx2 => ?_
 conv => cbv
 refine loop_rulec [10] hr (fun (s : Nat × Int × Int) w' => s.1 ≤ m ∧ s.2.1 = (s.1 : Int) ∧ Ext w w' ∧ Ext w1 w' ∧ wantM (ws.drop s.1) (ks.drop s.1) s.2.2 = wantM ws ks 0) (fun s => [(0, .int .i64 o), (1, .slice A n c), (5, .slice B m d), (6, .int .i64 out), (7, .int .i64 s.2.2), (15, .slice B m d), (16, .int .i64 x), (17, .int .i64 s.2.1)]) (fun s => m - s.1) (0, 0, 0)
  (by simp [Fits, lk]) ⟨by simp, by simp, hx, Ext.refl _, by simp⟩ ?_
 rintro I hI ⟨i, ii, any⟩ w' ⟨hi, hii, hxw, hx1, hW⟩
 simp only at hi hii hW
 obtain ⟨ij, hij⟩ : ∃ z, z = ii + 1 := ⟨_, rfl⟩
 conv => cbv
 refine br (fun g => ?_) (fun g => ?_)
 ·have g : i < m := by
   have : ii < x := by simpa [hE.cmp, cmpR] using g
   omega
  have ei : E.ar .add .i64 ii 1 = ij := by rw [hE.ar, hij]; exact wrap_in (by omega) (by omega)
  conv => cbv
  refine st_int hE tInts (hrow.ext hx1) (k := i) hii g fun p u hu hp => ?_
  conv => cbv
  refine st_load hE cInt hp ?_
  obtain ⟨y, hy⟩ : ∃ y, ks[i]? = some y := ⟨_, g2_ (by omega)⟩
  have dc : ∀ {l : List Int} {k : Nat} {x : Int}, l[k]? = some x → l.drop k = x :: l.drop (k + 1) := fun {l k x} h => by
   have := List.getElem?_eq_some_iff.1 h
   rw [List.drop_eq_getElem_cons this.1, this.2]
  rw [dc hu, dc hy, wantM] at hW
  simp only [List.headD_cons, List.tail_cons] at hW
  conv => cbv
  refine cut_rule [] [] hr (fun (s : Int × Int) w9 => w9 = w' ∧ s.1 = (if u = 0 then (if any = 0 then y else any) else any) ∧ s.2 = (if u = 0 then s.1 else u)) (fun s => [(0, .int .i64 o), (1, .slice A n c), (5, .slice B m d), (6, .int .i64 out), (7, .int .i64 s.1), (8, .int .i64 ii), (9, .int .i64 s.2), (15, .slice B m d), (16, .int .i64 x), (17, .int .i64 ii)]) (fun J hJ => ?_) ?_
  ·conv => cbv
   refine br (fun g2 => ?_) (fun g2 => ?_)
   ·have g2 : u = 0 := by simpa [hE.cmp, cmpR] using g2
    conv => cbv
    refine br (fun g3 => ?_) (fun g3 => ?_)
    ·have g3 : any = 0 := by simpa [hE.cmp, cmpR] using g3
     conv => cbv
     refine st_int hE tInts (h.ext hxw) (k := i) hii (by omega) fun p u' hu' hp => ?_
     rw [hy] at hu'
     cases hu'
     conv => cbv
     refine st_load hE cInt hp ?_
     conv => cbv
     exact ⟨(y, y), by simp [Fits, lk], hJ _ _ ⟨rfl, by rw [if_pos g2, if_pos g3], by rw [if_pos g2]⟩⟩
    ·have g3 : any ≠ 0 := by simpa [hE.cmp, cmpR] using g3
     conv => cbv
     exact ⟨(any, any), by simp [Fits, lk], hJ _ _ ⟨rfl, by rw [if_pos g2, if_neg g3], by rw [if_pos g2]⟩⟩
   ·have g2 : u ≠ 0 := by simpa [hE.cmp, cmpR] using g2
    conv => cbv
    exact ⟨(any, u), by simp [Fits, lk], hJ _ _ ⟨rfl, by rw [if_neg g2], by rw [if_neg g2]⟩⟩
  ·rintro ⟨any', w2⟩ w9 ⟨rfl, ha, hb⟩
   simp only at ha hb
   replace hW : (if y ≠ w2 then none else wantM (ws.drop (i + 1)) (ks.drop (i + 1)) any') = wantM ws ks 0 := by rw [hb, ha]; exact hW
   conv => cbv
   refine st_int hE tInts (h.ext hxw) (k := i) hii (by omega) fun p u' hu' hp => ?_
   rw [hy] at hu'
   cases hu'
   conv => cbv
   refine st_load hE cInt hp ?_
   conv => cbv
   refine br (fun g2 => ?_) (fun g2 => ?_)
   ·have g2 : y ≠ w2 := by simpa [hE.cmp, cmpR] using g2
    rw [if_pos g2] at hW
    conv => cbv
    rw [hR]; exact ⟨hxw, by rw [hV, ← hW]; rfl⟩
   ·have g2 : ¬ y ≠ w2 := by simpa [hE.cmp, cmpR] using g2
    rw [if_neg g2] at hW
    conv => cbv
    simp only [ei]
    exact ⟨(i + 1, ij, any'), by simp [Fits, lk], hI _ _ ⟨by simp only; omega, by simp only; omega, hxw, hx1, hW⟩, by simp only; omega⟩
 ·have g : i = m := by
   have : ¬ ii < x := by simpa [hE.cmp, cmpR] using g
   omega
  rw [List.drop_eq_nil_of_le (by omega), wantM] at hW
  rw [← hW] at hV
  simp only at hV
  conv => cbv
  refine br (fun g2 => ?_) (fun g2 => ?_)
  ·have g2 : out = 0 := by simpa [hE.cmp, cmpR] using g2
   conv => cbv
   rw [hR]; exact ⟨hxw, by rw [hV, if_pos g2]; rfl⟩
  ·have g2 : out ≠ 0 := by simpa [hE.cmp, cmpR] using g2
   conv => cbv
   rw [hR]; exact ⟨hxw, by rw [hV, if_neg g2]; rfl⟩
def resN (names : List ByteArray) (tx : ByteArray) : Option Tr := match posF attrs tx with
 | some i => some (.att i)
 | none => (posF names tx).map fun i => .lt i
def tyLt (tys : List Int) (n : Int) : Int × Int := if (tys.length : Int) ≤ n then (0, 7) else (tys.getD n.toNat 0, 0)
def tyNam (names : List ByteArray) (tys : List Int) (tx : ByteArray) : Int × Int := match posF attrs tx with
 | some i => (attrF i, 0)
 | none => match posF names tx with
  | none => (0, 7)
  | some i => (tys.getD i 0, 0)
mutual
def tyT (names : List ByteArray) (tys : List Int) : Tr → Int × Int
 | .con k _ _ _ _ => (k, 0)
 | .att n => (attrF n, 0)
 | .lt n => tyLt tys n
 | .nam tx _ => tyNam names tys tx
 | .op o kids _ => if (tyTs names tys kids).1 ≠ 0 then (0, (tyTs names tys kids).1) else if typG o (tyTs names tys kids).2 = 0 then (0, 9) else (typG o (tyTs names tys kids).2, 0)
def tyTs (names : List ByteArray) (tys : List Int) : List Tr → Int × List Int
 | [] => (0, [])
 | t :: l => if (tyT names tys t).2 ≠ 0 then ((tyT names tys t).2, []) else ((tyTs names tys l).1, (tyT names tys t).1 :: (tyTs names tys l).2)
end
mutual
def chk (names : List ByteArray) (tys : List Int) : Tr → List Int → List Int × Int × Int
 | .con k _ _ _ _, acc => (acc ++ [k], 0, k)
 | .att n, acc => (acc ++ [attrF n], 0, attrF n)
 | .lt n, acc => if (tyLt tys n).2 ≠ 0 then (acc, (tyLt tys n).2, 0) else (acc ++ [(tyLt tys n).1], 0, (tyLt tys n).1)
 | .nam tx _, acc => if (tyNam names tys tx).2 ≠ 0 then (acc, (tyNam names tys tx).2, 0) else (acc ++ [(tyNam names tys tx).1], 0, (tyNam names tys tx).1)
 | .op o kids _, acc => if (chks names tys kids acc).2.1 ≠ 0 then ((chks names tys kids acc).1, (chks names tys kids acc).2.1, 0)
  else if typG o (chks names tys kids acc).2.2 = 0 then ((chks names tys kids acc).1, 9, 0)
  else ((chks names tys kids acc).1 ++ [typG o (chks names tys kids acc).2.2], 0, typG o (chks names tys kids acc).2.2)
def chks (names : List ByteArray) (tys : List Int) : List Tr → List Int → List Int × Int × List Int
 | [], acc => (acc, 0, [])
 | t :: l, acc => if (chk names tys t acc).2.1 ≠ 0 then ((chk names tys t acc).1, (chk names tys t acc).2.1, [])
  else ((chks names tys l (chk names tys t acc).1).1, (chks names tys l (chk names tys t acc).1).2.1, (chk names tys t acc).2.2 :: (chks names tys l (chk names tys t acc).1).2.2)
end
mutual
def resT (names : List ByteArray) : Tr → Tr
 | .nam tx at_ => (resN names tx).getD (.nam tx at_)
 | .op o kids at_ => .op o (resTs names kids) at_
 | t => t
def resTs (names : List ByteArray) : List Tr → List Tr
 | [] => []
 | t :: l => resT names t :: resTs names l
end
mutual
def po : Tr → List Tr
 | .op o kids at_ => pos kids ++ [.op o kids at_]
 | t => [t]
def pos : List Tr → List Tr
 | [] => []
 | t :: l => po t ++ pos l
end
def walkL (names : List ByteArray) (tys : List Int) : List Tr → List Int → List Int × Int
 | [], acc => (acc, 0)
 | u :: l, acc => if (tyT names tys u).2 ≠ 0 then (acc, (tyT names tys u).2) else walkL names tys l (acc ++ [(tyT names tys u).1])
theorem walkL_append (names : List ByteArray) (tys : List Int) : ∀ (l r : List Tr) (acc : List Int), walkL names tys (l ++ r) acc = if (walkL names tys l acc).2 ≠ 0 then walkL names tys l acc else walkL names tys r (walkL names tys l acc).1
 | [], r, acc => by simp [walkL]
 | u :: l, r, acc => by
  rw [List.cons_append, walkL, walkL]
  split
  ·rename_i h; simp [h]
  ·exact walkL_append names tys l r _
mutual
theorem chk_walk (names : List ByteArray) (tys : List Int) : ∀ (t : Tr) (acc : List Int), (chk names tys t acc).1 = (walkL names tys (po t) acc).1 ∧ (chk names tys t acc).2.1 = (walkL names tys (po t) acc).2 ∧ ((walkL names tys (po t) acc).2 = 0 → (tyT names tys t).2 = 0 ∧ (chk names tys t acc).2.2 = (tyT names tys t).1)
 | .con k n tx xs at_, acc => by simp [chk, po, walkL, tyT]
 | .att n, acc => by simp [chk, po, walkL, tyT]
 | .lt n, acc => by
  simp only [chk, po, walkL, tyT]
  by_cases h : (tyLt tys n).2 = 0 <;> simp [h]
 | .nam tx at_, acc => by
  simp only [chk, po, walkL, tyT]
  by_cases h : (tyNam names tys tx).2 = 0 <;> simp [h]
 | .op o kids at_, acc => by
  obtain ⟨h1, h2, h3⟩ := chks_walk names tys kids acc
  by_cases h : (walkL names tys (pos kids) acc).2 = 0
  ·obtain ⟨h4, h5⟩ := h3 h
   have e : chk names tys (.op o kids at_) acc = if typG o (tyTs names tys kids).2 = 0 then ((walkL names tys (pos kids) acc).1, 9, 0) else ((walkL names tys (pos kids) acc).1 ++ [typG o (tyTs names tys kids).2], 0, typG o (tyTs names tys kids).2) := by
    rw [chk, if_neg (by rw [h2]; simpa using h), h1, h5]
   have e2 : tyT names tys (.op o kids at_) = if typG o (tyTs names tys kids).2 = 0 then (0, 9) else (typG o (tyTs names tys kids).2, 0) := by rw [tyT, if_neg (by simpa using h4)]
   have e3 : walkL names tys (po (.op o kids at_)) acc = if (tyT names tys (.op o kids at_)).2 ≠ 0 then ((walkL names tys (pos kids) acc).1, (tyT names tys (.op o kids at_)).2) else ((walkL names tys (pos kids) acc).1 ++ [(tyT names tys (.op o kids at_)).1], 0) := by
    rw [po, walkL_append, if_neg (by simpa using h), walkL, walkL]
   rw [e, e3, e2]
   by_cases h6 : typG o (tyTs names tys kids).2 = 0 <;> simp [h6]
  ·have e : chk names tys (.op o kids at_) acc = ((walkL names tys (pos kids) acc).1, (walkL names tys (pos kids) acc).2, 0) := by rw [chk, if_pos (by rw [h2]; exact h), h1, h2]
   have e3 : walkL names tys (po (.op o kids at_)) acc = walkL names tys (pos kids) acc := by rw [po, walkL_append, if_pos h]
   rw [e, e3]
   exact ⟨rfl, rfl, fun q => absurd q h⟩
theorem chks_walk (names : List ByteArray) (tys : List Int) : ∀ (l : List Tr) (acc : List Int), (chks names tys l acc).1 = (walkL names tys (pos l) acc).1 ∧ (chks names tys l acc).2.1 = (walkL names tys (pos l) acc).2 ∧ ((walkL names tys (pos l) acc).2 = 0 → (tyTs names tys l).1 = 0 ∧ (chks names tys l acc).2.2 = (tyTs names tys l).2)
 | [], acc => by simp [chks, pos, walkL, tyTs]
 | t :: l, acc => by
  obtain ⟨h1, h2, h3⟩ := chk_walk names tys t acc
  by_cases h : (walkL names tys (po t) acc).2 = 0
  ·obtain ⟨h4, h5⟩ := h3 h
   obtain ⟨k1, k2, k3⟩ := chks_walk names tys l (walkL names tys (po t) acc).1
   have e : chks names tys (t :: l) acc = ((chks names tys l (walkL names tys (po t) acc).1).1, (chks names tys l (walkL names tys (po t) acc).1).2.1, (tyT names tys t).1 :: (chks names tys l (walkL names tys (po t) acc).1).2.2) := by rw [chks, if_neg (by rw [h2]; simpa using h), h1, h5]
   have e2 : tyTs names tys (t :: l) = ((tyTs names tys l).1, (tyT names tys t).1 :: (tyTs names tys l).2) := by rw [tyTs, if_neg (by simpa using h4)]
   have e3 : walkL names tys (pos (t :: l)) acc = walkL names tys (pos l) (walkL names tys (po t) acc).1 := by rw [pos, walkL_append, if_neg (by simpa using h)]
   rw [e, e2, e3]
   refine ⟨k1, k2, fun q => ?_⟩
   obtain ⟨k4, k5⟩ := k3 q
   exact ⟨k4, by simp only; rw [k5]⟩
  ·have e : chks names tys (t :: l) acc = ((walkL names tys (po t) acc).1, (walkL names tys (po t) acc).2, []) := by rw [chks, if_pos (by rw [h2]; exact h), h1, h2]
   have e3 : walkL names tys (pos (t :: l)) acc = walkL names tys (po t) acc := by rw [pos, walkL_append, if_pos h]
   rw [e, e3]
   exact ⟨rfl, rfl, fun q => absurd q h⟩
end
theorem po_leaf {p : PN} {i : Int} (h : kidsF p.o = 0) (kids : List Tr) : po (mkT p i kids) = [mkT p i kids] := by
 unfold mkT; rw [if_pos h]; unfold leafF; (repeat' split) <;> simp [po]
theorem IsTs.pos {ns : List PN} {a b : Nat} {ks : List Int} {ts : List Tr} (h : IsTs ns a b ks ts) : (Proofs.YtgnjkdkedjljjaaGreatDoor.pos ts).length = b - a ∧ ∀ j, j < b - a → ∃ u a', (Proofs.YtgnjkdkedjljjaaGreatDoor.pos ts)[j]? = some u ∧ IsTs ns a' (a + j + 1) [((a + j : Nat) : Int)] [u] := by
 induction h with
 | nil a => exact ⟨by simp [Proofs.YtgnjkdkedjljjaaGreatDoor.pos], fun j hj => by omega⟩
 | @cons a b k p ks kids ts hp hk h1 h2 i1 i2 =>
  have e1 := h1.le
  have e2 := h2.le
  obtain ⟨l1, g1⟩ := i1
  obtain ⟨l2, g2⟩ := i2
  have hpo : po (mkT p k kids) = Proofs.YtgnjkdkedjljjaaGreatDoor.pos kids ++ [mkT p k kids] := by
   by_cases h0 : kidsF p.o = 0
   ·have hks : p.ks = [] := List.eq_nil_of_length_eq_zero (by omega)
    have : kids = [] := List.eq_nil_of_length_eq_zero (by rw [h1.len, hks]; rfl)
    rw [po_leaf h0, this]; simp [Proofs.YtgnjkdkedjljjaaGreatDoor.pos]
   ·unfold mkT; rw [if_neg h0, po]
  rw [Proofs.YtgnjkdkedjljjaaGreatDoor.pos, hpo]
  refine ⟨by simp; omega, fun j hj => ?_⟩
  rcases Nat.lt_trichotomy j (k - a) with q | q | q
  ·obtain ⟨u, a', hu, hu2⟩ := g1 j q
   exact ⟨u, a', by rw [List.append_assoc, List.getElem?_append_left (by omega)]; exact hu, hu2⟩
  ·refine ⟨mkT p k kids, a, ?_, ?_⟩
   ·rw [List.append_assoc, List.getElem?_append_right (by omega), show j - (Proofs.YtgnjkdkedjljjaaGreatDoor.pos kids).length = 0 by omega]; rfl
   ·rw [show a + j = k by omega]
    exact .cons hp hk h1 (.nil _)
  ·obtain ⟨u, a', hu, hu2⟩ := g2 (j - (k + 1 - a)) (by omega)
   refine ⟨u, a', ?_, by rw [show a + j = k + 1 + (j - (k + 1 - a)) by omega]; exact hu2⟩
   rw [List.getElem?_append_right (by simp; omega)]
   simp only [List.length_append, a3_, a4_]
   rw [show j - ((Proofs.YtgnjkdkedjljjaaGreatDoor.pos kids).length + (0 + 1)) = j - (k + 1 - a) by omega]
   exact hu
theorem fL30 : Fld Tryz.prog 165 0 0 := ⟨by kernel_rfl⟩
theorem fL31 : Fld Tryz.prog 165 1 1 := ⟨by kernel_rfl⟩
structure LetsR (w : World) (p : Addr) (names : List ByteArray) (tys : List Int) : Prop where
 ex : ∃ NA nn nc TA tn tc, w.cell? (p.add 0) = some (.slice NA nn nc) ∧ w.cell? (p.add 1) = some (.slice TA tn tc) ∧ Strs w NA nn nc names ∧ Ints w TA tn tc tys
 eq : names.length = tys.length
 le : tys.length ≤ 600
 nz : ∀ y ∈ tys, y ≠ 0
theorem LetsR.ext {w w' : World} {p : Addr} {names : List ByteArray} {tys : List Int} (h : LetsR w p names tys) (hx : Ext w w') : LetsR w' p names tys := by
 obtain ⟨NA, nn, nc, TA, tn, tc, h1, h2, h3, h4⟩ := h.ex
 exact ⟨⟨NA, nn, nc, TA, tn, tc, hx.cell h1, hx.cell h2, h3.ext hx, h4.ext hx⟩, h.eq, h.le, h.nz⟩
theorem find_f {w : World} {p : Addr} {names : List ByteArray} {tys : List Int} (h : LetsR w p names tys) (s : ByteArray) : FC Tryz.prog 45 [.pointer (some p), .string s] w fun v _ => v = .int .i64 (posI names s) := by
 refine FC.intro (cs := []) Tryz.func45 (by kernel_rfl) fun E R hE hr hR => ?_
 obtain ⟨A, n, c, TA, tn, tc, h1, h2, h3, h4⟩ := h.ex
 have hl := h3.len
 have he := h.eq
 have hle := h.le
 conv => cbv
 refine st_nil hE ?_
 conv => cbv
 refine st_fld hE fL30 fun p1 hp1 => ?_
 conv => cbv
 refine st_load hE cStrs (v := .slice A n c) (by rw [hp1]; exact h1) ?_
 conv => cbv
 refine st_len hE tStrs fun x hx2 => ?_
 conv => cbv
 refine loop_rule hr (fun (t : Nat × Int) w' => Same w w' ∧ t.2 = (t.1 : Int) ∧ t.1 ≤ n ∧ s ∉ names.take t.1) (fun t => [(1, .string s), (10, .slice A n c), (11, .int .i64 x), (12, .int .i64 t.2)]) (fun t => n - t.1) (0, 0)
  (by simp [Fits, lk]) ⟨Same.refl _, rfl, by omega, by simp⟩ ?_
 rintro I hI ⟨k, kk⟩ w' ⟨hs', hkk, hk2, hall⟩
 simp only at hkk hk2 hall
 obtain ⟨kj, hkj⟩ : ∃ z, z = kk + 1 := ⟨_, rfl⟩
 conv => cbv
 refine br (fun g => ?_) (fun g => ?_)
 ·have g : k < n := by
   have : kk < x := by simpa [hE.cmp, cmpR] using g
   omega
  have ek : E.ar .add .i64 kk 1 = kj := by rw [hE.ar, hkj]; exact wrap_in (by omega) (by omega)
  conv => cbv
  refine st_str hE tStrs (h3.same hs') (k := k) hkk g fun p u hu _ hp => ?_
  conv => cbv
  refine st_load hE cStr hp ?_
  conv => cbv
  refine br (fun g2 => ?_) (fun g2 => ?_)
  ·have g2 : u = s := (scq hE _ _).1 g2
   conv => cbv
   rw [hR]; exact ⟨hs'.ext, by unfold posI; rw [posF_some hall (by rw [hu, g2])]; rw [hkk]; rfl⟩
  ·have g2 : u ≠ s := fun e => g2 ((scq hE _ _).2 e)
   conv => cbv
   simp only [ek]
   refine ⟨(k + 1, kj), by simp [Fits, lk], hI _ _ ⟨hs', by simp only; omega, by simp only; omega, ?_⟩, by simp only; omega⟩
   simp only
   rw [g4_, hu, List.mem_append]
   rintro (q | q)
   ·exact hall q
   ·simp at q; exact g2 q.symm
 ·have g : k = n := by
   have : ¬ kk < x := by simpa [hE.cmp, cmpR] using g
   omega
  subst g
  rw [g3_ (by omega)] at hall
  conv => cbv
  rw [hR]; exact ⟨hs'.ext, by unfold posI; rw [posF_none hall]; rfl⟩
theorem tyT_nz {ns : List PN} (hz : ∀ p ∈ ns, p.o = 7 → 0 ≤ p.z) {names : List ByteArray} {tys : List Int} (he : names.length = tys.length) (hn : ∀ y ∈ tys, y ≠ 0) {a b : Nat} {k : Int} {t : Tr} (h : IsTs ns a b [k] [t]) (hc : (tyT names tys t).2 = 0) : (tyT names tys t).1 ≠ 0 := by
 have getnz : ∀ i : Nat, i < tys.length → tys.getD i 0 ≠ 0 := fun i hi => by
  rw [List.getD_eq_getElem?_getD, g2_ hi]
  exact hn _ (List.getElem_mem hi)
 have ha : ∀ n : Int, attrF n ≠ 0 := fun n => by unfold attrF; (repeat' split) <;> omega
 obtain ⟨kn, p, kids, rfl, _, hp, hk, _, e⟩ := h.one
 have e : t = mkT p kn kids := by simpa using e
 subst e
 have hzp := hz p (m1_ hp)
 unfold mkT at hc ⊢
 split at hc
 ·rename_i h0
  rw [if_pos h0]
  unfold leafF at hc ⊢
  split at hc
  ·rename_i h5
   rw [if_pos h5]
   simp only [tyT, tyNam] at hc ⊢
   split at hc
   ·exact ha _
   ·rename_i hno
    split at hc
    ·cases hc
    ·rename_i i hi
     have := (List.getElem?_eq_some_iff.1 (posF_lt hi)).1
     exact getnz i (by omega)
  ·rename_i h5
   rw [if_neg h5]
   split at hc
   ·rename_i h6; rw [if_pos h6]; exact ha _
   ·rename_i h6
    rw [if_neg h6]
    split at hc
    ·rename_i h7
     rw [if_pos h7]
     simp only [tyT, tyLt] at hc ⊢
     split at hc
     ·cases hc
     ·rename_i h8
      rw [if_neg h8]
      have := hzp h7
      exact getnz _ (by omega)
    ·rename_i h7
     rw [if_neg h7]
     simp only [tyT]
     unfold knd
     (repeat' split) <;> omega
 ·rename_i h0
  rw [if_neg h0]
  rw [tyT] at hc ⊢
  split at hc
  ·rename_i h1; exact absurd hc h1
  ·rename_i h1
   rw [if_neg h1]
   split at hc
   ·cases hc
   ·rename_i h2; rw [if_neg h2]; exact h2
theorem l3node_f {w0 : World} {AN : Option Addr} {N cN' : Nat} {nv : List PN} (hN : RNs w0 AN N nv) (hNb : N ≤ 4000) (hz : ∀ p ∈ nv, p.o = 7 → 0 ≤ p.z) {names : List ByteArray} {tys : List Int} :
  ∀ (k : Nat) (a b : Nat) (t : Tr), IsTs nv a b [(k : Int)] [t] → ∀ (w : World) (p : Addr), Ext w0 w → LetsR w p names tys → FC Tryz.prog 153 [.slice AN N cN', .int .i64 (k : Int), .pointer (some p)] w fun v _ => v = .tuple ⟨[.int .i64 (tyT names tys t).1, .int .i64 (tyT names tys t).2]⟩ := by
 intro k
 induction k using Nat.strongRecOn with
 | _ k ih =>
  intro a b t ht w pl hx0 hL
  refine FC.intro (cs := []) Tryz.func153 (by kernel_rfl) fun E R hE hr hR => ?_
  have hNl := hN.len
  obtain ⟨kn, p, kids, e1, e2, hp, hk, hks, et⟩ := ht.one
  have e1 : k = kn := by omega
  subst e1
  have et : t = mkT p k kids := by simpa using et
  have hkn := (List.getElem?_eq_some_iff.1 hp).1
  have hzp := hz p (m1_ hp)
  obtain ⟨ad, v, hA, hg, hc, hok⟩ := hN.get (i := k) (by omega)
  rw [hp] at hg
  have hpv : p = v.p := Option.some.inj hg
  subst hpv
  obtain ⟨⟨o, z, tx, xs, ks⟩, A0, m0, c0, A1, m1, c1⟩ := v
  simp only at hk hks hp hg hzp
  obtain ⟨kk, hkk⟩ : ∃ kk : Int, kk = k := ⟨_, rfl⟩
  rw [← hkk]
  obtain ⟨T1, hT1⟩ : ∃ T1, T1 = (tyT names tys t).1 := ⟨_, rfl⟩
  obtain ⟨T2, hT2⟩ : ∃ T2, T2 = (tyT names tys t).2 := ⟨_, rfl⟩
  rw [← hT1, ← hT2] at hR
  have r_ks := hok.r_ks
  have s_tx := hok.s_tx
  simp only at r_ks s_tx
  have hkl := r_ks.len
  conv => cbv
  refine st_idx hE sINd hA (by omega) (by omega) fun q hq => ?_
  rw [show kk.toNat = k by omega] at hq
  conv => cbv
  refine st_loadS hE tINd (vs := [.int .i64 o, .int .i64 z, .string tx, .slice A0 m0 c0, .slice A1 m1 c1]) rfl (by rw [hq]; exact fun j u hu => hx0.cell (hc j u hu)) ?_
  conv => cbv
  refine st_alloc hr tINd rfl fun q8 w2 hx2 hq0 => ?_
  conv => cbv
  refine st_putS hr (by kernel_rfl) (hq0 _ (n1_ _)) (add_zero _).symm (by simp) (by simp [Value.oneCell']) fun w3 hw3 hq8 => ?_
  simp only [a1_, a2_, a3_, a4_, a5_, a6_, a7_] at hq8
  have hx := hx2.then (hw3.bel (hq0 _ (n1_ _)) hx2.size)
  clear hq0 hw3 hx2 hq hc hA
  replace hL := hL.ext hx
  have hle := hL.le
  have heq := hL.eq
  conv => cbv
  (refine st_fld hE fINd0 fun p hp => ?_; (conv => cbv); refine st_load hE cInt (by rw [hp]; exact (hq8).at _ _ rfl) ?_; (conv => cbv))
  refine br (fun g => ?_) (fun g => ?_)
  ·have g : o = 5 := by simpa [hE.cmp, cmpR] using g
   have ht5 : t = .nam tx k := by rw [et]; unfold mkT leafF; simp only; rw [if_pos (by rw [g]; decide), if_pos g]
   conv => cbv
   (refine st_fld hE fINd2 fun p hp => ?_; (conv => cbv); refine st_load hE cStr (by rw [hp]; exact (hq8).at _ _ rfl) ?_; (conv => cbv))
   refine st_f hr (l3attr_f tx _) fun v w4 hx4 ev => ?_
   subst ev
   obtain ⟨at1, hat⟩ : ∃ at1, at1 = posI attrs tx := ⟨_, rfl⟩
   rw [← hat]
   replace hL := hL.ext hx4
   replace hq8 := hq8.bel hx4
   replace hx := hx.trans hx4
   conv => cbv
   refine br (fun g2 => ?_) (fun g2 => ?_)
   ·have g2 : 0 ≤ at1 := by simpa [hE.cmp, cmpR] using g2
    conv => cbv
    refine st_f hr (l3attrType_f at1) fun v w5 hx5 ev => ?_
    subst ev
    have hfin : T1 = attrF at1 ∧ T2 = 0 := by
     rw [hat] at g2
     obtain ⟨i, hi⟩ := Option.isSome_iff_exists.1 (posI_ge.1 g2)
     rw [hT1, hT2, ht5, tyT, tyNam, hi, hat, posI, hi]; exact ⟨rfl, rfl⟩
    obtain ⟨af, haf⟩ : ∃ af, af = attrF at1 := ⟨_, rfl⟩
    rw [← haf] at hfin ⊢
    conv => cbv
    rw [hR]; exact ⟨hx.trans hx5, by rw [hfin.1, hfin.2]; rfl⟩
   ·have g2 : ¬ 0 ≤ at1 := by simpa [hE.cmp, cmpR] using g2
    have hno : posF attrs tx = none := by
     cases h : posF attrs tx with
     | none => rfl
     | some i => exact absurd (posI_ge.2 (by rw [h]; rfl)) (by rw [← hat]; exact g2)
    conv => cbv
    (refine st_fld hE fINd2 fun p hp => ?_; (conv => cbv); refine st_load hE cStr (by rw [hp]; exact (hq8).at _ _ rfl) ?_; (conv => cbv))
    refine st_f hr (find_f hL tx) fun v w5 hx5 ev => ?_
    subst ev
    obtain ⟨fi, hfi⟩ : ∃ fi, fi = posI names tx := ⟨_, rfl⟩
    rw [← hfi]
    replace hL := hL.ext hx5
    replace hx := hx.trans hx5
    conv => cbv
    refine br (fun g3 => ?_) (fun g3 => ?_)
    ·have g3 : fi < 0 := by simpa [hE.cmp, cmpR] using g3
     have hno2 : posF names tx = none := by
      cases h : posF names tx with
      | none => rfl
      | some i => exact absurd (posI_ge.2 (by rw [h]; rfl)) (by rw [← hfi]; omega)
     conv => cbv
     rw [hR]; exact ⟨hx, by rw [hT1, hT2, ht5, tyT, tyNam, hno]; simp only; rw [hno2]; rfl⟩
    ·have g3 : ¬ fi < 0 := by simpa [hE.cmp, cmpR] using g3
     obtain ⟨i, hi⟩ : ∃ i, posF names tx = some i := Option.isSome_iff_exists.1 (posI_ge.1 (by rw [← hfi]; omega))
     have hfi2 : fi = (i : Int) := by rw [hfi, posI, hi]
     have hil := (List.getElem?_eq_some_iff.1 (posF_lt hi)).1
     obtain ⟨NA, nn, nc, TA, tn, tc, l1, l2, l3, l4⟩ := hL.ex
     have htn := l4.len
     conv => cbv
     refine st_nil hE ?_
     conv => cbv
     refine st_fld hE fL31 fun p1 hp1 => ?_
     conv => cbv
     refine st_load hE cInts (v := .slice TA tn tc) (by rw [hp1]; exact l2) ?_
     conv => cbv
     refine st_int hE tInts l4 (k := i) hfi2 (by omega) fun p2 u hu hp2 => ?_
     conv => cbv
     refine st_load hE cInt hp2 ?_
     conv => cbv
     rw [hR]; exact ⟨hx, by rw [hT1, hT2, ht5, tyT, tyNam, hno]; simp only; rw [hi]; simp only; rw [List.getD_eq_getElem?_getD, hu]; rfl⟩
  have g5 : o ≠ 5 := by simpa [hE.cmp, cmpR] using g
  clear g
  conv => cbv
  refine br (fun g => ?_) (fun g => ?_)
  ·have g : o = 6 := by simpa [hE.cmp, cmpR] using g
   have ht6 : t = .att z := by rw [et]; unfold mkT leafF; simp only; rw [if_pos (by rw [g]; decide), if_neg g5, if_pos g]
   conv => cbv
   (refine st_fld hE fINd1 fun p hp => ?_; (conv => cbv); refine st_load hE cI64 (by rw [hp]; exact (hq8).at _ _ rfl) ?_; (conv => cbv))
   refine st_f hr (l3attrType_f z) fun v w5 hx5 ev => ?_
   subst ev
   obtain ⟨af, haf⟩ : ∃ af, af = attrF z := ⟨_, rfl⟩
   have hfin : T1 = af ∧ T2 = 0 := by rw [hT1, hT2, ht6, tyT, haf]; exact ⟨rfl, rfl⟩
   rw [← haf]
   conv => cbv
   rw [hR]; exact ⟨hx.trans hx5, by rw [hfin.1, hfin.2]; rfl⟩
  have g6 : o ≠ 6 := by simpa [hE.cmp, cmpR] using g
  clear g
  conv => cbv
  refine br (fun g => ?_) (fun g => ?_)
  ·have g : o = 7 := by simpa [hE.cmp, cmpR] using g
   have ht7 : t = .lt z := by rw [et]; unfold mkT leafF; simp only; rw [if_pos (by rw [g]; decide), if_neg g5, if_neg g6, if_pos g]
   have z0 := hzp g
   obtain ⟨NA, nn, nc, TA, tn, tc, l1, l2, l3, l4⟩ := hL.ex
   have htn := l4.len
   conv => cbv
   refine draw_q hr fol (by kernel_rfl) fun E' hE' => ?_
   conv => cbv
   refine st_fld hE' fINd1 fun p1 hp1 => ?_
   conv => cbv
   refine st_load hE' cI64 (by rw [hp1]; exact hq8.at _ _ rfl) ?_
   conv => cbv
   refine st_nil hE' ?_
   conv => cbv
   refine st_fld hE' fL31 fun p2 hp2 => ?_
   conv => cbv
   refine st_load hE' cInts (v := .slice TA tn tc) (by rw [hp2]; exact l2) ?_
   conv => cbv
   refine st_len hE' tInts fun x5 hx5 => ?_
   conv => cbv
   obtain ⟨q4, hq4⟩ : ∃ q4, q4 = E'.cmp .geq z x5 := ⟨_, rfl⟩
   have hq5 : q4 = true ↔ (tys.length : Int) ≤ z := by rw [hq4, hE'.cmp]; simp [cmpR]; omega
   simp only [← hq4]
   intro w4 hs4
   conv => cbv
   refine br (fun g2 => ?_) (fun g2 => ?_)
   ·conv => cbv
    rw [hR]; exact ⟨hx.trans hs4.ext, by rw [hT1, hT2, ht7, tyT, tyLt, if_pos (hq5.1 g2)]; rfl⟩
   ·have g2 : ¬ (tys.length : Int) ≤ z := fun h => g2 (hq5.2 h)
    conv => cbv
    refine draw_q hr fol (by kernel_rfl) fun E' hE' => ?_
    conv => cbv
    refine st_nil hE' ?_
    conv => cbv
    refine st_fld hE' fL31 fun p2 hp2 => ?_
    conv => cbv
    refine st_load hE' cInts (v := .slice TA tn tc) (by rw [hp2]; exact hs4.cell _ ▸ l2) ?_
    conv => cbv
    refine st_fld hE' fINd1 fun p1 hp1 => ?_
    conv => cbv
    refine st_load hE' cI64 (by rw [hp1]; exact (hq8.bel hs4.ext).at _ _ rfl) ?_
    conv => cbv
    refine st_int hE' tInts (l4.ext hs4.ext) (k := z.toNat) (by omega) (by omega) fun p3 u hu hp3 => ?_
    conv => cbv
    refine st_load hE' cInt hp3 ?_
    intro w5 hs5
    conv => cbv
    rw [hR]; exact ⟨(hx.trans hs4.ext).trans hs5.ext, by rw [hT1, hT2, ht7, tyT, tyLt, if_neg g2, List.getD_eq_getElem?_getD, hu]; rfl⟩
  have g7 : o ≠ 7 := by simpa [hE.cmp, cmpR] using g
  clear g
  conv => cbv
  (refine st_fld hE fINd4 fun p hp => ?_; (conv => cbv); refine st_load hE cInts (by rw [hp]; exact (hq8).at _ _ rfl) ?_; (conv => cbv))
  refine st_len hE tInts fun x5 hx5 => ?_
  conv => cbv
  have hklen := hks.len
  have hm3 : m1 ≤ 3 := by have := kidsF_le o; omega
  refine loop_rulec [] hr (fun (s : Nat × Int × Option Addr × Nat × List Int) w' => s.1 ≤ m1 ∧ s.2.1 = (s.1 : Int) ∧ Ext w3 w' ∧ Own w3.heap.size 3 1 w' s.2.2.1 s.1 s.2.2.2.1 (s.2.2.2.2.map (.int .i64)) ∧ (∀ y ∈ s.2.2.2.2, y ≠ 0) ∧ tyTs names tys kids = ((tyTs names tys (kids.drop s.1)).1, s.2.2.2.2 ++ (tyTs names tys (kids.drop s.1)).2))
   (fun s => [(0, .slice AN N cN'), (1, .int .i64 kk), (2, .pointer (some pl)), (8, .pointer (some q8)), (11, .slice s.2.2.1 s.1 s.2.2.2.1), (69, .slice A1 m1 c1), (70, .int .i64 x5), (71, .int .i64 s.2.1)]) (fun s => m1 - s.1) (0, 0, none, 0, [])
   (by simp [Fits, lk]) ⟨by simp, by simp, Ext.refl _, Own.nil, by simp, by simp⟩ ?_
  rintro I hI ⟨j, jj, A, c, acc⟩ w' ⟨hj, hjj, hxw, ho, hnz, hacc⟩
  simp only at hj hjj ho hnz hacc
  obtain ⟨jk, hjk⟩ : ∃ z, z = jj + 1 := ⟨_, rfl⟩
  have hol := ho.len
  rw [List.length_map, Nat.mul_one] at hol
  have hx' := hx.trans hxw
  have hop : kidsF o ≠ 0 → t = .op o kids k := fun h => by rw [et, mkT, if_neg h]
  conv => cbv
  refine br (fun g4 => ?_) (fun g4 => ?_)
  ·have g4 : j < m1 := by
    have : jj < x5 := by simpa [hE.cmp, cmpR] using g4
    omega
   have ej : E.ar .add .i64 jj 1 = jk := by rw [hE.ar, hjk]; exact wrap_in (by omega) (by omega)
   conv => cbv
   refine st_int hE tInts ((r_ks.ext hx0).ext hx') (k := j) hjj g4 fun p u hu hp => ?_
   conv => cbv
   refine st_load hE cInt hp ?_
   obtain ⟨t', a', b', ht1, ht2⟩ := hks.at hu
   obtain ⟨kn', _, _, hu2, _⟩ := ht2.one
   have hlt := (hks.roots u (m1_ hu)).2
   have hkt : kn' < k := by omega
   rw [hu2] at ht2
   conv => cbv
   rw [hu2]
   obtain ⟨ty, hty⟩ : ∃ ty, ty = (tyT names tys t').1 := ⟨_, rfl⟩
   obtain ⟨co, hco⟩ : ∃ co, co = (tyT names tys t').2 := ⟨_, rfl⟩
   have hnz' := tyT_nz hz heq hL.nz ht2
   have dc : kids.drop j = t' :: kids.drop (j + 1) := by
    have := List.getElem?_eq_some_iff.1 ht1
    rw [List.drop_eq_getElem_cons this.1, this.2]
   rw [dc, tyTs] at hacc
   have hi := ih kn' hkt a' b' t' ht2 w' pl (hx0.trans hx') (hL.ext hxw)
   rw [← hty, ← hco] at hi hnz' hacc
   refine st_f hr hi fun v w5 hx5 ev => ?_
   subst ev
   have hx5' := hxw.trans hx5
   replace ho := ho.bel hx5
   conv => cbv
   refine br (fun g5 => ?_) (fun g5 => ?_)
   ·have g5 : co ≠ 0 := by simpa [hE.cmp, cmpR] using g5
    rw [if_pos g5] at hacc
    have h0 : kidsF o ≠ 0 := by omega
    conv => cbv
    rw [hR]; exact ⟨hx.trans hx5', by rw [hT1, hT2, hop h0, tyT, hacc, if_pos g5]; rfl⟩
   ·have g5 : co = 0 := by simpa [hE.cmp, cmpR] using g5
    rw [if_neg (by simpa using g5)] at hacc
    conv => cbv
    refine st_one hr tInts rfl rfl fun A1' w6 hx6 hc6 => ?_
    conv => cbv
    refine st_appsG hr tInts rfl (ho.bel hx6) hc6 rfl (by simp [Value.oneCell']) (n2_ hx5'.size hx6.size) (by omega) (by omega) fun A2 c2 m2 w7 hm2 hw7 ho2 hk2 => ?_
    subst hm2
    conv => cbv
    simp only [ej]
    refine ⟨(j + 1, jk, A2, c2, acc ++ [ty]), by simp [Fits, lk], hI _ _ ⟨by simp only; omega, by simp only; omega, (hx5'.trans hx6).then (hw7.bel (ho.bel hx6) (n2_ hx5'.size hx6.size)), ?_, ?_, ?_⟩, by simp only; omega⟩
    ·simp only; rw [List.map_append]; exact ho2
    ·simp only
     intro y hy
     rcases List.mem_append.1 hy with hy | hy
     ·exact hnz y hy
     ·simp at hy; rw [hy]; exact hnz' g5
    ·simp only
     rw [hacc]; simp
  ·have g4 : j = m1 := by
    have : ¬ jj < x5 := by simpa [hE.cmp, cmpR] using g4
    omega
   rw [List.drop_eq_nil_of_le (by omega), tyTs] at hacc
   simp only [a7_] at hacc
   conv => cbv
   (refine st_fld hE fINd0 fun p hp => ?_; (conv => cbv); refine st_load hE cInt (by rw [hp]; exact ((hq8.bel hxw)).at _ _ rfl) ?_; (conv => cbv))
   have hge := kidsF_ge o
   have hor : kidsF o = 0 ∨ 1 ≤ kidsF o := by omega
   have hrl : (rowF o).1.length ≤ j := by
    rcases hor with h0 | h0
    ·have : o = 1 ∨ o = 2 ∨ o = 3 ∨ o = 4 := by
      have : 1 ≤ o ∧ o ≤ 7 := by unfold kidsF at h0; (repeat' split at h0) <;> omega
      omega
     rcases this with rfl | rfl | rfl | rfl <;> simp [rowF]
    ·have := rowLen h0; omega
   refine st_f hr (l3type_f (Own.ints ho) o hrl) fun v w5 hx5 ev => ?_
   subst ev
   have hfin : (typR o acc = 0 → T1 = 0 ∧ T2 = 9) ∧ (typR o acc ≠ 0 → T1 = typR o acc ∧ T2 = 0) := by
    rcases hor with h0 | h0
    ·have ho4 : 1 ≤ o ∧ o ≤ 4 := by
      have : 1 ≤ o ∧ o ≤ 7 := by unfold kidsF at h0; (repeat' split at h0) <;> omega
      omega
     have hac : acc = [] := List.eq_nil_of_length_eq_zero (by omega)
     have htc : t = .con (knd o) z tx xs k := by rw [et]; unfold mkT leafF; simp only; rw [if_pos h0, if_neg g5, if_neg g6, if_neg g7]
     rw [hac, typR_leaf ho4, hT1, hT2, htc, tyT]
     refine ⟨fun q => absurd q ?_, fun _ => ⟨rfl, rfl⟩⟩
     unfold knd; (repeat' split) <;> omega
    ·rw [typR_eq (by omega) h0 hnz, hT1, hT2, hop (by omega), tyT, hacc]
     simp only
     refine ⟨fun q => ?_, fun q => ?_⟩
     ·rw [if_neg (by simp), if_pos q]; exact ⟨rfl, rfl⟩
     ·rw [if_neg (by simp), if_neg q]; exact ⟨rfl, rfl⟩
   obtain ⟨tr, htr⟩ : ∃ tr, tr = typR o acc := ⟨_, rfl⟩
   rw [← htr] at hfin ⊢
   conv => cbv
   refine br (fun g5 => ?_) (fun g5 => ?_)
   ·have g5 : tr = 0 := by simpa [hE.cmp, cmpR] using g5
    conv => cbv
    rw [hR]; exact ⟨hx'.trans hx5, by rw [(hfin.1 g5).1, (hfin.1 g5).2]; rfl⟩
   ·have g5 : tr ≠ 0 := by simpa [hE.cmp, cmpR] using g5
    conv => cbv
    rw [hR]; exact ⟨hx'.trans hx5, by rw [(hfin.2 g5).1, (hfin.2 g5).2]; rfl⟩
end Go.Proofs.YtgnjkdkedjljjaaGreatDoor
namespace Go.Eng
set_option linter.unusedVariables false
set_option linter.unusedSimpArgs false
section
variable {P : Program} {Pn : List PanicEntry → World → Prop} {n : Nat} {E : Sym} {w : World} {K : Value → World → Prop} {d : Option Tmp} {ty : TypeId} {pos : String} {aft : Array Edge} {g : Option (Nat × Bool)}
theorem st_mk {bq : Bool} (hE : EngB bq P E) {t : TypeId} (ht : ∃ u, P.underlying t = some u ∧ ∀ ms, u ≠ .interface ms) {x : Operand} {v : Value} (hk : K (.iface t v) w) : E.stop ⟨d, .makeInterface t x, ty, pos, aft, g⟩ [v] w K := by
 obtain ⟨u, h1, h2⟩ := ht
 refine hE.det (v := .iface t v) (fun w1 _ ρ hρ => ?_) hk
 simp only [opnds, b2_, b3_, b1_, and_true] at hρ
 have : (Instr.makeInterface t v).run P w1 = .ok (.iface t v) w1 := by
  unfold Instr.makeInterface
  simp only [underlying, Sem.run_bind, run_program, Result.andThen_ok, h1, Sem.run_pure]
 simp [execOp, hρ, this]
theorem run_inv {ρ : Operand → Value} {ro : Operand} {name : String} {ao : Array Operand} {at_ : Array TypeId} {recv : Value} {args l : List Value} {f : FuncId} (hv : (opnds (.call ⟨.invoke ro name, ao, at_⟩)).map ρ = recv :: args)
  (hc : ∀ w, (callMethod recv name args.toArray).run P w = .ok (.enter f l.toArray) w) (w : World) :
  (execOp ρ ⟨d, .call ⟨.invoke ro name, ao, at_⟩, ty, pos, aft, g⟩).run P w = .ok (.enter f l.toArray) w := by
 have hv : ρ ro = recv ∧ ao.toList.map ρ = args := by simpa [opnds] using hv
 obtain ⟨h1, h2⟩ := hv
 have h3 : ao.map ρ = args.toArray := by rw [← h2, ← Array.toList_map, Array.toArray_toList]
 have e : (#[recv] ++ args.toArray).extract 1 (#[recv] ++ args.toArray).size = args.toArray := by
  apply Array.ext'
  simp
 simp only [execOp, Sem.run_bind, resolve, h1, h3, Sem.run_pure, Result.andThen_ok, invoke, e]
 have e0 : (#[recv] ++ args.toArray)[0]? = some recv := by simp
 simp only [e0, hc]
theorem st_if (hE : E = real P Pn n) {ro : Operand} {name : String} {ao : Array Operand} {at_ : Array TypeId} {recv : Value} {args l : List Value} {f : FuncId} {R : Value → World → Prop} (hc : ∀ w, (callMethod recv name args.toArray).run P w = .ok (.enter f l.toArray) w)
  (h : FC P f l w R) (hk : ∀ v w', Ext w w' → R v w' → K v w') : E.stop ⟨d, .call ⟨.invoke ro name, ao, at_⟩, ty, pos, aft, g⟩ (recv :: args) w K := by
 obtain ⟨⟨fn, hf, he⟩, hcc⟩ := h
 subst hE
 intro ρ hρ
 rw [run_inv hρ hc]
 exact hcc.mono fun e w' ⟨v, he, hx, hr⟩ => by subst he; exact hk _ _ hx hr
theorem st_appsKG (hE : E = real P Pn n) {t e : TypeId} {z : Value} {k b : Nat} (ht : Slc P t e z k b) (hz : z.cells.size = k) (hk0 : 0 < k) {B : Nat} {A A1 : Option Addr} {m c m1 c1 : Nat} {xs vs : List Value} {ao : Array Operand} (h : Own B e k w A m c xs) (hn : Cells w A1 vs) (hl : vs.length = m1 * k) (hm1 : 0 < m1) (hv : ∀ v ∈ vs, v.oneCell' = true)
  (hB : B ≤ w.heap.size) (hb : (m + m1) * b ≤ 140737488355328) (hm : m + m1 ≤ 9223372036854775807)
  (hk : ∀ A' c' m' w', m' = m + m1 → Wr A w w' → Own B e k w' A' m' c' (xs ++ vs) → (Eng.blk A' = Eng.blk A ∨ Eng.blk A' = some w.heap.size) → K (.slice A' m' c') w') : E.stop ⟨d, .call ⟨.builtin .append, ao, #[t, t]⟩, ty, pos, aft, g⟩ [.slice A m c, .slice A1 m1 c1] w K := by
 obtain ⟨i0, h1, h2, h3, h4⟩ := ht.info
 cases A1 with
 | none =>
  obtain ⟨a, ha⟩ := hn.1 (by rw [hl]; exact Nat.mul_pos hm1 hk0)
  cases ha
 | some a1 =>
  obtain ⟨v', w', hr, hown, hg, _, hbk⟩ := run_append_own_at (P := P) w B t ty e i0 z k b ht.u h1 h2 h3 h4 hz hk0 (.slice A m c) m xs h a1 m1 c1 vs hl
   (fun j u hu => hn.2 a1 rfl j u hu) hv (by unfold maxLen; omega) hb hB
  have hform : ∃ A' c', v' = .slice A' (m + m1) c' := by
   rcases hown.2 with ⟨h5, h6⟩ | ⟨g, cap, cur, h5, _⟩
   ·exact ⟨none, 0, by rw [h5, h6]⟩
   ·exact ⟨_, _, h5⟩
  obtain ⟨A', c', rfl⟩ := hform
  refine st_run hE (v := .slice A' (m + m1) c') (w' := w') (fun ρ hρ => ?_) (hk _ _ _ _ rfl ?_ hown ?_)
  ·have h3' := map_of (ao := ao) hρ
   simp [execOp, resolve, invoke, builtin, h3', hr]
  ·cases A <;> exact hg
  ·cases A <;> cases A' <;> exact hbk
theorem st_from {bq : Bool} (hE : EngB bq P E) {t e : TypeId} {z : Value} {k b : Nat} (ht : Slc P t e z k b) {A : Option Addr} {m c lo : Nat} {ik : IntKind} {i : Int} {xs : List Value} {x y : Operand} {w0 : World} (h : Cells w0 A xs) (hl : xs.length = m * k) (hmc : m ≤ c) (hi : i = lo) (hlo : lo ≤ m)
  (hk : ∀ A' c', Cells w0 A' (xs.drop (lo * k)) → m - lo ≤ c' → K (.slice A' (m - lo) c') w) : E.stop ⟨d, .slice t x (some y) none none, ty, pos, aft, g⟩ [.slice A m c, .int ik i] w K := by
 subst hi
 refine hE.det (v := .slice (if c = lo then A else A.map (·.add (lo * k))) (m - lo) (c - lo)) (fun w1 _ ρ hρ => ?_) (hk _ _ ?_ (by omega))
 ·simp only [opnds, Option.toList, b2_, b3_, a7_, b1_, and_true] at hρ
  simp only [execOp, hρ.1, hρ.2, Option.map_some, Option.map_none, Sem.run_bind, run_from ht w1 hlo]
  rfl
 ·exact h.from hl hlo (fun h1 h2 => by omega)
end
end Go.Eng
namespace Go.Proofs.YtgnjkdkedjljjaaGreatDoor
open Go.Eng
set_option linter.unusedVariables false
set_option linter.unusedSimpArgs false
def InD (D : Nat → Prop) (A : Option Addr) (m : Nat) : Prop := ∀ a, A = some a → 0 < m → D a.block
mutual
def TreeV (D : Nat → Prop) (w : World) : Tr → Value → Prop
 | .con k n tx xs at_, v => ∃ A m c, v = .iface 318 (.agg ⟨[.int .i64 k, .int .i64 n, .string tx, .slice A m c, .int .i64 at_]⟩) ∧ Strs w A m c xs ∧ InD D A m ∧ tx.size ≤ 9223372036854775807
 | .nam tx at_, v => v = .iface 353 (.agg ⟨[.string tx, .int .i64 at_]⟩) ∧ tx.size ≤ 9223372036854775807
 | .att n, v => v = .iface 274 (.agg ⟨[.int .i64 n]⟩)
 | .lt n, v => v = .iface 277 (.agg ⟨[.int .i64 n]⟩)
 | .op o kids at_, v => ∃ A m c vs, v = .iface 320 (.agg ⟨[.int .i64 o, .slice A m c, .int .i64 at_]⟩) ∧ vs.length = m ∧ m ≤ c ∧ m ≤ 9223372036854775807 ∧ Cells w A vs ∧ InD D A m ∧ TreesV D w kids vs
def TreesV (D : Nat → Prop) (w : World) : List Tr → List Value → Prop
 | [], [] => True
 | t :: ts, v :: vs => TreeV D w t v ∧ TreesV D w ts vs
 | _, _ => False
end
theorem TreesV.len {D : Nat → Prop} {w : World} : ∀ {ts : List Tr} {vs : List Value}, TreesV D w ts vs → ts.length = vs.length
 | [], [], _ => rfl
 | t :: ts, v :: vs, h => by simp only [TreesV] at h; simp [TreesV.len h.2]
 | [], _ :: _, h => by simp only [TreesV] at h
 | _ :: _, [], h => by simp only [TreesV] at h
theorem TreesV.get {D : Nat → Prop} {w : World} : ∀ {ts : List Tr} {vs : List Value}, TreesV D w ts vs → ∀ (i : Nat) (t : Tr) (v : Value), ts[i]? = some t → vs[i]? = some v → TreeV D w t v
 | t :: ts, v :: vs, h, 0, t', v', h1, h2 => by simp at h1 h2; subst h1; subst h2; simp only [TreesV] at h; exact h.1
 | t :: ts, v :: vs, h, i + 1, t', v', h1, h2 => by simp only [TreesV] at h; exact TreesV.get h.2 i t' v' (by simpa using h1) (by simpa using h2)
 | [], [], _, i, t, v, h1, _ => by simp at h1
 | [], _ :: _, h, _, _, _, _, _ => by simp only [TreesV] at h
 | _ :: _, [], h, _, _, _, _, _ => by simp only [TreesV] at h
theorem TreesV.of_get {D : Nat → Prop} {w : World} : ∀ {ts : List Tr} {vs : List Value}, ts.length = vs.length → (∀ (i : Nat) (t : Tr) (v : Value), ts[i]? = some t → vs[i]? = some v → TreeV D w t v) → TreesV D w ts vs
 | [], [], _, _ => by simp only [TreesV]
 | t :: ts, v :: vs, h, hq => by
  simp only [TreesV]
  exact ⟨hq 0 t v rfl rfl, TreesV.of_get (by simpa using h) fun i t v h1 h2 => hq (i + 1) t v (by simpa using h1) (by simpa using h2)⟩
 | [], _ :: _, h, _ => by simp at h
 | _ :: _, [], h, _ => by simp at h
theorem TreeV.one {D : Nat → Prop} {w : World} {t : Tr} {v : Value} (h : TreeV D w t v) : v.oneCell' = true ∧ v ≠ .nilIface := by
 cases t <;> simp only [TreeV] at h
 ·obtain ⟨A, m, c, rfl, _⟩ := h; exact ⟨rfl, by simp⟩
 ·rw [h.1]; exact ⟨rfl, by simp⟩
 ·rw [h]; exact ⟨rfl, by simp⟩
 ·rw [h]; exact ⟨rfl, by simp⟩
 ·obtain ⟨A, m, c, vs, rfl, _⟩ := h; exact ⟨rfl, by simp⟩
def Keeps (D : Nat → Prop) (w w' : World) : Prop := ∀ b, D b → w'.heap[b]? = w.heap[b]?
theorem add_block (a : Addr) (j : Nat) : (a.add j).block = a.block := by unfold Addr.add; split <;> rfl
theorem cell_keep {w w' : World} {a : Addr} (h : w'.heap[a.block]? = w.heap[a.block]?) : w'.cell? a = w.cell? a := by simp only [World.cell?, h]
theorem cells_keep {D : Nat → Prop} {w w' : World} {A : Option Addr} {vs : List Value} (h : Cells w A vs) (hD : InD D A vs.length) (hk : Keeps D w w') : Cells w' A vs :=
 ⟨h.1, fun a ha j v hv => by
  have hlt := (List.getElem?_eq_some_iff.1 hv).1
  exact (cell_keep (by rw [add_block]; exact hk _ (hD a ha (by omega)))).trans (h.2 a ha j v hv)⟩
theorem strs_keep {D : Nat → Prop} {w w' : World} {A : Option Addr} {m c : Nat} {xs : List ByteArray} (h : Strs w A m c xs) (hD : InD D A m) (hk : Keeps D w w') : Strs w' A m c xs :=
 ⟨h.1, h.2, h.3, cells_keep h.4 (by rw [List.length_map, h.len]; exact hD) hk, h.5⟩
mutual
theorem TreeV.keep {D D' : Nat → Prop} {w w' : World} (hk : Keeps D w w') (hD : ∀ b, D b → D' b) : ∀ (t : Tr) (v : Value), TreeV D w t v → TreeV D' w' t v
 | .con k n tx xs at_, v, h => by
  simp only [TreeV] at h ⊢
  obtain ⟨A, m, c, e, h1, h2, h3⟩ := h
  exact ⟨A, m, c, e, strs_keep h1 h2 hk, fun a ha hm => hD _ (h2 a ha hm), h3⟩
 | .nam tx at_, v, h => by simp only [TreeV] at h ⊢; exact h
 | .att n, v, h => by simp only [TreeV] at h ⊢; exact h
 | .lt n, v, h => by simp only [TreeV] at h ⊢; exact h
 | .op o kids at_, v, h => by
  simp only [TreeV] at h ⊢
  obtain ⟨A, m, c, vs, e, h1, h2, h3, h4, h5, h6⟩ := h
  exact ⟨A, m, c, vs, e, h1, h2, h3, cells_keep h4 (by rw [h1]; exact h5) hk, fun a ha hm => hD _ (h5 a ha hm), TreesV.keep hk hD kids vs h6⟩
theorem TreesV.keep {D D' : Nat → Prop} {w w' : World} (hk : Keeps D w w') (hD : ∀ b, D b → D' b) : ∀ (ts : List Tr) (vs : List Value), TreesV D w ts vs → TreesV D' w' ts vs
 | [], [], _ => by simp only [TreesV]
 | t :: ts, v :: vs, h => by simp only [TreesV] at h ⊢; exact ⟨TreeV.keep hk hD t v h.1, TreesV.keep hk hD ts vs h.2⟩
 | [], _ :: _, h => by simp only [TreesV] at h
 | _ :: _, [], h => by simp only [TreesV] at h
end
theorem TreeV.ext {D : Nat → Prop} {w w' : World} {t : Tr} {v : Value} (h : TreeV D w t v) (hD : ∀ b, D b → b < w.heap.size) (hx : Ext w w') : TreeV D w' t v := h.keep (fun b hb => hx.block b (hD b hb)) (fun _ h => h)
theorem tOp : Stc Tryz.prog 320 3 [.int .i64 0, .slice none 0 0, .int .i64 0] := ⟨by kernel_rfl, by kernel_rfl⟩
theorem fOp0 : Fld Tryz.prog 320 0 0 := ⟨by kernel_rfl⟩
theorem fOp1 : Fld Tryz.prog 320 1 1 := ⟨by kernel_rfl⟩
theorem fOp2 : Fld Tryz.prog 320 2 2 := ⟨by kernel_rfl⟩
theorem cTrs : Cel Tryz.prog 259 := ⟨_, Tryz.underlying259, by simp, by simp⟩
theorem zTrs : (Tryz.prog.info? 259).map (·.size) = some 1 := by kernel_rfl
theorem sTrs : Slc Tryz.prog 259 178 .nilIface 1 16 := ⟨Tryz.underlying259, by kernel_rfl⟩
theorem cTr : Cel Tryz.prog 178 := ⟨_, Tryz.underlying178, by simp, by simp⟩
theorem zTr : (Tryz.prog.info? 178).map (·.size) = some 1 := by kernel_rfl
theorem cmCon (v : Value) (w : World) : (callMethod (.iface 318 v) "loop.example/s01308/impl.depth" #[]).run Tryz.prog w = .ok (.enter 318 #[v]) w := by kernel_rfl
theorem cmNam (v : Value) (w : World) : (callMethod (.iface 353 v) "loop.example/s01308/impl.depth" #[]).run Tryz.prog w = .ok (.enter 320 #[v]) w := by kernel_rfl
theorem cmAtt (v : Value) (w : World) : (callMethod (.iface 274 v) "loop.example/s01308/impl.depth" #[]).run Tryz.prog w = .ok (.enter 303 #[v]) w := by kernel_rfl
theorem cmLt (v : Value) (w : World) : (callMethod (.iface 277 v) "loop.example/s01308/impl.depth" #[]).run Tryz.prog w = .ok (.enter 304 #[v]) w := by kernel_rfl
theorem cmOp (v : Value) (w : World) : (callMethod (.iface 320 v) "loop.example/s01308/impl.depth" #[]).run Tryz.prog w = .ok (.enter 319 #[v]) w := by kernel_rfl
section
variable {P : Program} {E : Sym} {w : World} {K : Value → World → Prop} {d : Option Tmp} {ty : TypeId} {pos : String} {aft : Array Edge} {g : Option (Nat × Bool)}
theorem st_max2 {bq : Bool} (hE : EngB bq P E) {ao : Array Operand} {ts : Array TypeId} {a b : Int} (hk : ∀ r : Int, r = max a b → K (.int .i64 r) w) : E.stop ⟨d, .call ⟨.builtin .max, ao, ts⟩, ty, pos, aft, g⟩ [.int .i64 a, .int .i64 b] w K := by
 refine hE.det (v := .int .i64 (max a b)) (fun w1 _ ρ hρ => ?_) (hk _ rfl)
 have h3 := map_of (ao := ao) (ρ := ρ) (l := [.int .i64 a, .int .i64 b]) (by simpa [opnds] using hρ)
 have e : ∀ x y : Int, (if y > x then y else x) = max x y := fun x y => by rw [Int.max_def]; split <;> split <;> omega
 simp [execOp, resolve, invoke, builtin, h3, Builtin.max_, Builtin.max2, e]
end
theorem deps_take {kids : List Tr} {j : Nat} {t : Tr} (h : kids[j]? = some t) : deps (kids.take (j + 1)) = max (deps (kids.take j)) (dep t) := by
 rw [g4_, h]
 have : ∀ l : List Tr, deps (l ++ [t]) = max (deps l) (dep t) := by
  intro l
  induction l with
  | nil => simp [deps]
  | cons x l ih => rw [List.cons_append, deps, ih, deps]; omega
 exact this _
theorem dep_f : ∀ (n : Nat) (t : Tr) (v : Value) (w : World) (D : Nat → Prop), dep t ≤ n → n ≤ 1000000 → TreeV D w t v → (∀ b, D b → b < w.heap.size) →
  ∃ f l, (∀ w, (callMethod v "loop.example/s01308/impl.depth" #[]).run Tryz.prog w = .ok (.enter f #[l]) w) ∧ FC Tryz.prog f [l] w fun r _ => r = .int .i64 (dep t : Int) := by
 intro n
 induction n with
 | zero => intro t v w D h; cases t <;> simp [dep] at h
 | succ n ih =>
  intro t v w D hn hn2 ht hD
  cases t with
  | con k z tx xs at_ =>
   simp only [TreeV] at ht
   obtain ⟨A, m, c, rfl, _⟩ := ht
   refine ⟨_, _, cmCon _, FC.intro (cs := []) Tryz.func318 (by kernel_rfl) fun E R hE hr hR => ?_⟩
   conv => cbv
   refine st_box hr fun a w1 hx hb0 => ?_
   conv => cbv
   rw [hR]; exact ⟨hx, rfl⟩
  | nam tx at_ =>
   simp only [TreeV] at ht
   obtain ⟨rfl, _⟩ := ht
   refine ⟨_, _, cmNam _, FC.intro (cs := []) Tryz.func320 (by kernel_rfl) fun E R hE hr hR => ?_⟩
   conv => cbv
   refine st_box hr fun a w1 hx hb0 => ?_
   conv => cbv
   rw [hR]; exact ⟨hx, rfl⟩
  | att z =>
   simp only [TreeV] at ht
   obtain rfl := ht
   refine ⟨_, _, cmAtt _, FC.intro (cs := []) Tryz.func303 (by kernel_rfl) fun E R hE hr hR => ?_⟩
   conv => cbv
   refine st_box hr fun a w1 hx hb0 => ?_
   conv => cbv
   rw [hR]; exact ⟨hx, rfl⟩
  | lt z =>
   simp only [TreeV] at ht
   obtain rfl := ht
   refine ⟨_, _, cmLt _, FC.intro (cs := []) Tryz.func304 (by kernel_rfl) fun E R hE hr hR => ?_⟩
   conv => cbv
   refine st_box hr fun a w1 hx hb0 => ?_
   conv => cbv
   rw [hR]; exact ⟨hx, rfl⟩
  | op o kids at_ =>
   simp only [TreeV] at ht
   obtain ⟨A, m, c, vs, rfl, hvl, hmc, hmm, hcl, hin, hts⟩ := ht
   refine ⟨_, _, cmOp _, FC.intro (cs := []) Tryz.func319 (by kernel_rfl) fun E R hE hr hR => ?_⟩
   have hkl := hts.len
   rw [dep] at hn
   obtain ⟨DD, hDD⟩ : ∃ DD : Int, DD = (dep (.op o kids at_) : Int) := ⟨_, rfl⟩
   rw [← hDD] at hR
   rw [dep] at hDD
   conv => cbv
   refine st_box hr fun a w1 hx hb0 => ?_
   have hb := hb0 _ (n1_ _)
   conv => cbv
   (refine st_fld hE fOp1 fun p hp => ?_; (conv => cbv); refine st_load hE cTrs (by rw [hp]; exact (hb).at _ _ rfl) ?_; (conv => cbv))
   refine st_len hE sTrs fun x hx1 => ?_
   conv => cbv
   refine loop_rule hr (fun (s : Nat × Int × Int) w' => s.1 ≤ m ∧ s.2.1 = (s.1 : Int) ∧ Ext w w' ∧ s.2.2 = (deps (kids.take s.1) : Int))
    (fun s => [(3, .int .i64 s.2.2), (7, .slice A m c), (8, .int .i64 x), (9, .int .i64 s.2.1)]) (fun s => m - s.1) (0, 0, 0)
    (by simp [Fits, lk]) ⟨by simp, by simp, hx, by simp [deps]⟩ ?_
   rintro I hI ⟨j, jj, d⟩ w' ⟨hj, hjj, hxw, hd⟩
   simp only at hj hjj hd
   obtain ⟨jk, hjk⟩ : ∃ z, z = jj + 1 := ⟨_, rfl⟩
   have dle : deps (kids.take j) ≤ deps kids := deps_le fun t ht => deps_mem (List.mem_of_mem_take ht)
   conv => cbv
   refine br (fun g => ?_) (fun g => ?_)
   ·have g : j < m := by
     have : jj < x := by simpa [hE.cmp, cmpR] using g
     omega
    have ej : E.ar .add .i64 jj 1 = jk := by rw [hE.ar, hjk]; exact wrap_in (by omega) (by omega)
    obtain ⟨u, hu⟩ : ∃ u, vs[j]? = some u := ⟨_, g2_ (by omega)⟩
    obtain ⟨t', ht'⟩ : ∃ t', kids[j]? = some t' := ⟨_, g2_ (by omega)⟩
    have htu := (hts.get j t' u ht' hu).ext hD hxw
    have hdt := deps_mem (m1_ ht')
    conv => cbv
    refine st_elem hE sTrs (hcl.ext hxw) hvl.symm (by omega) (by omega) fun p v hv hp => ?_
    rw [show jj.toNat = j by omega, hu] at hv
    cases hv
    conv => cbv
    refine st_load hE cTr hp ?_
    obtain ⟨f, l, hcm, hf⟩ := ih t' u w' D (by omega) (by omega) htu (fun b hb => n3_ (hD b hb) hxw.size)
    obtain ⟨dt, hdt2⟩ : ∃ dt : Int, dt = (dep t' : Int) := ⟨_, rfl⟩
    rw [← hdt2] at hf
    conv => cbv
    refine st_if hr (args := []) (l := [l]) hcm hf fun r w2 hx2 ev => ?_
    subst ev
    conv => cbv
    refine st_max2 hE fun y hy => ?_
    conv => cbv
    simp only [ej]
    exact ⟨(j + 1, jk, y), by simp [Fits, lk], hI _ _ ⟨by simp only; omega, by simp only; omega, hxw.trans hx2, by simp only; rw [deps_take ht']; omega⟩, by simp only; omega⟩
   ·have g : j = m := by
     have : ¬ jj < x := by simpa [hE.cmp, cmpR] using g
     omega
    rw [g3_ (by omega)] at hd
    have ed : E.ar .add .i64 d 1 = DD := by rw [hE.ar, show arR .add .i64 d 1 = IntKind.i64.wrap (d + 1) from rfl, wrap_in (by omega) (by omega)]; omega
    conv => cbv
    simp only [ed]
    rw [hR]; exact ⟨hxw, rfl⟩
open Go.ChangeMaps (setBlock)
theorem uOpT : ∃ u, Tryz.prog.underlying 320 = some u ∧ ∀ ms, u ≠ .interface ms := ⟨_, Tryz.underlying320, by simp⟩
theorem uCoT : ∃ u, Tryz.prog.underlying 318 = some u ∧ ∀ ms, u ≠ .interface ms := ⟨_, Tryz.underlying318, by simp⟩
theorem uNaT : ∃ u, Tryz.prog.underlying 353 = some u ∧ ∀ ms, u ≠ .interface ms := ⟨_, Tryz.underlying353, by simp⟩
theorem uAtT : ∃ u, Tryz.prog.underlying 274 = some u ∧ ∀ ms, u ≠ .interface ms := ⟨_, Tryz.underlying274, by simp⟩
theorem uLtT : ∃ u, Tryz.prog.underlying 277 = some u ∧ ∀ ms, u ≠ .interface ms := ⟨_, Tryz.underlying277, by simp⟩
section
variable {E : Sym} {w : World} {K : Value → World → Prop} {d : Option Tmp} {ty : TypeId} {pos : String} {aft : Array Edge} {g : Option (Nat × Bool)} {bq : Bool}
theorem run_bNam (s : ByteArray) (i : Int) (w : World) : (Instr.build 353 #[(0, .string s), (1, .int .i64 i)]).run Tryz.prog w = .ok (.agg #[.string s, .int .i64 i]) w := by kernel_rfl
theorem st_bNam (hE : EngB bq Tryz.prog E) {s : ByteArray} {i : Int} {x y : Operand} (hk : K (.agg ⟨[.string s, .int .i64 i]⟩) w) : E.stop ⟨d, .build 353 ⟨[(0, x), (1, y)]⟩, ty, pos, aft, g⟩ [.string s, .int .i64 i] w K := by
 refine hE.det (v := .agg ⟨[.string s, .int .i64 i]⟩) (fun w1 _ ρ hρ => ?_) hk
 simp only [opnds, b2_, b3_, b1_, and_true] at hρ
 have := run_bNam s i w1
 simp [execOp, hρ, this]
theorem run_bAtt (i : Int) (w : World) : (Instr.build 274 #[(0, .int .i64 i)]).run Tryz.prog w = .ok (.agg #[.int .i64 i]) w := by kernel_rfl
theorem st_bAtt (hE : EngB bq Tryz.prog E) {i : Int} {x : Operand} (hk : K (.agg ⟨[.int .i64 i]⟩) w) : E.stop ⟨d, .build 274 ⟨[(0, x)]⟩, ty, pos, aft, g⟩ [.int .i64 i] w K := by
 refine hE.det (v := .agg ⟨[.int .i64 i]⟩) (fun w1 _ ρ hρ => ?_) hk
 simp only [opnds, b2_, b3_, b1_, and_true] at hρ
 have := run_bAtt i w1
 simp [execOp, hρ, this]
theorem run_bLt (i : Int) (w : World) : (Instr.build 277 #[(0, .int .i64 i)]).run Tryz.prog w = .ok (.agg #[.int .i64 i]) w := by kernel_rfl
theorem st_bLt (hE : EngB bq Tryz.prog E) {i : Int} {x : Operand} (hk : K (.agg ⟨[.int .i64 i]⟩) w) : E.stop ⟨d, .build 277 ⟨[(0, x)]⟩, ty, pos, aft, g⟩ [.int .i64 i] w K := by
 refine hE.det (v := .agg ⟨[.int .i64 i]⟩) (fun w1 _ ρ hρ => ?_) hk
 simp only [opnds, b2_, b3_, b1_, and_true] at hρ
 have := run_bLt i w1
 simp [execOp, hρ, this]
theorem run_bVal (k z : Int) (s : ByteArray) (A : Option Addr) (m c : Nat) (w : World) : (Instr.build 218 #[(0, .int .i64 k), (1, .int .i64 z), (2, .string s), (3, .slice A m c)]).run Tryz.prog w = .ok (.agg #[.int .i64 k, .int .i64 z, .string s, .slice A m c]) w := by kernel_rfl
theorem st_bVal (hE : EngB bq Tryz.prog E) {k z : Int} {s : ByteArray} {A : Option Addr} {m c : Nat} {x y u v : Operand} (hk : K (.agg ⟨[.int .i64 k, .int .i64 z, .string s, .slice A m c]⟩) w) : E.stop ⟨d, .build 218 ⟨[(0, x), (1, y), (2, u), (3, v)]⟩, ty, pos, aft, g⟩ [.int .i64 k, .int .i64 z, .string s, .slice A m c] w K := by
 refine hE.det (v := .agg ⟨[.int .i64 k, .int .i64 z, .string s, .slice A m c]⟩) (fun w1 _ ρ hρ => ?_) hk
 simp only [opnds, b2_, b3_, b1_, and_true] at hρ
 have := run_bVal k z s A m c w1
 simp [execOp, hρ, this]
theorem run_bCon (k z i : Int) (s : ByteArray) (A : Option Addr) (m c : Nat) (w : World) : (Instr.build 318 #[(0, .agg ⟨[.int .i64 k, .int .i64 z, .string s, .slice A m c]⟩), (1, .int .i64 i)]).run Tryz.prog w = .ok (.agg #[.int .i64 k, .int .i64 z, .string s, .slice A m c, .int .i64 i]) w := by kernel_rfl
theorem st_bCon (hE : EngB bq Tryz.prog E) {k z i : Int} {s : ByteArray} {A : Option Addr} {m c : Nat} {x y : Operand} (hk : K (.agg ⟨[.int .i64 k, .int .i64 z, .string s, .slice A m c, .int .i64 i]⟩) w) : E.stop ⟨d, .build 318 ⟨[(0, x), (1, y)]⟩, ty, pos, aft, g⟩ [.agg ⟨[.int .i64 k, .int .i64 z, .string s, .slice A m c]⟩, .int .i64 i] w K := by
 refine hE.det (v := .agg ⟨[.int .i64 k, .int .i64 z, .string s, .slice A m c, .int .i64 i]⟩) (fun w1 _ ρ hρ => ?_) hk
 simp only [opnds, b2_, b3_, b1_, and_true] at hρ
 have := run_bCon k z i s A m c w1
 simp [execOp, hρ, this]
end
theorem constF_iff (k z : Int) : (k, z) ∈ constF ↔ 1 ≤ z ∧ z ≤ 4 ∧ k = knd z := by
 unfold constF knd
 simp only [List.mem_cons, Prod.mk.injEq, List.not_mem_nil, or_false]
 (repeat' split) <;> omega
theorem leafTree_f {w : World} (hT : Tab w 6 constF) (v : VN) (h : OKN w v) (hop : 1 ≤ v.p.o ∧ v.p.o ≤ 7) {D : Nat → Prop} (hin : InD D v.A0 v.m0) (at_ : Int) :
  FC Tryz.prog 241 [.agg ⟨cN v⟩, .int .i64 at_] w fun r w' => TreeV D w' (leafF v.p at_) r := by
 refine FC.intro (cs := []) Tryz.func241 (by kernel_rfl) fun E R hE hr hR => ?_
 obtain ⟨⟨o, z, tx, xs, ks⟩, A0, m0, c0, A1, m1, c1⟩ := v
 have s_tx := h.s_tx
 have r_xs := h.r_xs
 clear h
 simp only at s_tx r_xs hR hop hin
 obtain ⟨bm, es, clock, t1, t2, t3, t4, t5, t6⟩ := hT.ex
 have hbl : bm < w.heap.size := by
  rcases Nat.lt_or_ge bm w.heap.size with h | h
  ·exact h
  ·simp [Array.getElem?_eq_none h] at t2
 conv => cbv
 refine st_box hr fun a w0 hx0 hb0 => ?_
 have hb := hb0 _ (n1_ _)
 conv => cbv
 (refine st_fld hE fINd0 fun p hp => ?_; (conv => cbv); refine st_load hE cInt (by rw [hp]; exact (hb).at _ _ rfl) ?_; (conv => cbv))
 refine br (fun g => ?_) (fun g => ?_)
 ·have g : o = 5 := by simpa [hE.cmp, cmpR] using g
  conv => cbv
  (refine st_fld hE fINd2 fun p hp => ?_; (conv => cbv); refine st_load hE cStr (by rw [hp]; exact (hb).at _ _ rfl) ?_; (conv => cbv))
  refine st_bNam hE ?_
  conv => cbv
  refine st_mk hE uNaT ?_
  conv => cbv
  rw [hR]; exact ⟨hx0, by simp only [leafF]; rw [if_pos g]; simp only [TreeV]; exact ⟨rfl, s_tx⟩⟩
 have g5 : o ≠ 5 := by simpa [hE.cmp, cmpR] using g
 clear g
 conv => cbv
 refine br (fun g => ?_) (fun g => ?_)
 ·have g : o = 6 := by simpa [hE.cmp, cmpR] using g
  conv => cbv
  (refine st_fld hE fINd1 fun p hp => ?_; (conv => cbv); refine st_load hE cI64 (by rw [hp]; exact (hb).at _ _ rfl) ?_; (conv => cbv))
  refine st_bAtt hE ?_
  conv => cbv
  refine st_mk hE uAtT ?_
  conv => cbv
  rw [hR]; exact ⟨hx0, by simp only [leafF]; rw [if_neg g5, if_pos g]; simp only [TreeV]; rfl⟩
 have g6 : o ≠ 6 := by simpa [hE.cmp, cmpR] using g
 clear g
 conv => cbv
 refine br (fun g => ?_) (fun g => ?_)
 ·have g : o = 7 := by simpa [hE.cmp, cmpR] using g
  conv => cbv
  (refine st_fld hE fINd1 fun p hp => ?_; (conv => cbv); refine st_load hE cI64 (by rw [hp]; exact (hb).at _ _ rfl) ?_; (conv => cbv))
  refine st_bLt hE ?_
  conv => cbv
  refine st_mk hE uLtT ?_
  conv => cbv
  rw [hR]; exact ⟨hx0, by simp only [leafF]; rw [if_neg g5, if_neg g6, if_pos g]; simp only [TreeV]; rfl⟩
 have g7 : o ≠ 7 := by simpa [hE.cmp, cmpR] using g
 clear g
 conv => cbv
 refine st_load hE cMap (hx0.cell t1) ?_
 conv => cbv
 have t2' := hx0.getMap t2
 obtain ⟨r, hrr⟩ : ∃ r, r = w0.heap.size := ⟨_, rfl⟩
 obtain ⟨wi, hwi⟩ : ∃ wi, wi = w0.alloc (.mapIter (some bm) clock #[] clock) := ⟨_, rfl⟩
 have hxi : Ext w0 wi := by rw [hwi]; exact (Ext.refl w0).alloc (n1_ _) _
 have hri : wi.heap[r]? = some (.mapIter (some bm) clock #[] clock) := by rw [hwi, hrr]; exact heap_alloc_new _ _
 refine st_run hr (v := .pointer (some ⟨r, 0, none⟩)) (w' := wi) (fun ρ hρ => ?_) ?_
 ·simp only [opnds, b2_, b3_, b1_, and_true] at hρ
  simp [execOp, hρ, hwi, hrr, run_range_map w0 316 _ _ bm es clock Tryz.underlying316 t2']
 conv => cbv
 refine loop_rule hr (fun (s : Array Nat) w' => Ext w0 w' ∧ w'.heap[r]? = some (.mapIter (some bm) clock s clock) ∧ ∀ e ∈ es.toList, s.contains e.born = true → e.val ≠ .int .i64 o) (fun s => [(1, .int .i64 at_), (2, .pointer (some a)), (29, .pointer (some ⟨r, 0, none⟩))]) (fun s => (leftOf es s).size) #[]
  (by simp [Fits, lk]) ⟨hxi, hri, by simp⟩ ?_
 rintro I hI seen w' ⟨hx, hit, hall⟩
 have hb' := hx.getMap t2'
 conv => cbv
 rcases run_next_at (P := Tryz.prog) w' 0 r bm clock clock seen es clock hit hb' t6 (n1_ _) with ⟨h0, hrun⟩ | ⟨e, he, w1, hw1, hrun⟩
 ·exfalso
  obtain ⟨e, he, h1, h2⟩ := t4 (knd o) o ((constF_iff _ _).2 ⟨hop.1, by omega, rfl⟩)
  exact hall e he (all_seen es seen h0 e he) h2
 ·obtain ⟨hem, hes⟩ := mem_left he
  obtain ⟨k, zz, hk, hz, hf⟩ := t3 e hem
  rw [hk, hz] at hrun
  obtain ⟨w2, hw2⟩ : ∃ w2, w2 = setBlock w1 r (.mapIter (some bm) clock (seen.push e.born) clock) := ⟨_, rfl⟩
  rw [← hw2] at hrun
  have hr1 : w1.heap[r]? = some (.mapIter (some bm) clock seen clock) := by rcases hw1 with rfl | rfl <;> exact hit
  have hset := MapKept.heap_set (o' := .mapIter (some bm) clock (seen.push e.born) clock) hr1
  have hs1 : w2.heap[r]? = some (.mapIter (some bm) clock (seen.push e.born) clock) := by rw [hw2]; exact hset.1
  have hrun : ∀ ty, (Instr.next (.pointer (some ⟨r, 0, none⟩)) false ty).run Tryz.prog w' = .ok (.tuple #[.bool true, .int .i64 k, .int .i64 zz]) w2 := fun ty => hrun
  have hx2 : Ext w0 w2 := by
   refine hx.then ?_
   rcases hw1 with rfl | rfl <;> exact ⟨by rw [hw2]; rfl, by rw [hw2]; rfl, by rw [hw2]; rfl, by rw [hw2]; simp [setBlock], fun i hi => by rw [hw2]; exact hset.2 i (by omega)⟩
  refine st_run hr (v := .tuple #[.bool true, .int .i64 k, .int .i64 zz]) (w' := w2) (fun ρ hρ => ?_) ?_
  ·simp only [opnds, b2_, b3_, b1_, and_true] at hρ
   simp [execOp, hρ, hrun]
  have hen := run_entry_at (P := Tryz.prog) w2 r bm clock seen es clock e hs1 (hx2.getMap t2') hem t5
  rw [hk, hz] at hen
  conv => cbv
  refine st_run hr (v := .tuple #[.int .i64 k, .int .i64 zz]) (w' := w2) (fun ρ hρ => ?_) ?_
  ·simp only [opnds, b2_, b3_, b1_, and_true] at hρ
   simp [execOp, hρ, hen]
  rw [constF_iff] at hf
  have hb2 := hb.bel hx2
  conv => cbv
  (refine st_fld hE fINd0 fun p hp => ?_; (conv => cbv); refine st_load hE cInt (by rw [hp]; exact (hb2).at _ _ rfl) ?_; (conv => cbv))
  refine br (fun g => ?_) (fun g => ?_)
  ·have g : zz = o := by simpa [hE.cmp, cmpR] using g
   conv => cbv
   (refine st_fld hE fINd1 fun p hp => ?_; (conv => cbv); refine st_load hE cI64 (by rw [hp]; exact (hb2).at _ _ rfl) ?_; (conv => cbv))
   (refine st_fld hE fINd2 fun p hp => ?_; (conv => cbv); refine st_load hE cStr (by rw [hp]; exact (hb2).at _ _ rfl) ?_; (conv => cbv))
   (refine st_fld hE fINd3 fun p hp => ?_; (conv => cbv); refine st_load hE cStrs (by rw [hp]; exact (hb2).at _ _ rfl) ?_; (conv => cbv))
   refine st_bVal hE ?_
   conv => cbv
   refine st_bCon hE ?_
   conv => cbv
   refine st_mk hE uCoT ?_
   conv => cbv
   rw [hR]; refine ⟨hx0.trans hx2, ?_⟩
   simp only [leafF]
   rw [if_neg g5, if_neg g6, if_neg g7]
   simp only [TreeV]
   exact ⟨A0, m0, c0, by rw [hf.2.2, g]; rfl, r_xs.ext (hx0.trans hx2), hin, s_tx⟩
  ·have g : zz ≠ o := by simpa [hE.cmp, cmpR] using g
   conv => cbv
   refine ⟨seen.push e.born, by simp [Fits, lk], hI _ _ ⟨hx2, hs1, fun e' he' hs => ?_⟩, left_shrinks es seen e he⟩
   rw [contains_push] at hs
   rcases Bool.or_eq_true _ _ ▸ hs with hs | hs
   ·exact hall e' he' hs
   ·rw [born_inj t5 he' hem (by simpa using hs), hz]
    intro q; cases q; exact g rfl
end Go.Proofs.YtgnjkdkedjljjaaGreatDoor
