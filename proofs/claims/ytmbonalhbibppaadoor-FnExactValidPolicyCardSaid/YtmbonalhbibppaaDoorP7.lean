/- The reference's l2kids, l2fields, l2walk, l2depth (printed by gen_p7.py). -/
import Derived.Test.YtmbonalhbibppaaDoorP5
import Derived.Test.YtmbonalhbibppaaDoorP6
namespace Go.Proofs.YtmbonalhbibppaaDoor
open Go.Eng
set_option linter.unusedVariables false
set_option linter.unusedSimpArgs false
theorem l2kids_q (op : Int) (w : World) : QF Tryd.prog 114 [.int .i64 op] w (.int .i64 (kidsF op)) := by
  refine QF.intro (cs := []) Tryd.func114 (by kernel_rfl) fun w0 hx0 w1 hs E R hE hr hR => ?_
  have fin : ∀ z : Int, z = kidsF op → R (.int .i64 z) w1 := fun z hz => by rw [hR, hz]; exact ⟨rfl, hs⟩
  conv => cbv
  refine br (fun g0 => ?_) (fun g0 => ?_)
  · have g0 : 1 ≤ op := by simpa [hE.cmp, cmpR] using g0
    conv => cbv
    refine br (fun k0 => ?_) (fun k0 => ?_)
    · have k0 : op ≤ 7 := by simpa [hE.cmp, cmpR] using k0
      conv => cbv
      exact fin _ (by unfold kidsF; (repeat' split) <;> omega)
    · have k0 : ¬ op ≤ 7 := by simpa [hE.cmp, cmpR] using k0
      conv => cbv
      refine br (fun g1 => ?_) (fun g1 => ?_)
      · have g1 : 8 ≤ op := by simpa [hE.cmp, cmpR] using g1
        conv => cbv
        refine br (fun k1 => ?_) (fun k1 => ?_)
        · have k1 : op ≤ 10 := by simpa [hE.cmp, cmpR] using k1
          conv => cbv
          exact fin _ (by unfold kidsF; (repeat' split) <;> omega)
        · have k1 : ¬ op ≤ 10 := by simpa [hE.cmp, cmpR] using k1
          conv => cbv
          refine br (fun g2 => ?_) (fun g2 => ?_)
          · have g2 : 11 ≤ op := by simpa [hE.cmp, cmpR] using g2
            conv => cbv
            refine br (fun k2 => ?_) (fun k2 => ?_)
            · have k2 : op ≤ 26 := by simpa [hE.cmp, cmpR] using k2
              conv => cbv
              exact fin _ (by unfold kidsF; (repeat' split) <;> omega)
            · have k2 : ¬ op ≤ 26 := by simpa [hE.cmp, cmpR] using k2
              conv => cbv
              refine br (fun g27 => ?_) (fun g27 => ?_)
              · have g27 : op = 27 := by simpa [hE.cmp, cmpR] using g27
                conv => cbv
                exact fin _ (by unfold kidsF; (repeat' split) <;> omega)
              · have g27 : op ≠ 27 := by simpa [hE.cmp, cmpR] using g27
                conv => cbv
                exact fin _ (by unfold kidsF; (repeat' split) <;> omega)
          · have g2 : ¬ 11 ≤ op := by simpa [hE.cmp, cmpR] using g2
            conv => cbv
            refine br (fun g27 => ?_) (fun g27 => ?_)
            · have g27 : op = 27 := by simpa [hE.cmp, cmpR] using g27
              conv => cbv
              exact fin _ (by unfold kidsF; (repeat' split) <;> omega)
            · have g27 : op ≠ 27 := by simpa [hE.cmp, cmpR] using g27
              conv => cbv
              exact fin _ (by unfold kidsF; (repeat' split) <;> omega)
      · have g1 : ¬ 8 ≤ op := by simpa [hE.cmp, cmpR] using g1
        conv => cbv
        refine br (fun g2 => ?_) (fun g2 => ?_)
        · have g2 : 11 ≤ op := by simpa [hE.cmp, cmpR] using g2
          conv => cbv
          refine br (fun k2 => ?_) (fun k2 => ?_)
          · have k2 : op ≤ 26 := by simpa [hE.cmp, cmpR] using k2
            conv => cbv
            exact fin _ (by unfold kidsF; (repeat' split) <;> omega)
          · have k2 : ¬ op ≤ 26 := by simpa [hE.cmp, cmpR] using k2
            conv => cbv
            refine br (fun g27 => ?_) (fun g27 => ?_)
            · have g27 : op = 27 := by simpa [hE.cmp, cmpR] using g27
              conv => cbv
              exact fin _ (by unfold kidsF; (repeat' split) <;> omega)
            · have g27 : op ≠ 27 := by simpa [hE.cmp, cmpR] using g27
              conv => cbv
              exact fin _ (by unfold kidsF; (repeat' split) <;> omega)
        · have g2 : ¬ 11 ≤ op := by simpa [hE.cmp, cmpR] using g2
          conv => cbv
          refine br (fun g27 => ?_) (fun g27 => ?_)
          · have g27 : op = 27 := by simpa [hE.cmp, cmpR] using g27
            conv => cbv
            exact fin _ (by unfold kidsF; (repeat' split) <;> omega)
          · have g27 : op ≠ 27 := by simpa [hE.cmp, cmpR] using g27
            conv => cbv
            exact fin _ (by unfold kidsF; (repeat' split) <;> omega)
  · have g0 : ¬ 1 ≤ op := by simpa [hE.cmp, cmpR] using g0
    conv => cbv
    refine br (fun g1 => ?_) (fun g1 => ?_)
    · have g1 : 8 ≤ op := by simpa [hE.cmp, cmpR] using g1
      conv => cbv
      refine br (fun k1 => ?_) (fun k1 => ?_)
      · have k1 : op ≤ 10 := by simpa [hE.cmp, cmpR] using k1
        conv => cbv
        exact fin _ (by unfold kidsF; (repeat' split) <;> omega)
      · have k1 : ¬ op ≤ 10 := by simpa [hE.cmp, cmpR] using k1
        conv => cbv
        refine br (fun g2 => ?_) (fun g2 => ?_)
        · have g2 : 11 ≤ op := by simpa [hE.cmp, cmpR] using g2
          conv => cbv
          refine br (fun k2 => ?_) (fun k2 => ?_)
          · have k2 : op ≤ 26 := by simpa [hE.cmp, cmpR] using k2
            conv => cbv
            exact fin _ (by unfold kidsF; (repeat' split) <;> omega)
          · have k2 : ¬ op ≤ 26 := by simpa [hE.cmp, cmpR] using k2
            conv => cbv
            refine br (fun g27 => ?_) (fun g27 => ?_)
            · have g27 : op = 27 := by simpa [hE.cmp, cmpR] using g27
              conv => cbv
              exact fin _ (by unfold kidsF; (repeat' split) <;> omega)
            · have g27 : op ≠ 27 := by simpa [hE.cmp, cmpR] using g27
              conv => cbv
              exact fin _ (by unfold kidsF; (repeat' split) <;> omega)
        · have g2 : ¬ 11 ≤ op := by simpa [hE.cmp, cmpR] using g2
          conv => cbv
          refine br (fun g27 => ?_) (fun g27 => ?_)
          · have g27 : op = 27 := by simpa [hE.cmp, cmpR] using g27
            conv => cbv
            exact fin _ (by unfold kidsF; (repeat' split) <;> omega)
          · have g27 : op ≠ 27 := by simpa [hE.cmp, cmpR] using g27
            conv => cbv
            exact fin _ (by unfold kidsF; (repeat' split) <;> omega)
    · have g1 : ¬ 8 ≤ op := by simpa [hE.cmp, cmpR] using g1
      conv => cbv
      refine br (fun g2 => ?_) (fun g2 => ?_)
      · have g2 : 11 ≤ op := by simpa [hE.cmp, cmpR] using g2
        conv => cbv
        refine br (fun k2 => ?_) (fun k2 => ?_)
        · have k2 : op ≤ 26 := by simpa [hE.cmp, cmpR] using k2
          conv => cbv
          exact fin _ (by unfold kidsF; (repeat' split) <;> omega)
        · have k2 : ¬ op ≤ 26 := by simpa [hE.cmp, cmpR] using k2
          conv => cbv
          refine br (fun g27 => ?_) (fun g27 => ?_)
          · have g27 : op = 27 := by simpa [hE.cmp, cmpR] using g27
            conv => cbv
            exact fin _ (by unfold kidsF; (repeat' split) <;> omega)
          · have g27 : op ≠ 27 := by simpa [hE.cmp, cmpR] using g27
            conv => cbv
            exact fin _ (by unfold kidsF; (repeat' split) <;> omega)
      · have g2 : ¬ 11 ≤ op := by simpa [hE.cmp, cmpR] using g2
        conv => cbv
        refine br (fun g27 => ?_) (fun g27 => ?_)
        · have g27 : op = 27 := by simpa [hE.cmp, cmpR] using g27
          conv => cbv
          exact fin _ (by unfold kidsF; (repeat' split) <;> omega)
        · have g27 : op ≠ 27 := by simpa [hE.cmp, cmpR] using g27
          conv => cbv
          exact fin _ (by unfold kidsF; (repeat' split) <;> omega)
/-- A node has the fields of its operator, and no other; ty: it stands among typed ones. -/
def fieldsP (ty : Bool) (p : PN) : Prop := (p.ks.length : Int) = kidsF p.o ∧
  (if p.o = 1 then (0 ≤ p.z ∨ ty = true) ∧ p.tx = ⟨#[]⟩ ∧ p.xs = []
   else if p.o = 3 then (p.z = 0 ∨ p.z = 1) ∧ p.tx = ⟨#[]⟩ ∧ p.xs = []
   else if p.o = 2 then p.z = 0 ∧ nameBytes p.tx ∧ p.xs = []
   else if p.o = 5 then ty = false ∧ ident p.tx ∧ p.z = 0 ∧ p.xs = []
   else if p.o = 4 then p.z = 0 ∧ p.tx = ⟨#[]⟩ ∧ isSet p.xs
   else if p.o = 6 then ty = true ∧ 0 ≤ p.z ∧ p.z ≤ 5 ∧ p.tx = ⟨#[]⟩ ∧ p.xs = []
   else if p.o = 7 then ty = true ∧ 0 ≤ p.z ∧ p.z < 600 ∧ p.tx = ⟨#[]⟩ ∧ p.xs = []
   else p.z = 0 ∧ p.tx = ⟨#[]⟩ ∧ p.xs = [])
theorem fieldsP_kids {ty : Bool} {p : PN} (h : fieldsP ty p) : (p.ks.length : Int) = kidsF p.o := h.1
theorem kidsF_le (o : Int) : kidsF o ≤ 3 := by unfold kidsF; (repeat' split) <;> omega
theorem run_bNd (o : Int) (w : World) : (Instr.build 137 #[(0, .int .i64 o)]).run Tryd.prog w = .ok (.agg #[.int .i64 o, .int .i64 0, .string ⟨#[]⟩, .slice none 0 0, .slice none 0 0]) w := by kernel_rfl
theorem st_bNd {E : Sym} {w : World} {K : Value → World → Prop} {d : Option Tmp} {ty : TypeId} {pos : String} {aft : Array Edge} {g : Option (Nat × Bool)} {bq : Bool} (hE : EngB bq Tryd.prog E) {o : Int} {x : Operand} (hk : K (.agg ⟨[.int .i64 o, .int .i64 0, .string ⟨#[]⟩, .slice none 0 0, .slice none 0 0]⟩) w) : E.stop ⟨d, .build 137 ⟨[(0, x)]⟩, ty, pos, aft, g⟩ [.int .i64 o] w K := by
  refine hE.det (v := .agg ⟨[.int .i64 o, .int .i64 0, .string ⟨#[]⟩, .slice none 0 0, .slice none 0 0]⟩) (fun w1 _ ρ hρ => ?_) hk
  simp only [opnds, List.map_cons, List.map_nil, List.cons.injEq, and_true] at hρ
  have := run_bNd o w1
  simp [execOp, hρ, this]
set_option maxHeartbeats 4000000 in
theorem l2fields_f {w : World} (v : VN) (h : OKN w v) (ty : Bool) :
    FC Tryd.prog 68 [.agg ⟨cN v⟩, .bool ty] w fun u _ => ∃ b : Bool, u = .bool b ∧ (b = true ↔ fieldsP ty v.p) := by
  refine FC.intro (cs := [31]) Tryd.func68 (by kernel_rfl) fun E R hE hr hR => ?_
  obtain ⟨⟨o, z, tx, xs, ks⟩, A0, m0, c0, A1, m1, c1⟩ := v
  have s_tx := h.s_tx
  have r_xs := h.r_xs
  have r_ks := h.r_ks
  clear h
  simp only at s_tx r_xs r_ks hR
  have hkl := r_ks.len
  have hxl := r_xs.len
  obtain ⟨FP, hFP0⟩ : ∃ FP, FP = fieldsP ty ⟨o, z, tx, xs, ks⟩ := ⟨_, rfl⟩
  rw [← hFP0] at hR
  have hFP := hFP0
  unfold fieldsP at hFP
  simp only at hFP
  have no : ¬ FP → ∀ w', Ext w w' → R (.bool false) w' := fun h w' hx => by rw [hR]; exact ⟨hx, false, rfl, by simp [h]⟩
  conv => cbv
  refine st_box hr fun a w1 hx hb0 => ?_
  have hb := hb0 _ (Nat.le_refl _)
  clear hb0
  conv => cbv
  refine draw_q hr fol (by kernel_rfl) fun E' hE' => ?_
  conv => cbv
  (refine st_fld hE' fINd4 fun p hp => ?_; (conv => cbv); refine st_load hE' cInts (by rw [hp]; exact (hb).at _ _ rfl) ?_; clear hp; (conv => cbv))
  refine st_len hE' tInts fun x1 hx1 => ?_
  conv => cbv
  (refine st_fld hE' fINd0 fun p hp => ?_; (conv => cbv); refine st_load hE' cInt (by rw [hp]; exact (hb).at _ _ rfl) ?_; clear hp; (conv => cbv))
  refine st_q hE' (l2kids_q o _) fun w2 hs2 => ?_
  obtain ⟨kf, hkf⟩ : ∃ kf, kf = kidsF o := ⟨_, rfl⟩
  rw [← hkf]
  obtain ⟨q4, hq4⟩ : ∃ q4, q4 = E'.cmp .neq x1 kf := ⟨_, rfl⟩
  have hq5 : q4 = true ↔ x1 ≠ kf := by rw [hq4, hE'.cmp]; simp [cmpR]
  conv => cbv
  simp only [← hq4]
  intro w3 hs3
  replace hb := hb.bel hs3.ext
  replace hx := hx.trans hs3.ext
  clear hs3 hs2 hq4
  conv => cbv
  refine br (fun g => ?_) (fun g => ?_)
  · have g := hq5.1 g
    conv => cbv
    exact no (by rw [hFP]; exact fun q => g (by have := q.1; omega)) _ hx
  have g : x1 = kf := Classical.byContradiction fun q => g (hq5.2 q)
  have hks : (ks.length : Int) = kidsF o := by omega
  replace hFP : FP = _ := hFP.trans (propext (and_iff_right hks))
  clear g hq5
  conv => cbv
  (refine st_fld hE fINd0 fun p hp => ?_; (conv => cbv); refine st_load hE cInt (by rw [hp]; exact (hb).at _ _ rfl) ?_; clear hp; (conv => cbv))
  refine st_bNd hE ?_
  conv => cbv
  refine st_alloc hr tINd rfl fun q w4 hx4 hq0 => ?_
  have hq1 := hq0 _ hx.size
  have aq := (hb.apart (hq0 _ (Nat.le_refl _)) (Nat.le_refl _)).1
  conv => cbv
  refine st_putS hr (by kernel_rfl) hq1 (add_zero _).symm (by simp) (by simp [Value.oneCell']) fun w5 hw5 hq => ?_
  simp only [List.take_zero, List.nil_append, List.length_cons, List.length_nil, List.drop_succ_cons, List.drop_nil, List.append_nil] at hq
  replace hb := (hb.bel hx4).wr hw5 aq
  replace hx := hx.trans (hx4.then (hw5.bel (hq0 _ (Nat.le_refl _)) hx4.size))
  clear hq0 hq1 hw5 hx4
  conv => cbv
  refine cut_rule [] [] hr (fun (s : Int × ByteArray) w' => Ext w w' ∧ Box w.heap.size 137 5 w' a [.int .i64 o, .int .i64 z, .string tx, .slice A0 m0 c0, .slice A1 m1 c1] ∧ Box w.heap.size 137 5 w' q [.int .i64 o, .int .i64 s.1, .string s.2, .slice none 0 0, .slice none 0 0] ∧ ((z = s.1 ∧ tx = s.2 ∧ xs = []) ↔ FP))
    (fun s => [(1, .bool ty), (2, .pointer (some a)), (5, .pointer (some q))]) (fun I hI => ?_) ?_
  · conv => cbv
    (refine st_fld hE fINd0 fun p hp => ?_; (conv => cbv); refine st_load hE cInt (by rw [hp]; exact (hb).at _ _ rfl) ?_; clear hp; (conv => cbv))
    refine br (fun g => ?_) (fun g => ?_)
    · have g : o = 1 := by simpa [hE.cmp, cmpR] using g
      conv => cbv
      (refine st_fld hE fINd1 fun p hp => ?_; (conv => cbv); refine st_load hE cI64 (by rw [hp]; exact (hb).at _ _ rfl) ?_; clear hp; (conv => cbv))
      refine br (fun g2 => ?_) (fun g2 => ?_)
      · have g2 : z < 0 := by simpa [hE.cmp, cmpR] using g2
        conv => cbv
        cases ty with
        | false =>
          conv => cbv
          exact no (by rw [hFP]; rw [if_pos g]; simp; omega) _ hx
        | true =>
          conv => cbv
          (refine st_fld hE fINd1 fun p hp => ?_; (conv => cbv); refine st_load hE cI64 (by rw [hp]; exact (hb).at _ _ rfl) ?_; clear hp; (conv => cbv))
          refine st_fld hE fINd1 fun p hp => ?_
          conv => cbv
          refine st_put hr zI64 hq hp (by simp) rfl fun w6 hw6 hq6 => ?_
          simp only [List.set_cons_zero, List.set_cons_succ] at hq6
          conv => cbv
          exact ⟨(z, ⟨#[]⟩), by simp [Fits, lk], hI _ _ ⟨hx.then (hw6.bel hq hx.size), hb.wr hw6 aq, hq6, by rw [hFP]; simp only; rw [if_pos g]; simp⟩⟩
      · have g2 : ¬ z < 0 := by simpa [hE.cmp, cmpR] using g2
        conv => cbv
        (refine st_fld hE fINd1 fun p hp => ?_; (conv => cbv); refine st_load hE cI64 (by rw [hp]; exact (hb).at _ _ rfl) ?_; clear hp; (conv => cbv))
        refine st_fld hE fINd1 fun p hp => ?_
        conv => cbv
        refine st_put hr zI64 hq hp (by simp) rfl fun w6 hw6 hq6 => ?_
        simp only [List.set_cons_zero, List.set_cons_succ] at hq6
        conv => cbv
        exact ⟨(z, ⟨#[]⟩), by simp [Fits, lk], hI _ _ ⟨hx.then (hw6.bel hq hx.size), hb.wr hw6 aq, hq6, by rw [hFP]; simp only; rw [if_pos g]; simp; intro _ _; omega⟩⟩
    have g1 : o ≠ 1 := by simpa [hE.cmp, cmpR] using g
    clear g
    conv => cbv
    refine br (fun g => ?_) (fun g => ?_)
    · have g : o = 3 := by simpa [hE.cmp, cmpR] using g
      conv => cbv
      (refine st_fld hE fINd1 fun p hp => ?_; (conv => cbv); refine st_load hE cI64 (by rw [hp]; exact (hb).at _ _ rfl) ?_; clear hp; (conv => cbv))
      refine br (fun g2 => ?_) (fun g2 => ?_)
      · have g2 : z ≠ 0 := by simpa [hE.cmp, cmpR] using g2
        conv => cbv
        (refine st_fld hE fINd1 fun p hp => ?_; (conv => cbv); refine st_load hE cI64 (by rw [hp]; exact (hb).at _ _ rfl) ?_; clear hp; (conv => cbv))
        refine br (fun g3 => ?_) (fun g3 => ?_)
        · have g3 : z ≠ 1 := by simpa [hE.cmp, cmpR] using g3
          conv => cbv
          exact no (by rw [hFP]; rw [if_neg g1, if_pos g]; simp; omega) _ hx
        · have g3 : z = 1 := by simpa [hE.cmp, cmpR] using g3
          conv => cbv
          (refine st_fld hE fINd1 fun p hp => ?_; (conv => cbv); refine st_load hE cI64 (by rw [hp]; exact (hb).at _ _ rfl) ?_; clear hp; (conv => cbv))
          refine st_fld hE fINd1 fun p hp => ?_
          conv => cbv
          refine st_put hr zI64 hq hp (by simp) rfl fun w6 hw6 hq6 => ?_
          simp only [List.set_cons_zero, List.set_cons_succ] at hq6
          conv => cbv
          exact ⟨(z, ⟨#[]⟩), by simp [Fits, lk], hI _ _ ⟨hx.then (hw6.bel hq hx.size), hb.wr hw6 aq, hq6, by rw [hFP]; simp only; rw [if_neg g1, if_pos g]; simp [g3]⟩⟩
      · have g2 : z = 0 := by simpa [hE.cmp, cmpR] using g2
        conv => cbv
        (refine st_fld hE fINd1 fun p hp => ?_; (conv => cbv); refine st_load hE cI64 (by rw [hp]; exact (hb).at _ _ rfl) ?_; clear hp; (conv => cbv))
        refine st_fld hE fINd1 fun p hp => ?_
        conv => cbv
        refine st_put hr zI64 hq hp (by simp) rfl fun w6 hw6 hq6 => ?_
        simp only [List.set_cons_zero, List.set_cons_succ] at hq6
        conv => cbv
        exact ⟨(z, ⟨#[]⟩), by simp [Fits, lk], hI _ _ ⟨hx.then (hw6.bel hq hx.size), hb.wr hw6 aq, hq6, by rw [hFP]; simp only; rw [if_neg g1, if_pos g]; simp [g2]⟩⟩
    have g3 : o ≠ 3 := by simpa [hE.cmp, cmpR] using g
    clear g
    conv => cbv
    refine br (fun g => ?_) (fun g => ?_)
    · have g : o = 2 := by simpa [hE.cmp, cmpR] using g
      conv => cbv
      (refine st_fld hE fINd2 fun p hp => ?_; (conv => cbv); refine st_load hE cStr (by rw [hp]; exact (hb).at _ _ rfl) ?_; clear hp; (conv => cbv))
      refine st_f hr (l2quoted_f (w := _) tx s_tx) fun u w6 hx6 ⟨b, ev, hbq⟩ => ?_
      subst ev
      replace hb := hb.bel hx6
      replace hq := hq.bel hx6
      replace hx := hx.trans hx6
      clear hx6
      cases b with
      | false =>
        have hbq : ¬ nameBytes tx := fun q => absurd (hbq.2 q) (by simp)
        conv => cbv
        exact no (by rw [hFP]; rw [if_neg g1, if_neg g3, if_pos g]; simp [hbq]) _ hx
      | true =>
        have hbq := hbq.1 rfl
        conv => cbv
        (refine st_fld hE fINd2 fun p hp => ?_; (conv => cbv); refine st_load hE cStr (by rw [hp]; exact (hb).at _ _ rfl) ?_; clear hp; (conv => cbv))
        refine st_fld hE fINd2 fun p hp => ?_
        conv => cbv
        refine st_put hr zStr hq hp (by simp) rfl fun w6 hw6 hq6 => ?_
        simp only [List.set_cons_zero, List.set_cons_succ] at hq6
        conv => cbv
        exact ⟨(0, tx), by simp [Fits, lk], hI _ _ ⟨hx.then (hw6.bel hq hx.size), hb.wr hw6 aq, hq6, by rw [hFP]; simp only; rw [if_neg g1, if_neg g3, if_pos g]; simp [hbq]⟩⟩
    have g2 : o ≠ 2 := by simpa [hE.cmp, cmpR] using g
    clear g
    conv => cbv
    refine br (fun g => ?_) (fun g => ?_)
    · have g : o = 5 := by simpa [hE.cmp, cmpR] using g
      cases ty with
      | true =>
        conv => cbv
        exact no (by rw [hFP]; rw [if_neg g1, if_neg g3, if_neg g2, if_pos g]; simp) _ hx
      | false =>
        conv => cbv
        (refine st_fld hE fINd2 fun p hp => ?_; (conv => cbv); refine st_load hE cStr (by rw [hp]; exact (hb).at _ _ rfl) ?_; clear hp; (conv => cbv))
        refine st_f hr (l2ident_f tx s_tx _) fun u w6 hx6 ⟨b, ev, hbq⟩ => ?_
        subst ev
        replace hb := hb.bel hx6
        replace hq := hq.bel hx6
        replace hx := hx.trans hx6
        clear hx6
        cases b with
        | false =>
          have hbq : ¬ ident tx := fun q => absurd (hbq.2 q) (by simp)
          conv => cbv
          exact no (by rw [hFP]; rw [if_neg g1, if_neg g3, if_neg g2, if_pos g]; simp [hbq]) _ hx
        | true =>
          have hbq := hbq.1 rfl
          conv => cbv
          (refine st_fld hE fINd2 fun p hp => ?_; (conv => cbv); refine st_load hE cStr (by rw [hp]; exact (hb).at _ _ rfl) ?_; clear hp; (conv => cbv))
          refine st_fld hE fINd2 fun p hp => ?_
          conv => cbv
          refine st_put hr zStr hq hp (by simp) rfl fun w6 hw6 hq6 => ?_
          simp only [List.set_cons_zero, List.set_cons_succ] at hq6
          conv => cbv
          exact ⟨(0, tx), by simp [Fits, lk], hI _ _ ⟨hx.then (hw6.bel hq hx.size), hb.wr hw6 aq, hq6, by rw [hFP]; simp only; rw [if_neg g1, if_neg g3, if_neg g2, if_pos g]; simp [hbq]⟩⟩
    have g5 : o ≠ 5 := by simpa [hE.cmp, cmpR] using g
    clear g
    conv => cbv
    refine br (fun g => ?_) (fun g => ?_)
    · have g : o = 4 := by simpa [hE.cmp, cmpR] using g
      conv => cbv
      (refine st_fld hE fINd1 fun p hp => ?_; (conv => cbv); refine st_load hE cI64 (by rw [hp]; exact (hb).at _ _ rfl) ?_; clear hp; (conv => cbv))
      refine br (fun k2 => ?_) (fun k2 => ?_)
      · have k2 : z = 0 := by simpa [hE.cmp, cmpR] using k2
        conv => cbv
        (refine st_fld hE fINd2 fun p hp => ?_; (conv => cbv); refine st_load hE cStr (by rw [hp]; exact (hb).at _ _ rfl) ?_; clear hp; (conv => cbv))
        refine br (fun k3 => ?_) (fun k3 => ?_)
        · have k3 : tx = ⟨#[]⟩ := (scq hE _ _).1 k3
          conv => cbv
          (refine st_fld hE fINd3 fun p hp => ?_; (conv => cbv); refine st_load hE cStrs (by rw [hp]; exact (hb).at _ _ rfl) ?_; clear hp; (conv => cbv))
          refine st_qb hE (sIsSet_q (r_xs.ext hx)) fun b hbs w6 hs6 => ?_
          conv => cbv
          rw [hR]; exact ⟨hx.trans hs6.ext, b, rfl, by rw [hbs, hFP]; rw [if_neg g1, if_neg g3, if_neg g2, if_neg g5, if_pos g]; simp [k2, k3]⟩
        · have k3 : tx ≠ ⟨#[]⟩ := fun e => k3 ((scq hE _ _).2 e)
          conv => cbv
          exact no (by rw [hFP]; rw [if_neg g1, if_neg g3, if_neg g2, if_neg g5, if_pos g]; simp [k3]) _ hx
      · have k2 : z ≠ 0 := by simpa [hE.cmp, cmpR] using k2
        conv => cbv
        exact no (by rw [hFP]; rw [if_neg g1, if_neg g3, if_neg g2, if_neg g5, if_pos g]; simp [k2]) _ hx
    have g4 : o ≠ 4 := by simpa [hE.cmp, cmpR] using g
    clear g
    conv => cbv
    refine br (fun g => ?_) (fun g => ?_)
    · have g : o = 6 := by simpa [hE.cmp, cmpR] using g
      cases ty with
      | false =>
        conv => cbv
        exact no (by rw [hFP]; rw [if_neg g1, if_neg g3, if_neg g2, if_neg g5, if_neg g4, if_pos g]; simp) _ hx
      | true =>
        conv => cbv
        (refine st_fld hE fINd1 fun p hp => ?_; (conv => cbv); refine st_load hE cI64 (by rw [hp]; exact (hb).at _ _ rfl) ?_; clear hp; (conv => cbv))
        refine br (fun k2 => ?_) (fun k2 => ?_)
        · have k2 : z < 0 := by simpa [hE.cmp, cmpR] using k2
          conv => cbv
          exact no (by rw [hFP]; rw [if_neg g1, if_neg g3, if_neg g2, if_neg g5, if_neg g4, if_pos g]; simp; omega) _ hx
        have k2 : ¬ z < 0 := by simpa [hE.cmp, cmpR] using k2
        conv => cbv
        (refine st_fld hE fINd1 fun p hp => ?_; (conv => cbv); refine st_load hE cI64 (by rw [hp]; exact (hb).at _ _ rfl) ?_; clear hp; (conv => cbv))
        refine br (fun k3 => ?_) (fun k3 => ?_)
        · have k3 : 5 < z := by simpa [hE.cmp, cmpR] using k3
          conv => cbv
          exact no (by rw [hFP]; rw [if_neg g1, if_neg g3, if_neg g2, if_neg g5, if_neg g4, if_pos g]; simp; omega) _ hx
        have k3 : ¬ (5 < z) := by simpa [hE.cmp, cmpR] using k3
        conv => cbv
        (refine st_fld hE fINd1 fun p hp => ?_; (conv => cbv); refine st_load hE cI64 (by rw [hp]; exact (hb).at _ _ rfl) ?_; clear hp; (conv => cbv))
        refine st_fld hE fINd1 fun p hp => ?_
        conv => cbv
        refine st_put hr zI64 hq hp (by simp) rfl fun w6 hw6 hq6 => ?_
        simp only [List.set_cons_zero, List.set_cons_succ] at hq6
        conv => cbv
        exact ⟨(z, ⟨#[]⟩), by simp [Fits, lk], hI _ _ ⟨hx.then (hw6.bel hq hx.size), hb.wr hw6 aq, hq6, by rw [hFP]; simp only; rw [if_neg g1, if_neg g3, if_neg g2, if_neg g5, if_neg g4, if_pos g]; simp only [true_and]; exact ⟨fun q => ⟨by omega, by omega, q⟩, fun q => q.2.2⟩⟩⟩
    have g6 : o ≠ 6 := by simpa [hE.cmp, cmpR] using g
    clear g
    conv => cbv
    refine br (fun g => ?_) (fun g => ?_)
    · have g : o = 7 := by simpa [hE.cmp, cmpR] using g
      cases ty with
      | false =>
        conv => cbv
        exact no (by rw [hFP]; rw [if_neg g1, if_neg g3, if_neg g2, if_neg g5, if_neg g4, if_neg g6, if_pos g]; simp) _ hx
      | true =>
        conv => cbv
        (refine st_fld hE fINd1 fun p hp => ?_; (conv => cbv); refine st_load hE cI64 (by rw [hp]; exact (hb).at _ _ rfl) ?_; clear hp; (conv => cbv))
        refine br (fun k2 => ?_) (fun k2 => ?_)
        · have k2 : z < 0 := by simpa [hE.cmp, cmpR] using k2
          conv => cbv
          exact no (by rw [hFP]; rw [if_neg g1, if_neg g3, if_neg g2, if_neg g5, if_neg g4, if_neg g6, if_pos g]; simp; omega) _ hx
        have k2 : ¬ z < 0 := by simpa [hE.cmp, cmpR] using k2
        conv => cbv
        (refine st_fld hE fINd1 fun p hp => ?_; (conv => cbv); refine st_load hE cI64 (by rw [hp]; exact (hb).at _ _ rfl) ?_; clear hp; (conv => cbv))
        refine br (fun k3 => ?_) (fun k3 => ?_)
        · have k3 : 600 ≤ z := by simpa [hE.cmp, cmpR] using k3
          conv => cbv
          exact no (by rw [hFP]; rw [if_neg g1, if_neg g3, if_neg g2, if_neg g5, if_neg g4, if_neg g6, if_pos g]; simp; omega) _ hx
        have k3 : ¬ (600 ≤ z) := by simpa [hE.cmp, cmpR] using k3
        conv => cbv
        (refine st_fld hE fINd1 fun p hp => ?_; (conv => cbv); refine st_load hE cI64 (by rw [hp]; exact (hb).at _ _ rfl) ?_; clear hp; (conv => cbv))
        refine st_fld hE fINd1 fun p hp => ?_
        conv => cbv
        refine st_put hr zI64 hq hp (by simp) rfl fun w6 hw6 hq6 => ?_
        simp only [List.set_cons_zero, List.set_cons_succ] at hq6
        conv => cbv
        exact ⟨(z, ⟨#[]⟩), by simp [Fits, lk], hI _ _ ⟨hx.then (hw6.bel hq hx.size), hb.wr hw6 aq, hq6, by rw [hFP]; simp only; rw [if_neg g1, if_neg g3, if_neg g2, if_neg g5, if_neg g4, if_neg g6, if_pos g]; simp only [true_and]; exact ⟨fun q => ⟨by omega, by omega, q⟩, fun q => q.2.2⟩⟩⟩
    have g7 : o ≠ 7 := by simpa [hE.cmp, cmpR] using g
    clear g
    conv => cbv
    exact ⟨(0, ⟨#[]⟩), by simp [Fits, lk], hI _ _ ⟨hx, hb, hq, by rw [hFP]; simp only; rw [if_neg g1, if_neg g3, if_neg g2, if_neg g5, if_neg g4, if_neg g6, if_neg g7]⟩⟩
  · clear hb hq hx
    rintro ⟨wz, wt⟩ w6 ⟨hx, hb, hq, hI⟩
    simp only at hq hI
    have no2 : ¬ (z = wz ∧ tx = wt ∧ xs = []) → ∀ w', Ext w w' → R (.bool false) w' := fun h => no fun q => h (hI.2 q)
    conv => cbv
    (refine st_fld hE fINd1 fun p hp => ?_; (conv => cbv); refine st_load hE cI64 (by rw [hp]; exact (hb).at _ _ rfl) ?_; clear hp; (conv => cbv))
    (refine st_fld hE fINd1 fun p hp => ?_; (conv => cbv); refine st_load hE cI64 (by rw [hp]; exact (hq).at _ _ rfl) ?_; clear hp; (conv => cbv))
    refine br (fun g => ?_) (fun g => ?_)
    · have g : z = wz := by simpa [hE.cmp, cmpR] using g
      conv => cbv
      (refine st_fld hE fINd2 fun p hp => ?_; (conv => cbv); refine st_load hE cStr (by rw [hp]; exact (hb).at _ _ rfl) ?_; clear hp; (conv => cbv))
      (refine st_fld hE fINd2 fun p hp => ?_; (conv => cbv); refine st_load hE cStr (by rw [hp]; exact (hq).at _ _ rfl) ?_; clear hp; (conv => cbv))
      refine br (fun g2 => ?_) (fun g2 => ?_)
      · have g2 : tx = wt := (scq hE _ _).1 g2
        conv => cbv
        (refine st_fld hE fINd3 fun p hp => ?_; (conv => cbv); refine st_load hE cStrs (by rw [hp]; exact (hb).at _ _ rfl) ?_; clear hp; (conv => cbv))
        refine st_len hE tStrs fun x9 hx9 => ?_
        obtain ⟨q4, hq4⟩ : ∃ q4, q4 = E.cmp .eql x9 0 := ⟨_, rfl⟩
        have hq5 : q4 = true ↔ x9 = 0 := by rw [hq4, hE.cmp]; simp [cmpR]
        conv => cbv
        simp only [← hq4]
        rw [hR]; exact ⟨hx, q4, rfl, by
          rw [hq5, ← hI]
          exact ⟨fun q => ⟨g, g2, List.eq_nil_of_length_eq_zero (by omega)⟩, fun q => by rw [q.2.2] at hxl; simp at hxl; omega⟩⟩
      · have g2 : tx ≠ wt := fun e => g2 ((scq hE _ _).2 e)
        conv => cbv
        exact no2 (fun q => g2 q.2.1) _ hx
    · have g : z ≠ wz := by simpa [hE.cmp, cmpR] using g
      conv => cbv
      exact no2 (fun q => g q.1) _ hx
end Go.Proofs.YtmbonalhbibppaaDoor
