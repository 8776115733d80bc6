/- The reference's l5takes and copyOf (printed by gen_v11.py). -/
import Derived.Test.YtmbonalhbibppaaDoorV10
namespace Go.Proofs.YtmbonalhbibppaaDoor
open Go.Eng
set_option linter.unusedVariables false
set_option linter.unusedSimpArgs false
set_option maxHeartbeats 2000000 in
theorem l5takes_f {w : World} {A A2 A3 A4 : Option Addr} {n c n2 c2 n3 c3 n4 c4 : Nat} {sl : Int} {pv : List PV} {is : List (Int × Int)} (h : CodeR w A n A2 n2 pv is) (hn : n ≤ 9223372036854775807) {ni a : Nat} {o gg : Int} {kn : Bool} {sls : List Int} (hs : Ints w A4 n4 c4 sls) (hsl : (n4 : Int) = sl)
    (h1 : 1 ≤ o) (h2 : o ≤ 25) (hg0 : 0 ≤ gg) (hrg : rangeF pv.length sl ni a o gg) :
    FC Tryd.prog 85 [codeV A n c sl A2 n2 c2, .agg ⟨[.int .i64 o, .int .i64 gg]⟩, .agg ⟨[.bool kn, .slice A3 n3 c3, .slice A4 n4 c4]⟩] w fun v w' => ∃ A1 n1 c1 t, v = .tuple ⟨[.slice A1 n1 c1, .int .i64 t]⟩ ∧ Ints w' A1 n1 c1 (wantF o) ∧ t = pushF pv sls o gg := by
  refine FC.intro (cs := []) Tryd.func85 (by kernel_rfl) fun E R hE hr hR => ?_
  have hpl := h.pool.len
  have hsn := hs.len
  obtain ⟨r1, r2, r3, r4⟩ := hrg
  conv => cbv
  refine st_box hr fun a0 w1 hx hb0 => ?_
  have hb := hb0 _ (Nat.le_refl _)
  clear hb0
  conv => cbv
  refine st_box hr fun a1 w2 hx2 hq0 => ?_
  have hq := hq0 _ hx.size
  replace hb := hb.bel hx2
  replace hx := hx.trans hx2
  clear hq0 hx2
  conv => cbv
  refine st_box hr fun a2 w3 hx3 hy0 => ?_
  have hy := hy0 _ hx.size
  replace hb := hb.bel hx3
  replace hq := hq.bel hx3
  replace hx := hx.trans hx3
  clear hy0 hx3
  conv => cbv
  (refine st_fld hE fII0 fun p hp => ?_; (conv => cbv); refine st_load hE cInt (by rw [hp]; exact (hq).at _ _ rfl) ?_; clear hp; (conv => cbv))
  refine br (fun g => ?_) (fun g => ?_)
  · have g0 := g
    have g : o = 1 := by simpa [hE.cmp, cmpR] using g
    conv => cbv
    have hgn := r1 g
    obtain ⟨gn, hgn2⟩ : ∃ gn : Nat, gg = gn := ⟨gg.toNat, by omega⟩
    refine draw_q hr fol (by kernel_rfl) fun E' hE' => ?_
    obtain ⟨ap, k, z, tx, xs, A5, m5, c5, hA, hpg, hc, _, _⟩ := (h.pool.ext hx).get (i := gn) (by omega)
    conv => cbv
    (refine st_fld hE' fIC0 fun p hp => ?_; (conv => cbv); refine st_load hE' cIVs (by rw [hp]; exact (hb).at _ _ rfl) ?_; clear hp; (conv => cbv))
    (refine st_fld hE' fII1 fun p hp => ?_; (conv => cbv); refine st_load hE' cInt (by rw [hp]; exact (hq).at _ _ rfl) ?_; clear hp; (conv => cbv))
    refine st_idx hE' sIV hA (by omega) (by omega) fun q hq1 => ?_
    rw [show gg.toNat = gn by omega] at hq1
    conv => cbv
    refine st_fld hE' fIV0 fun q2 hq2 => ?_
    conv => cbv
    refine st_load hE' cInt (v := .int .i64 k) (by rw [hq2, hq1]; exact hc _ _ rfl) ?_
    conv => cbv
    intro w4 hs4
    conv => cbv
    rw [hR]; refine ⟨hx.trans hs4.ext, none, 0, 0, k, rfl, by simp [wantF, g]; exact ints_nil _, ?_⟩
    simp [pushF, g, kindF, show gg.toNat = gn by omega, hpg]
  have g1 : o ≠ 1 := by simpa [hE.cmp, cmpR] using g
  clear g
  conv => cbv
  refine br (fun g => ?_) (fun g => ?_)
  · have g0 := g
    have g : o = 2 := by simpa [hE.cmp, cmpR] using g
    conv => cbv
    (refine st_fld hE fII1 fun p hp => ?_; (conv => cbv); refine st_load hE cInt (by rw [hp]; exact (hq).at _ _ rfl) ?_; clear hp; (conv => cbv))
    refine st_f hr (l3attrType_f gg) fun v w4 hx4 ev => ?_
    subst ev
    obtain ⟨z, hz⟩ : ∃ z, z = attrF gg := ⟨_, rfl⟩
    rw [← hz]
    conv => cbv
    rw [hR]; exact ⟨hx.trans hx4, none, 0, 0, z, rfl, by simp [wantF, g]; exact ints_nil _, by simp [pushF, g, hz]⟩
  have g2 : o ≠ 2 := by simpa [hE.cmp, cmpR] using g
  clear g
  conv => cbv
  refine br (fun g => ?_) (fun g => ?_)
  · have g0 := g
    have g : o = 3 := by simpa [hE.cmp, cmpR] using g
    conv => cbv
    have hgn := r3 (.inl g)
    obtain ⟨gn, hgn2⟩ : ∃ gn : Nat, gg = gn := ⟨gg.toNat, by omega⟩
    refine draw_q hr fol (by kernel_rfl) fun E' hE' => ?_
    conv => cbv
    (refine st_fld hE' fLS2 fun p hp => ?_; (conv => cbv); refine st_load hE' cInts (by rw [hp]; exact (hy).at _ _ rfl) ?_; clear hp; (conv => cbv))
    (refine st_fld hE' fII1 fun p hp => ?_; (conv => cbv); refine st_load hE' cInt (by rw [hp]; exact (hq).at _ _ rfl) ?_; clear hp; (conv => cbv))
    refine st_int hE' tInts (hs.ext hx) (k := gn) (by omega) (by omega) fun p u hu hp => ?_
    conv => cbv
    refine st_load hE' cInt hp ?_
    conv => cbv
    intro w4 hs4
    conv => cbv
    rw [hR]; refine ⟨hx.trans hs4.ext, none, 0, 0, u, rfl, by simp [wantF, g]; exact ints_nil _, ?_⟩
    simp [pushF, g, slotF, show gg.toNat = gn by omega, hu]
  have g3 : o ≠ 3 := by simpa [hE.cmp, cmpR] using g
  clear g
  conv => cbv
  refine br (fun g => ?_) (fun g => ?_)
  · have g0 := g
    have g : o = 4 := by simpa [hE.cmp, cmpR] using g
    conv => cbv
    refine st_lits hr tInts rfl (vs := [.int .i64 (-1)]) (m := 1) rfl (by omega) (by omega) rfl (by simp [Value.cells]) fun A5 w5 hx5 ho => ?_
    conv => cbv
    rw [hR]; exact ⟨hx.trans hx5, A5, 1, 1, 0, rfl, by simp [wantF, g]; exact Own.ints (zs := [-1]) (ho _ (Nat.le_refl _)), by simp [pushF, g]⟩
  have g4 : o ≠ 4 := by simpa [hE.cmp, cmpR] using g
  clear g
  conv => cbv
  refine br (fun g => ?_) (fun g => ?_)
  · have g0 := g
    have g : o = 22 := by simpa [hE.cmp, cmpR] using g
    conv => cbv
    refine br (fun _ => ?_) (fun q => absurd g0 q)
    conv => cbv
    rw [hR]; exact ⟨hx, none, 0, 0, 0, rfl, by simp [wantF, g]; exact ints_nil _, by simp [pushF, g]⟩
  have g22 : o ≠ 22 := by simpa [hE.cmp, cmpR] using g
  clear g
  conv => cbv
  refine br (fun g => ?_) (fun g => ?_)
  · have g0 := g
    have g : o = 24 := by simpa [hE.cmp, cmpR] using g
    conv => cbv
    rw [hR]; exact ⟨hx, none, 0, 0, 0, rfl, by simp [wantF, g]; exact ints_nil _, by simp [pushF, g]⟩
  have g24 : o ≠ 24 := by simpa [hE.cmp, cmpR] using g
  clear g
  conv => cbv
  refine br (fun g => ?_) (fun g => ?_)
  · have g0 := g
    have g : o = 23 := by simpa [hE.cmp, cmpR] using g
    conv => cbv
    refine st_lits hr tInts rfl (vs := [.int .i64 (1)]) (m := 1) rfl (by omega) (by omega) rfl (by simp [Value.cells]) fun A5 w5 hx5 ho => ?_
    conv => cbv
    rw [hR]; exact ⟨hx.trans hx5, A5, 1, 1, 0, rfl, by simp [wantF, g]; exact Own.ints (zs := [1]) (ho _ (Nat.le_refl _)), by simp [pushF, g]⟩
  have g23 : o ≠ 23 := by simpa [hE.cmp, cmpR] using g
  clear g
  conv => cbv
  refine br (fun g => ?_) (fun g => ?_)
  · have g0 := g
    have g : o = 25 := by simpa [hE.cmp, cmpR] using g
    conv => cbv
    refine st_lits hr tInts rfl (vs := [.int .i64 (4)]) (m := 1) rfl (by omega) (by omega) rfl (by simp [Value.cells]) fun A5 w5 hx5 ho => ?_
    conv => cbv
    rw [hR]; exact ⟨hx.trans hx5, A5, 1, 1, 0, rfl, by simp [wantF, g]; exact Own.ints (zs := [4]) (ho _ (Nat.le_refl _)), by simp [pushF, g]⟩
  have g25 : o ≠ 25 := by simpa [hE.cmp, cmpR] using g
  clear g
  conv => cbv
  obtain ⟨o3, ho3⟩ : ∃ z, z = o + 3 := ⟨_, rfl⟩
  have e1 : ∀ z, z = 11 + o → E.ar .sub .i64 z 8 = o3 := fun z hz => by rw [hE.ar, hz, ho3]; rw [show arR .sub .i64 (11 + o) 8 = IntKind.i64.wrap (11 + o - 8) from rfl, wrap_in (by omega) (by omega)]; omega
  have e2 : ∀ z, z = 8 + o → E.ar .sub .i64 z 5 = o3 := fun z hz => by rw [hE.ar, hz, ho3]; rw [show arR .sub .i64 (8 + o) 5 = IntKind.i64.wrap (8 + o - 5) from rfl, wrap_in (by omega) (by omega)]; omega
  have e3 : E.ar .add .i64 11 o = 11 + o := by rw [hE.ar]; exact wrap_in (by omega) (by omega)
  have e4 : E.ar .add .i64 8 o = 8 + o := by rw [hE.ar]; exact wrap_in (by omega) (by omega)
  have e5 : E.ar .sub .i64 (E.ar .add .i64 11 o) 8 = o3 := e1 _ e3
  have e6 : E.ar .sub .i64 (E.ar .add .i64 8 o) 5 = o3 := e2 _ e4
  (refine st_fld hE fII0 fun p hp => ?_; (conv => cbv); refine st_load hE cInt (by rw [hp]; exact (hq).at _ _ rfl) ?_; clear hp; (conv => cbv))
  simp only [e5]
  (refine st_fld hE fII0 fun p hp => ?_; (conv => cbv); refine st_load hE cInt (by rw [hp]; exact (hq).at _ _ rfl) ?_; clear hp; (conv => cbv))
  have last : ∀ (F : World), Ext w F → True := fun _ _ => trivial
  refine br (fun g => ?_) (fun g => ?_)
  · conv => cbv
    (refine st_fld hE fII0 fun p hp => ?_; (conv => cbv); refine st_load hE cInt (by rw [hp]; exact (hq).at _ _ rfl) ?_; clear hp; (conv => cbv))
    simp only [e6]
    conv => cbv
    refine st_f hr (l3row_f o3 (by omega) (by omega)) fun v w4 hx4 ⟨A5, n5, c5, t5, want, ev, hrow, hw5⟩ => ?_
    subst ev
    conv => cbv
    rw [hR]; exact ⟨hx.trans hx4, A5, n5, c5, t5, rfl, by simp [wantF, g1, g2, g3, g4, g22, g23, g24, g25, ← ho3, hrow]; exact hw5, by simp [pushF, g1, g2, g3, g4, g22, g23, g24, g25, ← ho3, hrow]⟩
  · conv => cbv
    refine st_f hr (l3row_f o3 (by omega) (by omega)) fun v w4 hx4 ⟨A5, n5, c5, t5, want, ev, hrow, hw5⟩ => ?_
    subst ev
    conv => cbv
    rw [hR]; exact ⟨hx.trans hx4, A5, n5, c5, t5, rfl, by simp [wantF, g1, g2, g3, g4, g22, g23, g24, g25, ← ho3, hrow]; exact hw5, by simp [pushF, g1, g2, g3, g4, g22, g23, g24, g25, ← ho3, hrow]⟩
set_option maxHeartbeats 1000000 in
theorem copyOf_f {w : World} {kn : Bool} {A A2 : Option Addr} {n c n2 c2 : Nat} {zs ys : List Int} (h : Ints w A n c zs) (h2 : Ints w A2 n2 c2 ys) (hn : n ≤ 100000) (hn2 : n2 ≤ 100000) :
    FC Tryd.prog 86 [.agg ⟨[.bool kn, .slice A n c, .slice A2 n2 c2]⟩] w fun v w' => ∃ A3 c3 A4 c4, v = .agg ⟨[.bool kn, .slice A3 n c3, .slice A4 n2 c4]⟩ ∧
      Own w.heap.size 3 1 w' A3 n c3 (zs.map (.int .i64)) ∧ Own w.heap.size 3 1 w' A4 n2 c4 (ys.map (.int .i64)) ∧ Apart A3 A4 ∧ Apart A4 A3 := by
  refine FC.intro (cs := []) Tryd.func86 (by kernel_rfl) fun E R hE hr hR => ?_
  have hl := h.len
  have hl2 := h2.len
  conv => cbv
  refine st_box hr fun a w1 hx hb0 => ?_
  have hb := hb0 _ (Nat.le_refl _)
  conv => cbv
  refine st_alloc hr tLS rfl fun o w2 hx2 ho0 => ?_
  have ho := ho0 _ hx.size
  replace hb := hb.bel hx2
  replace hx := hx.trans hx2
  conv => cbv
  (refine st_fld hE fLS0 fun p hp => ?_; (conv => cbv); refine st_load hE cBool (by rw [hp]; exact (hb).at _ _ rfl) ?_; clear hp; (conv => cbv))
  refine st_bLS hE ?_
  conv => cbv
  refine st_alloc hr tLS rfl fun q w3 hx3 hq0 => ?_
  have hq := hq0 _ hx.size
  have aq := (hb.apart (hq0 _ (Nat.le_refl _)) (Nat.le_refl _)).1
  have oq := (ho.apart (hq0 _ (Nat.le_refl _)) (Nat.le_refl _)).1
  replace hb := hb.bel hx3
  replace ho := ho.bel hx3
  replace hx := hx.trans hx3
  clear hb0 ho0 hq0 hx2 hx3
  conv => cbv
  refine st_putS hr (by kernel_rfl) hq (add_zero _).symm (by simp) (by simp [Value.oneCell']) fun w4 hw4 hq4 => ?_
  simp only [List.take_zero, List.nil_append, List.length_cons, List.length_nil, List.drop_succ_cons, List.drop_nil, List.append_nil] at hq4
  replace hx := hx.then (hw4.bel hq hx.size)
  replace hb := hb.wr hw4 aq
  replace ho := ho.wr hw4 oq
  replace hq := hq4
  clear hq4 hw4
  conv => cbv
  (refine st_fld hE fLS1 fun p hp => ?_; (conv => cbv); refine st_load hE cInts (by rw [hp]; exact (hq).at _ _ rfl) ?_; clear hp; (conv => cbv))
  (refine st_fld hE fLS1 fun p hp => ?_; (conv => cbv); refine st_load hE cInts (by rw [hp]; exact (hb).at _ _ rfl) ?_; clear hp; (conv => cbv))
  refine st_apps hr tInts rfl (Own.nil (B := w4.heap.size)) (h.ext hx).cells (by simp [hl]) (by simp [Value.oneCell']) (Nat.le_refl _) (by omega) (by omega) fun A5 c5 n5 w5 hn5 hw5 o5 => ?_
  rw [Nat.zero_add] at hn5
  subst hn5
  have hx5 : Ext w4 w5 := by
    refine (Ext.refl w4).then ⟨hw5.os, hw5.tape, hw5.output, hw5.size, fun i hi => hw5.block i hi ?_⟩
    simp [Eng.blk, Value.ownBlock]
  have q5 := (hq.apart o5 (Nat.le_refl _))
  have x5 := (ho.apart o5 (Nat.le_refl _))
  replace o5 := o5.mono hx.size
  rw [List.nil_append] at o5
  replace hb := hb.bel hx5
  replace ho := ho.bel hx5
  replace hq := hq.bel hx5
  replace hx := hx.trans hx5
  clear hw5 hx5
  conv => cbv
  refine st_fld hE fLS1 fun p hp => ?_
  conv => cbv
  refine st_put hr zInts hq hp (by simp) rfl fun w6 hw6 hq6 => ?_
  simp only [List.set_cons_zero, List.set_cons_succ] at hq6
  replace hx := hx.then (hw6.bel hq hx.size)
  replace hb := hb.wr hw6 aq
  replace ho := ho.wr hw6 oq
  replace o5 := o5.wr hw6 q5.2
  replace hq := hq6
  clear hq6 hw6
  conv => cbv
  (refine st_fld hE fLS2 fun p hp => ?_; (conv => cbv); refine st_load hE cInts (by rw [hp]; exact (hq).at _ _ rfl) ?_; clear hp; (conv => cbv))
  (refine st_fld hE fLS2 fun p hp => ?_; (conv => cbv); refine st_load hE cInts (by rw [hp]; exact (hb).at _ _ rfl) ?_; clear hp; (conv => cbv))
  refine st_apps hr tInts rfl (Own.nil (B := w6.heap.size)) (h2.ext hx).cells (by simp [hl2]) (by simp [Value.oneCell']) (Nat.le_refl _) (by omega) (by omega) fun A7 c7 n7 w7 hn7 hw7 o7 => ?_
  rw [Nat.zero_add] at hn7
  subst hn7
  have hx7 : Ext w6 w7 := by
    refine (Ext.refl w6).then ⟨hw7.os, hw7.tape, hw7.output, hw7.size, fun i hi => hw7.block i hi ?_⟩
    simp [Eng.blk, Value.ownBlock]
  have q7 := (hq.apart o7 (Nat.le_refl _))
  have x7 := (ho.apart o7 (Nat.le_refl _))
  have s57 := (o5.apart o7 (Nat.le_refl _))
  replace o7 := o7.mono hx.size
  rw [List.nil_append] at o7
  replace ho := ho.bel hx7
  replace hq := hq.bel hx7
  replace o5 := o5.bel hx7
  replace hx := hx.trans hx7
  clear hw7 hx7
  conv => cbv
  refine st_fld hE fLS2 fun p hp => ?_
  conv => cbv
  refine st_put hr zInts hq hp (by simp) rfl fun w8 hw8 hq8 => ?_
  simp only [List.set_cons_zero, List.set_cons_succ] at hq8
  replace hx := hx.then (hw8.bel hq hx.size)
  replace ho := ho.wr hw8 oq
  replace o5 := o5.wr hw8 q5.2
  replace o7 := o7.wr hw8 q7.2
  conv => cbv
  refine st_loadS hE tLS rfl hq8.at ?_
  conv => cbv
  refine st_putS hr (by kernel_rfl) ho (add_zero _).symm (by simp) (by simp [Value.oneCell']) fun w9 hw9 ho9 => ?_
  simp only [List.take_zero, List.nil_append, List.length_cons, List.length_nil, List.drop_succ_cons, List.drop_nil, List.append_nil] at ho9
  conv => cbv
  refine st_cell hr tLS rfl ho9.at ?_
  rw [hR]; exact ⟨hx.then (hw9.bel ho hx.size), A5, c5, A7, c7, rfl, o5.wr hw9 x5.2, o7.wr hw9 x7.2, s57.1, s57.2⟩
end Go.Proofs.YtmbonalhbibppaaDoor
