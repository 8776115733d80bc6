/- The laws' helpers over policies: their copy, whether two are one (printed by gen_p1.py). -/
import Derived.Test.YtmbonalhbibppaaDoorP2
namespace Go.Proofs.YtmbonalhbibppaaDoor
open Go.Eng
set_option linter.unusedVariables false
set_option linter.unusedSimpArgs false
theorem toNode_f {w : World} (v : VN) (h : OKN w v) (b_xs : v.m0 ≤ 1048576) (b_ks : v.m1 ≤ 1048576) :
    FC Tryd.prog 72 [.agg ⟨cN v⟩] w fun u w' => ∃ B0 n0 d0 B1 n1 d1, u = .agg ⟨[.int .i64 v.p.o, .int .i64 v.p.z, .string v.p.tx, .slice B0 n0 d0, .slice B1 n1 d1]⟩ ∧ Own w.heap.size 9 1 w' B0 n0 d0 (v.p.xs.map (.string)) ∧ Own w.heap.size 3 1 w' B1 n1 d1 (v.p.ks.map (.int .i64)) := by
  refine FC.intro (cs := []) Tryd.func72 (by kernel_rfl) fun E R hE hr hR => ?_
  obtain ⟨⟨o, z, tx, xs, ks⟩, A0, m0, c0, A1, m1, c1⟩ := v
  have r_xs := h.r_xs
  have r_ks := h.r_ks
  clear h
  simp only at r_xs b_xs r_ks b_ks hR
  conv => cbv
  refine st_box hr fun a w1 hx hb0 => ?_
  have hb := hb0 _ (Nat.le_refl _)
  conv => cbv
  refine st_alloc hr tINd rfl fun oo w2 hx2 ho0 => ?_
  have ho := ho0 _ hx.size
  have hb := hb.bel hx2
  have hx := hx.trans hx2
  conv => cbv
  refine st_alloc hr tINd rfl fun q w3 hx3 hq0 => ?_
  have hq := hq0 _ hx.size
  have aq := (hb.apart (hq0 _ (Nat.le_refl _)) (Nat.le_refl _)).1
  have oq := (ho.apart (hq0 _ (Nat.le_refl _)) (Nat.le_refl _)).1
  have hb := hb.bel hx3
  have ho := ho.bel hx3
  have hx := hx.trans hx3
  clear hb0 ho0 hq0
  conv => cbv
  (refine st_fld hE fLNd0 fun p hp => ?_; (conv => cbv); refine st_load hE cInt (by rw [hp]; exact (hb).at _ _ rfl) ?_; clear hp; (conv => cbv))
  (refine st_fld hE fINd0 fun p hp => ?_; (conv => cbv); refine st_put hr zInt hq hp (by simp) rfl fun wn hw hq2 => ?_; replace hx := hx.then (hw.bel hq hx.size); (try clear hq); (have hq := hq2); clear hq2; (simp only [List.set_cons_zero, List.set_cons_succ] at hq); clear hp)
  replace hb := hb.wr hw aq
  replace ho := ho.wr hw oq
  conv => cbv
  (refine st_fld hE fLNd1 fun p hp => ?_; (conv => cbv); refine st_load hE cI64 (by rw [hp]; exact (hb).at _ _ rfl) ?_; clear hp; (conv => cbv))
  (refine st_fld hE fINd1 fun p hp => ?_; (conv => cbv); refine st_put hr zI64 hq hp (by simp) rfl fun wn hw hq2 => ?_; replace hx := hx.then (hw.bel hq hx.size); (try clear hq); (have hq := hq2); clear hq2; (simp only [List.set_cons_zero, List.set_cons_succ] at hq); clear hp)
  replace hb := hb.wr hw aq
  replace ho := ho.wr hw oq
  conv => cbv
  (refine st_fld hE fLNd2 fun p hp => ?_; (conv => cbv); refine st_load hE cStr (by rw [hp]; exact (hb).at _ _ rfl) ?_; clear hp; (conv => cbv))
  (refine st_fld hE fINd2 fun p hp => ?_; (conv => cbv); refine st_put hr zStr hq hp (by simp) rfl fun wn hw hq2 => ?_; replace hx := hx.then (hw.bel hq hx.size); (try clear hq); (have hq := hq2); clear hq2; (simp only [List.set_cons_zero, List.set_cons_succ] at hq); clear hp)
  replace hb := hb.wr hw aq
  replace ho := ho.wr hw oq
  conv => cbv
  (refine st_fld hE fLNd3 fun p hp => ?_; (conv => cbv); refine st_load hE cStrs (by rw [hp]; exact (hb).at _ _ rfl) ?_; clear hp; (conv => cbv))
  refine st_f hr (toStringS_f (r_xs.ext hx) b_xs) fun u ww hxx ⟨B0, n0, d0, ev, hcp, o_xs⟩ => ?_
  clear hcp
  subst ev
  have ax_xs := (hq.apart o_xs (Nat.le_refl _)).2
  have bx_xs := (ho.apart o_xs (Nat.le_refl _)).2
  replace o_xs := o_xs.mono hx.size
  replace hb := hb.bel hxx
  replace ho := ho.bel hxx
  replace hq := hq.bel hxx
  replace hx := hx.trans hxx
  clear hxx
  conv => cbv
  (refine st_fld hE fINd3 fun p hp => ?_; (conv => cbv); refine st_put hr zStrs hq hp (by simp) rfl fun wn hw hq2 => ?_; replace hx := hx.then (hw.bel hq hx.size); (try clear hq); (have hq := hq2); clear hq2; (simp only [List.set_cons_zero, List.set_cons_succ] at hq); clear hp)
  replace hb := hb.wr hw aq
  replace ho := ho.wr hw oq
  replace o_xs := o_xs.wr hw ax_xs
  conv => cbv
  (refine st_fld hE fLNd4 fun p hp => ?_; (conv => cbv); refine st_load hE cInts (by rw [hp]; exact (hb).at _ _ rfl) ?_; clear hp; (conv => cbv))
  refine st_f hr (toIntS_f (r_ks.ext hx) b_ks) fun u ww hxx ⟨B1, d1, ev, o_ks⟩ => ?_
  subst ev
  have ax_ks := (hq.apart o_ks (Nat.le_refl _)).2
  have bx_ks := (ho.apart o_ks (Nat.le_refl _)).2
  replace o_ks := o_ks.mono hx.size
  replace hb := hb.bel hxx
  replace ho := ho.bel hxx
  replace hq := hq.bel hxx
  replace hx := hx.trans hxx
  replace o_xs := o_xs.bel hxx
  clear hxx
  conv => cbv
  (refine st_fld hE fINd4 fun p hp => ?_; (conv => cbv); refine st_put hr zInts hq hp (by simp) rfl fun wn hw hq2 => ?_; replace hx := hx.then (hw.bel hq hx.size); (try clear hq); (have hq := hq2); clear hq2; (simp only [List.set_cons_zero, List.set_cons_succ] at hq); clear hp)
  replace hb := hb.wr hw aq
  replace ho := ho.wr hw oq
  replace o_xs := o_xs.wr hw ax_xs
  replace o_ks := o_ks.wr hw ax_ks
  conv => cbv
  refine st_loadS hE tINd rfl hq.at ?_
  conv => cbv
  refine st_putS hr (by kernel_rfl) ho (add_zero _).symm (by simp) (by simp [Value.oneCell']) fun w5 hw5 ho5 => ?_
  simp only [List.take_zero, List.nil_append, List.length_cons, List.length_nil, List.drop_succ_cons, List.drop_nil, List.append_nil] at ho5
  conv => cbv
  refine st_cell hr tINd rfl ho5.at ?_
  rw [hR]; exact ⟨hx.then (hw5.bel ho hx.size), B0, n0, d0, B1, _, d1, rfl, o_xs.wr hw5 bx_xs, o_ks.wr hw5 bx_ks⟩
def v0N : VN := (⟨⟨0, 0, ⟨#[]⟩, [], []⟩, none, 0, 0, none, 0, 0⟩ : VN)
set_option maxHeartbeats 1000000 in
theorem toNodeS_f {w : World} {A : Option Addr} {n c : Nat} {pv : List PN} (h : RNs w A n pv) (hn : n ≤ 1048576) (hp_xs : ∀ p ∈ pv, p.xs.length ≤ 1048576) (hp_ks : ∀ p ∈ pv, p.ks.length ≤ 1048576) :
    FC Tryd.prog 34 [.slice A n c] w fun v w' => ∃ A1 c1, v = .slice A1 n c1 ∧ ∀ w2, Above w.heap.size w' w2 → RNs w2 A1 n pv := by
  refine FC.intro (cs := []) Tryd.func34 (by kernel_rfl) fun E R hE hr hR => ?_
  have hl := h.len
  conv => cbv
  refine st_len hE sLNd fun x hx => ?_
  conv => cbv
  refine st_makeK hr sINd rfl (m := n) (by omega) (by omega) (by omega) fun A1 w1 hx1 h10 => ?_
  have h1 := h10 _ (Nat.le_refl _)
  rw [show (Value.agg ⟨zNd⟩).cells = ⟨cN v0N⟩ from rfl, made_fl (f := cN) v0N n 5 rfl (by omega)] at h1
  conv => cbv
  refine loop_rule hr (fun (s : Nat × Int × List VN) w' => s.1 ≤ n ∧ s.2.1 = (s.1 : Int) ∧ s.2.2.length = s.1 ∧ s.2.2.map (·.p) = pv.take s.1 ∧ Ext w w' ∧ Own w.heap.size 137 5 w' A1 n n ((s.2.2 ++ List.replicate (n - s.1) v0N).flatMap cN) ∧
      (∀ v ∈ s.2.2, Own w1.heap.size 9 1 w' v.A0 v.m0 v.c0 (v.p.xs.map (.string)) ∧ Own w1.heap.size 3 1 w' v.A1 v.m1 v.c1 (v.p.ks.map (.int .i64)) ∧ v.p.tx.size ≤ 9223372036854775807 ∧ (∀ u ∈ v.p.xs, u.size ≤ 9223372036854775807)) ∧ w1.heap.size ≤ w'.heap.size)
    (fun s => [(0, .slice A n c), (3, .slice A1 n n), (4, .int .i64 s.2.1)]) (fun s => n - s.1) (0, 0, [])
    (by simp [Fits, lk]) ⟨by simp, by simp, rfl, by simp, hx1, by simpa using h1, by simp, Nat.le_refl _⟩ ?_
  rintro I hI ⟨i, ii, ds⟩ w' ⟨hi, hii, hdl, hdp, hxw, ho, hds, hsz⟩
  simp only at hi hii hdl hdp ho hds
  obtain ⟨ii', hii'⟩ : ∃ z, z = ii + 1 := ⟨_, rfl⟩
  conv => cbv
  refine st_len hE sLNd fun x2 hx2 => ?_
  conv => cbv
  refine br (fun g2 => ?_) (fun g2 => ?_)
  · have g2 : i < n := by
      have : ii < x2 := by simpa [hE.cmp, cmpR] using g2
      omega
    have ei : E.ar .add .i64 ii 1 = ii' := by rw [hE.ar, hii']; exact wrap_in (by omega) (by omega)
    obtain ⟨a, v, hA, hg, hc, hok⟩ := (h.ext hxw).get g2
    have hb_xs : v.m0 ≤ 1048576 := by rw [← hok.r_xs.len]; exact hp_xs _ (List.mem_of_getElem? hg)
    have hb_ks : v.m1 ≤ 1048576 := by rw [← hok.r_ks.len]; exact hp_ks _ (List.mem_of_getElem? hg)
    obtain ⟨gb, rfl, _⟩ := ho.addr (by omega)
    conv => cbv
    refine st_idx hE sLNd hA (by omega) (by omega) fun q hq => ?_
    rw [show ii.toNat = i by omega] at hq
    conv => cbv
    refine st_loadS hE tLNd (vs := cN v) rfl (by rw [hq]; exact hc) ?_
    obtain ⟨cv, hcv⟩ : ∃ cv, cv = cN v := ⟨_, rfl⟩
    rw [← hcv]
    conv => cbv
    rw [hcv]
    refine st_f hr (toNode_f v hok hb_xs hb_ks) fun u w2 hx3 ⟨B0, n0, d0, B1, n1, d1, ev, o_xs, o_ks⟩ => ?_
    subst ev
    rw [← hcv]

    replace o_xs := o_xs.mono hsz
    replace o_ks := o_ks.mono hsz
    have ap : ∀ {e m5 c5 ys A5}, Own w1.heap.size e 1 w2 A5 m5 c5 ys → Apart A5 (some ⟨gb, 0, none⟩) := fun h5 => (h1.apart h5 (Nat.le_refl _)).2
    replace ho := ho.bel hx3
    have hds2 : ∀ v ∈ ds, Own w1.heap.size 9 1 w2 v.A0 v.m0 v.c0 (v.p.xs.map (.string)) ∧ Own w1.heap.size 3 1 w2 v.A1 v.m1 v.c1 (v.p.ks.map (.int .i64)) ∧ v.p.tx.size ≤ 9223372036854775807 ∧ (∀ u ∈ v.p.xs, u.size ≤ 9223372036854775807) := fun v hv => by
      obtain ⟨k0, k1, k2, k3⟩ := hds v hv
      exact ⟨k0.bel hx3, k1.bel hx3, k2, k3⟩
    replace hxw := hxw.trans hx3
    conv => cbv
    refine st_idx hE sINd rfl (by omega) (by omega) fun q1 hq1 => ?_
    rw [show ii.toNat = i by omega] at hq1
    conv => cbv
    obtain ⟨y, hy⟩ : ∃ y : VN, y = ⟨v.p, B0, n0, d0, B1, n1, d1⟩ := ⟨_, rfl⟩
    refine st_putS hr (vs := [.int .i64 v.p.o, .int .i64 v.p.z, .string v.p.tx, .slice B0 n0 d0, .slice B1 n1 d1]) (by kernel_rfl) ho (j := i * 5) hq1 (by rw [fl_len cN_len]; simp; omega) (by simp [Value.oneCell']) fun w3 hw3 ho3 => ?_
    rw [show ([.int .i64 v.p.o, .int .i64 v.p.z, .string v.p.tx, .slice B0 n0 d0, .slice B1 n1 d1] : List Value) = cN y by rw [hy]; rfl, fl_put cN_len _ i y (by simp; omega)] at ho3
    have hset : (ds ++ List.replicate (n - i) v0N).set i y = (ds ++ [y]) ++ List.replicate (n - (i + 1)) v0N := by
      rw [List.set_append_right _ _ (by omega), hdl, Nat.sub_self, show n - i = (n - (i + 1)) + 1 by omega, List.replicate_succ, List.set_cons_zero, List.append_assoc]; rfl
    rw [hset] at ho3
    conv => cbv
    simp only [ei]
    refine ⟨(i + 1, ii', ds ++ [y]), by simp [Fits, lk], hI _ _ ⟨by simp only; omega, by simp only; omega, by simp [hdl], ?_, hxw.then (hw3.bel ho hxw.size), ho3, ?_, ?_⟩, by simp only; omega⟩
    · simp only
      rw [List.map_append, hdp, List.take_add_one, hg, hy]; rfl
    · intro v2 hv
      rcases List.mem_append.1 hv with hv | hv
      · obtain ⟨k0, k1, k2, k3⟩ := hds2 v2 hv
        exact ⟨k0.wr hw3 (ap k0), k1.wr hw3 (ap k1), k2, k3⟩
      · simp at hv
        subst hv
        rw [hy]
        exact ⟨o_xs.wr hw3 (ap o_xs), o_ks.wr hw3 (ap o_ks), hok.s_tx, hok.r_xs.small⟩
    · have := hw3.size; have := hx3.size; omega
  · have g2 : i = n := by
      have : ¬ ii < x2 := by simpa [hE.cmp, cmpR] using g2
      omega
    subst g2
    rw [List.take_of_length_le (by omega)] at hdp
    simp only [Nat.sub_self, List.replicate_zero, List.append_nil] at ho
    conv => cbv
    rw [hR]; refine ⟨hxw, A1, i, rfl, fun w2 ha => ⟨ds, hdp, hdl, (ho.above ha).cells, fun v hv => ?_⟩⟩
    obtain ⟨k0, k1, k2, k3⟩ := hds v hv
    exact ⟨k2, ((k0.mono hx1.size).above ha).strs k3, ((k1.mono hx1.size).above ha).ints⟩
theorem toStmt_f {w : World} (v : VS) (h : OKS w v) :
    FC Tryd.prog 73 [.agg ⟨cS v⟩] w fun u w' => u = .agg ⟨[.int .i64 v.k, .string v.nm, .int .i64 v.c, .int .i64 v.g]⟩ := by
  refine FC.intro (cs := []) Tryd.func73 (by kernel_rfl) fun E R hE hr hR => ?_
  obtain ⟨k, nm, c, g⟩ := v
  simp only at hR
  conv => cbv
  refine st_box hr fun a w1 hx hb0 => ?_
  have hb := hb0 _ (Nat.le_refl _)
  conv => cbv
  refine st_alloc hr tISd rfl fun oo w2 hx2 ho0 => ?_
  have ho := ho0 _ hx.size
  have hb := hb.bel hx2
  have hx := hx.trans hx2
  conv => cbv
  refine st_alloc hr tISd rfl fun q w3 hx3 hq0 => ?_
  have hq := hq0 _ hx.size
  have aq := (hb.apart (hq0 _ (Nat.le_refl _)) (Nat.le_refl _)).1
  have oq := (ho.apart (hq0 _ (Nat.le_refl _)) (Nat.le_refl _)).1
  have hb := hb.bel hx3
  have ho := ho.bel hx3
  have hx := hx.trans hx3
  clear hb0 ho0 hq0
  conv => cbv
  (refine st_fld hE fLSd0 fun p hp => ?_; (conv => cbv); refine st_load hE cInt (by rw [hp]; exact (hb).at _ _ rfl) ?_; clear hp; (conv => cbv))
  (refine st_fld hE fISd0 fun p hp => ?_; (conv => cbv); refine st_put hr zInt hq hp (by simp) rfl fun wn hw hq2 => ?_; replace hx := hx.then (hw.bel hq hx.size); (try clear hq); (have hq := hq2); clear hq2; (simp only [List.set_cons_zero, List.set_cons_succ] at hq); clear hp)
  replace hb := hb.wr hw aq
  replace ho := ho.wr hw oq
  conv => cbv
  (refine st_fld hE fLSd1 fun p hp => ?_; (conv => cbv); refine st_load hE cStr (by rw [hp]; exact (hb).at _ _ rfl) ?_; clear hp; (conv => cbv))
  (refine st_fld hE fISd1 fun p hp => ?_; (conv => cbv); refine st_put hr zStr hq hp (by simp) rfl fun wn hw hq2 => ?_; replace hx := hx.then (hw.bel hq hx.size); (try clear hq); (have hq := hq2); clear hq2; (simp only [List.set_cons_zero, List.set_cons_succ] at hq); clear hp)
  replace hb := hb.wr hw aq
  replace ho := ho.wr hw oq
  conv => cbv
  (refine st_fld hE fLSd2 fun p hp => ?_; (conv => cbv); refine st_load hE cInt (by rw [hp]; exact (hb).at _ _ rfl) ?_; clear hp; (conv => cbv))
  (refine st_fld hE fISd2 fun p hp => ?_; (conv => cbv); refine st_put hr zInt hq hp (by simp) rfl fun wn hw hq2 => ?_; replace hx := hx.then (hw.bel hq hx.size); (try clear hq); (have hq := hq2); clear hq2; (simp only [List.set_cons_zero, List.set_cons_succ] at hq); clear hp)
  replace hb := hb.wr hw aq
  replace ho := ho.wr hw oq
  conv => cbv
  (refine st_fld hE fLSd3 fun p hp => ?_; (conv => cbv); refine st_load hE cInt (by rw [hp]; exact (hb).at _ _ rfl) ?_; clear hp; (conv => cbv))
  (refine st_fld hE fISd3 fun p hp => ?_; (conv => cbv); refine st_put hr zInt hq hp (by simp) rfl fun wn hw hq2 => ?_; replace hx := hx.then (hw.bel hq hx.size); (try clear hq); (have hq := hq2); clear hq2; (simp only [List.set_cons_zero, List.set_cons_succ] at hq); clear hp)
  replace hb := hb.wr hw aq
  replace ho := ho.wr hw oq
  conv => cbv
  refine st_loadS hE tISd rfl hq.at ?_
  conv => cbv
  refine st_putS hr (by kernel_rfl) ho (add_zero _).symm (by simp) (by simp [Value.oneCell']) fun w5 hw5 ho5 => ?_
  simp only [List.take_zero, List.nil_append, List.length_cons, List.length_nil, List.drop_succ_cons, List.drop_nil, List.append_nil] at ho5
  conv => cbv
  refine st_cell hr tISd rfl ho5.at ?_
  rw [hR]; exact ⟨hx.then (hw5.bel ho hx.size), rfl⟩
def v0S : VS := (⟨0, ⟨#[]⟩, 0, 0⟩ : VS)
set_option maxHeartbeats 1000000 in
theorem toStmtS_f {w : World} {A : Option Addr} {n c : Nat} {pv : List PS} (h : RSs w A n pv) (hn : n ≤ 1048576) :
    FC Tryd.prog 35 [.slice A n c] w fun v w' => ∃ A1 c1, v = .slice A1 n c1 ∧ ∀ w2, Above w.heap.size w' w2 → RSs w2 A1 n pv := by
  refine FC.intro (cs := []) Tryd.func35 (by kernel_rfl) fun E R hE hr hR => ?_
  have hl := h.len
  conv => cbv
  refine st_len hE sLSd fun x hx => ?_
  conv => cbv
  refine st_makeK hr sISd rfl (m := n) (by omega) (by omega) (by omega) fun A1 w1 hx1 h10 => ?_
  have h1 := h10 _ (Nat.le_refl _)
  rw [show (Value.agg ⟨zSd⟩).cells = ⟨cS v0S⟩ from rfl, made_fl (f := cS) v0S n 4 rfl (by omega)] at h1
  conv => cbv
  refine loop_rule hr (fun (s : Nat × Int × List VS) w' => s.1 ≤ n ∧ s.2.1 = (s.1 : Int) ∧ s.2.2.length = s.1 ∧ s.2.2 = pv.take s.1 ∧ Ext w w' ∧ Own w.heap.size 139 4 w' A1 n n ((s.2.2 ++ List.replicate (n - s.1) v0S).flatMap cS) ∧
      (∀ v ∈ s.2.2, v.nm.size ≤ 9223372036854775807) ∧ w1.heap.size ≤ w'.heap.size)
    (fun s => [(0, .slice A n c), (3, .slice A1 n n), (4, .int .i64 s.2.1)]) (fun s => n - s.1) (0, 0, [])
    (by simp [Fits, lk]) ⟨by simp, by simp, rfl, by simp, hx1, by simpa using h1, by simp, Nat.le_refl _⟩ ?_
  rintro I hI ⟨i, ii, ds⟩ w' ⟨hi, hii, hdl, hdp, hxw, ho, hds, hsz⟩
  simp only at hi hii hdl hdp ho hds
  obtain ⟨ii', hii'⟩ : ∃ z, z = ii + 1 := ⟨_, rfl⟩
  conv => cbv
  refine st_len hE sLSd fun x2 hx2 => ?_
  conv => cbv
  refine br (fun g2 => ?_) (fun g2 => ?_)
  · have g2 : i < n := by
      have : ii < x2 := by simpa [hE.cmp, cmpR] using g2
      omega
    have ei : E.ar .add .i64 ii 1 = ii' := by rw [hE.ar, hii']; exact wrap_in (by omega) (by omega)
    obtain ⟨a, v, hA, hg, hc, hok⟩ := (h.ext hxw).get g2
    obtain ⟨gb, rfl, _⟩ := ho.addr (by omega)
    conv => cbv
    refine st_idx hE sLSd hA (by omega) (by omega) fun q hq => ?_
    rw [show ii.toNat = i by omega] at hq
    conv => cbv
    refine st_loadS hE tLSd (vs := cS v) rfl (by rw [hq]; exact hc) ?_
    obtain ⟨cv, hcv⟩ : ∃ cv, cv = cS v := ⟨_, rfl⟩
    rw [← hcv]
    conv => cbv
    rw [hcv]
    refine st_f hr (toStmt_f v hok) fun u w2 hx3 ev => ?_
    subst ev
    rw [← hcv]

    replace ho := ho.bel hx3
    have hds2 : ∀ v ∈ ds, v.nm.size ≤ 9223372036854775807 := fun v hv => by
      have k0 := hds v hv
      exact k0
    replace hxw := hxw.trans hx3
    conv => cbv
    refine st_idx hE sISd rfl (by omega) (by omega) fun q1 hq1 => ?_
    rw [show ii.toNat = i by omega] at hq1
    conv => cbv
    obtain ⟨y, hy⟩ : ∃ y : VS, y = v := ⟨_, rfl⟩
    refine st_putS hr (vs := [.int .i64 v.k, .string v.nm, .int .i64 v.c, .int .i64 v.g]) (by kernel_rfl) ho (j := i * 4) hq1 (by rw [fl_len cS_len]; simp; omega) (by simp [Value.oneCell']) fun w3 hw3 ho3 => ?_
    rw [show ([.int .i64 v.k, .string v.nm, .int .i64 v.c, .int .i64 v.g] : List Value) = cS y by rw [hy]; rfl, fl_put cS_len _ i y (by simp; omega)] at ho3
    have hset : (ds ++ List.replicate (n - i) v0S).set i y = (ds ++ [y]) ++ List.replicate (n - (i + 1)) v0S := by
      rw [List.set_append_right _ _ (by omega), hdl, Nat.sub_self, show n - i = (n - (i + 1)) + 1 by omega, List.replicate_succ, List.set_cons_zero, List.append_assoc]; rfl
    rw [hset] at ho3
    conv => cbv
    simp only [ei]
    refine ⟨(i + 1, ii', ds ++ [y]), by simp [Fits, lk], hI _ _ ⟨by simp only; omega, by simp only; omega, by simp [hdl], ?_, hxw.then (hw3.bel ho hxw.size), ho3, ?_, ?_⟩, by simp only; omega⟩
    · simp only
      rw [hdp, List.take_add_one, hg, hy]; rfl
    · intro v2 hv
      rcases List.mem_append.1 hv with hv | hv
      · have k0 := hds2 v2 hv
        exact k0
      · simp at hv
        subst hv
        rw [hy]
        exact hok.s_nm
    · have := hw3.size; have := hx3.size; omega
  · have g2 : i = n := by
      have : ¬ ii < x2 := by simpa [hE.cmp, cmpR] using g2
      omega
    subst g2
    rw [List.take_of_length_le (by omega)] at hdp
    simp only [Nat.sub_self, List.replicate_zero, List.append_nil] at ho
    conv => cbv
    rw [hR]; refine ⟨hxw, A1, i, rfl, fun w2 ha => ⟨ds, hdp, hdl, (ho.above ha).cells, fun v hv => ?_⟩⟩
    have k0 := hds v hv
    exact ⟨k0⟩
theorem eqNode_f {w : World} (v u : VN) (h : OKN w v) (h1 : OKN w u) (he : v.p = u.p) :
    FC Tryd.prog 79 [.agg ⟨cN v⟩, .agg ⟨cN u⟩] w fun r _ => r = .bool true := by
  refine FC.intro (cs := []) Tryd.func79 (by kernel_rfl) fun E R hE hr hR => ?_
  have ei : ∀ z : Int, ¬ E.cmp .neq z z = true := fun z => by rw [hE.cmp]; simp [cmpR]
  have es : ∀ z : ByteArray, ¬ E.scmp .neq z z = true := fun z => by rw [hE.scmp, scmp_neq]; simp
  obtain ⟨⟨o, z, tx, xs, ks⟩, A0, m0, c0, A1, m1, c1⟩ := v
  obtain ⟨p2, B0, n0, d0, B1, n1, d1⟩ := u
  simp only at he
  subst he
  have r_xs := h.r_xs
  have u_xs := h1.r_xs
  have r_ks := h.r_ks
  have u_ks := h1.r_ks
  clear h h1
  simp only at r_xs u_xs r_ks u_ks
  conv => cbv
  refine st_box hr fun a w1 hx ha0 => ?_
  have ha := ha0 _ (Nat.le_refl _)
  conv => cbv
  refine st_box hr fun b w2 hx2 hb0 => ?_
  have hb := hb0 _ hx.size
  replace ha := ha.bel hx2
  replace hx := hx.trans hx2
  clear ha0 hb0
  conv => cbv
  (refine st_fld hE fINd0 fun p hp => ?_; (conv => cbv); refine st_load hE cInt (by rw [hp]; exact (ha).at _ _ rfl) ?_; clear hp; (conv => cbv))
  (refine st_fld hE fINd0 fun p hp => ?_; (conv => cbv); refine st_load hE cInt (by rw [hp]; exact (hb).at _ _ rfl) ?_; clear hp; (conv => cbv))
  refine br (fun g => absurd g (ei _)) (fun _ => ?_)
  conv => cbv
  (refine st_fld hE fINd1 fun p hp => ?_; (conv => cbv); refine st_load hE cI64 (by rw [hp]; exact (ha).at _ _ rfl) ?_; clear hp; (conv => cbv))
  (refine st_fld hE fINd1 fun p hp => ?_; (conv => cbv); refine st_load hE cI64 (by rw [hp]; exact (hb).at _ _ rfl) ?_; clear hp; (conv => cbv))
  refine br (fun g => absurd g (ei _)) (fun _ => ?_)
  conv => cbv
  (refine st_fld hE fINd2 fun p hp => ?_; (conv => cbv); refine st_load hE cStr (by rw [hp]; exact (ha).at _ _ rfl) ?_; clear hp; (conv => cbv))
  (refine st_fld hE fINd2 fun p hp => ?_; (conv => cbv); refine st_load hE cStr (by rw [hp]; exact (hb).at _ _ rfl) ?_; clear hp; (conv => cbv))
  refine br (fun g => absurd g (es _)) (fun _ => ?_)
  conv => cbv
  (refine st_fld hE fINd3 fun p hp => ?_; (conv => cbv); refine st_load hE cStrs (by rw [hp]; exact (ha).at _ _ rfl) ?_; clear hp; (conv => cbv))
  (refine st_fld hE fINd3 fun p hp => ?_; (conv => cbv); refine st_load hE cStrs (by rw [hp]; exact (hb).at _ _ rfl) ?_; clear hp; (conv => cbv))
  refine st_qb hE (eqStringS_q (r_xs.ext hx) (u_xs.ext hx)) fun v hv ww hss => ?_
  obtain rfl : v = true := hv.2 rfl
  replace ha := ha.bel hss.ext
  replace hb := hb.bel hss.ext
  replace hx := hx.trans hss.ext
  clear hss hv
  conv => cbv
  (refine st_fld hE fINd4 fun p hp => ?_; (conv => cbv); refine st_load hE cInts (by rw [hp]; exact (ha).at _ _ rfl) ?_; clear hp; (conv => cbv))
  (refine st_fld hE fINd4 fun p hp => ?_; (conv => cbv); refine st_load hE cInts (by rw [hp]; exact (hb).at _ _ rfl) ?_; clear hp; (conv => cbv))
  refine st_qb hE (eqIntS_q (r_ks.ext hx) (u_ks.ext hx)) fun v hv ww hss => ?_
  obtain rfl : v = true := hv.2 rfl
  replace ha := ha.bel hss.ext
  replace hb := hb.bel hss.ext
  replace hx := hx.trans hss.ext
  clear hss hv
  conv => cbv
  rw [hR]; exact ⟨hx, rfl⟩
theorem eqNodeS_f {w : World} {A A1 : Option Addr} {n c c1 : Nat} {xs : List PN} (h : RNs w A n xs) (h1 : RNs w A1 n xs) (hn : n ≤ 9223372036854775807) :
    FC Tryd.prog 37 [.slice A n c, .slice A1 n c1] w fun v _ => v = .bool true := by
  refine FC.intro (cs := []) Tryd.func37 (by kernel_rfl) fun E R hE hr hR => ?_
  have ei : ∀ z : Int, ¬ E.cmp .neq z z = true := fun z => by rw [hE.cmp]; simp [cmpR]
  conv => cbv
  refine st_len hE sINd fun x hx => ?_
  conv => cbv
  refine st_len hE sINd fun x' hx' => ?_
  obtain rfl : x = x' := by rw [hx, hx']
  conv => cbv
  refine br (fun g => absurd g (ei _)) (fun _ => ?_)
  conv => cbv
  refine loop_rule hr (fun (s : Nat × Int) w' => s.1 ≤ n ∧ s.2 = (s.1 : Int) ∧ Ext w w') (fun s => [(0, .slice A n c), (1, .slice A1 n c1), (5, .int .i64 s.2)]) (fun s => n - s.1) (0, 0)
    (by simp [Fits, lk]) ⟨by simp, by simp, Ext.refl _⟩ ?_
  rintro I hI ⟨i, z⟩ w' ⟨hi, hz, hxw⟩
  simp only at hi hz
  obtain ⟨z', hz'⟩ : ∃ z', z' = z + 1 := ⟨_, rfl⟩
  conv => cbv
  refine st_len hE sINd fun y hy => ?_
  conv => cbv
  refine br (fun g => ?_) (fun g => ?_)
  · have g : i < n := by
      have : z < y := by simpa [hE.cmp, cmpR] using g
      omega
    have e1 : E.ar .add .i64 z 1 = z' := by rw [hE.ar, hz']; exact wrap_in (by omega) (by omega)
    conv => cbv
    refine draw_h [0, 1, 2, 3, 4, 5, 6, 7] [(8, false), (9, false)] hr fol (by kernel_rfl) fun E' hE' w0 hs0 S hS => ?_
    replace hxw := hxw.trans hs0.ext
    obtain ⟨a, v, hA, hg, hc, hv⟩ := (h.ext hxw).get g
    obtain ⟨a1, u, hA1, hg1, hc1, hu⟩ := (h1.ext hxw).get g
    have he : v.p = u.p := by rw [hg] at hg1; exact Option.some.inj hg1
    conv => cbv
    refine st_idx hE' sINd hA (by omega) (by omega) fun q hq => ?_
    rw [show z.toNat = i by omega] at hq
    conv => cbv
    refine st_loadS hE' tINd (vs := cN v) rfl (by rw [hq]; exact hc) ?_
    obtain ⟨cv, hcv⟩ : ∃ cv, cv = cN v := ⟨_, rfl⟩
    rw [← hcv]
    conv => cbv
    refine st_idx hE' sINd hA1 (by omega) (by omega) fun q1 hq1 => ?_
    rw [show z.toNat = i by omega] at hq1
    conv => cbv
    refine st_loadS hE' tINd (vs := cN u) rfl (by rw [hq1]; exact hc1) ?_
    obtain ⟨cu, hcu⟩ : ∃ cu, cu = cN u := ⟨_, rfl⟩
    rw [← hcu]
    conv => cbv
    rw [hcv, hcu]
    refine st_f hr (eqNode_f v u hv hu he) fun r w2 hx2 ev => ?_
    subst ev
    rw [← hcv, ← hcu]
    replace hxw := hxw.trans hx2
    refine ⟨hS _ hx2, ?_⟩
    conv => cbv
    refine ⟨hS _ hx2, ?_⟩
    conv => cbv
    simp only [e1]
    exact ⟨(i + 1, z'), by simp [Fits, lk], hI _ _ ⟨by simp only; omega, by simp only; omega, hxw⟩, by simp only; omega⟩
  · conv => cbv
    rw [hR]; exact ⟨hxw, rfl⟩
theorem eqStmt_f {w : World} (v u : VS) (h : OKS w v) (h1 : OKS w u) (he : v = u) :
    FC Tryd.prog 80 [.agg ⟨cS v⟩, .agg ⟨cS u⟩] w fun r _ => r = .bool true := by
  refine FC.intro (cs := []) Tryd.func80 (by kernel_rfl) fun E R hE hr hR => ?_
  have ei : ∀ z : Int, ¬ E.cmp .neq z z = true := fun z => by rw [hE.cmp]; simp [cmpR]
  have es : ∀ z : ByteArray, ¬ E.scmp .neq z z = true := fun z => by rw [hE.scmp, scmp_neq]; simp
  subst he
  obtain ⟨k, nm, c, g⟩ := v
  clear h h1
  conv => cbv
  refine st_box hr fun a w1 hx ha0 => ?_
  have ha := ha0 _ (Nat.le_refl _)
  conv => cbv
  refine st_box hr fun b w2 hx2 hb0 => ?_
  have hb := hb0 _ hx.size
  replace ha := ha.bel hx2
  replace hx := hx.trans hx2
  clear ha0 hb0
  conv => cbv
  (refine st_fld hE fISd0 fun p hp => ?_; (conv => cbv); refine st_load hE cInt (by rw [hp]; exact (ha).at _ _ rfl) ?_; clear hp; (conv => cbv))
  (refine st_fld hE fISd0 fun p hp => ?_; (conv => cbv); refine st_load hE cInt (by rw [hp]; exact (hb).at _ _ rfl) ?_; clear hp; (conv => cbv))
  refine br (fun g => absurd g (ei _)) (fun _ => ?_)
  conv => cbv
  (refine st_fld hE fISd1 fun p hp => ?_; (conv => cbv); refine st_load hE cStr (by rw [hp]; exact (ha).at _ _ rfl) ?_; clear hp; (conv => cbv))
  (refine st_fld hE fISd1 fun p hp => ?_; (conv => cbv); refine st_load hE cStr (by rw [hp]; exact (hb).at _ _ rfl) ?_; clear hp; (conv => cbv))
  refine br (fun g => absurd g (es _)) (fun _ => ?_)
  conv => cbv
  (refine st_fld hE fISd2 fun p hp => ?_; (conv => cbv); refine st_load hE cInt (by rw [hp]; exact (ha).at _ _ rfl) ?_; clear hp; (conv => cbv))
  (refine st_fld hE fISd2 fun p hp => ?_; (conv => cbv); refine st_load hE cInt (by rw [hp]; exact (hb).at _ _ rfl) ?_; clear hp; (conv => cbv))
  refine br (fun g => absurd g (ei _)) (fun _ => ?_)
  conv => cbv
  (refine st_fld hE fISd3 fun p hp => ?_; (conv => cbv); refine st_load hE cInt (by rw [hp]; exact (ha).at _ _ rfl) ?_; clear hp; (conv => cbv))
  (refine st_fld hE fISd3 fun p hp => ?_; (conv => cbv); refine st_load hE cInt (by rw [hp]; exact (hb).at _ _ rfl) ?_; clear hp; (conv => cbv))
  refine br (fun g => absurd g (ei _)) (fun _ => ?_)
  conv => cbv
  rw [hR]; exact ⟨hx, rfl⟩
theorem eqStmtS_f {w : World} {A A1 : Option Addr} {n c c1 : Nat} {xs : List PS} (h : RSs w A n xs) (h1 : RSs w A1 n xs) (hn : n ≤ 9223372036854775807) :
    FC Tryd.prog 38 [.slice A n c, .slice A1 n c1] w fun v _ => v = .bool true := by
  refine FC.intro (cs := []) Tryd.func38 (by kernel_rfl) fun E R hE hr hR => ?_
  have ei : ∀ z : Int, ¬ E.cmp .neq z z = true := fun z => by rw [hE.cmp]; simp [cmpR]
  conv => cbv
  refine st_len hE sISd fun x hx => ?_
  conv => cbv
  refine st_len hE sISd fun x' hx' => ?_
  obtain rfl : x = x' := by rw [hx, hx']
  conv => cbv
  refine br (fun g => absurd g (ei _)) (fun _ => ?_)
  conv => cbv
  refine loop_rule hr (fun (s : Nat × Int) w' => s.1 ≤ n ∧ s.2 = (s.1 : Int) ∧ Ext w w') (fun s => [(0, .slice A n c), (1, .slice A1 n c1), (5, .int .i64 s.2)]) (fun s => n - s.1) (0, 0)
    (by simp [Fits, lk]) ⟨by simp, by simp, Ext.refl _⟩ ?_
  rintro I hI ⟨i, z⟩ w' ⟨hi, hz, hxw⟩
  simp only at hi hz
  obtain ⟨z', hz'⟩ : ∃ z', z' = z + 1 := ⟨_, rfl⟩
  conv => cbv
  refine st_len hE sISd fun y hy => ?_
  conv => cbv
  refine br (fun g => ?_) (fun g => ?_)
  · have g : i < n := by
      have : z < y := by simpa [hE.cmp, cmpR] using g
      omega
    have e1 : E.ar .add .i64 z 1 = z' := by rw [hE.ar, hz']; exact wrap_in (by omega) (by omega)
    conv => cbv
    refine draw_h [0, 1, 2, 3, 4, 5, 6, 7] [(8, false), (9, false)] hr fol (by kernel_rfl) fun E' hE' w0 hs0 S hS => ?_
    replace hxw := hxw.trans hs0.ext
    obtain ⟨a, v, hA, hg, hc, hv⟩ := (h.ext hxw).get g
    obtain ⟨a1, u, hA1, hg1, hc1, hu⟩ := (h1.ext hxw).get g
    have he : v = u := by rw [hg] at hg1; exact Option.some.inj hg1
    conv => cbv
    refine st_idx hE' sISd hA (by omega) (by omega) fun q hq => ?_
    rw [show z.toNat = i by omega] at hq
    conv => cbv
    refine st_loadS hE' tISd (vs := cS v) rfl (by rw [hq]; exact hc) ?_
    obtain ⟨cv, hcv⟩ : ∃ cv, cv = cS v := ⟨_, rfl⟩
    rw [← hcv]
    conv => cbv
    refine st_idx hE' sISd hA1 (by omega) (by omega) fun q1 hq1 => ?_
    rw [show z.toNat = i by omega] at hq1
    conv => cbv
    refine st_loadS hE' tISd (vs := cS u) rfl (by rw [hq1]; exact hc1) ?_
    obtain ⟨cu, hcu⟩ : ∃ cu, cu = cS u := ⟨_, rfl⟩
    rw [← hcu]
    conv => cbv
    rw [hcv, hcu]
    refine st_f hr (eqStmt_f v u hv hu he) fun r w2 hx2 ev => ?_
    subst ev
    rw [← hcv, ← hcu]
    replace hxw := hxw.trans hx2
    refine ⟨hS _ hx2, ?_⟩
    conv => cbv
    refine ⟨hS _ hx2, ?_⟩
    conv => cbv
    simp only [e1]
    exact ⟨(i + 1, z'), by simp [Fits, lk], hI _ _ ⟨by simp only; omega, by simp only; omega, hxw⟩, by simp only; omega⟩
  · conv => cbv
    rw [hR]; exact ⟨hxw, rfl⟩
end Go.Proofs.YtmbonalhbibppaaDoor
