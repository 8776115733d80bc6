/- The laws' helpers over compiled policies: their size, their copy, whether two are one. -/
import Derived.Test.YtmbonalhbibppaaDoorV1
import Derived.Test.YtmbonalhbibppaaDoorEng12
namespace Go.Proofs.YtmbonalhbibppaaDoor
open Go.Eng
set_option linter.unusedVariables false
theorem szValue_f {w : World} {k z : Int} {tx : ByteArray} {A : Option Addr} {m c : Nat} {xs : List ByteArray} (h : Strs w A m c xs) (ht : tx.size ≤ 9223372036854775807) (l : Int) (h0 : 0 ≤ l) (h1 : l ≤ 1048576) :
    FC Tryd.prog 81 [.agg ⟨[.int .i64 k, .int .i64 z, .string tx, .slice A m c]⟩, .int .i64 l] w fun v _ => ∃ r : Int, v = .int .i64 r ∧ r ≤ l ∧ (0 ≤ r → m ≤ 1048576) := by
  refine FC.intro (cs := []) Tryd.func81 (by kernel_rfl) fun E R hE hr hR => ?_
  conv => cbv
  refine st_box hr fun a w1 hx hb0 => ?_
  have hb := hb0 _ (Nat.le_refl _)
  conv => cbv
  (refine st_fld hE fLV2 fun p hp => ?_; (conv => cbv); refine st_load hE cStr (by rw [hp]; exact (hb).at _ _ rfl) ?_; clear hp; (conv => cbv))
  refine st_slen hE uStr fun x1 hx1 => ?_
  conv => cbv
  obtain ⟨y1, hy1⟩ : ∃ y, y = l - x1 := ⟨_, rfl⟩
  have e1 : E.ar .sub .i64 l x1 = y1 := by rw [hE.ar, hy1]; exact wrap_in (by omega) (by omega)
  simp only [e1]
  refine br (fun _ => ?_) (fun g1 => ?_)
  · conv => cbv
    rw [hR]; exact ⟨hx, -1, rfl, by omega, fun h => by omega⟩
  have g1 : 0 ≤ y1 := by simpa [hE.cmp, cmpR] using g1
  conv => cbv
  (refine st_fld hE fLV3 fun p hp => ?_; (conv => cbv); refine st_load hE cStrs (by rw [hp]; exact (hb).at _ _ rfl) ?_; clear hp; (conv => cbv))
  refine st_qi hE (szStringS_q (h.ext hx) y1 g1 (by omega)) fun l2 hl w2 hs2 => ?_
  have hx := hx.trans hs2.ext
  conv => cbv
  refine br (fun _ => ?_) (fun g => ?_)
  · conv => cbv
    rw [hR]; exact ⟨hx, -1, rfl, by omega, fun h => by omega⟩
  have g : 0 ≤ l2 := by simpa [hE.cmp, cmpR] using g
  have hn := room_bulk h.len (by omega : 0 ≤ room y1 (bulk xs))
  rw [← hl] at hn
  conv => cbv
  rw [hR]; exact ⟨hx, l2, rfl, by omega, fun _ => by omega⟩
theorem szValueS_f {w : World} {A : Option Addr} {n c : Nat} {pv : List PV} (h : Pool w A n pv) (hn : n ≤ 9223372036854775807) (l : Int) (h0 : 0 ≤ l) (h1 : l ≤ 1048576) :
    FC Tryd.prog 39 [.slice A n c, .int .i64 l] w fun v _ => ∃ r : Int, v = .int .i64 r ∧ r ≤ l ∧ (0 ≤ r → n ≤ 1048576 ∧ ∀ p ∈ pv, p.xs.length ≤ 1048576) := by
  refine FC.intro (cs := []) Tryd.func39 (by kernel_rfl) fun E R hE hr hR => ?_
  have hl := h.len
  conv => cbv
  refine st_len hE sLV fun x hx => ?_
  conv => cbv
  obtain ⟨y1, hy1⟩ : ∃ y, y = l - x := ⟨_, rfl⟩
  have e1 : E.ar .sub .i64 l x = y1 := by rw [hE.ar, hy1]; exact wrap_in (by omega) (by omega)
  simp only [e1]
  refine br (fun _ => ?_) (fun g1 => ?_)
  · conv => cbv
    rw [hR]; exact ⟨Ext.refl _, -1, rfl, by omega, fun h => by omega⟩
  have g1 : 0 ≤ y1 := by simpa [hE.cmp, cmpR] using g1
  conv => cbv
  refine loop_rule hr (fun (s : Nat × Int × Int) w' => s.1 ≤ n ∧ s.2.1 = (s.1 : Int) ∧ 0 ≤ s.2.2 ∧ s.2.2 ≤ y1 ∧ Ext w w' ∧ ∀ p ∈ pv.take s.1, p.xs.length ≤ 1048576) (fun s => [(0, .slice A n c), (1, .int .i64 s.2.2), (5, .int .i64 s.2.1)]) (fun s => n - s.1) (0, 0, y1)
    (by simp [Fits, lk]) ⟨by simp, by simp, g1, by simp, Ext.refl _, by simp⟩ ?_
  rintro I hI ⟨i, ii, l'⟩ w' ⟨hi, hii, hl0, hl1, hxw, hall⟩
  simp only at hi hii hl0 hl1 hall
  obtain ⟨ii', hii'⟩ : ∃ z, z = ii + 1 := ⟨_, rfl⟩
  conv => cbv
  refine st_len hE sLV fun x2 hx2 => ?_
  conv => cbv
  refine br (fun g2 => ?_) (fun g2 => ?_)
  · have g2 : i < n := by
      have : ii < x2 := by simpa [hE.cmp, cmpR] using g2
      omega
    have ei : E.ar .add .i64 ii 1 = ii' := by rw [hE.ar, hii']; exact wrap_in (by omega) (by omega)
    obtain ⟨a, k, z, tx, xs, A1, m, c1, hA, hg, hc, hs, htx⟩ := (h.ext hxw).get g2
    conv => cbv
    refine st_idx hE sLV hA (by omega) (by omega) fun q hq => ?_
    rw [show ii.toNat = i by omega] at hq
    conv => cbv
    refine st_loadS hE tLV rfl (by rw [hq]; exact hc) ?_
    conv => cbv
    refine st_f hr (szValue_f hs htx l' hl0 (by omega)) fun v w2 hx3 ⟨r, ev, hr1, hr2⟩ => ?_
    subst ev
    conv => cbv
    refine br (fun _ => ?_) (fun g3 => ?_)
    · conv => cbv
      rw [hR]; exact ⟨hxw.trans hx3, -1, rfl, by omega, fun h => by omega⟩
    have g3 : 0 ≤ r := by simpa [hE.cmp, cmpR] using g3
    conv => cbv
    simp only [ei]
    refine ⟨(i + 1, ii', r), by simp [Fits, lk], hI _ _ ⟨by simp only; omega, by simp only; omega, g3, by simp only; omega, hxw.trans hx3, ?_⟩, by simp only; omega⟩
    simp only
    rw [List.take_add_one, hg]
    intro p hp
    rcases List.mem_append.1 hp with hp | hp
    · exact hall p hp
    · simp at hp; subst hp; simp only; rw [hs.len]; exact hr2 g3
  · have g2 : i = n := by
      have : ¬ ii < x2 := by simpa [hE.cmp, cmpR] using g2
      omega
    rw [List.take_of_length_le (by omega)] at hall
    conv => cbv
    rw [hR]; exact ⟨hxw, l', rfl, by omega, fun _ => ⟨by omega, hall⟩⟩
theorem szInsS_f {w : World} {A : Option Addr} {n c : Nat} (hn : n ≤ 9223372036854775807) (l : Int) (h0 : 0 ≤ l) (h1 : l ≤ 1048576) :
    FC Tryd.prog 40 [.slice A n c, .int .i64 l] w fun v _ => ∃ r : Int, v = .int .i64 r ∧ (0 ≤ r → n ≤ 1048576) := by
  refine FC.intro (cs := []) Tryd.func40 (by kernel_rfl) fun E R hE hr hR => ?_
  conv => cbv
  refine st_len hE sLI fun x hx => ?_
  conv => cbv
  obtain ⟨y1, hy1⟩ : ∃ y, y = l - x := ⟨_, rfl⟩
  have e1 : E.ar .sub .i64 l x = y1 := by rw [hE.ar, hy1]; exact wrap_in (by omega) (by omega)
  simp only [e1]
  refine br (fun _ => ?_) (fun g1 => ?_)
  · conv => cbv
    rw [hR]; exact ⟨Ext.refl _, -1, rfl, fun h => by omega⟩
  conv => cbv
  rw [hR]; exact ⟨Ext.refl _, y1, rfl, fun h => by omega⟩
theorem szCode_f {w : World} {A A2 : Option Addr} {n c n2 c2 : Nat} {sl : Int} {pv : List PV} {is : List (Int × Int)} (h : CodeR w A n A2 n2 pv is) (hn : n ≤ 9223372036854775807) (hn2 : n2 ≤ 9223372036854775807) :
    FC Tryd.prog 13 [codeV A n c sl A2 n2 c2, .int .i64 1048576] w fun v _ => ∃ r : Int, v = .int .i64 r ∧ (0 ≤ r → n ≤ 1048576 ∧ n2 ≤ 1048576 ∧ ∀ p ∈ pv, p.xs.length ≤ 1048576) := by
  refine FC.intro (cs := []) Tryd.func13 (by kernel_rfl) fun E R hE hr hR => ?_
  conv => cbv
  refine st_box hr fun a w1 hx hb0 => ?_
  have hb := hb0 _ (Nat.le_refl _)
  conv => cbv
  (refine st_fld hE fLC0 fun p hp => ?_; (conv => cbv); refine st_load hE cLVs (by rw [hp]; exact (hb).at _ _ rfl) ?_; clear hp; (conv => cbv))
  refine st_f hr (szValueS_f (h.pool.ext hx) hn 1048576 (by omega) (by omega)) fun v w2 hx2 ⟨r, ev, hr1, hr2⟩ => ?_
  subst ev
  replace hb := hb.bel hx2
  replace hx := hx.trans hx2
  conv => cbv
  refine br (fun _ => ?_) (fun g1 => ?_)
  · conv => cbv
    rw [hR]; exact ⟨hx, -1, rfl, fun h => by omega⟩
  have g1 : 0 ≤ r := by simpa [hE.cmp, cmpR] using g1
  conv => cbv
  (refine st_fld hE fLC2 fun p hp => ?_; (conv => cbv); refine st_load hE cLIs (by rw [hp]; exact (hb).at _ _ rfl) ?_; clear hp; (conv => cbv))
  refine st_f hr (szInsS_f (w := w2) hn2 r g1 hr1) fun v w3 hx3 ⟨r', ev, hr3⟩ => ?_
  subst ev
  replace hx := hx.trans hx3
  conv => cbv
  refine br (fun _ => ?_) (fun g2 => ?_)
  · conv => cbv
    rw [hR]; exact ⟨hx, -1, rfl, fun h => by omega⟩
  have g2 : 0 ≤ r' := by simpa [hE.cmp, cmpR] using g2
  conv => cbv
  rw [hR]; exact ⟨hx, r', rfl, fun _ => ⟨(hr2 g1).1, hr3 g2, (hr2 g1).2⟩⟩
theorem toValue_f {w : World} {k z : Int} {tx : ByteArray} {A : Option Addr} {m c : Nat} {xs : List ByteArray} (h : Strs w A m c xs) (hm : m ≤ 1048576) :
    FC Tryd.prog 87 [.agg ⟨[.int .i64 k, .int .i64 z, .string tx, .slice A m c]⟩] w fun v w' => ∃ A1 m1 c1, v = .agg ⟨[.int .i64 k, .int .i64 z, .string tx, .slice A1 m1 c1]⟩ ∧ Own w.heap.size 9 1 w' A1 m1 c1 (xs.map .string) := by
  refine FC.intro (cs := []) Tryd.func87 (by kernel_rfl) fun E R hE hr hR => ?_
  conv => cbv
  refine st_box hr fun a w1 hx hb0 => ?_
  have hb := hb0 _ (Nat.le_refl _)
  conv => cbv
  refine st_alloc hr tIV rfl fun o w2 hx2 ho0 => ?_
  have ho := ho0 _ hx.size
  have hb := hb.bel hx2
  have hx := hx.trans hx2
  conv => cbv
  refine st_alloc hr tIV rfl fun q w3 hx3 hq0 => ?_
  have hq := hq0 _ hx.size
  have aq := (hb.apart (hq0 _ (Nat.le_refl _)) (Nat.le_refl _)).1
  have oq := (ho.apart (hq0 _ (Nat.le_refl _)) (Nat.le_refl _)).1
  have hb := hb.bel hx3
  have ho := ho.bel hx3
  have hx := hx.trans hx3
  clear hb0 ho0 hq0
  conv => cbv
  (refine st_fld hE fLV0 fun p hp => ?_; (conv => cbv); refine st_load hE cInt (by rw [hp]; exact (hb).at _ _ rfl) ?_; clear hp; (conv => cbv))
  (refine st_fld hE fIV0 fun p hp => ?_; (conv => cbv); refine st_put hr zInt hq hp (by simp) rfl fun wn hw hq2 => ?_; replace hx := hx.then (hw.bel hq hx.size); (try clear hq); (have hq := hq2); clear hq2; (simp only [List.set_cons_zero, List.set_cons_succ] at hq); clear hp)
  replace hb := hb.wr hw aq
  replace ho := ho.wr hw oq
  conv => cbv
  (refine st_fld hE fLV1 fun p hp => ?_; (conv => cbv); refine st_load hE cI64 (by rw [hp]; exact (hb).at _ _ rfl) ?_; clear hp; (conv => cbv))
  (refine st_fld hE fIV1 fun p hp => ?_; (conv => cbv); refine st_put hr zI64 hq hp (by simp) rfl fun wn hw hq2 => ?_; replace hx := hx.then (hw.bel hq hx.size); (try clear hq); (have hq := hq2); clear hq2; (simp only [List.set_cons_zero, List.set_cons_succ] at hq); clear hp)
  replace hb := hb.wr hw aq
  replace ho := ho.wr hw oq
  conv => cbv
  (refine st_fld hE fLV2 fun p hp => ?_; (conv => cbv); refine st_load hE cStr (by rw [hp]; exact (hb).at _ _ rfl) ?_; clear hp; (conv => cbv))
  (refine st_fld hE fIV2 fun p hp => ?_; (conv => cbv); refine st_put hr zStr hq hp (by simp) rfl fun wn hw hq2 => ?_; replace hx := hx.then (hw.bel hq hx.size); (try clear hq); (have hq := hq2); clear hq2; (simp only [List.set_cons_zero, List.set_cons_succ] at hq); clear hp)
  replace hb := hb.wr hw aq
  replace ho := ho.wr hw oq
  conv => cbv
  (refine st_fld hE fLV3 fun p hp => ?_; (conv => cbv); refine st_load hE cStrs (by rw [hp]; exact (hb).at _ _ rfl) ?_; clear hp; (conv => cbv))
  refine st_f hr (toStringS_f (h.ext hx) hm) fun v w4 hx4 ⟨A4, n4, c4, ev, h4, o4⟩ => ?_
  subst ev
  have ax := (hq.apart o4 (Nat.le_refl _)).2
  have bx := (ho.apart o4 (Nat.le_refl _)).2
  replace o4 := o4.mono hx.size
  replace ho := ho.bel hx4
  replace hq := hq.bel hx4
  replace hx := hx.trans hx4
  conv => cbv
  (refine st_fld hE fIV3 fun p hp => ?_; (conv => cbv); refine st_put hr zStrs hq hp (by simp) rfl fun wn hw hq2 => ?_; replace hx := hx.then (hw.bel hq hx.size); (try clear hq); (have hq := hq2); clear hq2; (simp only [List.set_cons_zero, List.set_cons_succ] at hq); clear hp)
  replace ho := ho.wr hw oq
  replace o4 := o4.wr hw ax
  conv => cbv
  refine st_loadS hE tIV rfl hq.at ?_
  conv => cbv
  refine st_putS hr (by kernel_rfl) ho (add_zero _).symm (by simp) (by simp [Value.oneCell']) fun w5 hw5 ho5 => ?_
  simp only [List.take_zero, List.nil_append, List.length_cons, List.length_nil, List.drop_succ_cons, List.drop_nil, List.append_nil] at ho5
  conv => cbv
  refine st_cell hr tIV rfl ho5.at ?_
  rw [hR]; exact ⟨hx.then (hw5.bel ho hx.size), A4, n4, c4, rfl, o4.wr hw5 bx⟩
theorem vC_one (v : VV) : ∀ u ∈ vC v, u.oneCell' = true := by intro u hu; simp [vC] at hu; rcases hu with h | h | h | h <;> rw [h] <;> rfl
def v0 : VV := ⟨⟨0, 0, ⟨#[]⟩, []⟩, none, 0, 0⟩
set_option maxHeartbeats 1000000 in
theorem toValueS_f {w : World} {A : Option Addr} {n c : Nat} {pv : List PV} (h : Pool w A n pv) (hn : n ≤ 1048576) (hp : ∀ p ∈ pv, p.xs.length ≤ 1048576) :
    FC Tryd.prog 45 [.slice A n c] w fun v w' => ∃ A1 c1, v = .slice A1 n c1 ∧ ∀ w2, Above w.heap.size w' w2 → Pool w2 A1 n pv := by
  refine FC.intro (cs := []) Tryd.func45 (by kernel_rfl) fun E R hE hr hR => ?_
  have hl := h.len
  conv => cbv
  refine st_len hE sLV fun x hx => ?_
  conv => cbv
  refine st_makeK hr sIV rfl (m := n) (by omega) (by omega) (by omega) fun A1 w1 hx1 h10 => ?_
  have h1 := h10 _ (Nat.le_refl _)
  rw [show (Value.agg ⟨zV⟩).cells = ⟨vC v0⟩ from rfl, made_fl (f := vC) v0 n 4 rfl (by omega)] at h1
  conv => cbv
  refine loop_rule hr (fun (s : Nat × Int × List VV) w' => s.1 ≤ n ∧ s.2.1 = (s.1 : Int) ∧ s.2.2.length = s.1 ∧ s.2.2.map (·.p) = pv.take s.1 ∧ Ext w w' ∧ Own w.heap.size 153 4 w' A1 n n ((s.2.2 ++ List.replicate (n - s.1) v0).flatMap vC) ∧
      (∀ v ∈ s.2.2, Own w1.heap.size 9 1 w' v.A v.m v.c (v.p.xs.map .string) ∧ (∀ u ∈ v.p.xs, u.size ≤ 9223372036854775807) ∧ v.p.tx.size ≤ 9223372036854775807) ∧ w1.heap.size ≤ w'.heap.size)
    (fun s => [(0, .slice A n c), (3, .slice A1 n n), (4, .int .i64 s.2.1)]) (fun s => n - s.1) (0, 0, [])
    (by simp [Fits, lk]) ⟨by simp, by simp, rfl, by simp, hx1, by simpa using h1, by simp, Nat.le_refl _⟩ ?_
  rintro I hI ⟨i, ii, ds⟩ w' ⟨hi, hii, hdl, hdp, hxw, ho, hds, hsz⟩
  simp only at hi hii hdl hdp ho hds
  obtain ⟨ii', hii'⟩ : ∃ z, z = ii + 1 := ⟨_, rfl⟩
  conv => cbv
  refine st_len hE sLV fun x2 hx2 => ?_
  conv => cbv
  refine br (fun g2 => ?_) (fun g2 => ?_)
  · have g2 : i < n := by
      have : ii < x2 := by simpa [hE.cmp, cmpR] using g2
      omega
    have ei : E.ar .add .i64 ii 1 = ii' := by rw [hE.ar, hii']; exact wrap_in (by omega) (by omega)
    obtain ⟨a, k, z, tx, xs, A2, m, c2, hA, hg, hc, hs, htx⟩ := (h.ext hxw).get g2
    have hxl : xs.length ≤ 1048576 := hp _ (List.mem_of_getElem? hg)
    obtain ⟨gb, rfl, _⟩ := ho.addr (by omega)
    conv => cbv
    refine st_idx hE sLV hA (by omega) (by omega) fun q hq => ?_
    rw [show ii.toNat = i by omega] at hq
    conv => cbv
    refine st_loadS hE tLV rfl (by rw [hq]; exact hc) ?_
    conv => cbv
    refine st_f hr (toValue_f (k := k) (z := z) (tx := tx) hs (by rw [← hs.len]; exact hxl)) fun v w2 hx3 ⟨A3, m3, c3, ev, o3⟩ => ?_
    subst ev
    have ap : ∀ {A5 m5 c5 ys}, Own w1.heap.size 9 1 w2 A5 m5 c5 ys → Apart A5 (some ⟨gb, 0, none⟩) := fun h5 => (h1.apart h5 (Nat.le_refl _)).2
    replace o3 := o3.mono hsz
    replace ho := ho.bel hx3
    have hds2 : ∀ v ∈ ds, Own w1.heap.size 9 1 w2 v.A v.m v.c (v.p.xs.map .string) ∧ (∀ u ∈ v.p.xs, u.size ≤ 9223372036854775807) ∧ v.p.tx.size ≤ 9223372036854775807 := fun v hv => ⟨(hds v hv).1.bel hx3, (hds v hv).2⟩
    replace hxw := hxw.trans hx3
    conv => cbv
    refine st_idx hE sIV rfl (by omega) (by omega) fun q1 hq1 => ?_
    rw [show ii.toNat = i by omega] at hq1
    conv => cbv
    obtain ⟨y, hy⟩ : ∃ y : VV, y = ⟨⟨k, z, tx, xs⟩, A3, m3, c3⟩ := ⟨_, rfl⟩
    refine st_putS hr (vs := [.int .i64 k, .int .i64 z, .string tx, .slice A3 m3 c3]) (by kernel_rfl) ho (j := i * 4) hq1 (by rw [fl_len vC_len]; simp; omega) (by simp [Value.oneCell']) fun w3 hw3 ho3 => ?_
    rw [show [Value.int .i64 k, .int .i64 z, .string tx, .slice A3 m3 c3] = vC y by rw [hy]; rfl, fl_put vC_len _ i y (by simp; omega)] at ho3
    have hset : (ds ++ List.replicate (n - i) v0).set i y = (ds ++ [y]) ++ List.replicate (n - (i + 1)) v0 := by
      rw [List.set_append_right _ _ (by omega), hdl, Nat.sub_self, show n - i = (n - (i + 1)) + 1 by omega, List.replicate_succ, List.set_cons_zero, List.append_assoc]; rfl
    rw [hset] at ho3
    conv => cbv
    simp only [ei]
    refine ⟨(i + 1, ii', ds ++ [y]), by simp [Fits, lk], hI _ _ ⟨by simp only; omega, by simp only; omega, by simp [hdl], ?_, hxw.then (hw3.bel ho hxw.size), ho3, ?_, ?_⟩, by simp only; omega⟩
    · simp only
      rw [List.map_append, hdp, List.take_add_one, hg, hy]; rfl
    · intro v hv
      rcases List.mem_append.1 hv with hv | hv
      · exact ⟨(hds2 v hv).1.wr hw3 (ap (hds2 v hv).1), (hds2 v hv).2⟩
      · simp at hv
        subst hv
        rw [hy]
        exact ⟨o3.wr hw3 (ap o3), hs.small, htx⟩
    · have := hw3.size; have := hx3.size; omega
  · have g2 : i = n := by
      have : ¬ ii < x2 := by simpa [hE.cmp, cmpR] using g2
      omega
    subst g2
    rw [List.take_of_length_le (by omega)] at hdp
    simp only [Nat.sub_self, List.replicate_zero, List.append_nil] at ho
    conv => cbv
    rw [hR]; exact ⟨hxw, A1, i, rfl, fun w2 ha => ⟨ds, hdp, hdl, (ho.above ha).cells, fun v hv => ⟨(((hds v hv).1.mono hx1.size).above ha).strs (hds v hv).2.1, (hds v hv).2.2⟩⟩⟩
end Go.Proofs.YtmbonalhbibppaaDoor
