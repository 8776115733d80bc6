/- The laws' helpers over policies: their size, their copy, whether two are one (printed by gen_p1.py). -/
import Derived.Test.YtmbonalhbibppaaDoorP1
namespace Go.Proofs.YtmbonalhbibppaaDoor
open Go.Eng
set_option linter.unusedVariables false
set_option linter.unusedSimpArgs false
theorem room_sum {l : Int} {b : Nat} (h : 0 ≤ room l b) : room l b + b ≤ l := by
  unfold room at *
  split at h
  · omega
  · rename_i q; rw [if_neg q]; omega
theorem szIntS_f {w : World} {A : Option Addr} {n c : Nat} {zs : List Int} (h : Ints w A n c zs) (l : Int) (h0 : 0 ≤ l) (h1 : l ≤ 1048576) :
    FC Tryd.prog 51 [.slice A n c, .int .i64 l] w fun v _ => ∃ r : Int, v = .int .i64 r ∧ r ≤ l ∧ (0 ≤ r → r + n ≤ l) := by
  refine FC.intro (cs := []) Tryd.func51 (by kernel_rfl) fun E R hE hr hR => ?_
  have hle := h.le
  conv => cbv
  refine st_len hE tInts fun x hx => ?_
  conv => cbv
  obtain ⟨y1, hy1⟩ : ∃ y, y = l - x := ⟨_, rfl⟩
  have e1 : E.ar .sub .i64 l x = y1 := by rw [hE.ar, hy1]; exact wrap_in (by omega) (by omega)
  simp only [e1]
  refine br (fun _ => ?_) (fun g1 => ?_)
  · conv => cbv
    rw [hR]; exact ⟨Ext.refl _, -1, rfl, by omega, fun h => by omega⟩
  conv => cbv
  rw [hR]; exact ⟨Ext.refl _, y1, rfl, by omega, fun h => by omega⟩
theorem toIntS_f {w : World} {A : Option Addr} {n c : Nat} {zs : List Int} (h : Ints w A n c zs) (hn : n ≤ 1048576) :
    FC Tryd.prog 53 [.slice A n c] w fun v w' => ∃ A1 c1, v = .slice A1 n c1 ∧ Own w.heap.size 3 1 w' A1 n c1 (zs.map (.int .i64)) := by
  refine FC.intro (cs := []) Tryd.func53 (by kernel_rfl) fun E R hE hr hR => ?_
  have hl := h.len
  conv => cbv
  refine st_len hE tInts fun x hx => ?_
  conv => cbv
  refine st_make hr tInts rfl (m := n) (by omega) (by omega) (by omega) fun A1 w1 hx1 h10 => ?_
  have h1 := h10 _ (Nat.le_refl _)
  conv => cbv
  refine loop_rule hr (fun (s : Nat × Int) w' => s.1 ≤ n ∧ s.2 = (s.1 : Int) ∧ Ext w w' ∧ Own w.heap.size 3 1 w' A1 n n ((zs.take s.1).map (.int .i64) ++ List.replicate (n - s.1) (.int .i64 0)))
    (fun s => [(0, .slice A n c), (3, .slice A1 n n), (4, .int .i64 s.2)]) (fun s => n - s.1) (0, 0)
    (by simp [Fits, lk]) ⟨by simp, by simp, hx1, by simpa using h1⟩ ?_
  rintro I hI ⟨i, ii⟩ w' ⟨hi, hii, hxw, ho⟩
  simp only at hi hii ho
  obtain ⟨ii', hii'⟩ : ∃ z, z = ii + 1 := ⟨_, rfl⟩
  conv => cbv
  refine st_len hE tInts fun x2 hx2 => ?_
  conv => cbv
  refine br (fun g2 => ?_) (fun g2 => ?_)
  · have g2 : i < n := by
      have : ii < x2 := by simpa [hE.cmp, cmpR] using g2
      omega
    have ei : E.ar .add .i64 ii 1 = ii' := by rw [hE.ar, hii']; exact wrap_in (by omega) (by omega)
    obtain ⟨gb, rfl, _⟩ := ho.addr (by omega)
    conv => cbv
    refine st_int hE tInts (h.ext hxw) (k := i) (by omega) g2 fun p u hu hp => ?_
    conv => cbv
    refine st_load hE cInt hp ?_
    conv => cbv
    refine st_idx hE tInts rfl (by omega) (by omega) fun q hq => ?_
    rw [show ii.toNat = i by omega] at hq
    conv => cbv
    refine st_set hr tInts ho rfl (j := i) g2 hq rfl fun w3 hb3 hw3 ho3 => ?_
    conv => cbv
    simp only [ei]
    have hset : ((zs.take i).map (Value.int .i64) ++ List.replicate (n - i) (Value.int .i64 0)).set i (Value.int .i64 u) = (zs.take (i + 1)).map (Value.int .i64) ++ List.replicate (n - (i + 1)) (Value.int .i64 0) := by
      have hli : ((zs.take i).map (Value.int .i64)).length = i := by simp; omega
      rw [List.set_append_right _ _ (by omega), hli, Nat.sub_self, show n - i = (n - (i + 1)) + 1 by omega, List.replicate_succ, List.set_cons_zero, List.take_add_one, hu, List.map_append, List.append_assoc]; rfl
    rw [hset] at ho3
    exact ⟨(i + 1, ii'), by simp [Fits, lk], hI _ _ ⟨by simp only; omega, by simp only; omega, hxw.then hb3, ho3⟩, by simp only; omega⟩
  · have g2 : i = n := by
      have : ¬ ii < x2 := by simpa [hE.cmp, cmpR] using g2
      omega
    subst g2
    rw [List.take_of_length_le (by omega), Nat.sub_self, List.replicate_zero, List.append_nil] at ho
    conv => cbv
    rw [hR]; exact ⟨hxw, A1, i, rfl, ho⟩
theorem eqIntS_q {w : World} {A A1 : Option Addr} {n c n1 c1 : Nat} {zs ys : List Int} (h : Ints w A n c zs) (h1 : Ints w A1 n1 c1 ys) :
    QB Tryd.prog 55 [.slice A n c, .slice A1 n1 c1] w (zs = ys) := by
  refine QB.intro (cs := []) Tryd.func55 (by kernel_rfl) fun w0 hx0 w1 hs E R hE hr hR => ?_
  replace h := (h.ext hx0).ext hs.ext
  replace h1 := (h1.ext hx0).ext hs.ext
  have hl := h.len
  have hl1 := h1.len
  have hle := h.le
  conv => cbv
  refine st_len hE tInts fun x hx => ?_
  conv => cbv
  refine st_len hE tInts fun x1 hx1 => ?_
  conv => cbv
  refine br (fun g => ?_) (fun g => ?_)
  · have g : x ≠ x1 := by simpa [hE.cmp, cmpR] using g
    conv => cbv
    exact hR _ _ hs (by simp only [Bool.false_eq_true, false_iff]; exact fun e => g (by rw [e] at hl; omega))
  have g : n = n1 := by
    have : x = x1 := by simpa [hE.cmp, cmpR] using g
    omega
  subst g
  conv => cbv
  refine loop_rule hr (fun (s : Nat × Int) w' => s.1 ≤ n ∧ s.2 = (s.1 : Int) ∧ Same w1 w' ∧ zs.take s.1 = ys.take s.1) (fun s => [(0, .slice A n c), (1, .slice A1 n c1), (5, .int .i64 s.2)]) (fun s => n - s.1) (0, 0)
    (by simp [Fits, lk]) ⟨by simp, by simp, Same.refl _, by simp⟩ ?_
  rintro I hI ⟨i, ii⟩ w' ⟨hi, hii, hxw, hall⟩
  simp only at hi hii hall
  obtain ⟨ii', hii'⟩ : ∃ z, z = ii + 1 := ⟨_, rfl⟩
  conv => cbv
  refine st_len hE tInts fun x2 hx2 => ?_
  conv => cbv
  refine br (fun g => ?_) (fun g => ?_)
  · have g : i < n := by
      have : ii < x2 := by simpa [hE.cmp, cmpR] using g
      omega
    have e1 : E.ar .add .i64 ii 1 = ii' := by rw [hE.ar, hii']; exact wrap_in (by omega) (by omega)
    conv => cbv
    refine draw_q hr fol (by kernel_rfl) fun E' hE' => ?_
    conv => cbv
    refine st_int hE' tInts (h.ext hxw.ext) (k := i) (by omega) g fun p u hu hp => ?_
    conv => cbv
    refine st_load hE' cInt hp ?_
    conv => cbv
    refine st_int hE' tInts (h1.ext hxw.ext) (k := i) (by omega) g fun p2 y hy hp2 => ?_
    conv => cbv
    refine st_load hE' cInt hp2 ?_
    obtain ⟨q, hq⟩ : ∃ q, q = E'.cmp .neq u y := ⟨_, rfl⟩
    have hq' : q = true ↔ u ≠ y := by rw [hq, hE'.cmp]; simp [cmpR]
    conv => cbv
    simp only [← hq]
    intro w4 hs4
    conv => cbv
    refine br (fun g2 => ?_) (fun g2 => ?_)
    · have g2 := hq'.1 g2
      conv => cbv
      exact hR _ _ ((hs.trans hxw).trans hs4) (by
        simp only [Bool.false_eq_true, false_iff]
        intro e; rw [e, hy] at hu; exact g2 (Option.some.inj hu).symm)
    · have g2 : u = y := by
        refine Classical.byContradiction fun e => g2 (hq'.2 e)
      conv => cbv
      simp only [e1]
      exact ⟨(i + 1, ii'), by simp [Fits, lk], hI _ _ ⟨by simp only; omega, by simp only; omega, hxw.trans hs4, by simp only; rw [List.take_add_one, List.take_add_one, hall, hu, hy, g2]⟩, by simp only; omega⟩
  · have g : i = n := by
      have : ¬ ii < x2 := by simpa [hE.cmp, cmpR] using g
      omega
    rw [List.take_of_length_le (by omega), List.take_of_length_le (by omega)] at hall
    conv => cbv
    exact hR _ _ (hs.trans hxw) (by simp [hall])
theorem szNode_f {w : World} (v : VN) (h : OKN w v) (l : Int) (h0 : 0 ≤ l) (h1 : l ≤ 1048576) :
    FC Tryd.prog 66 [.agg ⟨cN v⟩, .int .i64 l] w fun u _ => ∃ r : Int, u = .int .i64 r ∧ r ≤ l ∧ (0 ≤ r → r + wtN v.p ≤ l) := by
  refine FC.intro (cs := []) Tryd.func66 (by kernel_rfl) fun E R hE hr hR => ?_
  obtain ⟨⟨o, z, tx, xs, ks⟩, A0, m0, c0, A1, m1, c1⟩ := v
  have s_tx := h.s_tx
  have r_xs := h.r_xs
  have r_ks := h.r_ks
  clear h
  simp only at s_tx r_xs r_ks
  conv => cbv
  refine st_box hr fun a w1 hx hb0 => ?_
  have hb := hb0 _ (Nat.le_refl _)
  conv => cbv
  (refine st_fld hE fLNd2 fun p hp => ?_; (conv => cbv); refine st_load hE cStr (by rw [hp]; exact (hb).at _ _ rfl) ?_; clear hp; (conv => cbv))
  refine st_slen hE uStr fun x1 hx1 => ?_
  conv => cbv
  obtain ⟨y1, hy1⟩ : ∃ y, y = l - x1 := ⟨_, rfl⟩
  have e1 : E.ar .sub .i64 l x1 = y1 := by rw [hE.ar, hy1]; exact wrap_in (by omega) (by omega)
  simp only [e1]
  refine br (fun _ => ?_) (fun g1 => ?_)
  · conv => cbv
    rw [hR]; exact ⟨hx, -1, rfl, by omega, fun h => by omega⟩
  have g1 : 0 ≤ y1 := by simpa [hE.cmp, cmpR] using g1
  conv => cbv
  (refine st_fld hE fLNd3 fun p hp => ?_; (conv => cbv); refine st_load hE cStrs (by rw [hp]; exact (hb).at _ _ rfl) ?_; clear hp; (conv => cbv))
  refine st_qi hE (szStringS_q (r_xs.ext hx) y1 (by omega) (by omega)) fun y2 hl2 w7 hs2 => ?_
  replace hb := hb.bel hs2.ext
  replace hx := hx.trans hs2.ext
  have hy2 : 0 ≤ y2 → y2 + bulk xs ≤ y1 := fun q => by rw [hl2] at q ⊢; exact room_sum q
  have hz2 : y2 ≤ y1 := by rw [hl2]; unfold room; split <;> omega
  conv => cbv
  refine br (fun _ => ?_) (fun g2 => ?_)
  · conv => cbv
    rw [hR]; exact ⟨hx, -1, rfl, by omega, fun h => by omega⟩
  have g2 : 0 ≤ y2 := by simpa [hE.cmp, cmpR] using g2
  conv => cbv
  have hy2 := hy2 g2
  (refine st_fld hE fLNd4 fun p hp => ?_; (conv => cbv); refine st_load hE cInts (by rw [hp]; exact (hb).at _ _ rfl) ?_; clear hp; (conv => cbv))
  refine st_f hr (szIntS_f (r_ks.ext hx) y2 (by omega) (by omega)) fun v w8 hx3 ⟨y3, ev, hz3, hy3⟩ => ?_
  subst ev
  have hl_ks := r_ks.len
  replace hb := hb.bel hx3
  replace hx := hx.trans hx3
  conv => cbv
  refine br (fun _ => ?_) (fun g3 => ?_)
  · conv => cbv
    rw [hR]; exact ⟨hx, -1, rfl, by omega, fun h => by omega⟩
  have g3 : 0 ≤ y3 := by simpa [hE.cmp, cmpR] using g3
  conv => cbv
  have hy3 := hy3 g3
  rw [hR]; exact ⟨hx, y3, rfl, by omega, fun _ => by simp only [wtN]; omega⟩
theorem szNodeS_f {w : World} {A : Option Addr} {n c : Nat} {pv : List PN} (h : RNs w A n pv) (hn : n ≤ 9223372036854775807) (l : Int) (h0 : 0 ≤ l) (h1 : l ≤ 1048576) :
    FC Tryd.prog 31 [.slice A n c, .int .i64 l] w fun v _ => ∃ r : Int, v = .int .i64 r ∧ r ≤ l ∧ (0 ≤ r → r + wtNs pv ≤ l) := by
  refine FC.intro (cs := []) Tryd.func31 (by kernel_rfl) fun E R hE hr hR => ?_
  have hl := h.len
  conv => cbv
  refine st_len hE sLNd fun x hx => ?_
  conv => cbv
  obtain ⟨y1, hy1⟩ : ∃ y, y = l - x := ⟨_, rfl⟩
  have e1 : E.ar .sub .i64 l x = y1 := by rw [hE.ar, hy1]; exact wrap_in (by omega) (by omega)
  simp only [e1]
  refine br (fun _ => ?_) (fun g1 => ?_)
  · conv => cbv
    rw [hR]; exact ⟨Ext.refl _, -1, rfl, by omega, fun h => by omega⟩
  have g1 : 0 ≤ y1 := by simpa [hE.cmp, cmpR] using g1
  conv => cbv
  refine loop_rule hr (fun (s : Nat × Int × Int) w' => s.1 ≤ n ∧ s.2.1 = (s.1 : Int) ∧ 0 ≤ s.2.2 ∧ s.2.2 ≤ y1 ∧ Ext w w' ∧ s.2.2 + wtNs (pv.take s.1) ≤ y1 + s.1) (fun s => [(0, .slice A n c), (1, .int .i64 s.2.2), (5, .int .i64 s.2.1)]) (fun s => n - s.1) (0, 0, y1)
    (by simp [Fits, lk]) ⟨by simp, by simp, g1, by simp, Ext.refl _, by simp [wtNs]⟩ ?_
  rintro I hI ⟨i, ii, l'⟩ w' ⟨hi, hii, hl0, hl1, hxw, hall⟩
  simp only at hi hii hl0 hl1 hall
  obtain ⟨ii', hii'⟩ : ∃ z, z = ii + 1 := ⟨_, rfl⟩
  conv => cbv
  refine st_len hE sLNd fun x2 hx2 => ?_
  conv => cbv
  refine br (fun g2 => ?_) (fun g2 => ?_)
  · have g2 : i < n := by
      have : ii < x2 := by simpa [hE.cmp, cmpR] using g2
      omega
    have ei : E.ar .add .i64 ii 1 = ii' := by rw [hE.ar, hii']; exact wrap_in (by omega) (by omega)
    obtain ⟨a, v, hA, hg, hc, hok⟩ := (h.ext hxw).get g2
    conv => cbv
    refine st_idx hE sLNd hA (by omega) (by omega) fun q hq => ?_
    rw [show ii.toNat = i by omega] at hq
    conv => cbv
    refine st_loadS hE tLNd (vs := cN v) rfl (by rw [hq]; exact hc) ?_
    obtain ⟨cv, hcv⟩ : ∃ cv, cv = cN v := ⟨_, rfl⟩
    rw [← hcv]
    conv => cbv
    rw [hcv]
    refine st_f hr (szNode_f v hok l' hl0 (by omega)) fun u w2 hx3 ⟨r, ev, hr1, hr2⟩ => ?_
    subst ev
    rw [← hcv]
    conv => cbv
    refine br (fun _ => ?_) (fun g3 => ?_)
    · conv => cbv
      rw [hR]; exact ⟨hxw.trans hx3, -1, rfl, by omega, fun h => by omega⟩
    have g3 : 0 ≤ r := by simpa [hE.cmp, cmpR] using g3
    have hr2 := hr2 g3
    conv => cbv
    simp only [ei]
    refine ⟨(i + 1, ii', r), by simp [Fits, lk], hI _ _ ⟨by simp only; omega, by simp only; omega, g3, by simp only; omega, hxw.trans hx3, ?_⟩, by simp only; omega⟩
    simp only
    rw [List.take_add_one, hg, wtNs_app]
    simp only [Option.toList, wtNs]
    omega
  · have g2 : i = n := by
      have : ¬ ii < x2 := by simpa [hE.cmp, cmpR] using g2
      omega
    rw [List.take_of_length_le (by omega)] at hall
    conv => cbv
    rw [hR]; exact ⟨hxw, l', rfl, by omega, fun _ => by omega⟩
theorem szStmt_f {w : World} (v : VS) (h : OKS w v) (l : Int) (h0 : 0 ≤ l) (h1 : l ≤ 1048576) :
    FC Tryd.prog 67 [.agg ⟨cS v⟩, .int .i64 l] w fun u _ => ∃ r : Int, u = .int .i64 r ∧ r ≤ l ∧ (0 ≤ r → r + wtS v ≤ l) := by
  refine FC.intro (cs := []) Tryd.func67 (by kernel_rfl) fun E R hE hr hR => ?_
  obtain ⟨k, nm, c, g⟩ := v
  have s_nm := h.s_nm
  clear h
  simp only at s_nm
  conv => cbv
  refine st_box hr fun a w1 hx hb0 => ?_
  have hb := hb0 _ (Nat.le_refl _)
  conv => cbv
  (refine st_fld hE fLSd1 fun p hp => ?_; (conv => cbv); refine st_load hE cStr (by rw [hp]; exact (hb).at _ _ rfl) ?_; clear hp; (conv => cbv))
  refine st_slen hE uStr fun x1 hx1 => ?_
  conv => cbv
  obtain ⟨y1, hy1⟩ : ∃ y, y = l - x1 := ⟨_, rfl⟩
  have e1 : E.ar .sub .i64 l x1 = y1 := by rw [hE.ar, hy1]; exact wrap_in (by omega) (by omega)
  simp only [e1]
  refine br (fun _ => ?_) (fun g1 => ?_)
  · conv => cbv
    rw [hR]; exact ⟨hx, -1, rfl, by omega, fun h => by omega⟩
  have g1 : 0 ≤ y1 := by simpa [hE.cmp, cmpR] using g1
  conv => cbv
  rw [hR]; exact ⟨hx, y1, rfl, by omega, fun _ => by simp only [wtS]; omega⟩
theorem szStmtS_f {w : World} {A : Option Addr} {n c : Nat} {pv : List PS} (h : RSs w A n pv) (hn : n ≤ 9223372036854775807) (l : Int) (h0 : 0 ≤ l) (h1 : l ≤ 1048576) :
    FC Tryd.prog 32 [.slice A n c, .int .i64 l] w fun v _ => ∃ r : Int, v = .int .i64 r ∧ r ≤ l ∧ (0 ≤ r → r + wtSs pv ≤ l) := by
  refine FC.intro (cs := []) Tryd.func32 (by kernel_rfl) fun E R hE hr hR => ?_
  have hl := h.len
  conv => cbv
  refine st_len hE sLSd fun x hx => ?_
  conv => cbv
  obtain ⟨y1, hy1⟩ : ∃ y, y = l - x := ⟨_, rfl⟩
  have e1 : E.ar .sub .i64 l x = y1 := by rw [hE.ar, hy1]; exact wrap_in (by omega) (by omega)
  simp only [e1]
  refine br (fun _ => ?_) (fun g1 => ?_)
  · conv => cbv
    rw [hR]; exact ⟨Ext.refl _, -1, rfl, by omega, fun h => by omega⟩
  have g1 : 0 ≤ y1 := by simpa [hE.cmp, cmpR] using g1
  conv => cbv
  refine loop_rule hr (fun (s : Nat × Int × Int) w' => s.1 ≤ n ∧ s.2.1 = (s.1 : Int) ∧ 0 ≤ s.2.2 ∧ s.2.2 ≤ y1 ∧ Ext w w' ∧ s.2.2 + wtSs (pv.take s.1) ≤ y1 + s.1) (fun s => [(0, .slice A n c), (1, .int .i64 s.2.2), (5, .int .i64 s.2.1)]) (fun s => n - s.1) (0, 0, y1)
    (by simp [Fits, lk]) ⟨by simp, by simp, g1, by simp, Ext.refl _, by simp [wtSs]⟩ ?_
  rintro I hI ⟨i, ii, l'⟩ w' ⟨hi, hii, hl0, hl1, hxw, hall⟩
  simp only at hi hii hl0 hl1 hall
  obtain ⟨ii', hii'⟩ : ∃ z, z = ii + 1 := ⟨_, rfl⟩
  conv => cbv
  refine st_len hE sLSd fun x2 hx2 => ?_
  conv => cbv
  refine br (fun g2 => ?_) (fun g2 => ?_)
  · have g2 : i < n := by
      have : ii < x2 := by simpa [hE.cmp, cmpR] using g2
      omega
    have ei : E.ar .add .i64 ii 1 = ii' := by rw [hE.ar, hii']; exact wrap_in (by omega) (by omega)
    obtain ⟨a, v, hA, hg, hc, hok⟩ := (h.ext hxw).get g2
    conv => cbv
    refine st_idx hE sLSd hA (by omega) (by omega) fun q hq => ?_
    rw [show ii.toNat = i by omega] at hq
    conv => cbv
    refine st_loadS hE tLSd (vs := cS v) rfl (by rw [hq]; exact hc) ?_
    obtain ⟨cv, hcv⟩ : ∃ cv, cv = cS v := ⟨_, rfl⟩
    rw [← hcv]
    conv => cbv
    rw [hcv]
    refine st_f hr (szStmt_f v hok l' hl0 (by omega)) fun u w2 hx3 ⟨r, ev, hr1, hr2⟩ => ?_
    subst ev
    rw [← hcv]
    conv => cbv
    refine br (fun _ => ?_) (fun g3 => ?_)
    · conv => cbv
      rw [hR]; exact ⟨hxw.trans hx3, -1, rfl, by omega, fun h => by omega⟩
    have g3 : 0 ≤ r := by simpa [hE.cmp, cmpR] using g3
    have hr2 := hr2 g3
    conv => cbv
    simp only [ei]
    refine ⟨(i + 1, ii', r), by simp [Fits, lk], hI _ _ ⟨by simp only; omega, by simp only; omega, g3, by simp only; omega, hxw.trans hx3, ?_⟩, by simp only; omega⟩
    simp only
    rw [List.take_add_one, hg, wtSs_app]
    simp only [Option.toList, wtSs]
    omega
  · have g2 : i = n := by
      have : ¬ ii < x2 := by simpa [hE.cmp, cmpR] using g2
      omega
    rw [List.take_of_length_le (by omega)] at hall
    conv => cbv
    rw [hR]; exact ⟨hxw, l', rfl, by omega, fun _ => by omega⟩
end Go.Proofs.YtmbonalhbibppaaDoor
