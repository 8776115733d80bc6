/- Texts that the law FnExactPrint leans on, part 3 of 4: contracts of the functions that it reaches and plain lemmas. Each holds under the conditions that it states. -/
import Derived.Test.YtgdnmpcaiaoaoaaDoorMFnExactPrint2
/- The laws' helpers over policies: their size, their copy, whether two are one (printed by gen_p1.py). -/
namespace Go.Proofs.YtgdnmpcaiaoaoaaDoor
open Go.Eng
set_option linter.unusedVariables false
set_option linter.unusedSimpArgs false
theorem room_sum {l : Int} {b : Nat} (h : 0 ≤ room l b) : room l b + b ≤ l := by
  unfold room at *
  split at h
  · omega
  · rename_i q; rw [if_neg q]; omega
theorem szIntS_f {w : World} {A : Option Addr} {n c : Nat} {zs : List Int} (h : Ints w A n c zs) (l : Int) (h0 : 0 ≤ l) (h1 : l ≤ 1048576) :
    FC Tryd.prog 38 [.slice A n c, .int .i64 l] w fun v _ => ∃ r : Int, v = .int .i64 r ∧ r ≤ l ∧ (0 ≤ r → r + n ≤ l) := by
  refine FC.intro (cs := []) Tryd.func38 (by kernel_rfl) fun E R hE hr hR => ?_
  have hle := h.le
  conv => cbv
  refine st_len hE tInts fun x hx => ?_
  conv => cbv
  obtain ⟨y1, hy1⟩ : ∃ y, y = l - x := ⟨_, rfl⟩
  have e1 : E.ar .sub .i64 l x = y1 := by rw [hE.ar, hy1]; exact wrap_in (by omega) (by omega)
  simp only [e1]
  refine br (fun _ => ?_) (fun g1 => ?_)
  · conv => cbv
    rw [hR]; exact ⟨Ext.refl _, -1, rfl, by omega, fun h => by omega⟩
  conv => cbv
  rw [hR]; exact ⟨Ext.refl _, y1, rfl, by omega, fun h => by omega⟩
theorem toIntS_f {w : World} {A : Option Addr} {n c : Nat} {zs : List Int} (h : Ints w A n c zs) (hn : n ≤ 1048576) :
    FC Tryd.prog 45 [.slice A n c] w fun v w' => ∃ A1 c1, v = .slice A1 n c1 ∧ Own w.heap.size 3 1 w' A1 n c1 (zs.map (.int .i64)) := by
  refine FC.intro (cs := []) Tryd.func45 (by kernel_rfl) fun E R hE hr hR => ?_
  have hl := h.len
  conv => cbv
  refine st_len hE tInts fun x hx => ?_
  conv => cbv
  refine st_make hr tInts rfl (m := n) (by omega) (by omega) (by omega) fun A1 w1 hx1 h10 => ?_
  have h1 := h10 _ (Nat.le_refl _)
  conv => cbv
  refine loop_rule hr (fun (s : Nat × Int) w' => s.1 ≤ n ∧ s.2 = (s.1 : Int) ∧ Ext w w' ∧ Own w.heap.size 3 1 w' A1 n n ((zs.take s.1).map (.int .i64) ++ List.replicate (n - s.1) (.int .i64 0)))
    (fun s => [(0, .slice A n c), (3, .slice A1 n n), (4, .int .i64 s.2)]) (fun s => n - s.1) (0, 0)
    (by simp [Fits, lk]) ⟨by simp, by simp, hx1, by simpa using h1⟩ ?_
  rintro I hI ⟨i, ii⟩ w' ⟨hi, hii, hxw, ho⟩
  simp only at hi hii ho
  obtain ⟨ii', hii'⟩ : ∃ z, z = ii + 1 := ⟨_, rfl⟩
  conv => cbv
  refine st_len hE tInts fun x2 hx2 => ?_
  conv => cbv
  refine br (fun g2 => ?_) (fun g2 => ?_)
  · have g2 : i < n := by
      have : ii < x2 := by simpa [hE.cmp, cmpR] using g2
      omega
    have ei : E.ar .add .i64 ii 1 = ii' := by rw [hE.ar, hii']; exact wrap_in (by omega) (by omega)
    obtain ⟨gb, rfl, _⟩ := ho.addr (by omega)
    conv => cbv
    refine st_int hE tInts (h.ext hxw) (k := i) (by omega) g2 fun p u hu hp => ?_
    conv => cbv
    refine st_load hE cInt hp ?_
    conv => cbv
    refine st_idx hE tInts rfl (by omega) (by omega) fun q hq => ?_
    rw [show ii.toNat = i by omega] at hq
    conv => cbv
    refine st_set hr tInts ho rfl (j := i) g2 hq rfl fun w3 hb3 hw3 ho3 => ?_
    conv => cbv
    simp only [ei]
    have hset : ((zs.take i).map (Value.int .i64) ++ List.replicate (n - i) (Value.int .i64 0)).set i (Value.int .i64 u) = (zs.take (i + 1)).map (Value.int .i64) ++ List.replicate (n - (i + 1)) (Value.int .i64 0) := by
      have hli : ((zs.take i).map (Value.int .i64)).length = i := by simp; omega
      rw [List.set_append_right _ _ (by omega), hli, Nat.sub_self, show n - i = (n - (i + 1)) + 1 by omega, List.replicate_succ, List.set_cons_zero, List.take_add_one, hu, List.map_append, List.append_assoc]; rfl
    rw [hset] at ho3
    exact ⟨(i + 1, ii'), by simp [Fits, lk], hI _ _ ⟨by simp only; omega, by simp only; omega, hxw.then hb3, ho3⟩, by simp only; omega⟩
  · have g2 : i = n := by
      have : ¬ ii < x2 := by simpa [hE.cmp, cmpR] using g2
      omega
    subst g2
    rw [List.take_of_length_le (by omega), Nat.sub_self, List.replicate_zero, List.append_nil] at ho
    conv => cbv
    rw [hR]; exact ⟨hxw, A1, i, rfl, ho⟩
theorem eqIntS_q {w : World} {A A1 : Option Addr} {n c n1 c1 : Nat} {zs ys : List Int} (h : Ints w A n c zs) (h1 : Ints w A1 n1 c1 ys) :
    QB Tryd.prog 57 [.slice A n c, .slice A1 n1 c1] w (zs = ys) := by
  refine QB.intro (cs := []) Tryd.func57 (by kernel_rfl) fun w0 hx0 w1 hs E R hE hr hR => ?_
  replace h := (h.ext hx0).ext hs.ext
  replace h1 := (h1.ext hx0).ext hs.ext
  have hl := h.len
  have hl1 := h1.len
  have hle := h.le
  conv => cbv
  refine st_len hE tInts fun x hx => ?_
  conv => cbv
  refine st_len hE tInts fun x1 hx1 => ?_
  conv => cbv
  refine br (fun g => ?_) (fun g => ?_)
  · have g : x ≠ x1 := by simpa [hE.cmp, cmpR] using g
    conv => cbv
    exact hR _ _ hs (by simp only [Bool.false_eq_true, false_iff]; exact fun e => g (by rw [e] at hl; omega))
  have g : n = n1 := by
    have : x = x1 := by simpa [hE.cmp, cmpR] using g
    omega
  subst g
  conv => cbv
  refine loop_rule hr (fun (s : Nat × Int) w' => s.1 ≤ n ∧ s.2 = (s.1 : Int) ∧ Same w1 w' ∧ zs.take s.1 = ys.take s.1) (fun s => [(0, .slice A n c), (1, .slice A1 n c1), (5, .int .i64 s.2)]) (fun s => n - s.1) (0, 0)
    (by simp [Fits, lk]) ⟨by simp, by simp, Same.refl _, by simp⟩ ?_
  rintro I hI ⟨i, ii⟩ w' ⟨hi, hii, hxw, hall⟩
  simp only at hi hii hall
  obtain ⟨ii', hii'⟩ : ∃ z, z = ii + 1 := ⟨_, rfl⟩
  conv => cbv
  refine st_len hE tInts fun x2 hx2 => ?_
  conv => cbv
  refine br (fun g => ?_) (fun g => ?_)
  · have g : i < n := by
      have : ii < x2 := by simpa [hE.cmp, cmpR] using g
      omega
    have e1 : E.ar .add .i64 ii 1 = ii' := by rw [hE.ar, hii']; exact wrap_in (by omega) (by omega)
    conv => cbv
    refine draw_q hr fol (by kernel_rfl) fun E' hE' => ?_
    conv => cbv
    refine st_int hE' tInts (h.ext hxw.ext) (k := i) (by omega) g fun p u hu hp => ?_
    conv => cbv
    refine st_load hE' cInt hp ?_
    conv => cbv
    refine st_int hE' tInts (h1.ext hxw.ext) (k := i) (by omega) g fun p2 y hy hp2 => ?_
    conv => cbv
    refine st_load hE' cInt hp2 ?_
    obtain ⟨q, hq⟩ : ∃ q, q = E'.cmp .neq u y := ⟨_, rfl⟩
    have hq' : q = true ↔ u ≠ y := by rw [hq, hE'.cmp]; simp [cmpR]
    conv => cbv
    simp only [← hq]
    intro w4 hs4
    conv => cbv
    refine br (fun g2 => ?_) (fun g2 => ?_)
    · have g2 := hq'.1 g2
      conv => cbv
      exact hR _ _ ((hs.trans hxw).trans hs4) (by
        simp only [Bool.false_eq_true, false_iff]
        intro e; rw [e, hy] at hu; exact g2 (Option.some.inj hu).symm)
    · have g2 : u = y := by
        refine Classical.byContradiction fun e => g2 (hq'.2 e)
      conv => cbv
      simp only [e1]
      exact ⟨(i + 1, ii'), by simp [Fits, lk], hI _ _ ⟨by simp only; omega, by simp only; omega, hxw.trans hs4, by simp only; rw [List.take_add_one, List.take_add_one, hall, hu, hy, g2]⟩, by simp only; omega⟩
  · have g : i = n := by
      have : ¬ ii < x2 := by simpa [hE.cmp, cmpR] using g
      omega
    rw [List.take_of_length_le (by omega), List.take_of_length_le (by omega)] at hall
    conv => cbv
    exact hR _ _ (hs.trans hxw) (by simp [hall])
theorem szNode_f {w : World} (v : VN) (h : OKN w v) (l : Int) (h0 : 0 ≤ l) (h1 : l ≤ 1048576) :
    FC Tryd.prog 19 [.agg ⟨cN v⟩, .int .i64 l] w fun u _ => ∃ r : Int, u = .int .i64 r ∧ r ≤ l ∧ (0 ≤ r → r + wtN v.p ≤ l) := by
  refine FC.intro (cs := []) Tryd.func19 (by kernel_rfl) fun E R hE hr hR => ?_
  obtain ⟨⟨o, z, tx, xs, ks⟩, A0, m0, c0, A1, m1, c1⟩ := v
  have s_tx := h.s_tx
  have r_xs := h.r_xs
  have r_ks := h.r_ks
  clear h
  simp only at s_tx r_xs r_ks
  conv => cbv
  refine st_box hr fun a w1 hx hb0 => ?_
  have hb := hb0 _ (Nat.le_refl _)
  conv => cbv
  (refine st_fld hE fLNd2 fun p hp => ?_; (conv => cbv); refine st_load hE cStr (by rw [hp]; exact (hb).at _ _ rfl) ?_; clear hp; (conv => cbv))
  refine st_slen hE uStr fun x1 hx1 => ?_
  conv => cbv
  obtain ⟨y1, hy1⟩ : ∃ y, y = l - x1 := ⟨_, rfl⟩
  have e1 : E.ar .sub .i64 l x1 = y1 := by rw [hE.ar, hy1]; exact wrap_in (by omega) (by omega)
  simp only [e1]
  refine br (fun _ => ?_) (fun g1 => ?_)
  · conv => cbv
    rw [hR]; exact ⟨hx, -1, rfl, by omega, fun h => by omega⟩
  have g1 : 0 ≤ y1 := by simpa [hE.cmp, cmpR] using g1
  conv => cbv
  (refine st_fld hE fLNd3 fun p hp => ?_; (conv => cbv); refine st_load hE cStrs (by rw [hp]; exact (hb).at _ _ rfl) ?_; clear hp; (conv => cbv))
  refine st_qi hE (szStringS_q (r_xs.ext hx) y1 (by omega) (by omega)) fun y2 hl2 w7 hs2 => ?_
  replace hb := hb.bel hs2.ext
  replace hx := hx.trans hs2.ext
  have hy2 : 0 ≤ y2 → y2 + bulk xs ≤ y1 := fun q => by rw [hl2] at q ⊢; exact room_sum q
  have hz2 : y2 ≤ y1 := by rw [hl2]; unfold room; split <;> omega
  conv => cbv
  refine br (fun _ => ?_) (fun g2 => ?_)
  · conv => cbv
    rw [hR]; exact ⟨hx, -1, rfl, by omega, fun h => by omega⟩
  have g2 : 0 ≤ y2 := by simpa [hE.cmp, cmpR] using g2
  conv => cbv
  have hy2 := hy2 g2
  (refine st_fld hE fLNd4 fun p hp => ?_; (conv => cbv); refine st_load hE cInts (by rw [hp]; exact (hb).at _ _ rfl) ?_; clear hp; (conv => cbv))
  refine st_f hr (szIntS_f (r_ks.ext hx) y2 (by omega) (by omega)) fun v w8 hx3 ⟨y3, ev, hz3, hy3⟩ => ?_
  subst ev
  have hl_ks := r_ks.len
  replace hb := hb.bel hx3
  replace hx := hx.trans hx3
  conv => cbv
  refine br (fun _ => ?_) (fun g3 => ?_)
  · conv => cbv
    rw [hR]; exact ⟨hx, -1, rfl, by omega, fun h => by omega⟩
  have g3 : 0 ≤ y3 := by simpa [hE.cmp, cmpR] using g3
  conv => cbv
  have hy3 := hy3 g3
  rw [hR]; exact ⟨hx, y3, rfl, by omega, fun _ => by simp only [wtN]; omega⟩
theorem szNodeS_f {w : World} {A : Option Addr} {n c : Nat} {pv : List PN} (h : RNs w A n pv) (hn : n ≤ 9223372036854775807) (l : Int) (h0 : 0 ≤ l) (h1 : l ≤ 1048576) :
    FC Tryd.prog 9 [.slice A n c, .int .i64 l] w fun v _ => ∃ r : Int, v = .int .i64 r ∧ r ≤ l ∧ (0 ≤ r → r + wtNs pv ≤ l) := by
  refine FC.intro (cs := []) Tryd.func9 (by kernel_rfl) fun E R hE hr hR => ?_
  have hl := h.len
  conv => cbv
  refine st_len hE sLNd fun x hx => ?_
  conv => cbv
  obtain ⟨y1, hy1⟩ : ∃ y, y = l - x := ⟨_, rfl⟩
  have e1 : E.ar .sub .i64 l x = y1 := by rw [hE.ar, hy1]; exact wrap_in (by omega) (by omega)
  simp only [e1]
  refine br (fun _ => ?_) (fun g1 => ?_)
  · conv => cbv
    rw [hR]; exact ⟨Ext.refl _, -1, rfl, by omega, fun h => by omega⟩
  have g1 : 0 ≤ y1 := by simpa [hE.cmp, cmpR] using g1
  conv => cbv
  refine loop_rule hr (fun (s : Nat × Int × Int) w' => s.1 ≤ n ∧ s.2.1 = (s.1 : Int) ∧ 0 ≤ s.2.2 ∧ s.2.2 ≤ y1 ∧ Ext w w' ∧ s.2.2 + wtNs (pv.take s.1) ≤ y1 + s.1) (fun s => [(0, .slice A n c), (1, .int .i64 s.2.2), (5, .int .i64 s.2.1)]) (fun s => n - s.1) (0, 0, y1)
    (by simp [Fits, lk]) ⟨by simp, by simp, g1, by simp, Ext.refl _, by simp [wtNs]⟩ ?_
  rintro I hI ⟨i, ii, l'⟩ w' ⟨hi, hii, hl0, hl1, hxw, hall⟩
  simp only at hi hii hl0 hl1 hall
  obtain ⟨ii', hii'⟩ : ∃ z, z = ii + 1 := ⟨_, rfl⟩
  conv => cbv
  refine st_len hE sLNd fun x2 hx2 => ?_
  conv => cbv
  refine br (fun g2 => ?_) (fun g2 => ?_)
  · have g2 : i < n := by
      have : ii < x2 := by simpa [hE.cmp, cmpR] using g2
      omega
    have ei : E.ar .add .i64 ii 1 = ii' := by rw [hE.ar, hii']; exact wrap_in (by omega) (by omega)
    obtain ⟨a, v, hA, hg, hc, hok⟩ := (h.ext hxw).get g2
    conv => cbv
    refine st_idx hE sLNd hA (by omega) (by omega) fun q hq => ?_
    rw [show ii.toNat = i by omega] at hq
    conv => cbv
    refine st_loadS hE tLNd (vs := cN v) rfl (by rw [hq]; exact hc) ?_
    obtain ⟨cv, hcv⟩ : ∃ cv, cv = cN v := ⟨_, rfl⟩
    rw [← hcv]
    conv => cbv
    rw [hcv]
    refine st_f hr (szNode_f v hok l' hl0 (by omega)) fun u w2 hx3 ⟨r, ev, hr1, hr2⟩ => ?_
    subst ev
    rw [← hcv]
    conv => cbv
    refine br (fun _ => ?_) (fun g3 => ?_)
    · conv => cbv
      rw [hR]; exact ⟨hxw.trans hx3, -1, rfl, by omega, fun h => by omega⟩
    have g3 : 0 ≤ r := by simpa [hE.cmp, cmpR] using g3
    have hr2 := hr2 g3
    conv => cbv
    simp only [ei]
    refine ⟨(i + 1, ii', r), by simp [Fits, lk], hI _ _ ⟨by simp only; omega, by simp only; omega, g3, by simp only; omega, hxw.trans hx3, ?_⟩, by simp only; omega⟩
    simp only
    rw [List.take_add_one, hg, wtNs_app]
    simp only [Option.toList, wtNs]
    omega
  · have g2 : i = n := by
      have : ¬ ii < x2 := by simpa [hE.cmp, cmpR] using g2
      omega
    rw [List.take_of_length_le (by omega)] at hall
    conv => cbv
    rw [hR]; exact ⟨hxw, l', rfl, by omega, fun _ => by omega⟩
theorem szStmt_f {w : World} (v : VS) (h : OKS w v) (l : Int) (h0 : 0 ≤ l) (h1 : l ≤ 1048576) :
    FC Tryd.prog 20 [.agg ⟨cS v⟩, .int .i64 l] w fun u _ => ∃ r : Int, u = .int .i64 r ∧ r ≤ l ∧ (0 ≤ r → r + wtS v ≤ l) := by
  refine FC.intro (cs := []) Tryd.func20 (by kernel_rfl) fun E R hE hr hR => ?_
  obtain ⟨k, nm, c, g⟩ := v
  have s_nm := h.s_nm
  clear h
  simp only at s_nm
  conv => cbv
  refine st_box hr fun a w1 hx hb0 => ?_
  have hb := hb0 _ (Nat.le_refl _)
  conv => cbv
  (refine st_fld hE fLSd1 fun p hp => ?_; (conv => cbv); refine st_load hE cStr (by rw [hp]; exact (hb).at _ _ rfl) ?_; clear hp; (conv => cbv))
  refine st_slen hE uStr fun x1 hx1 => ?_
  conv => cbv
  obtain ⟨y1, hy1⟩ : ∃ y, y = l - x1 := ⟨_, rfl⟩
  have e1 : E.ar .sub .i64 l x1 = y1 := by rw [hE.ar, hy1]; exact wrap_in (by omega) (by omega)
  simp only [e1]
  refine br (fun _ => ?_) (fun g1 => ?_)
  · conv => cbv
    rw [hR]; exact ⟨hx, -1, rfl, by omega, fun h => by omega⟩
  have g1 : 0 ≤ y1 := by simpa [hE.cmp, cmpR] using g1
  conv => cbv
  rw [hR]; exact ⟨hx, y1, rfl, by omega, fun _ => by simp only [wtS]; omega⟩
theorem szStmtS_f {w : World} {A : Option Addr} {n c : Nat} {pv : List PS} (h : RSs w A n pv) (hn : n ≤ 9223372036854775807) (l : Int) (h0 : 0 ≤ l) (h1 : l ≤ 1048576) :
    FC Tryd.prog 10 [.slice A n c, .int .i64 l] w fun v _ => ∃ r : Int, v = .int .i64 r ∧ r ≤ l ∧ (0 ≤ r → r + wtSs pv ≤ l) := by
  refine FC.intro (cs := []) Tryd.func10 (by kernel_rfl) fun E R hE hr hR => ?_
  have hl := h.len
  conv => cbv
  refine st_len hE sLSd fun x hx => ?_
  conv => cbv
  obtain ⟨y1, hy1⟩ : ∃ y, y = l - x := ⟨_, rfl⟩
  have e1 : E.ar .sub .i64 l x = y1 := by rw [hE.ar, hy1]; exact wrap_in (by omega) (by omega)
  simp only [e1]
  refine br (fun _ => ?_) (fun g1 => ?_)
  · conv => cbv
    rw [hR]; exact ⟨Ext.refl _, -1, rfl, by omega, fun h => by omega⟩
  have g1 : 0 ≤ y1 := by simpa [hE.cmp, cmpR] using g1
  conv => cbv
  refine loop_rule hr (fun (s : Nat × Int × Int) w' => s.1 ≤ n ∧ s.2.1 = (s.1 : Int) ∧ 0 ≤ s.2.2 ∧ s.2.2 ≤ y1 ∧ Ext w w' ∧ s.2.2 + wtSs (pv.take s.1) ≤ y1 + s.1) (fun s => [(0, .slice A n c), (1, .int .i64 s.2.2), (5, .int .i64 s.2.1)]) (fun s => n - s.1) (0, 0, y1)
    (by simp [Fits, lk]) ⟨by simp, by simp, g1, by simp, Ext.refl _, by simp [wtSs]⟩ ?_
  rintro I hI ⟨i, ii, l'⟩ w' ⟨hi, hii, hl0, hl1, hxw, hall⟩
  simp only at hi hii hl0 hl1 hall
  obtain ⟨ii', hii'⟩ : ∃ z, z = ii + 1 := ⟨_, rfl⟩
  conv => cbv
  refine st_len hE sLSd fun x2 hx2 => ?_
  conv => cbv
  refine br (fun g2 => ?_) (fun g2 => ?_)
  · have g2 : i < n := by
      have : ii < x2 := by simpa [hE.cmp, cmpR] using g2
      omega
    have ei : E.ar .add .i64 ii 1 = ii' := by rw [hE.ar, hii']; exact wrap_in (by omega) (by omega)
    obtain ⟨a, v, hA, hg, hc, hok⟩ := (h.ext hxw).get g2
    conv => cbv
    refine st_idx hE sLSd hA (by omega) (by omega) fun q hq => ?_
    rw [show ii.toNat = i by omega] at hq
    conv => cbv
    refine st_loadS hE tLSd (vs := cS v) rfl (by rw [hq]; exact hc) ?_
    obtain ⟨cv, hcv⟩ : ∃ cv, cv = cS v := ⟨_, rfl⟩
    rw [← hcv]
    conv => cbv
    rw [hcv]
    refine st_f hr (szStmt_f v hok l' hl0 (by omega)) fun u w2 hx3 ⟨r, ev, hr1, hr2⟩ => ?_
    subst ev
    rw [← hcv]
    conv => cbv
    refine br (fun _ => ?_) (fun g3 => ?_)
    · conv => cbv
      rw [hR]; exact ⟨hxw.trans hx3, -1, rfl, by omega, fun h => by omega⟩
    have g3 : 0 ≤ r := by simpa [hE.cmp, cmpR] using g3
    have hr2 := hr2 g3
    conv => cbv
    simp only [ei]
    refine ⟨(i + 1, ii', r), by simp [Fits, lk], hI _ _ ⟨by simp only; omega, by simp only; omega, g3, by simp only; omega, hxw.trans hx3, ?_⟩, by simp only; omega⟩
    simp only
    rw [List.take_add_one, hg, wtSs_app]
    simp only [Option.toList, wtSs]
    omega
  · have g2 : i = n := by
      have : ¬ ii < x2 := by simpa [hE.cmp, cmpR] using g2
      omega
    rw [List.take_of_length_le (by omega)] at hall
    conv => cbv
    rw [hR]; exact ⟨hxw, l', rfl, by omega, fun _ => by omega⟩
end Go.Proofs.YtgdnmpcaiaoaoaaDoor
/- The laws' helpers over policies: their copy, whether two are one (printed by gen_p1.py). -/
namespace Go.Proofs.YtgdnmpcaiaoaoaaDoor
open Go.Eng
set_option linter.unusedVariables false
set_option linter.unusedSimpArgs false
theorem toNode_f {w : World} (v : VN) (h : OKN w v) (b_xs : v.m0 ≤ 1048576) (b_ks : v.m1 ≤ 1048576) :
    FC Tryd.prog 26 [.agg ⟨cN v⟩] w fun u w' => ∃ B0 n0 d0 B1 n1 d1, u = .agg ⟨[.int .i64 v.p.o, .int .i64 v.p.z, .string v.p.tx, .slice B0 n0 d0, .slice B1 n1 d1]⟩ ∧ Own w.heap.size 9 1 w' B0 n0 d0 (v.p.xs.map (.string)) ∧ Own w.heap.size 3 1 w' B1 n1 d1 (v.p.ks.map (.int .i64)) := by
  refine FC.intro (cs := []) Tryd.func26 (by kernel_rfl) fun E R hE hr hR => ?_
  obtain ⟨⟨o, z, tx, xs, ks⟩, A0, m0, c0, A1, m1, c1⟩ := v
  have r_xs := h.r_xs
  have r_ks := h.r_ks
  clear h
  simp only at r_xs b_xs r_ks b_ks hR
  conv => cbv
  refine st_box hr fun a w1 hx hb0 => ?_
  have hb := hb0 _ (Nat.le_refl _)
  conv => cbv
  refine st_alloc hr tINd rfl fun oo w2 hx2 ho0 => ?_
  have ho := ho0 _ hx.size
  have hb := hb.bel hx2
  have hx := hx.trans hx2
  conv => cbv
  refine st_alloc hr tINd rfl fun q w3 hx3 hq0 => ?_
  have hq := hq0 _ hx.size
  have aq := (hb.apart (hq0 _ (Nat.le_refl _)) (Nat.le_refl _)).1
  have oq := (ho.apart (hq0 _ (Nat.le_refl _)) (Nat.le_refl _)).1
  have hb := hb.bel hx3
  have ho := ho.bel hx3
  have hx := hx.trans hx3
  clear hb0 ho0 hq0
  conv => cbv
  (refine st_fld hE fLNd0 fun p hp => ?_; (conv => cbv); refine st_load hE cInt (by rw [hp]; exact (hb).at _ _ rfl) ?_; clear hp; (conv => cbv))
  (refine st_fld hE fINd0 fun p hp => ?_; (conv => cbv); refine st_put hr zInt hq hp (by simp) rfl fun wn hw hq2 => ?_; replace hx := hx.then (hw.bel hq hx.size); (try clear hq); (have hq := hq2); clear hq2; (simp only [List.set_cons_zero, List.set_cons_succ] at hq); clear hp)
  replace hb := hb.wr hw aq
  replace ho := ho.wr hw oq
  conv => cbv
  (refine st_fld hE fLNd1 fun p hp => ?_; (conv => cbv); refine st_load hE cI64 (by rw [hp]; exact (hb).at _ _ rfl) ?_; clear hp; (conv => cbv))
  (refine st_fld hE fINd1 fun p hp => ?_; (conv => cbv); refine st_put hr zI64 hq hp (by simp) rfl fun wn hw hq2 => ?_; replace hx := hx.then (hw.bel hq hx.size); (try clear hq); (have hq := hq2); clear hq2; (simp only [List.set_cons_zero, List.set_cons_succ] at hq); clear hp)
  replace hb := hb.wr hw aq
  replace ho := ho.wr hw oq
  conv => cbv
  (refine st_fld hE fLNd2 fun p hp => ?_; (conv => cbv); refine st_load hE cStr (by rw [hp]; exact (hb).at _ _ rfl) ?_; clear hp; (conv => cbv))
  (refine st_fld hE fINd2 fun p hp => ?_; (conv => cbv); refine st_put hr zStr hq hp (by simp) rfl fun wn hw hq2 => ?_; replace hx := hx.then (hw.bel hq hx.size); (try clear hq); (have hq := hq2); clear hq2; (simp only [List.set_cons_zero, List.set_cons_succ] at hq); clear hp)
  replace hb := hb.wr hw aq
  replace ho := ho.wr hw oq
  conv => cbv
  (refine st_fld hE fLNd3 fun p hp => ?_; (conv => cbv); refine st_load hE cStrs (by rw [hp]; exact (hb).at _ _ rfl) ?_; clear hp; (conv => cbv))
  refine st_f hr (toStringS_f (r_xs.ext hx) b_xs) fun u ww hxx ⟨B0, n0, d0, ev, hcp, o_xs⟩ => ?_
  clear hcp
  subst ev
  have ax_xs := (hq.apart o_xs (Nat.le_refl _)).2
  have bx_xs := (ho.apart o_xs (Nat.le_refl _)).2
  replace o_xs := o_xs.mono hx.size
  replace hb := hb.bel hxx
  replace ho := ho.bel hxx
  replace hq := hq.bel hxx
  replace hx := hx.trans hxx
  clear hxx
  conv => cbv
  (refine st_fld hE fINd3 fun p hp => ?_; (conv => cbv); refine st_put hr zStrs hq hp (by simp) rfl fun wn hw hq2 => ?_; replace hx := hx.then (hw.bel hq hx.size); (try clear hq); (have hq := hq2); clear hq2; (simp only [List.set_cons_zero, List.set_cons_succ] at hq); clear hp)
  replace hb := hb.wr hw aq
  replace ho := ho.wr hw oq
  replace o_xs := o_xs.wr hw ax_xs
  conv => cbv
  (refine st_fld hE fLNd4 fun p hp => ?_; (conv => cbv); refine st_load hE cInts (by rw [hp]; exact (hb).at _ _ rfl) ?_; clear hp; (conv => cbv))
  refine st_f hr (toIntS_f (r_ks.ext hx) b_ks) fun u ww hxx ⟨B1, d1, ev, o_ks⟩ => ?_
  subst ev
  have ax_ks := (hq.apart o_ks (Nat.le_refl _)).2
  have bx_ks := (ho.apart o_ks (Nat.le_refl _)).2
  replace o_ks := o_ks.mono hx.size
  replace hb := hb.bel hxx
  replace ho := ho.bel hxx
  replace hq := hq.bel hxx
  replace hx := hx.trans hxx
  replace o_xs := o_xs.bel hxx
  clear hxx
  conv => cbv
  (refine st_fld hE fINd4 fun p hp => ?_; (conv => cbv); refine st_put hr zInts hq hp (by simp) rfl fun wn hw hq2 => ?_; replace hx := hx.then (hw.bel hq hx.size); (try clear hq); (have hq := hq2); clear hq2; (simp only [List.set_cons_zero, List.set_cons_succ] at hq); clear hp)
  replace hb := hb.wr hw aq
  replace ho := ho.wr hw oq
  replace o_xs := o_xs.wr hw ax_xs
  replace o_ks := o_ks.wr hw ax_ks
  conv => cbv
  refine st_loadS hE tINd rfl hq.at ?_
  conv => cbv
  refine st_putS hr (by kernel_rfl) ho (add_zero _).symm (by simp) (by simp [Value.oneCell']) fun w5 hw5 ho5 => ?_
  simp only [List.take_zero, List.nil_append, List.length_cons, List.length_nil, List.drop_succ_cons, List.drop_nil, List.append_nil] at ho5
  conv => cbv
  refine st_cell hr tINd rfl ho5.at ?_
  rw [hR]; exact ⟨hx.then (hw5.bel ho hx.size), B0, n0, d0, B1, _, d1, rfl, o_xs.wr hw5 bx_xs, o_ks.wr hw5 bx_ks⟩
def v0N : VN := (⟨⟨0, 0, ⟨#[]⟩, [], []⟩, none, 0, 0, none, 0, 0⟩ : VN)
set_option maxHeartbeats 1000000 in
theorem toNodeS_f {w : World} {A : Option Addr} {n c : Nat} {pv : List PN} (h : RNs w A n pv) (hn : n ≤ 1048576) (hp_xs : ∀ p ∈ pv, p.xs.length ≤ 1048576) (hp_ks : ∀ p ∈ pv, p.ks.length ≤ 1048576) :
    FC Tryd.prog 13 [.slice A n c] w fun v w' => ∃ A1 c1, v = .slice A1 n c1 ∧ ∀ w2, Above w.heap.size w' w2 → RNs w2 A1 n pv := by
  refine FC.intro (cs := []) Tryd.func13 (by kernel_rfl) fun E R hE hr hR => ?_
  have hl := h.len
  conv => cbv
  refine st_len hE sLNd fun x hx => ?_
  conv => cbv
  refine st_makeK hr sINd rfl (m := n) (by omega) (by omega) (by omega) fun A1 w1 hx1 h10 => ?_
  have h1 := h10 _ (Nat.le_refl _)
  rw [show (Value.agg ⟨zNd⟩).cells = ⟨cN v0N⟩ from rfl, made_fl (f := cN) v0N n 5 rfl (by omega)] at h1
  conv => cbv
  refine loop_rule hr (fun (s : Nat × Int × List VN) w' => s.1 ≤ n ∧ s.2.1 = (s.1 : Int) ∧ s.2.2.length = s.1 ∧ s.2.2.map (·.p) = pv.take s.1 ∧ Ext w w' ∧ Own w.heap.size 61 5 w' A1 n n ((s.2.2 ++ List.replicate (n - s.1) v0N).flatMap cN) ∧
      (∀ v ∈ s.2.2, Own w1.heap.size 9 1 w' v.A0 v.m0 v.c0 (v.p.xs.map (.string)) ∧ Own w1.heap.size 3 1 w' v.A1 v.m1 v.c1 (v.p.ks.map (.int .i64)) ∧ v.p.tx.size ≤ 9223372036854775807 ∧ (∀ u ∈ v.p.xs, u.size ≤ 9223372036854775807)) ∧ w1.heap.size ≤ w'.heap.size)
    (fun s => [(0, .slice A n c), (3, .slice A1 n n), (4, .int .i64 s.2.1)]) (fun s => n - s.1) (0, 0, [])
    (by simp [Fits, lk]) ⟨by simp, by simp, rfl, by simp, hx1, by simpa using h1, by simp, Nat.le_refl _⟩ ?_
  rintro I hI ⟨i, ii, ds⟩ w' ⟨hi, hii, hdl, hdp, hxw, ho, hds, hsz⟩
  simp only at hi hii hdl hdp ho hds
  obtain ⟨ii', hii'⟩ : ∃ z, z = ii + 1 := ⟨_, rfl⟩
  conv => cbv
  refine st_len hE sLNd fun x2 hx2 => ?_
  conv => cbv
  refine br (fun g2 => ?_) (fun g2 => ?_)
  · have g2 : i < n := by
      have : ii < x2 := by simpa [hE.cmp, cmpR] using g2
      omega
    have ei : E.ar .add .i64 ii 1 = ii' := by rw [hE.ar, hii']; exact wrap_in (by omega) (by omega)
    obtain ⟨a, v, hA, hg, hc, hok⟩ := (h.ext hxw).get g2
    have hb_xs : v.m0 ≤ 1048576 := by rw [← hok.r_xs.len]; exact hp_xs _ (List.mem_of_getElem? hg)
    have hb_ks : v.m1 ≤ 1048576 := by rw [← hok.r_ks.len]; exact hp_ks _ (List.mem_of_getElem? hg)
    obtain ⟨gb, rfl, _⟩ := ho.addr (by omega)
    conv => cbv
    refine st_idx hE sLNd hA (by omega) (by omega) fun q hq => ?_
    rw [show ii.toNat = i by omega] at hq
    conv => cbv
    refine st_loadS hE tLNd (vs := cN v) rfl (by rw [hq]; exact hc) ?_
    obtain ⟨cv, hcv⟩ : ∃ cv, cv = cN v := ⟨_, rfl⟩
    rw [← hcv]
    conv => cbv
    rw [hcv]
    refine st_f hr (toNode_f v hok hb_xs hb_ks) fun u w2 hx3 ⟨B0, n0, d0, B1, n1, d1, ev, o_xs, o_ks⟩ => ?_
    subst ev
    rw [← hcv]

    replace o_xs := o_xs.mono hsz
    replace o_ks := o_ks.mono hsz
    have ap : ∀ {e m5 c5 ys A5}, Own w1.heap.size e 1 w2 A5 m5 c5 ys → Apart A5 (some ⟨gb, 0, none⟩) := fun h5 => (h1.apart h5 (Nat.le_refl _)).2
    replace ho := ho.bel hx3
    have hds2 : ∀ v ∈ ds, Own w1.heap.size 9 1 w2 v.A0 v.m0 v.c0 (v.p.xs.map (.string)) ∧ Own w1.heap.size 3 1 w2 v.A1 v.m1 v.c1 (v.p.ks.map (.int .i64)) ∧ v.p.tx.size ≤ 9223372036854775807 ∧ (∀ u ∈ v.p.xs, u.size ≤ 9223372036854775807) := fun v hv => by
      obtain ⟨k0, k1, k2, k3⟩ := hds v hv
      exact ⟨k0.bel hx3, k1.bel hx3, k2, k3⟩
    replace hxw := hxw.trans hx3
    conv => cbv
    refine st_idx hE sINd rfl (by omega) (by omega) fun q1 hq1 => ?_
    rw [show ii.toNat = i by omega] at hq1
    conv => cbv
    obtain ⟨y, hy⟩ : ∃ y : VN, y = ⟨v.p, B0, n0, d0, B1, n1, d1⟩ := ⟨_, rfl⟩
    refine st_putS hr (vs := [.int .i64 v.p.o, .int .i64 v.p.z, .string v.p.tx, .slice B0 n0 d0, .slice B1 n1 d1]) (by kernel_rfl) ho (j := i * 5) hq1 (by rw [fl_len cN_len]; simp; omega) (by simp [Value.oneCell']) fun w3 hw3 ho3 => ?_
    rw [show ([.int .i64 v.p.o, .int .i64 v.p.z, .string v.p.tx, .slice B0 n0 d0, .slice B1 n1 d1] : List Value) = cN y by rw [hy]; rfl, fl_put cN_len _ i y (by simp; omega)] at ho3
    have hset : (ds ++ List.replicate (n - i) v0N).set i y = (ds ++ [y]) ++ List.replicate (n - (i + 1)) v0N := by
      rw [List.set_append_right _ _ (by omega), hdl, Nat.sub_self, show n - i = (n - (i + 1)) + 1 by omega, List.replicate_succ, List.set_cons_zero, List.append_assoc]; rfl
    rw [hset] at ho3
    conv => cbv
    simp only [ei]
    refine ⟨(i + 1, ii', ds ++ [y]), by simp [Fits, lk], hI _ _ ⟨by simp only; omega, by simp only; omega, by simp [hdl], ?_, hxw.then (hw3.bel ho hxw.size), ho3, ?_, ?_⟩, by simp only; omega⟩
    · simp only
      rw [List.map_append, hdp, List.take_add_one, hg, hy]; rfl
    · intro v2 hv
      rcases List.mem_append.1 hv with hv | hv
      · obtain ⟨k0, k1, k2, k3⟩ := hds2 v2 hv
        exact ⟨k0.wr hw3 (ap k0), k1.wr hw3 (ap k1), k2, k3⟩
      · simp at hv
        subst hv
        rw [hy]
        exact ⟨o_xs.wr hw3 (ap o_xs), o_ks.wr hw3 (ap o_ks), hok.s_tx, hok.r_xs.small⟩
    · have := hw3.size; have := hx3.size; omega
  · have g2 : i = n := by
      have : ¬ ii < x2 := by simpa [hE.cmp, cmpR] using g2
      omega
    subst g2
    rw [List.take_of_length_le (by omega)] at hdp
    simp only [Nat.sub_self, List.replicate_zero, List.append_nil] at ho
    conv => cbv
    rw [hR]; refine ⟨hxw, A1, i, rfl, fun w2 ha => ⟨ds, hdp, hdl, (ho.above ha).cells, fun v hv => ?_⟩⟩
    obtain ⟨k0, k1, k2, k3⟩ := hds v hv
    exact ⟨k2, ((k0.mono hx1.size).above ha).strs k3, ((k1.mono hx1.size).above ha).ints⟩
theorem toStmt_f {w : World} (v : VS) (h : OKS w v) :
    FC Tryd.prog 27 [.agg ⟨cS v⟩] w fun u w' => u = .agg ⟨[.int .i64 v.k, .string v.nm, .int .i64 v.c, .int .i64 v.g]⟩ := by
  refine FC.intro (cs := []) Tryd.func27 (by kernel_rfl) fun E R hE hr hR => ?_
  obtain ⟨k, nm, c, g⟩ := v
  simp only at hR
  conv => cbv
  refine st_box hr fun a w1 hx hb0 => ?_
  have hb := hb0 _ (Nat.le_refl _)
  conv => cbv
  refine st_alloc hr tISd rfl fun oo w2 hx2 ho0 => ?_
  have ho := ho0 _ hx.size
  have hb := hb.bel hx2
  have hx := hx.trans hx2
  conv => cbv
  refine st_alloc hr tISd rfl fun q w3 hx3 hq0 => ?_
  have hq := hq0 _ hx.size
  have aq := (hb.apart (hq0 _ (Nat.le_refl _)) (Nat.le_refl _)).1
  have oq := (ho.apart (hq0 _ (Nat.le_refl _)) (Nat.le_refl _)).1
  have hb := hb.bel hx3
  have ho := ho.bel hx3
  have hx := hx.trans hx3
  clear hb0 ho0 hq0
  conv => cbv
  (refine st_fld hE fLSd0 fun p hp => ?_; (conv => cbv); refine st_load hE cInt (by rw [hp]; exact (hb).at _ _ rfl) ?_; clear hp; (conv => cbv))
  (refine st_fld hE fISd0 fun p hp => ?_; (conv => cbv); refine st_put hr zInt hq hp (by simp) rfl fun wn hw hq2 => ?_; replace hx := hx.then (hw.bel hq hx.size); (try clear hq); (have hq := hq2); clear hq2; (simp only [List.set_cons_zero, List.set_cons_succ] at hq); clear hp)
  replace hb := hb.wr hw aq
  replace ho := ho.wr hw oq
  conv => cbv
  (refine st_fld hE fLSd1 fun p hp => ?_; (conv => cbv); refine st_load hE cStr (by rw [hp]; exact (hb).at _ _ rfl) ?_; clear hp; (conv => cbv))
  (refine st_fld hE fISd1 fun p hp => ?_; (conv => cbv); refine st_put hr zStr hq hp (by simp) rfl fun wn hw hq2 => ?_; replace hx := hx.then (hw.bel hq hx.size); (try clear hq); (have hq := hq2); clear hq2; (simp only [List.set_cons_zero, List.set_cons_succ] at hq); clear hp)
  replace hb := hb.wr hw aq
  replace ho := ho.wr hw oq
  conv => cbv
  (refine st_fld hE fLSd2 fun p hp => ?_; (conv => cbv); refine st_load hE cInt (by rw [hp]; exact (hb).at _ _ rfl) ?_; clear hp; (conv => cbv))
  (refine st_fld hE fISd2 fun p hp => ?_; (conv => cbv); refine st_put hr zInt hq hp (by simp) rfl fun wn hw hq2 => ?_; replace hx := hx.then (hw.bel hq hx.size); (try clear hq); (have hq := hq2); clear hq2; (simp only [List.set_cons_zero, List.set_cons_succ] at hq); clear hp)
  replace hb := hb.wr hw aq
  replace ho := ho.wr hw oq
  conv => cbv
  (refine st_fld hE fLSd3 fun p hp => ?_; (conv => cbv); refine st_load hE cInt (by rw [hp]; exact (hb).at _ _ rfl) ?_; clear hp; (conv => cbv))
  (refine st_fld hE fISd3 fun p hp => ?_; (conv => cbv); refine st_put hr zInt hq hp (by simp) rfl fun wn hw hq2 => ?_; replace hx := hx.then (hw.bel hq hx.size); (try clear hq); (have hq := hq2); clear hq2; (simp only [List.set_cons_zero, List.set_cons_succ] at hq); clear hp)
  replace hb := hb.wr hw aq
  replace ho := ho.wr hw oq
  conv => cbv
  refine st_loadS hE tISd rfl hq.at ?_
  conv => cbv
  refine st_putS hr (by kernel_rfl) ho (add_zero _).symm (by simp) (by simp [Value.oneCell']) fun w5 hw5 ho5 => ?_
  simp only [List.take_zero, List.nil_append, List.length_cons, List.length_nil, List.drop_succ_cons, List.drop_nil, List.append_nil] at ho5
  conv => cbv
  refine st_cell hr tISd rfl ho5.at ?_
  rw [hR]; exact ⟨hx.then (hw5.bel ho hx.size), rfl⟩
def v0S : VS := (⟨0, ⟨#[]⟩, 0, 0⟩ : VS)
set_option maxHeartbeats 1000000 in
theorem toStmtS_f {w : World} {A : Option Addr} {n c : Nat} {pv : List PS} (h : RSs w A n pv) (hn : n ≤ 1048576) :
    FC Tryd.prog 14 [.slice A n c] w fun v w' => ∃ A1 c1, v = .slice A1 n c1 ∧ ∀ w2, Above w.heap.size w' w2 → RSs w2 A1 n pv := by
  refine FC.intro (cs := []) Tryd.func14 (by kernel_rfl) fun E R hE hr hR => ?_
  have hl := h.len
  conv => cbv
  refine st_len hE sLSd fun x hx => ?_
  conv => cbv
  refine st_makeK hr sISd rfl (m := n) (by omega) (by omega) (by omega) fun A1 w1 hx1 h10 => ?_
  have h1 := h10 _ (Nat.le_refl _)
  rw [show (Value.agg ⟨zSd⟩).cells = ⟨cS v0S⟩ from rfl, made_fl (f := cS) v0S n 4 rfl (by omega)] at h1
  conv => cbv
  refine loop_rule hr (fun (s : Nat × Int × List VS) w' => s.1 ≤ n ∧ s.2.1 = (s.1 : Int) ∧ s.2.2.length = s.1 ∧ s.2.2 = pv.take s.1 ∧ Ext w w' ∧ Own w.heap.size 39 4 w' A1 n n ((s.2.2 ++ List.replicate (n - s.1) v0S).flatMap cS) ∧
      (∀ v ∈ s.2.2, v.nm.size ≤ 9223372036854775807) ∧ w1.heap.size ≤ w'.heap.size)
    (fun s => [(0, .slice A n c), (3, .slice A1 n n), (4, .int .i64 s.2.1)]) (fun s => n - s.1) (0, 0, [])
    (by simp [Fits, lk]) ⟨by simp, by simp, rfl, by simp, hx1, by simpa using h1, by simp, Nat.le_refl _⟩ ?_
  rintro I hI ⟨i, ii, ds⟩ w' ⟨hi, hii, hdl, hdp, hxw, ho, hds, hsz⟩
  simp only at hi hii hdl hdp ho hds
  obtain ⟨ii', hii'⟩ : ∃ z, z = ii + 1 := ⟨_, rfl⟩
  conv => cbv
  refine st_len hE sLSd fun x2 hx2 => ?_
  conv => cbv
  refine br (fun g2 => ?_) (fun g2 => ?_)
  · have g2 : i < n := by
      have : ii < x2 := by simpa [hE.cmp, cmpR] using g2
      omega
    have ei : E.ar .add .i64 ii 1 = ii' := by rw [hE.ar, hii']; exact wrap_in (by omega) (by omega)
    obtain ⟨a, v, hA, hg, hc, hok⟩ := (h.ext hxw).get g2
    obtain ⟨gb, rfl, _⟩ := ho.addr (by omega)
    conv => cbv
    refine st_idx hE sLSd hA (by omega) (by omega) fun q hq => ?_
    rw [show ii.toNat = i by omega] at hq
    conv => cbv
    refine st_loadS hE tLSd (vs := cS v) rfl (by rw [hq]; exact hc) ?_
    obtain ⟨cv, hcv⟩ : ∃ cv, cv = cS v := ⟨_, rfl⟩
    rw [← hcv]
    conv => cbv
    rw [hcv]
    refine st_f hr (toStmt_f v hok) fun u w2 hx3 ev => ?_
    subst ev
    rw [← hcv]

    replace ho := ho.bel hx3
    have hds2 : ∀ v ∈ ds, v.nm.size ≤ 9223372036854775807 := fun v hv => by
      have k0 := hds v hv
      exact k0
    replace hxw := hxw.trans hx3
    conv => cbv
    refine st_idx hE sISd rfl (by omega) (by omega) fun q1 hq1 => ?_
    rw [show ii.toNat = i by omega] at hq1
    conv => cbv
    obtain ⟨y, hy⟩ : ∃ y : VS, y = v := ⟨_, rfl⟩
    refine st_putS hr (vs := [.int .i64 v.k, .string v.nm, .int .i64 v.c, .int .i64 v.g]) (by kernel_rfl) ho (j := i * 4) hq1 (by rw [fl_len cS_len]; simp; omega) (by simp [Value.oneCell']) fun w3 hw3 ho3 => ?_
    rw [show ([.int .i64 v.k, .string v.nm, .int .i64 v.c, .int .i64 v.g] : List Value) = cS y by rw [hy]; rfl, fl_put cS_len _ i y (by simp; omega)] at ho3
    have hset : (ds ++ List.replicate (n - i) v0S).set i y = (ds ++ [y]) ++ List.replicate (n - (i + 1)) v0S := by
      rw [List.set_append_right _ _ (by omega), hdl, Nat.sub_self, show n - i = (n - (i + 1)) + 1 by omega, List.replicate_succ, List.set_cons_zero, List.append_assoc]; rfl
    rw [hset] at ho3
    conv => cbv
    simp only [ei]
    refine ⟨(i + 1, ii', ds ++ [y]), by simp [Fits, lk], hI _ _ ⟨by simp only; omega, by simp only; omega, by simp [hdl], ?_, hxw.then (hw3.bel ho hxw.size), ho3, ?_, ?_⟩, by simp only; omega⟩
    · simp only
      rw [hdp, List.take_add_one, hg, hy]; rfl
    · intro v2 hv
      rcases List.mem_append.1 hv with hv | hv
      · have k0 := hds2 v2 hv
        exact k0
      · simp at hv
        subst hv
        rw [hy]
        exact hok.s_nm
    · have := hw3.size; have := hx3.size; omega
  · have g2 : i = n := by
      have : ¬ ii < x2 := by simpa [hE.cmp, cmpR] using g2
      omega
    subst g2
    rw [List.take_of_length_le (by omega)] at hdp
    simp only [Nat.sub_self, List.replicate_zero, List.append_nil] at ho
    conv => cbv
    rw [hR]; refine ⟨hxw, A1, i, rfl, fun w2 ha => ⟨ds, hdp, hdl, (ho.above ha).cells, fun v hv => ?_⟩⟩
    have k0 := hds v hv
    exact ⟨k0⟩
theorem eqNode_f {w : World} (v u : VN) (h : OKN w v) (h1 : OKN w u) (he : v.p = u.p) :
    FC Tryd.prog 35 [.agg ⟨cN v⟩, .agg ⟨cN u⟩] w fun r _ => r = .bool true := by
  refine FC.intro (cs := []) Tryd.func35 (by kernel_rfl) fun E R hE hr hR => ?_
  have ei : ∀ z : Int, ¬ E.cmp .neq z z = true := fun z => by rw [hE.cmp]; simp [cmpR]
  have es : ∀ z : ByteArray, ¬ E.scmp .neq z z = true := fun z => by rw [hE.scmp, scmp_neq]; simp
  obtain ⟨⟨o, z, tx, xs, ks⟩, A0, m0, c0, A1, m1, c1⟩ := v
  obtain ⟨p2, B0, n0, d0, B1, n1, d1⟩ := u
  simp only at he
  subst he
  have r_xs := h.r_xs
  have u_xs := h1.r_xs
  have r_ks := h.r_ks
  have u_ks := h1.r_ks
  clear h h1
  simp only at r_xs u_xs r_ks u_ks
  conv => cbv
  refine st_box hr fun a w1 hx ha0 => ?_
  have ha := ha0 _ (Nat.le_refl _)
  conv => cbv
  refine st_box hr fun b w2 hx2 hb0 => ?_
  have hb := hb0 _ hx.size
  replace ha := ha.bel hx2
  replace hx := hx.trans hx2
  clear ha0 hb0
  conv => cbv
  (refine st_fld hE fINd0 fun p hp => ?_; (conv => cbv); refine st_load hE cInt (by rw [hp]; exact (ha).at _ _ rfl) ?_; clear hp; (conv => cbv))
  (refine st_fld hE fINd0 fun p hp => ?_; (conv => cbv); refine st_load hE cInt (by rw [hp]; exact (hb).at _ _ rfl) ?_; clear hp; (conv => cbv))
  refine br (fun g => absurd g (ei _)) (fun _ => ?_)
  conv => cbv
  (refine st_fld hE fINd1 fun p hp => ?_; (conv => cbv); refine st_load hE cI64 (by rw [hp]; exact (ha).at _ _ rfl) ?_; clear hp; (conv => cbv))
  (refine st_fld hE fINd1 fun p hp => ?_; (conv => cbv); refine st_load hE cI64 (by rw [hp]; exact (hb).at _ _ rfl) ?_; clear hp; (conv => cbv))
  refine br (fun g => absurd g (ei _)) (fun _ => ?_)
  conv => cbv
  (refine st_fld hE fINd2 fun p hp => ?_; (conv => cbv); refine st_load hE cStr (by rw [hp]; exact (ha).at _ _ rfl) ?_; clear hp; (conv => cbv))
  (refine st_fld hE fINd2 fun p hp => ?_; (conv => cbv); refine st_load hE cStr (by rw [hp]; exact (hb).at _ _ rfl) ?_; clear hp; (conv => cbv))
  refine br (fun g => absurd g (es _)) (fun _ => ?_)
  conv => cbv
  (refine st_fld hE fINd3 fun p hp => ?_; (conv => cbv); refine st_load hE cStrs (by rw [hp]; exact (ha).at _ _ rfl) ?_; clear hp; (conv => cbv))
  (refine st_fld hE fINd3 fun p hp => ?_; (conv => cbv); refine st_load hE cStrs (by rw [hp]; exact (hb).at _ _ rfl) ?_; clear hp; (conv => cbv))
  refine st_qb hE (eqStringS_q (r_xs.ext hx) (u_xs.ext hx)) fun v hv ww hss => ?_
  obtain rfl : v = true := hv.2 rfl
  replace ha := ha.bel hss.ext
  replace hb := hb.bel hss.ext
  replace hx := hx.trans hss.ext
  clear hss hv
  conv => cbv
  (refine st_fld hE fINd4 fun p hp => ?_; (conv => cbv); refine st_load hE cInts (by rw [hp]; exact (ha).at _ _ rfl) ?_; clear hp; (conv => cbv))
  (refine st_fld hE fINd4 fun p hp => ?_; (conv => cbv); refine st_load hE cInts (by rw [hp]; exact (hb).at _ _ rfl) ?_; clear hp; (conv => cbv))
  refine st_qb hE (eqIntS_q (r_ks.ext hx) (u_ks.ext hx)) fun v hv ww hss => ?_
  obtain rfl : v = true := hv.2 rfl
  replace ha := ha.bel hss.ext
  replace hb := hb.bel hss.ext
  replace hx := hx.trans hss.ext
  clear hss hv
  conv => cbv
  rw [hR]; exact ⟨hx, rfl⟩
theorem eqNodeS_f {w : World} {A A1 : Option Addr} {n c c1 : Nat} {xs : List PN} (h : RNs w A n xs) (h1 : RNs w A1 n xs) (hn : n ≤ 9223372036854775807) :
    FC Tryd.prog 17 [.slice A n c, .slice A1 n c1] w fun v _ => v = .bool true := by
  refine FC.intro (cs := []) Tryd.func17 (by kernel_rfl) fun E R hE hr hR => ?_
  have ei : ∀ z : Int, ¬ E.cmp .neq z z = true := fun z => by rw [hE.cmp]; simp [cmpR]
  conv => cbv
  refine st_len hE sINd fun x hx => ?_
  conv => cbv
  refine st_len hE sINd fun x' hx' => ?_
  obtain rfl : x = x' := by rw [hx, hx']
  conv => cbv
  refine br (fun g => absurd g (ei _)) (fun _ => ?_)
  conv => cbv
  refine loop_rule hr (fun (s : Nat × Int) w' => s.1 ≤ n ∧ s.2 = (s.1 : Int) ∧ Ext w w') (fun s => [(0, .slice A n c), (1, .slice A1 n c1), (5, .int .i64 s.2)]) (fun s => n - s.1) (0, 0)
    (by simp [Fits, lk]) ⟨by simp, by simp, Ext.refl _⟩ ?_
  rintro I hI ⟨i, z⟩ w' ⟨hi, hz, hxw⟩
  simp only at hi hz
  obtain ⟨z', hz'⟩ : ∃ z', z' = z + 1 := ⟨_, rfl⟩
  conv => cbv
  refine st_len hE sINd fun y hy => ?_
  conv => cbv
  refine br (fun g => ?_) (fun g => ?_)
  · have g : i < n := by
      have : z < y := by simpa [hE.cmp, cmpR] using g
      omega
    have e1 : E.ar .add .i64 z 1 = z' := by rw [hE.ar, hz']; exact wrap_in (by omega) (by omega)
    conv => cbv
    refine draw_h [0, 1, 2, 3, 4, 5, 6, 7] [(8, false), (9, false)] hr fol (by kernel_rfl) fun E' hE' w0 hs0 S hS => ?_
    replace hxw := hxw.trans hs0.ext
    obtain ⟨a, v, hA, hg, hc, hv⟩ := (h.ext hxw).get g
    obtain ⟨a1, u, hA1, hg1, hc1, hu⟩ := (h1.ext hxw).get g
    have he : v.p = u.p := by rw [hg] at hg1; exact Option.some.inj hg1
    conv => cbv
    refine st_idx hE' sINd hA (by omega) (by omega) fun q hq => ?_
    rw [show z.toNat = i by omega] at hq
    conv => cbv
    refine st_loadS hE' tINd (vs := cN v) rfl (by rw [hq]; exact hc) ?_
    obtain ⟨cv, hcv⟩ : ∃ cv, cv = cN v := ⟨_, rfl⟩
    rw [← hcv]
    conv => cbv
    refine st_idx hE' sINd hA1 (by omega) (by omega) fun q1 hq1 => ?_
    rw [show z.toNat = i by omega] at hq1
    conv => cbv
    refine st_loadS hE' tINd (vs := cN u) rfl (by rw [hq1]; exact hc1) ?_
    obtain ⟨cu, hcu⟩ : ∃ cu, cu = cN u := ⟨_, rfl⟩
    rw [← hcu]
    conv => cbv
    rw [hcv, hcu]
    refine st_f hr (eqNode_f v u hv hu he) fun r w2 hx2 ev => ?_
    subst ev
    rw [← hcv, ← hcu]
    replace hxw := hxw.trans hx2
    refine ⟨hS _ hx2, ?_⟩
    conv => cbv
    refine ⟨hS _ hx2, ?_⟩
    conv => cbv
    simp only [e1]
    exact ⟨(i + 1, z'), by simp [Fits, lk], hI _ _ ⟨by simp only; omega, by simp only; omega, hxw⟩, by simp only; omega⟩
  · conv => cbv
    rw [hR]; exact ⟨hxw, rfl⟩
theorem eqStmt_f {w : World} (v u : VS) (h : OKS w v) (h1 : OKS w u) (he : v = u) :
    FC Tryd.prog 36 [.agg ⟨cS v⟩, .agg ⟨cS u⟩] w fun r _ => r = .bool true := by
  refine FC.intro (cs := []) Tryd.func36 (by kernel_rfl) fun E R hE hr hR => ?_
  have ei : ∀ z : Int, ¬ E.cmp .neq z z = true := fun z => by rw [hE.cmp]; simp [cmpR]
  have es : ∀ z : ByteArray, ¬ E.scmp .neq z z = true := fun z => by rw [hE.scmp, scmp_neq]; simp
  subst he
  obtain ⟨k, nm, c, g⟩ := v
  clear h h1
  conv => cbv
  refine st_box hr fun a w1 hx ha0 => ?_
  have ha := ha0 _ (Nat.le_refl _)
  conv => cbv
  refine st_box hr fun b w2 hx2 hb0 => ?_
  have hb := hb0 _ hx.size
  replace ha := ha.bel hx2
  replace hx := hx.trans hx2
  clear ha0 hb0
  conv => cbv
  (refine st_fld hE fISd0 fun p hp => ?_; (conv => cbv); refine st_load hE cInt (by rw [hp]; exact (ha).at _ _ rfl) ?_; clear hp; (conv => cbv))
  (refine st_fld hE fISd0 fun p hp => ?_; (conv => cbv); refine st_load hE cInt (by rw [hp]; exact (hb).at _ _ rfl) ?_; clear hp; (conv => cbv))
  refine br (fun g => absurd g (ei _)) (fun _ => ?_)
  conv => cbv
  (refine st_fld hE fISd1 fun p hp => ?_; (conv => cbv); refine st_load hE cStr (by rw [hp]; exact (ha).at _ _ rfl) ?_; clear hp; (conv => cbv))
  (refine st_fld hE fISd1 fun p hp => ?_; (conv => cbv); refine st_load hE cStr (by rw [hp]; exact (hb).at _ _ rfl) ?_; clear hp; (conv => cbv))
  refine br (fun g => absurd g (es _)) (fun _ => ?_)
  conv => cbv
  (refine st_fld hE fISd2 fun p hp => ?_; (conv => cbv); refine st_load hE cInt (by rw [hp]; exact (ha).at _ _ rfl) ?_; clear hp; (conv => cbv))
  (refine st_fld hE fISd2 fun p hp => ?_; (conv => cbv); refine st_load hE cInt (by rw [hp]; exact (hb).at _ _ rfl) ?_; clear hp; (conv => cbv))
  refine br (fun g => absurd g (ei _)) (fun _ => ?_)
  conv => cbv
  (refine st_fld hE fISd3 fun p hp => ?_; (conv => cbv); refine st_load hE cInt (by rw [hp]; exact (ha).at _ _ rfl) ?_; clear hp; (conv => cbv))
  (refine st_fld hE fISd3 fun p hp => ?_; (conv => cbv); refine st_load hE cInt (by rw [hp]; exact (hb).at _ _ rfl) ?_; clear hp; (conv => cbv))
  refine br (fun g => absurd g (ei _)) (fun _ => ?_)
  conv => cbv
  rw [hR]; exact ⟨hx, rfl⟩
theorem eqStmtS_f {w : World} {A A1 : Option Addr} {n c c1 : Nat} {xs : List PS} (h : RSs w A n xs) (h1 : RSs w A1 n xs) (hn : n ≤ 9223372036854775807) :
    FC Tryd.prog 18 [.slice A n c, .slice A1 n c1] w fun v _ => v = .bool true := by
  refine FC.intro (cs := []) Tryd.func18 (by kernel_rfl) fun E R hE hr hR => ?_
  have ei : ∀ z : Int, ¬ E.cmp .neq z z = true := fun z => by rw [hE.cmp]; simp [cmpR]
  conv => cbv
  refine st_len hE sISd fun x hx => ?_
  conv => cbv
  refine st_len hE sISd fun x' hx' => ?_
  obtain rfl : x = x' := by rw [hx, hx']
  conv => cbv
  refine br (fun g => absurd g (ei _)) (fun _ => ?_)
  conv => cbv
  refine loop_rule hr (fun (s : Nat × Int) w' => s.1 ≤ n ∧ s.2 = (s.1 : Int) ∧ Ext w w') (fun s => [(0, .slice A n c), (1, .slice A1 n c1), (5, .int .i64 s.2)]) (fun s => n - s.1) (0, 0)
    (by simp [Fits, lk]) ⟨by simp, by simp, Ext.refl _⟩ ?_
  rintro I hI ⟨i, z⟩ w' ⟨hi, hz, hxw⟩
  simp only at hi hz
  obtain ⟨z', hz'⟩ : ∃ z', z' = z + 1 := ⟨_, rfl⟩
  conv => cbv
  refine st_len hE sISd fun y hy => ?_
  conv => cbv
  refine br (fun g => ?_) (fun g => ?_)
  · have g : i < n := by
      have : z < y := by simpa [hE.cmp, cmpR] using g
      omega
    have e1 : E.ar .add .i64 z 1 = z' := by rw [hE.ar, hz']; exact wrap_in (by omega) (by omega)
    conv => cbv
    refine draw_h [0, 1, 2, 3, 4, 5, 6, 7] [(8, false), (9, false)] hr fol (by kernel_rfl) fun E' hE' w0 hs0 S hS => ?_
    replace hxw := hxw.trans hs0.ext
    obtain ⟨a, v, hA, hg, hc, hv⟩ := (h.ext hxw).get g
    obtain ⟨a1, u, hA1, hg1, hc1, hu⟩ := (h1.ext hxw).get g
    have he : v = u := by rw [hg] at hg1; exact Option.some.inj hg1
    conv => cbv
    refine st_idx hE' sISd hA (by omega) (by omega) fun q hq => ?_
    rw [show z.toNat = i by omega] at hq
    conv => cbv
    refine st_loadS hE' tISd (vs := cS v) rfl (by rw [hq]; exact hc) ?_
    obtain ⟨cv, hcv⟩ : ∃ cv, cv = cS v := ⟨_, rfl⟩
    rw [← hcv]
    conv => cbv
    refine st_idx hE' sISd hA1 (by omega) (by omega) fun q1 hq1 => ?_
    rw [show z.toNat = i by omega] at hq1
    conv => cbv
    refine st_loadS hE' tISd (vs := cS u) rfl (by rw [hq1]; exact hc1) ?_
    obtain ⟨cu, hcu⟩ : ∃ cu, cu = cS u := ⟨_, rfl⟩
    rw [← hcu]
    conv => cbv
    rw [hcv, hcu]
    refine st_f hr (eqStmt_f v u hv hu he) fun r w2 hx2 ev => ?_
    subst ev
    rw [← hcv, ← hcu]
    replace hxw := hxw.trans hx2
    refine ⟨hS _ hx2, ?_⟩
    conv => cbv
    refine ⟨hS _ hx2, ?_⟩
    conv => cbv
    simp only [e1]
    exact ⟨(i + 1, z'), by simp [Fits, lk], hI _ _ ⟨by simp only; omega, by simp only; omega, hxw⟩, by simp only; omega⟩
  · conv => cbv
    rw [hR]; exact ⟨hxw, rfl⟩
end Go.Proofs.YtgdnmpcaiaoaoaaDoor
/- The laws' helpers over whole policies: size, copy, equality. -/
namespace Go.Proofs.YtgdnmpcaiaoaoaaDoor
open Go.Eng
set_option linter.unusedVariables false
set_option linter.unusedSimpArgs false
abbrev zPol : List Value := [.slice none 0 0, .slice none 0 0]
theorem tLPol : Stc Tryd.prog 25 2 zPol := ⟨by kernel_rfl, by kernel_rfl⟩
theorem tIPol : Stc Tryd.prog 31 2 zPol := ⟨by kernel_rfl, by kernel_rfl⟩
theorem fLPol0 : Fld Tryd.prog 25 0 0 := ⟨by kernel_rfl⟩
theorem fLPol1 : Fld Tryd.prog 25 1 1 := ⟨by kernel_rfl⟩
theorem fIPol0 : Fld Tryd.prog 31 0 0 := ⟨by kernel_rfl⟩
theorem fIPol1 : Fld Tryd.prog 31 1 1 := ⟨by kernel_rfl⟩
theorem bulk_len : ∀ xs : List ByteArray, xs.length ≤ bulk xs
  | [] => by simp [bulk]
  | x :: xs => by have := bulk_len xs; rw [bulk, List.length_cons]; omega
theorem wt_b {nv : List PN} (h : wtNs nv ≤ 1048576) : nv.length ≤ 1048576 ∧ (∀ p ∈ nv, p.xs.length ≤ 1048576) ∧ ∀ p ∈ nv, p.ks.length ≤ 1048576 := by
  refine ⟨by have := wtNs_len nv; omega, fun p hp => ?_, fun p hp => ?_⟩
  · have h1 := wtNs_mem hp; have h2 := bulk_len p.xs; unfold wtN at h1; omega
  · have h1 := wtNs_mem hp; unfold wtN at h1; omega
theorem szPolicy_f {w : World} {A A2 : Option Addr} {n c n2 c2 : Nat} {nv : List PN} {sv : List PS} (h : PolR w A n A2 n2 nv sv) (hn : n ≤ 9223372036854775807) (hn2 : n2 ≤ 9223372036854775807) :
    FC Tryd.prog 4 [polV A n c A2 n2 c2, .int .i64 1048576] w fun v _ => ∃ r : Int, v = .int .i64 r ∧ (0 ≤ r → wtNs nv + wtSs sv ≤ 1048576) := by
  refine FC.intro (cs := []) Tryd.func4 (by kernel_rfl) fun E R hE hr hR => ?_
  conv => cbv
  refine st_box hr fun a w1 hx hb0 => ?_
  have hb := hb0 _ (Nat.le_refl _)
  conv => cbv
  (refine st_fld hE fLPol0 fun p hp => ?_; (conv => cbv); refine st_load hE cLNs (by rw [hp]; exact (hb).at _ _ rfl) ?_; clear hp; (conv => cbv))
  refine st_f hr (szNodeS_f (h.nodes.ext hx) hn 1048576 (by omega) (by omega)) fun v w2 hx2 ⟨r, ev, hr1, hr2⟩ => ?_
  subst ev
  replace hb := hb.bel hx2
  replace hx := hx.trans hx2
  conv => cbv
  refine br (fun _ => ?_) (fun g1 => ?_)
  · conv => cbv
    rw [hR]; exact ⟨hx, -1, rfl, fun h => by omega⟩
  have g1 : 0 ≤ r := by simpa [hE.cmp, cmpR] using g1
  have hr2 := hr2 g1
  conv => cbv
  (refine st_fld hE fLPol1 fun p hp => ?_; (conv => cbv); refine st_load hE cLSs (by rw [hp]; exact (hb).at _ _ rfl) ?_; clear hp; (conv => cbv))
  refine st_f hr (szStmtS_f (h.stmts.ext hx) hn2 r g1 hr1) fun v w3 hx3 ⟨r', ev, hr3, hr4⟩ => ?_
  subst ev
  replace hx := hx.trans hx3
  conv => cbv
  refine br (fun _ => ?_) (fun g2 => ?_)
  · conv => cbv
    rw [hR]; exact ⟨hx, -1, rfl, fun h => by omega⟩
  have g2 : 0 ≤ r' := by simpa [hE.cmp, cmpR] using g2
  have hr4 := hr4 g2
  conv => cbv
  rw [hR]; exact ⟨hx, r', rfl, fun _ => by omega⟩
set_option maxHeartbeats 1000000 in
theorem toPolicy_f {w : World} {A A2 : Option Addr} {n c n2 c2 : Nat} {nv : List PN} {sv : List PS} (h : PolR w A n A2 n2 nv sv) (hw : wtNs nv + wtSs sv ≤ 1048576) :
    FC Tryd.prog 6 [polV A n c A2 n2 c2] w fun v w' => ∃ A1 c1 A3 c3, v = polV A1 n c1 A3 n2 c3 ∧ PolR w' A1 n A3 n2 nv sv := by
  refine FC.intro (cs := []) Tryd.func6 (by kernel_rfl) fun E R hE hr hR => ?_
  obtain ⟨b1, b2, b3⟩ := wt_b (nv := nv) (by omega)
  have b4 := wtSs_len sv
  have hl1 := h.nodes.len
  have hl2 := h.stmts.len
  conv => cbv
  refine st_box hr fun a w1 hx hb0 => ?_
  have hb := hb0 _ (Nat.le_refl _)
  conv => cbv
  refine st_alloc hr tIPol rfl fun o w2 hx2 ho0 => ?_
  have ho := ho0 _ hx.size
  have hb := hb.bel hx2
  have hx := hx.trans hx2
  conv => cbv
  refine st_alloc hr tIPol rfl fun q w3 hx3 hq0 => ?_
  have hq := hq0 _ hx.size
  have aq := (hb.apart (hq0 _ (Nat.le_refl _)) (Nat.le_refl _)).1
  have oq := (ho.apart (hq0 _ (Nat.le_refl _)) (Nat.le_refl _)).1
  have o0 := ho
  have hso := hx3.size
  have hb := hb.bel hx3
  have ho := ho.bel hx3
  have hx := hx.trans hx3
  clear hb0 ho0 hq0
  conv => cbv
  (refine st_fld hE fLPol0 fun p hp => ?_; (conv => cbv); refine st_load hE cLNs (by rw [hp]; exact (hb).at _ _ rfl) ?_; clear hp; (conv => cbv))
  refine st_f hr (toNodeS_f (h.nodes.ext hx) (by omega) b2 b3) fun v w4 hx4 ⟨A4, c4, ev, h4⟩ => ?_
  subst ev
  have hs4 := hx4.size
  have q0 := hq
  replace hb := hb.bel hx4
  replace ho := ho.bel hx4
  replace hq := hq.bel hx4
  replace hx := hx.trans hx4
  conv => cbv
  refine st_fld hE fIPol0 fun p hp => ?_
  conv => cbv
  refine st_put hr zINs hq hp (by simp) rfl fun wm hwm hq2 => ?_
  replace hx := hx.then (hwm.bel hq hx.size)
  have y4 : Above w3.heap.size w4 wm := hwm.above q0 (Nat.le_refl _)
  simp only [List.set_cons_zero, List.set_cons_succ] at hq2
  replace hq := hq2
  replace hb := hb.wr hwm aq
  replace ho := ho.wr hwm oq
  have hsz : w3.heap.size ≤ wm.heap.size := Nat.le_trans hs4 y4.size
  conv => cbv
  (refine st_fld hE fLPol1 fun p hp => ?_; (conv => cbv); refine st_load hE cLSs (by rw [hp]; exact (hb).at _ _ rfl) ?_; clear hp; (conv => cbv))
  refine st_f hr (toStmtS_f (h.stmts.ext hx) (by omega)) fun v w6 hx6 ⟨A6, c6, ev, h6⟩ => ?_
  subst ev
  replace ho := ho.bel hx6
  replace hq := hq.bel hx6
  replace hx := hx.trans hx6
  replace y4 := y4.trans (hx6.above _)
  conv => cbv
  refine st_fld hE fIPol1 fun p2 hp2 => ?_
  conv => cbv
  refine st_put hr zISs hq hp2 (by simp) rfl fun w7 hw7 hq3 => ?_
  have y7 : Above w3.heap.size w6 w7 := hw7.above q0 (Nat.le_refl _)
  replace hx := hx.then (hw7.bel hq hx.size)
  replace ho := ho.wr hw7 oq
  simp only [List.set_cons_zero, List.set_cons_succ] at hq3
  replace y4 := y4.trans y7
  conv => cbv
  refine st_loadS hE tIPol rfl hq3.at ?_
  conv => cbv
  refine st_putS hr (by kernel_rfl) ho (add_zero _).symm (by simp) (by simp [Value.oneCell']) fun w8 hw8 ho8 => ?_
  simp only [List.take_zero, List.nil_append, List.length_cons, List.length_nil, List.drop_succ_cons, List.drop_nil, List.append_nil] at ho8
  have y8 : Above w3.heap.size w7 w8 := hw8.above o0 hso
  conv => cbv
  refine st_cell hr tIPol rfl ho8.at ?_
  rw [hR]; exact ⟨hx.then (hw8.bel ho hx.size), A4, c4, A6, c6, rfl, h4 _ (y4.trans y8), h6 _ ((y7.trans y8).mono hsz)⟩
theorem eqPolicy_f {w : World} {A A2 A3 A4 : Option Addr} {n c n2 c2 c3 c4 : Nat} {nv : List PN} {sv : List PS} (h : PolR w A n A2 n2 nv sv) (h' : PolR w A3 n A4 n2 nv sv) (hn : n ≤ 9223372036854775807) (hn2 : n2 ≤ 9223372036854775807) :
    FC Tryd.prog 8 [polV A n c A2 n2 c2, polV A3 n c3 A4 n2 c4] w fun v _ => v = .bool true := by
  refine FC.intro (cs := []) Tryd.func8 (by kernel_rfl) fun E R hE hr hR => ?_
  conv => cbv
  refine st_box hr fun a w1 hx ha0 => ?_
  have ha := ha0 _ (Nat.le_refl _)
  conv => cbv
  refine st_box hr fun b w2 hx2 hb0 => ?_
  have hb := hb0 _ hx.size
  replace ha := ha.bel hx2
  replace hx := hx.trans hx2
  clear ha0 hb0
  conv => cbv
  (refine st_fld hE fIPol0 fun p hp => ?_; (conv => cbv); refine st_load hE cINs (by rw [hp]; exact (ha).at _ _ rfl) ?_; clear hp; (conv => cbv))
  (refine st_fld hE fIPol0 fun p hp => ?_; (conv => cbv); refine st_load hE cINs (by rw [hp]; exact (hb).at _ _ rfl) ?_; clear hp; (conv => cbv))
  refine st_f hr (eqNodeS_f (h.nodes.ext hx) (h'.nodes.ext hx) hn) fun v w3 hx3 ev => ?_
  subst ev
  replace ha := ha.bel hx3
  replace hb := hb.bel hx3
  replace hx := hx.trans hx3
  conv => cbv
  (refine st_fld hE fIPol1 fun p hp => ?_; (conv => cbv); refine st_load hE cISs (by rw [hp]; exact (ha).at _ _ rfl) ?_; clear hp; (conv => cbv))
  (refine st_fld hE fIPol1 fun p hp => ?_; (conv => cbv); refine st_load hE cISs (by rw [hp]; exact (hb).at _ _ rfl) ?_; clear hp; (conv => cbv))
  refine st_f hr (eqStmtS_f (h.stmts.ext hx) (h'.stmts.ext hx) hn2) fun v w4 hx4 ev => ?_
  subst ev
  conv => cbv
  rw [hR]; exact ⟨hx.trans hx4, rfl⟩
end Go.Proofs.YtgdnmpcaiaoaoaaDoor
/- The reference's l2shape and ValidPolicy (printed by gen_p9.py). -/
namespace Go.Proofs.YtgdnmpcaiaoaoaaDoor
open Go.Eng
set_option linter.unusedVariables false
set_option linter.unusedSimpArgs false
/-! ### What a valid policy is -/
def stmtP (last : Bool) (s : PS) : Prop :=
  if s.k = 1 then last = false ∧ ident s.nm ∧ 0 ≤ s.c ∧ s.g = -1
  else if s.k = 2 then last = false ∧ s.nm = ⟨#[]⟩ ∧ 0 ≤ s.c ∧ -1 ≤ s.g
  else if s.k = 3 then last = true ∧ s.nm = ⟨#[]⟩ ∧ s.c = -1 ∧ -1 ≤ s.g
  else False
def rootS (s : PS) : List Int := (if 0 ≤ s.c then [s.c] else []) ++ (if 0 ≤ s.g then [s.g] else [])
def roots (sv : List PS) : List Int := sv.flatMap rootS
def stmtsP (sv : List PS) : Prop := ∀ i s, sv[i]? = some s → stmtP (decide (i + 1 = sv.length)) s
def policyP (ty : Bool) (nv : List PN) (sv : List PS) : Prop :=
  nv.length ≤ 4000 ∧ 1 ≤ sv.length ∧ sv.length ≤ 600 ∧ (∀ p ∈ nv, fieldsP ty p) ∧ stmtsP sv ∧ ∃ ts, IsTs nv 0 nv.length (roots sv) ts ∧ ∀ t ∈ ts, dep t ≤ 64
theorem foldW_append (ns : List PN) (f : Nat) : ∀ (k1 k2 out : List Int), foldW ns f (k1 ++ k2) out = foldW ns f k2 (foldW ns f k1 out)
  | [], k2, out => rfl
  | k :: k1, k2, out => by rw [List.cons_append, foldW, foldW_append ns f k1 k2]; rfl
theorem roots_take {sv : List PS} {i : Nat} {s : PS} (h : sv[i]? = some s) : roots (sv.take (i + 1)) = roots (sv.take i) ++ rootS s := by
  unfold roots; rw [List.take_add_one, h, List.flatMap_append]; simp
theorem rg_eq {l : List Int} : (∀ (i : Nat) (z : Int), l[i]? = some z → z = i) → l = rg l.length := by
  intro h
  apply List.ext_getElem?
  intro i
  rcases Nat.lt_or_ge i l.length with hi | hi
  · have e := h i _ (List.getElem?_eq_getElem hi)
    rw [List.getElem?_eq_getElem hi, e]
    simp [rg, hi]
  · rw [List.getElem?_eq_none hi, List.getElem?_eq_none (by rw [rg_len]; exact hi)]
set_option maxHeartbeats 8000000 in
theorem l2shape_f {w : World} {A A2 : Option Addr} {n c n2 c2 : Nat} {nv : List PN} {sv : List PS} (h : PolR w A n A2 n2 nv sv) (hn : n ≤ 9223372036854775807) (hn2 : n2 ≤ 9223372036854775807) (ty : Bool) :
    FC Tryd.prog 21 [.slice A n c, .slice A2 n2 c2, .bool ty] w fun v _ => ∃ b : Bool, v = .bool b ∧ (b = true ↔ policyP ty nv sv) := by
  refine FC.intro (cs := []) Tryd.func21 (by kernel_rfl) fun E R hE hr hR => ?_
  have hl := h.nodes.len
  have hl2 := h.stmts.len
  obtain ⟨F, hF⟩ : ∃ F : Nat, F = 4001 := ⟨_, rfl⟩
  have no : ¬ policyP ty nv sv → ∀ w', Ext w w' → R (.bool false) w' := fun h w' hx => by rw [hR]; exact ⟨hx, false, rfl, by simp [h]⟩
  conv => cbv
  refine st_len hE sINd fun x1 hx1 => ?_
  conv => cbv
  refine br (fun g => ?_) (fun g => ?_)
  · have g : 4000 < x1 := by simpa [hE.cmp, cmpR] using g
    conv => cbv
    exact no (fun q => by have := q.1; omega) _ (Ext.refl _)
  have g1 : n ≤ 4000 := by simp [hE.cmp, cmpR] at g; omega
  clear g
  conv => cbv
  refine st_len hE sISd fun x2 hx2 => ?_
  conv => cbv
  refine br (fun g => ?_) (fun g => ?_)
  · have g : x2 < 1 := by simpa [hE.cmp, cmpR] using g
    conv => cbv
    exact no (fun q => by have := q.2.1; omega) _ (Ext.refl _)
  have g2 : 1 ≤ n2 := by simp [hE.cmp, cmpR] at g; omega
  clear g
  conv => cbv
  refine st_len hE sISd fun x3 hx3 => ?_
  conv => cbv
  refine br (fun g => ?_) (fun g => ?_)
  · have g : 600 < x3 := by simpa [hE.cmp, cmpR] using g
    conv => cbv
    exact no (fun q => by have := q.2.2.1; omega) _ (Ext.refl _)
  have g3 : n2 ≤ 600 := by simp [hE.cmp, cmpR] at g; omega
  clear g
  conv => cbv
  refine st_len hE sINd fun x4 hx4 => ?_
  conv => cbv
  -- the fields of all nodes
  refine loop_rule hr (fun (s : Nat × Int) w' => s.1 ≤ n ∧ s.2 = (s.1 : Int) ∧ Ext w w' ∧ ∀ p ∈ nv.take s.1, fieldsP ty p) (fun s => [(0, .slice A n c), (1, .slice A2 n2 c2), (2, .bool ty), (31, .slice A n c), (32, .int .i64 x4), (33, .int .i64 s.2)]) (fun s => n - s.1) (0, 0)
    (by simp [Fits, lk]) ⟨by simp, by simp, Ext.refl _, by simp⟩ ?_
  rintro I hI ⟨i, ii⟩ w' ⟨hi, hii, hx, hall⟩
  simp only at hi hii hall
  obtain ⟨ij, hij⟩ : ∃ z, z = ii + 1 := ⟨_, rfl⟩
  conv => cbv
  refine br (fun g => ?_) (fun g => ?_)
  · have g : i < n := by
      have : ii < x4 := by simpa [hE.cmp, cmpR] using g
      omega
    have ei : E.ar .add .i64 ii 1 = ij := by rw [hE.ar, hij]; exact wrap_in (by omega) (by omega)
    obtain ⟨a, v, hA, hg, hc, hok⟩ := (h.nodes.ext hx).get g
    conv => cbv
    refine st_idx hE sINd hA (by omega) (by omega) fun q hq => ?_
    rw [show ii.toNat = i by omega] at hq
    conv => cbv
    refine st_loadS hE tINd (vs := cN v) rfl (by rw [hq]; exact hc) ?_
    obtain ⟨cv, hcv⟩ : ∃ cv, cv = cN v := ⟨_, rfl⟩
    have hcl : cv.length = 5 := by rw [hcv]; rfl
    have hc1 : ∀ v ∈ cv, v.oneCell' = true := by rw [hcv]; simp [cN, Value.oneCell']
    rw [← hcv]
    conv => cbv
    refine st_alloc hr tINd rfl fun q2 w2 hx2 hq0 => ?_
    conv => cbv
    refine st_putS hr (by rw [hcl]; kernel_rfl) (hq0 _ hx.size) (add_zero _).symm (by simp [hcl]) hc1 fun w3 hw3 hq3 => ?_
    have hq4 : Box w.heap.size 61 5 w3 q2 cv := by
      have e : zNd.take 0 ++ cv ++ zNd.drop (0 + cv.length) = cv := by rw [hcl]; simp
      rwa [e] at hq3
    have hx3 := hx2.then (hw3.bel (hq0 _ (Nat.le_refl _)) hx2.size)
    conv => cbv
    refine st_loadS hE tINd hcl hq4.at ?_
    conv => cbv
    rw [hcv]
    refine st_f hr (l2fields_f v (hok.ext hx3) ty) fun u w4 hx4' ⟨b, ev, hb⟩ => ?_
    subst ev
    have hx4 := (hx.trans hx3).trans hx4'
    conv => cbv
    cases b with
    | false =>
      conv => cbv
      exact no (fun q => absurd (hb.2 (q.2.2.2.1 _ (List.mem_of_getElem? hg))) (by simp)) _ hx4
    | true =>
      conv => cbv
      simp only [ei]
      refine ⟨(i + 1, ij), by simp [Fits, lk], hI _ _ ⟨by simp only; omega, by simp only; omega, hx4, fun p hp => ?_⟩, by simp only; omega⟩
      simp only at hp
      rw [List.take_add_one, hg] at hp
      rcases List.mem_append.1 hp with hp | hp
      · exact hall p hp
      · simp at hp; subst hp; exact hb.1 rfl
  have g : i = n := by
    have : ¬ ii < x4 := by simpa [hE.cmp, cmpR] using g
    omega
  rw [List.take_of_length_le (by omega)] at hall
  conv => cbv
  clear hI I hij ij hii hi
  have hk3 : ∀ p ∈ nv, p.ks.length ≤ 3 := fun p hp => by have := (hall p hp).1; have := kidsF_le p.o; omega
  refine st_len hE sISd fun x5 hx5 => ?_
  conv => cbv
  -- the statements, and what they write down
  refine loop_rulec [22] hr (fun (s : Nat × Int × Option Addr × Nat × Nat) w' => s.1 ≤ n2 ∧ s.2.1 = (s.1 : Int) ∧ Ext w w' ∧ Own w.heap.size 3 1 w' s.2.2.1 s.2.2.2.1 s.2.2.2.2 ((foldW nv F (roots (sv.take s.1)) []).map (.int .i64)) ∧ s.2.2.2.1 ≤ 25000 + 2 * s.1 ∧ ∀ j t, j < s.1 → sv[j]? = some t → stmtP (decide (j + 1 = sv.length)) t)
    (fun s => [(0, .slice A n c), (1, .slice A2 n2 c2), (9, .slice s.2.2.1 s.2.2.2.1 s.2.2.2.2), (42, .slice A2 n2 c2), (43, .int .i64 x5), (44, .int .i64 s.2.1)]) (fun s => n2 - s.1) (0, 0, none, 0, 0)
    (by simp [Fits, lk]) ⟨by simp, by simp, hx, Own.nil, by simp, fun j t h => by simp only at h; omega⟩ ?_
  clear hx
  rintro I hI ⟨i, ii, A5, n5, c5⟩ w' ⟨hi, hii, hx, ho, hn5, hst⟩
  simp only at hi hii ho hn5 hst
  obtain ⟨ij, hij⟩ : ∃ z, z = ii + 1 := ⟨_, rfl⟩
  obtain ⟨im, him⟩ : ∃ z : Int, z = n2 - 1 := ⟨_, rfl⟩
  conv => cbv
  refine br (fun g => ?_) (fun g => ?_)
  · have g : i < n2 := by
      have : ii < x5 := by simpa [hE.cmp, cmpR] using g
      omega
    have ei : E.ar .add .i64 ii 1 = ij := by rw [hE.ar, hij]; exact wrap_in (by omega) (by omega)
    obtain ⟨a, v, hA, hg, hc, hok⟩ := (h.stmts.ext hx).get g
    obtain ⟨k, nm, cc, gg⟩ := v
    have s_nm := hok.s_nm
    simp only at s_nm
    conv => cbv
    refine st_idx hE sISd hA (by omega) (by omega) fun q hq => ?_
    rw [show ii.toNat = i by omega] at hq
    conv => cbv
    refine st_loadS hE tISd (vs := [.int .i64 k, .string nm, .int .i64 cc, .int .i64 gg]) rfl (by rw [hq]; exact hc) ?_
    conv => cbv
    refine st_alloc hr tISd rfl fun q2 w2 hx2 hq0 => ?_
    conv => cbv
    refine st_putS hr (by kernel_rfl) (hq0 _ hx.size) (add_zero _).symm (by simp) (by simp [Value.oneCell']) fun w3 hw3 hq3 => ?_
    simp only [List.take_zero, List.nil_append, List.length_cons, List.length_nil, List.drop_succ_cons, List.drop_nil, List.append_nil] at hq3
    have hxy := hx2.then (hw3.bel (hq0 _ (Nat.le_refl _)) hx2.size)
    replace hx := hx.trans hxy
    have apq : Apart A5 (some q2) ∧ Apart (some q2) A5 := ho.apart (hq0 _ (Nat.le_refl _)) (Nat.le_refl _)
    replace ho := ho.bel hxy
    clear hq0 hw3 hx2
    conv => cbv
    refine st_len hE sISd fun x6 hx6 => ?_
    have em : E.ar .sub .i64 x6 1 = im := by rw [hE.ar, show arR .sub .i64 x6 1 = IntKind.i64.wrap (x6 - 1) from rfl, wrap_in (by omega) (by omega)]; omega
    obtain ⟨la, hla⟩ : ∃ la, la = E.cmp .eql ii im := ⟨_, rfl⟩
    have hla2 : la = decide (i + 1 = sv.length) := by rw [hla, hE.cmp, Bool.eq_iff_iff]; simp [cmpR]; omega
    conv => cbv
    simp only [em, ← hla]
    refine cut_rule [] [] hr (fun (s : Bool) w9 => Ext w3 w9 ∧ (s = true ↔ stmtP la ⟨k, nm, cc, gg⟩)) (fun s => [(0, .slice A n c), (1, .slice A2 n2 c2), (9, .slice A5 n5 c5), (11, .pointer (some q2)), (13, .bool s), (42, .slice A2 n2 c2), (43, .int .i64 x5), (44, .int .i64 ii)]) (fun J hJ => ?_) ?_
    · cases la with
      | true =>
        conv => cbv
        (refine st_fld hE fISd0 fun p hp => ?_; (conv => cbv); refine st_load hE cInt (by rw [hp]; exact (hq3).at _ _ rfl) ?_; clear hp; (conv => cbv))
        refine br (fun g5 => ?_) (fun g5 => ?_)
        · have g5 : k = 1 := by simpa [hE.cmp, cmpR] using g5
          conv => cbv
          exact ⟨false, by simp [Fits, lk], hJ _ _ ⟨Ext.refl _, by unfold stmtP; rw [if_pos g5]; simp⟩⟩
        have k1 : k ≠ 1 := by simpa [hE.cmp, cmpR] using g5
        clear g5
        conv => cbv
        refine br (fun g5 => ?_) (fun g5 => ?_)
        · have g5 : k = 2 := by simpa [hE.cmp, cmpR] using g5
          conv => cbv
          exact ⟨false, by simp [Fits, lk], hJ _ _ ⟨Ext.refl _, by unfold stmtP; rw [if_neg k1, if_pos g5]; simp⟩⟩
        have k2 : k ≠ 2 := by simpa [hE.cmp, cmpR] using g5
        clear g5
        conv => cbv
        refine br (fun g5 => ?_) (fun g5 => ?_)
        · have g5 : k = 3 := by simpa [hE.cmp, cmpR] using g5
          conv => cbv
          (refine st_fld hE fISd1 fun p hp => ?_; (conv => cbv); refine st_load hE cStr (by rw [hp]; exact (hq3).at _ _ rfl) ?_; clear hp; (conv => cbv))
          refine br (fun t1 => ?_) (fun t1 => ?_)
          · have t1 : nm = ⟨#[]⟩ := (scq hE _ _).1 t1
            conv => cbv
            (refine st_fld hE fISd2 fun p hp => ?_; (conv => cbv); refine st_load hE cInt (by rw [hp]; exact (hq3).at _ _ rfl) ?_; clear hp; (conv => cbv))
            refine br (fun t2 => ?_) (fun t2 => ?_)
            · have t2 : cc = -1 := by simpa [hE.cmp, cmpR] using t2
              conv => cbv
              (refine st_fld hE fISd3 fun p hp => ?_; (conv => cbv); refine st_load hE cInt (by rw [hp]; exact (hq3).at _ _ rfl) ?_; clear hp; (conv => cbv))
              obtain ⟨q4, hq4⟩ : ∃ q4, q4 = E.cmp .geq gg (-1) := ⟨_, rfl⟩
              have hq5 : q4 = true ↔ -1 ≤ gg := by rw [hq4, hE.cmp]; simp [cmpR]
              simp only [← hq4]
              exact ⟨q4, by simp [Fits, lk], hJ _ _ ⟨Ext.refl _, by rw [hq5]; unfold stmtP; rw [if_neg k1, if_neg k2, if_pos g5]; simp [t1, t2]⟩⟩
            · have t2 : ¬ (cc = -1) := by simpa [hE.cmp, cmpR] using t2
              conv => cbv
              exact ⟨false, by simp [Fits, lk], hJ _ _ ⟨Ext.refl _, by unfold stmtP; rw [if_neg k1, if_neg k2, if_pos g5]; simp [t1, t2]⟩⟩
          · have t1 : nm ≠ ⟨#[]⟩ := fun e => t1 ((scq hE _ _).2 e)
            conv => cbv
            exact ⟨false, by simp [Fits, lk], hJ _ _ ⟨Ext.refl _, by unfold stmtP; rw [if_neg k1, if_neg k2, if_pos g5]; simp [t1]⟩⟩
        have k3 : k ≠ 3 := by simpa [hE.cmp, cmpR] using g5
        clear g5
        conv => cbv
        exact ⟨false, by simp [Fits, lk], hJ _ _ ⟨Ext.refl _, by unfold stmtP; rw [if_neg k1, if_neg k2, if_neg k3]; simp⟩⟩
      | false =>
        conv => cbv
        (refine st_fld hE fISd0 fun p hp => ?_; (conv => cbv); refine st_load hE cInt (by rw [hp]; exact (hq3).at _ _ rfl) ?_; clear hp; (conv => cbv))
        refine br (fun g5 => ?_) (fun g5 => ?_)
        · have g5 : k = 1 := by simpa [hE.cmp, cmpR] using g5
          conv => cbv
          (refine st_fld hE fISd1 fun p hp => ?_; (conv => cbv); refine st_load hE cStr (by rw [hp]; exact (hq3).at _ _ rfl) ?_; clear hp; (conv => cbv))
          refine st_f hr (l2ident_f nm s_nm _) fun u w6 hx6 ⟨b, ev, hbq⟩ => ?_
          subst ev
          have hq6 := hq3.bel hx6
          cases b with
          | false =>
            have hbq : ¬ ident nm := fun q => absurd (hbq.2 q) (by simp)
            conv => cbv
            exact ⟨false, by simp [Fits, lk], hJ _ _ ⟨hx6, by unfold stmtP; rw [if_pos g5]; simp [hbq]⟩⟩
          | true =>
            have hbq := hbq.1 rfl
            conv => cbv
            (refine st_fld hE fISd2 fun p hp => ?_; (conv => cbv); refine st_load hE cInt (by rw [hp]; exact (hq6).at _ _ rfl) ?_; clear hp; (conv => cbv))
            refine br (fun t2 => ?_) (fun t2 => ?_)
            · have t2 : 0 ≤ cc := by simpa [hE.cmp, cmpR] using t2
              conv => cbv
              (refine st_fld hE fISd3 fun p hp => ?_; (conv => cbv); refine st_load hE cInt (by rw [hp]; exact (hq6).at _ _ rfl) ?_; clear hp; (conv => cbv))
              obtain ⟨q4, hq4⟩ : ∃ q4, q4 = E.cmp .eql gg (-1) := ⟨_, rfl⟩
              have hq5 : q4 = true ↔ gg = -1 := by rw [hq4, hE.cmp]; simp [cmpR]
              simp only [← hq4]
              exact ⟨q4, by simp [Fits, lk], hJ _ _ ⟨hx6, by rw [hq5]; unfold stmtP; rw [if_pos g5]; simp [hbq, t2]⟩⟩
            · have t2 : ¬ (0 ≤ cc) := by simpa [hE.cmp, cmpR] using t2
              conv => cbv
              exact ⟨false, by simp [Fits, lk], hJ _ _ ⟨hx6, by unfold stmtP; rw [if_pos g5]; simp [hbq, t2]⟩⟩
        have k1 : k ≠ 1 := by simpa [hE.cmp, cmpR] using g5
        clear g5
        conv => cbv
        refine br (fun g5 => ?_) (fun g5 => ?_)
        · have g5 : k = 2 := by simpa [hE.cmp, cmpR] using g5
          conv => cbv
          (refine st_fld hE fISd1 fun p hp => ?_; (conv => cbv); refine st_load hE cStr (by rw [hp]; exact (hq3).at _ _ rfl) ?_; clear hp; (conv => cbv))
          refine br (fun t1 => ?_) (fun t1 => ?_)
          · have t1 : nm = ⟨#[]⟩ := (scq hE _ _).1 t1
            conv => cbv
            (refine st_fld hE fISd2 fun p hp => ?_; (conv => cbv); refine st_load hE cInt (by rw [hp]; exact (hq3).at _ _ rfl) ?_; clear hp; (conv => cbv))
            refine br (fun t2 => ?_) (fun t2 => ?_)
            · have t2 : 0 ≤ cc := by simpa [hE.cmp, cmpR] using t2
              conv => cbv
              (refine st_fld hE fISd3 fun p hp => ?_; (conv => cbv); refine st_load hE cInt (by rw [hp]; exact (hq3).at _ _ rfl) ?_; clear hp; (conv => cbv))
              obtain ⟨q4, hq4⟩ : ∃ q4, q4 = E.cmp .geq gg (-1) := ⟨_, rfl⟩
              have hq5 : q4 = true ↔ -1 ≤ gg := by rw [hq4, hE.cmp]; simp [cmpR]
              simp only [← hq4]
              exact ⟨q4, by simp [Fits, lk], hJ _ _ ⟨Ext.refl _, by rw [hq5]; unfold stmtP; rw [if_neg k1, if_pos g5]; simp [t1, t2]⟩⟩
            · have t2 : ¬ (0 ≤ cc) := by simpa [hE.cmp, cmpR] using t2
              conv => cbv
              exact ⟨false, by simp [Fits, lk], hJ _ _ ⟨Ext.refl _, by unfold stmtP; rw [if_neg k1, if_pos g5]; simp [t1, t2]⟩⟩
          · have t1 : nm ≠ ⟨#[]⟩ := fun e => t1 ((scq hE _ _).2 e)
            conv => cbv
            exact ⟨false, by simp [Fits, lk], hJ _ _ ⟨Ext.refl _, by unfold stmtP; rw [if_neg k1, if_pos g5]; simp [t1]⟩⟩
        have k2 : k ≠ 2 := by simpa [hE.cmp, cmpR] using g5
        clear g5
        conv => cbv
        refine br (fun g5 => ?_) (fun g5 => ?_)
        · have g5 : k = 3 := by simpa [hE.cmp, cmpR] using g5
          conv => cbv
          exact ⟨false, by simp [Fits, lk], hJ _ _ ⟨Ext.refl _, by unfold stmtP; rw [if_neg k1, if_neg k2, if_pos g5]; simp⟩⟩
        have k3 : k ≠ 3 := by simpa [hE.cmp, cmpR] using g5
        clear g5
        conv => cbv
        exact ⟨false, by simp [Fits, lk], hJ _ _ ⟨Ext.refl _, by unfold stmtP; rw [if_neg k1, if_neg k2, if_neg k3]; simp⟩⟩
    · rintro b w9 ⟨hx9, hb⟩
      replace hx := hx.trans hx9
      replace ho := ho.bel hx9
      replace hq3 := hq3.bel hx9
      have hol0 := ho.len
      rw [List.length_map, Nat.mul_one] at hol0
      clear hx9
      cases b with
      | false =>
        have hb : ¬ stmtP la ⟨k, nm, cc, gg⟩ := fun q => absurd (hb.2 q) (by simp)
        conv => cbv
        exact no (fun q => hb (by rw [hla2]; exact q.2.2.2.2.1 i _ hg)) _ hx
      | true =>
        have hb := hb.1 rfl
        conv => cbv
        (refine st_fld hE fISd2 fun p hp => ?_; (conv => cbv); refine st_load hE cInt (by rw [hp]; exact (hq3).at _ _ rfl) ?_; clear hp; (conv => cbv))
        refine br (fun r1 => ?_) (fun r1 => ?_)
        · have r1 : 0 ≤ cc := by simpa [hE.cmp, cmpR] using r1
          conv => cbv
          (refine st_fld hE fISd2 fun p hp => ?_; (conv => cbv); refine st_load hE cInt (by rw [hp]; exact (hq3).at _ _ rfl) ?_; clear hp; (conv => cbv))
          have wl1 := walk_len hk3 F cc (foldW nv F (roots (sv.take i)) [])
          refine st_g hr (l2walk_g h.nodes hk3 g1 F (by omega) cc _ _ _ _ (foldW nv F (roots (sv.take i)) []) (by omega) hx ho (by omega)) fun u ww1 ⟨AX1, nX1, cX1, ev, hxx, hoo, hgro⟩ => ?_
          subst ev
          have hol1 := hoo.len
          rw [List.length_map, Nat.mul_one] at hol1
          clear hx ho
          have hx := hxx
          have ho := hoo
          clear hxx hoo
          have hqq := hq3.wr hgro.wr apq.2
          conv => cbv
          (refine st_fld hE fISd3 fun p hp => ?_; (conv => cbv); refine st_load hE cInt (by rw [hp]; exact (hqq).at _ _ rfl) ?_; clear hp; (conv => cbv))
          refine br (fun r2 => ?_) (fun r2 => ?_)
          · have r2 : 0 ≤ gg := by simpa [hE.cmp, cmpR] using r2
            conv => cbv
            (refine st_fld hE fISd3 fun p hp => ?_; (conv => cbv); refine st_load hE cInt (by rw [hp]; exact (hqq).at _ _ rfl) ?_; clear hp; (conv => cbv))
            have wl2 := walk_len hk3 F gg (walkF nv F cc (foldW nv F (roots (sv.take i)) []))
            refine st_g hr (l2walk_g h.nodes hk3 g1 F (by omega) gg _ _ _ _ (walkF nv F cc (foldW nv F (roots (sv.take i)) [])) (by omega) hx ho (by omega)) fun u ww2 ⟨AX2, nX2, cX2, ev, hxx, hoo, hgro⟩ => ?_
            subst ev
            have hol2 := hoo.len
            rw [List.length_map, Nat.mul_one] at hol2
            clear hx ho
            have hx := hxx
            have ho := hoo
            clear hxx hoo
            conv => cbv
            simp only [ei]
            refine ⟨(i + 1, ij, AX2, nX2, cX2), by simp [Fits, lk], hI _ _ ⟨by simp only; omega, by simp only; omega, hx, ?_, by simp only; omega, fun j t hj ht => ?_⟩, by simp only; omega⟩
            · simp only
              rw [roots_take hg, foldW_append]
              unfold rootS
              simp only [r1, r2, if_true, if_false, List.append_nil, List.nil_append, foldW]
              exact ho
            · simp only at hj
              rcases Nat.lt_or_ge j i with e | e
              · exact hst j t e ht
              · obtain rfl : j = i := by omega
                rw [hg] at ht; cases ht
                rw [← hla2]; exact hb
          · have r2 : ¬ 0 ≤ gg := by simpa [hE.cmp, cmpR] using r2
            conv => cbv
            simp only [ei]
            refine ⟨(i + 1, ij, AX1, nX1, cX1), by simp [Fits, lk], hI _ _ ⟨by simp only; omega, by simp only; omega, hx, ?_, by simp only; omega, fun j t hj ht => ?_⟩, by simp only; omega⟩
            · simp only
              rw [roots_take hg, foldW_append]
              unfold rootS
              simp only [r1, r2, if_true, if_false, List.append_nil, List.nil_append, foldW]
              exact ho
            · simp only at hj
              rcases Nat.lt_or_ge j i with e | e
              · exact hst j t e ht
              · obtain rfl : j = i := by omega
                rw [hg] at ht; cases ht
                rw [← hla2]; exact hb
        · have r1 : ¬ 0 ≤ cc := by simpa [hE.cmp, cmpR] using r1
          have hqq := hq3
          conv => cbv
          (refine st_fld hE fISd3 fun p hp => ?_; (conv => cbv); refine st_load hE cInt (by rw [hp]; exact (hqq).at _ _ rfl) ?_; clear hp; (conv => cbv))
          refine br (fun r2 => ?_) (fun r2 => ?_)
          · have r2 : 0 ≤ gg := by simpa [hE.cmp, cmpR] using r2
            conv => cbv
            (refine st_fld hE fISd3 fun p hp => ?_; (conv => cbv); refine st_load hE cInt (by rw [hp]; exact (hqq).at _ _ rfl) ?_; clear hp; (conv => cbv))
            have wl2 := walk_len hk3 F gg (foldW nv F (roots (sv.take i)) [])
            refine st_g hr (l2walk_g h.nodes hk3 g1 F (by omega) gg _ _ _ _ (foldW nv F (roots (sv.take i)) []) (by omega) hx ho (by omega)) fun u ww2 ⟨AX2, nX2, cX2, ev, hxx, hoo, hgro⟩ => ?_
            subst ev
            have hol2 := hoo.len
            rw [List.length_map, Nat.mul_one] at hol2
            clear hx ho
            have hx := hxx
            have ho := hoo
            clear hxx hoo
            conv => cbv
            simp only [ei]
            refine ⟨(i + 1, ij, AX2, nX2, cX2), by simp [Fits, lk], hI _ _ ⟨by simp only; omega, by simp only; omega, hx, ?_, by simp only; omega, fun j t hj ht => ?_⟩, by simp only; omega⟩
            · simp only
              rw [roots_take hg, foldW_append]
              unfold rootS
              simp only [r1, r2, if_true, if_false, List.append_nil, List.nil_append, foldW]
              exact ho
            · simp only at hj
              rcases Nat.lt_or_ge j i with e | e
              · exact hst j t e ht
              · obtain rfl : j = i := by omega
                rw [hg] at ht; cases ht
                rw [← hla2]; exact hb
          · have r2 : ¬ 0 ≤ gg := by simpa [hE.cmp, cmpR] using r2
            conv => cbv
            simp only [ei]
            refine ⟨(i + 1, ij, A5, n5, c5), by simp [Fits, lk], hI _ _ ⟨by simp only; omega, by simp only; omega, hx, ?_, by simp only; omega, fun j t hj ht => ?_⟩, by simp only; omega⟩
            · simp only
              rw [roots_take hg, foldW_append]
              unfold rootS
              simp only [r1, r2, if_true, if_false, List.append_nil, List.nil_append, foldW]
              exact ho
            · simp only at hj
              rcases Nat.lt_or_ge j i with e | e
              · exact hst j t e ht
              · obtain rfl : j = i := by omega
                rw [hg] at ht; cases ht
                rw [← hla2]; exact hb
  have g : i = n2 := by
    have : ¬ ii < x5 := by simpa [hE.cmp, cmpR] using g
    omega
  subst g
  rw [List.take_of_length_le (by omega)] at ho
  have hol0 := ho.len
  rw [List.length_map, Nat.mul_one] at hol0
  have hst2 : stmtsP sv := fun j t ht => hst j t (by have := (List.getElem?_eq_some_iff.1 ht).1; omega) ht
  obtain ⟨L, hL⟩ : ∃ L, L = foldW nv F (roots sv) [] := ⟨_, rfl⟩
  rw [← hL] at ho hol0
  have hkk : ∀ p ∈ nv, (p.ks.length : Int) = kidsF p.o := fun p hp => (hall p hp).1
  have toL : (∃ ts, IsTs nv 0 nv.length (roots sv) ts ∧ ∀ t ∈ ts, dep t ≤ 64) → L = rg nv.length := by
    rintro ⟨ts, h1, _⟩
    rw [hL]
    exact walk_of h1 (Nat.le_refl _) F fun k hk => by have := (h1.roots k hk).2; omega
  conv => cbv
  clear hI I hij ij him im
  refine st_len hE tInts fun x7 hx7 => ?_
  conv => cbv
  refine st_len hE sINd fun x8 hx8 => ?_
  conv => cbv
  refine br (fun g => ?_) (fun g => ?_)
  · have g : x7 ≠ x8 := by simpa [hE.cmp, cmpR] using g
    conv => cbv
    exact no (fun q => g (by have := toL q.2.2.2.2.2; rw [this, rg_len] at hol0; omega)) _ hx
  have g : x7 = x8 := by simpa [hE.cmp, cmpR] using g
  have hLn : L.length = nv.length := by omega
  conv => cbv
  refine st_len hE tInts fun x9 hx9 => ?_
  conv => cbv
  refine loop_rule hr (fun (s : Nat × Int) w2 => s.1 ≤ n5 ∧ s.2 = (s.1 : Int) ∧ w2 = w' ∧ ∀ j z, j < s.1 → L[j]? = some z → z = j)
    (fun s => [(0, .slice A n c), (1, .slice A2 i c2), (136, .slice A5 n5 c5), (137, .int .i64 x9), (138, .int .i64 s.2)]) (fun s => n5 - s.1) (0, 0)
    (by simp [Fits, lk]) ⟨by simp, by simp, rfl, fun j z h => by simp only at h; omega⟩ ?_
  rintro I hI ⟨j, jj⟩ w2 ⟨hj, hjj, hw2, hlj⟩
  simp only at hj hjj hlj
  subst hw2
  obtain ⟨jk, hjk⟩ : ∃ z, z = jj + 1 := ⟨_, rfl⟩
  conv => cbv
  refine br (fun g4 => ?_) (fun g4 => ?_)
  · have g4 : j < n5 := by
      have : jj < x9 := by simpa [hE.cmp, cmpR] using g4
      omega
    have ej : E.ar .add .i64 jj 1 = jk := by rw [hE.ar, hjk]; exact wrap_in (by omega) (by omega)
    conv => cbv
    refine st_int hE tInts ho.ints (k := j) (by omega) g4 fun p u hu hp => ?_
    conv => cbv
    refine st_load hE cInt hp ?_
    conv => cbv
    refine br (fun g5 => ?_) (fun g5 => ?_)
    · have g5 : jj ≠ u := by simpa [hE.cmp, cmpR] using g5
      conv => cbv
      exact no (fun q => g5 (by have := toL q.2.2.2.2.2; rw [this] at hu; have := (rg_get hu).1; omega)) _ hx
    · have g5 : jj = u := by simpa [hE.cmp, cmpR] using g5
      conv => cbv
      simp only [ej]
      refine ⟨(j + 1, jk), by simp [Fits, lk], hI _ _ ⟨by simp only; omega, by simp only; omega, rfl, fun q z h1 h2 => ?_⟩, by simp only; omega⟩
      simp only at h1
      rcases Nat.lt_or_ge q j with e | e
      · exact hlj q z e h2
      · obtain rfl : q = j := by omega
        rw [hu] at h2; cases h2; omega
  have g4 : j = n5 := by
    have : ¬ jj < x9 := by simpa [hE.cmp, cmpR] using g4
    omega
  have hLr : L = rg nv.length := by
    have := rg_eq (l := L) fun q z hq => hlj q z (by have := (List.getElem?_eq_some_iff.1 hq).1; omega) hq
    rw [hLn] at this; exact this
  obtain ⟨b0, ts, hb0, hts⟩ := walk_conv hkk (M := nv.length) F (roots sv) 0 (by rw [show rg 0 = [] from rfl, ← hL, hLr]; exact List.prefix_refl _)
  have eb : b0 = nv.length := by
    have := congrArg List.length hb0
    rw [rg_len, show rg 0 = [] from rfl, ← hL] at this; omega
  subst eb
  conv => cbv
  clear hI I hjk jk hlj hj hjj g4
  refine st_len hE sISd fun x10 hx10 => ?_
  conv => cbv
  refine loop_rule hr (fun (s : Nat × Int) w2 => s.1 ≤ i ∧ s.2 = (s.1 : Int) ∧ Ext w w2 ∧ ∀ j z, j < s.1 → sv[j]? = some z → ∀ k ∈ rootS z, ∀ a b t, IsTs nv a b [k] [t] → dep t ≤ 64)
    (fun s => [(0, .slice A n c), (147, .slice A2 i c2), (148, .int .i64 x10), (149, .int .i64 s.2)]) (fun s => i - s.1) (0, 0)
    (by simp [Fits, lk]) ⟨by simp, by simp, hx, fun j z h => by simp only at h; omega⟩ ?_
  clear hx ho
  rintro I hI ⟨j, jj⟩ w2 ⟨hj, hjj, hx, hdj⟩
  simp only at hj hjj hdj
  obtain ⟨jk, hjk⟩ : ∃ z, z = jj + 1 := ⟨_, rfl⟩
  conv => cbv
  refine br (fun g4 => ?_) (fun g4 => ?_)
  · have g4 : j < i := by
      have : jj < x10 := by simpa [hE.cmp, cmpR] using g4
      omega
    have ej : E.ar .add .i64 jj 1 = jk := by rw [hE.ar, hjk]; exact wrap_in (by omega) (by omega)
    obtain ⟨a, v, hA, hg, hc, hok⟩ := (h.stmts.ext hx).get g4
    obtain ⟨k, nm, cc, gg⟩ := v
    have hin : ∀ k ∈ rootS ⟨k, nm, cc, gg⟩, k ∈ roots sv := fun k hk => List.mem_flatMap.2 ⟨_, List.mem_of_getElem? hg, hk⟩
    -- the tree of a root
    have tr : ∀ q : Int, q ∈ roots sv → ∃ (qn : Nat) (a b : Nat) (t : Tr), q = qn ∧ IsTs nv a b [(qn : Int)] [t] ∧ t ∈ ts := fun q hq => by
      obtain ⟨m, hm⟩ := List.mem_iff_getElem?.1 hq
      obtain ⟨t, a', b', h1, h2⟩ := hts.at hm
      have h3 := (hts.roots q hq).1
      exact ⟨q.toNat, a', b', t, by omega, by rw [show ((q.toNat : Nat) : Int) = q by omega]; exact h2, List.mem_of_getElem? h1⟩
    conv => cbv
    refine st_idx hE sISd hA (by omega) (by omega) fun q hq => ?_
    rw [show jj.toNat = j by omega] at hq
    conv => cbv
    refine st_loadS hE tISd (vs := [.int .i64 k, .string nm, .int .i64 cc, .int .i64 gg]) rfl (by rw [hq]; exact hc) ?_
    conv => cbv
    refine st_alloc hr tISd rfl fun q2 w3 hx3 hq0 => ?_
    conv => cbv
    refine st_putS hr (by kernel_rfl) (hq0 _ hx.size) (add_zero _).symm (by simp) (by simp [Value.oneCell']) fun w4 hw4 hq3 => ?_
    simp only [List.take_zero, List.nil_append, List.length_cons, List.length_nil, List.drop_succ_cons, List.drop_nil, List.append_nil] at hq3
    replace hx := hx.trans (hx3.then (hw4.bel (hq0 _ (Nat.le_refl _)) hx3.size))
    clear hq0 hw4 hx3 hq hc hok
    have bad : ∀ q : Int, q ∈ rootS ⟨k, nm, cc, gg⟩ → ∀ t ∈ ts, 64 < dep t → ∀ w', Ext w w' → R (.bool false) w' := fun q hq t ht hd => no fun p => by
      obtain ⟨ts', h1, h2⟩ := p.2.2.2.2.2
      have := hts.uniqT h1
      rw [← this] at h2
      have := h2 t ht; omega
    have go : (∀ q ∈ rootS ⟨k, nm, cc, gg⟩, ∀ a b t, IsTs nv a b [q] [t] → dep t ≤ 64) → ∀ w2, Ext w w2 → I (j + 1, jk) w2 := fun hd w2 h2 => hI _ _ ⟨by simp only; omega, by simp only; omega, h2, fun q z h1 h3 => by
      simp only at h1
      rcases Nat.lt_or_ge q j with e | e
      · exact hdj q z e h3
      · obtain rfl : q = j := by omega
        rw [hg] at h3; cases h3; exact hd⟩
    conv => cbv
    (refine st_fld hE fISd2 fun p hp => ?_; (conv => cbv); refine st_load hE cInt (by rw [hp]; exact (hq3).at _ _ rfl) ?_; clear hp; (conv => cbv))
    refine br (fun m2 => ?_) (fun m2 => ?_)
    · have m2 : 0 ≤ cc := by simpa [hE.cmp, cmpR] using m2
      obtain ⟨qn2, qa2, qb2, t2, qe2, qt2, qm2⟩ := tr cc (hin cc (by unfold rootS; simp [m2]))
      conv => cbv
      (refine st_fld hE fISd2 fun p hp => ?_; (conv => cbv); refine st_load hE cInt (by rw [hp]; exact (hq3).at _ _ rfl) ?_; clear hp; (conv => cbv))
      rw [qe2]
      refine st_qi hE (l2depth_q (h.nodes.ext hx) g1 qn2 qa2 qb2 t2 qt2) fun d2 hd2 ww2 hss2 => ?_
      have hx2 := hx.trans hss2.ext
      have hq3 := hq3.bel hss2.ext
      rw [← qe2]
      conv => cbv
      refine br (fun u2 => ?_) (fun u2 => ?_)
      · have u2 : 64 < d2 := by simpa [hE.cmp, cmpR] using u2
        conv => cbv
        exact bad cc (by unfold rootS; simp [m2]) t2 qm2 (by omega) _ hx2
      have u2 : ¬ 64 < d2 := by simpa [hE.cmp, cmpR] using u2
      have dd2 : ∀ a b t, IsTs nv a b [cc] [t] → dep t ≤ 64 := fun a b t ht => by
        rw [qe2] at ht
        have := qt2.uniqT ht
        simp at this
        rw [← this]; omega
      conv => cbv
      (refine st_fld hE fISd3 fun p hp => ?_; (conv => cbv); refine st_load hE cInt (by rw [hp]; exact (hq3).at _ _ rfl) ?_; clear hp; (conv => cbv))
      refine br (fun m3 => ?_) (fun m3 => ?_)
      · have m3 : 0 ≤ gg := by simpa [hE.cmp, cmpR] using m3
        obtain ⟨qn3, qa3, qb3, t3, qe3, qt3, qm3⟩ := tr gg (hin gg (by unfold rootS; simp [m3]))
        conv => cbv
        (refine st_fld hE fISd3 fun p hp => ?_; (conv => cbv); refine st_load hE cInt (by rw [hp]; exact (hq3).at _ _ rfl) ?_; clear hp; (conv => cbv))
        rw [qe3]
        refine st_qi hE (l2depth_q (h.nodes.ext hx2) g1 qn3 qa3 qb3 t3 qt3) fun d3 hd3 ww3 hss3 => ?_
        have hx3 := hx2.trans hss3.ext
        have hq3 := hq3.bel hss3.ext
        rw [← qe3]
        conv => cbv
        refine br (fun u3 => ?_) (fun u3 => ?_)
        · have u3 : 64 < d3 := by simpa [hE.cmp, cmpR] using u3
          conv => cbv
          exact bad gg (by unfold rootS; simp [m3]) t3 qm3 (by omega) _ hx3
        have u3 : ¬ 64 < d3 := by simpa [hE.cmp, cmpR] using u3
        have dd3 : ∀ a b t, IsTs nv a b [gg] [t] → dep t ≤ 64 := fun a b t ht => by
          rw [qe3] at ht
          have := qt3.uniqT ht
          simp at this
          rw [← this]; omega
        conv => cbv
        simp only [ej]
        refine ⟨(j + 1, jk), by simp [Fits, lk], go (fun q hq => ?_) _ hx3, by simp only; omega⟩
        unfold rootS at hq
        simp only [m2, m3, if_true, List.mem_append, List.mem_singleton] at hq
        rcases hq with rfl | rfl
        · exact dd2
        · exact dd3
      · have m3 : ¬ 0 ≤ gg := by simpa [hE.cmp, cmpR] using m3
        conv => cbv
        simp only [ej]
        refine ⟨(j + 1, jk), by simp [Fits, lk], go (fun q hq => ?_) _ hx2, by simp only; omega⟩
        unfold rootS at hq
        simp only [m2, m3, if_true, if_false, List.append_nil, List.mem_singleton] at hq
        subst hq
        exact dd2
    · have m2 : ¬ 0 ≤ cc := by simpa [hE.cmp, cmpR] using m2
      conv => cbv
      (refine st_fld hE fISd3 fun p hp => ?_; (conv => cbv); refine st_load hE cInt (by rw [hp]; exact (hq3).at _ _ rfl) ?_; clear hp; (conv => cbv))
      refine br (fun m3 => ?_) (fun m3 => ?_)
      · have m3 : 0 ≤ gg := by simpa [hE.cmp, cmpR] using m3
        obtain ⟨qn3, qa3, qb3, t3, qe3, qt3, qm3⟩ := tr gg (hin gg (by unfold rootS; simp [m3]))
        conv => cbv
        (refine st_fld hE fISd3 fun p hp => ?_; (conv => cbv); refine st_load hE cInt (by rw [hp]; exact (hq3).at _ _ rfl) ?_; clear hp; (conv => cbv))
        rw [qe3]
        refine st_qi hE (l2depth_q (h.nodes.ext hx) g1 qn3 qa3 qb3 t3 qt3) fun d3 hd3 ww3 hss3 => ?_
        have hx3 := hx.trans hss3.ext
        have hq3 := hq3.bel hss3.ext
        rw [← qe3]
        conv => cbv
        refine br (fun u3 => ?_) (fun u3 => ?_)
        · have u3 : 64 < d3 := by simpa [hE.cmp, cmpR] using u3
          conv => cbv
          exact bad gg (by unfold rootS; simp [m3]) t3 qm3 (by omega) _ hx3
        have u3 : ¬ 64 < d3 := by simpa [hE.cmp, cmpR] using u3
        have dd3 : ∀ a b t, IsTs nv a b [gg] [t] → dep t ≤ 64 := fun a b t ht => by
          rw [qe3] at ht
          have := qt3.uniqT ht
          simp at this
          rw [← this]; omega
        conv => cbv
        simp only [ej]
        refine ⟨(j + 1, jk), by simp [Fits, lk], go (fun q hq => ?_) _ hx3, by simp only; omega⟩
        unfold rootS at hq
        simp only [m2, m3, if_true, if_false, List.nil_append, List.mem_singleton] at hq
        subst hq
        exact dd3
      · have m3 : ¬ 0 ≤ gg := by simpa [hE.cmp, cmpR] using m3
        conv => cbv
        simp only [ej]
        refine ⟨(j + 1, jk), by simp [Fits, lk], go (fun q hq => ?_) _ hx, by simp only; omega⟩
        unfold rootS at hq
        simp only [m2, m3, if_false, List.append_nil, List.not_mem_nil] at hq
  have g4 : j = i := by
    have : ¬ jj < x10 := by simpa [hE.cmp, cmpR] using g4
    omega
  conv => cbv
  rw [hR]; refine ⟨hx, true, rfl, fun _ => ⟨by omega, by omega, by omega, hall, hst2, ts, hts, fun t ht => ?_⟩, fun _ => rfl⟩
  obtain ⟨q, hq, a', b', ht'⟩ := hts.of_mem ht
  obtain ⟨z, hz1, hz2⟩ := List.mem_flatMap.1 hq
  obtain ⟨m, hm⟩ := List.mem_iff_getElem?.1 hz1
  exact hdj m z (by have := (List.getElem?_eq_some_iff.1 hm).1; omega) hm q hz2 a' b' t ht'
theorem specValidPolicy_f {w : World} {A A2 : Option Addr} {n c n2 c2 : Nat} {nv : List PN} {sv : List PS} (h : PolR w A n A2 n2 nv sv) (hn : n ≤ 9223372036854775807) (hn2 : n2 ≤ 9223372036854775807) :
    FC Tryd.prog 11 [polV A n c A2 n2 c2] w fun v _ => ∃ b : Bool, v = .bool b ∧ (b = true ↔ policyP false nv sv) := by
  refine FC.intro (cs := []) Tryd.func11 (by kernel_rfl) fun E R hE hr hR => ?_
  conv => cbv
  refine st_box hr fun a w1 hx hb0 => ?_
  have hb := hb0 _ (Nat.le_refl _)
  conv => cbv
  (refine st_fld hE fIPol0 fun p hp => ?_; (conv => cbv); refine st_load hE cINs (by rw [hp]; exact (hb).at _ _ rfl) ?_; clear hp; (conv => cbv))
  (refine st_fld hE fIPol1 fun p hp => ?_; (conv => cbv); refine st_load hE cISs (by rw [hp]; exact (hb).at _ _ rfl) ?_; clear hp; (conv => cbv))
  refine st_f hr (l2shape_f (c := c) (c2 := c2) (h.ext hx) hn hn2 false) fun v w2 hx2 ⟨b, ev, hb2⟩ => ?_
  subst ev
  conv => cbv
  rw [hR]; exact ⟨hx.trans hx2, b, rfl, hb2⟩
end Go.Proofs.YtgdnmpcaiaoaoaaDoor
/- The statements of a policy, in plain words: what the program's trees finds. -/
namespace Go.Proofs.YtgdnmpcaiaoaoaaDoor
open Go.Eng
set_option linter.unusedVariables false
set_option linter.unusedSimpArgs false
/-- What trees asks of a statement before it reads its trees. -/
def guardP (last : Bool) (s : PS) : Prop := (1 ≤ s.k ∧ s.k ≤ 3) ∧ (s.k = 3 ↔ last = true) ∧ (s.k = 3 ↔ s.c = -1) ∧ (s.k = 1 → s.g = -1) ∧ (s.k ≠ 1 → s.nm = ⟨#[]⟩) ∧ (s.k = 1 → ident s.nm)
structure PT where
  c : Option Tr
  g : Option Tr
def trs (p : PT) : List Tr := p.c.toList ++ p.g.toList
noncomputable def optM (ns : List PN) (lf : PN → Prop) (i : Nat) (top : Int) : Option (Option Tr × Nat) :=
  if top = -1 then some (none, i) else match treeM ns lf i top with
    | none => none
    | some t => some (some t, top.toNat + 1)
open Classical in
noncomputable def stmtM (ns : List PN) (lf : PN → Prop) (last : Bool) (i : Nat) (s : PS) : Option (PT × Nat) :=
  if guardP last s then match optM ns lf i s.c with
    | none => none
    | some (c, j) => match optM ns lf j s.g with
      | none => none
      | some (g, k) => some (⟨c, g⟩, k)
  else none
noncomputable def runS (ns : List PN) (lp : Nat → PN → Prop) : List PS → Nat → Nat → List PT → Option (List PT × Nat)
  | [], i, _, acc => some (acc, i)
  | s :: l, i, lets, acc => match stmtM ns (lp lets) l.isEmpty i s with
    | none => none
    | some (p, j) => runS ns lp l j (if s.k = 1 then lets + 1 else lets) (acc ++ [p])
def rootO (top : Int) : List Int := if 0 ≤ top then [top] else []
theorem IsTs.node {ns : List PN} {a b : Nat} {ks : List Int} {ts : List Tr} (h : IsTs ns a b ks ts) : ∀ q p, a ≤ q → q < b → ns[q]? = some p → (p.ks.length : Int) = kidsF p.o := by
  induction h with
  | nil a => intro q p h1 h2; omega
  | @cons a b k p ks kids ts hp hk h1 h2 i1 i2 =>
    intro q u hq1 hq2 hu
    rcases Nat.lt_trichotomy q k with e | e | e
    · exact i1 q u hq1 e hu
    · subst e; rw [hp] at hu; cases hu; exact hk
    · exact i2 q u e hq2 hu
theorem optM_iff {ns : List PN} {lf : PN → Prop} {i : Nat} {top : Int} {o : Option Tr} {j : Nat} : optM ns lf i top = some (o, j) ↔
    -1 ≤ top ∧ IsTs ns i j (rootO top) o.toList ∧ (∀ t ∈ o.toList, dep t ≤ 64) ∧ ∀ q p, i ≤ q → q < j → ns[q]? = some p → nodeOK lf p := by
  unfold optM rootO
  constructor
  · intro h
    split at h
    · rename_i e
      cases h
      subst e
      exact ⟨by omega, .nil _, by simp, fun q p h1 h2 => by omega⟩
    · cases hm : treeM ns lf i top with
      | none => rw [hm] at h; cases h
      | some t =>
        rw [hm] at h
        cases h
        obtain ⟨k, rfl, h1, h2, h3, h4, h5⟩ := treeM_iff.1 hm
        rw [if_pos (by omega)]
        exact ⟨by omega, by simpa using h3, by simpa using h4, fun q p q1 q2 => h5 q p q1 (by omega)⟩
  · rintro ⟨h0, h1, h2, h3⟩
    by_cases e : top = -1
    · rw [if_pos e]
      rw [if_neg (by omega)] at h1
      have hl := h1.len
      cases o with
      | none => cases h1; rfl
      | some t => simp at hl
    · rw [if_neg e]
      rw [if_pos (by omega)] at h1
      obtain ⟨kn, p, kids, rfl, rfl, hp, hk, _, e2⟩ := h1.one
      have hb := (List.getElem?_eq_some_iff.1 hp).1
      cases o with
      | none => cases e2
      | some t =>
        have hm : treeM ns lf i kn = some t := treeM_iff.2 ⟨kn, rfl, by have := (h1.roots kn (by simp)).1; omega, hb, h1, h2 t (by simp), h3⟩
        rw [hm]; rfl
theorem rootS_eq (s : PS) : rootS s = rootO s.c ++ rootO s.g := rfl
theorem stmtP_iff {last : Bool} {s : PS} : stmtP last s ↔ guardP last s ∧ -1 ≤ s.c ∧ -1 ≤ s.g := by
  unfold stmtP guardP
  obtain ⟨k, nm, c, g⟩ := s
  simp only
  by_cases h1 : k = 1
  · subst h1
    rw [if_pos rfl]
    constructor
    · rintro ⟨rfl, a, b, rfl⟩
      exact ⟨⟨⟨by omega, by omega⟩, by simp, ⟨fun q => by omega, fun q => by omega⟩, fun _ => rfl, fun q => absurd rfl q, fun _ => a⟩, by omega, by omega⟩
    · rintro ⟨⟨_, a, b, c1, _, d⟩, e, f⟩
      refine ⟨?_, d rfl, ?_, c1 rfl⟩
      · cases last
        · rfl
        · have := a.2 rfl; omega
      · have : c ≠ -1 := fun q => by have := b.2 q; omega
        omega
  · rw [if_neg h1]
    by_cases h2 : k = 2
    · subst h2
      rw [if_pos rfl]
      constructor
      · rintro ⟨rfl, rfl, b, d⟩
        exact ⟨⟨⟨by omega, by omega⟩, by simp, ⟨fun q => by omega, fun q => by omega⟩, fun q => absurd q h1, fun _ => rfl, fun q => absurd q h1⟩, by omega, d⟩
      · rintro ⟨⟨_, a, b, _, d, _⟩, e, f⟩
        refine ⟨?_, d h1, ?_, f⟩
        · cases last
          · rfl
          · have := a.2 rfl; omega
        · have : c ≠ -1 := fun q => by have := b.2 q; omega
          omega
    · rw [if_neg h2]
      by_cases h3 : k = 3
      · subst h3
        rw [if_pos rfl]
        constructor
        · rintro ⟨rfl, rfl, rfl, d⟩
          exact ⟨⟨⟨by omega, by omega⟩, by simp, by simp, fun q => absurd q h1, fun _ => rfl, fun q => absurd q h1⟩, by omega, d⟩
        · rintro ⟨⟨_, a, b, _, d, _⟩, e, f⟩
          exact ⟨a.1 rfl, d h1, b.1 rfl, f⟩
      · rw [if_neg h3]
        exact ⟨False.elim, fun q => by have := q.1.1; omega⟩
theorem stmtM_iff {ns : List PN} {lf : PN → Prop} {last : Bool} {i : Nat} {s : PS} {p : PT} {j : Nat} : stmtM ns lf last i s = some (p, j) ↔
    stmtP last s ∧ (p.c.isSome = true ↔ 0 ≤ s.c) ∧ IsTs ns i j (rootS s) (trs p) ∧ (∀ t ∈ trs p, dep t ≤ 64) ∧ ∀ q pn, i ≤ q → q < j → ns[q]? = some pn → nodeOK lf pn := by
  unfold stmtM
  rw [stmtP_iff]
  obtain ⟨c, g⟩ := p
  constructor
  · intro h
    split at h
    · rename_i hg
      cases h1 : optM ns lf i s.c with
      | none => rw [h1] at h; cases h
      | some x =>
        obtain ⟨c', m⟩ := x
        rw [h1] at h
        simp only at h
        cases h2 : optM ns lf m s.g with
        | none => rw [h2] at h; cases h
        | some x =>
          obtain ⟨g', k⟩ := x
          rw [h2] at h
          cases h
          obtain ⟨a1, a2, a3, a4⟩ := optM_iff.1 h1
          obtain ⟨b1, b2, b3, b4⟩ := optM_iff.1 h2
          have e1 := a2.le
          have e2 := b2.le
          refine ⟨⟨hg, a1, b1⟩, ?_, a2.append b2, fun t ht => ?_, fun q pn q1 q2 hq => ?_⟩
          · have := a2.len
            unfold rootO at this
            cases c with
            | none => simp; split at this <;> simp at this; omega
            | some t => simp; split at this <;> simp at this; omega
          · rcases List.mem_append.1 ht with ht | ht
            · exact a3 t ht
            · exact b3 t ht
          · rcases Nat.lt_or_ge q m with e | e
            · exact a4 q pn q1 e hq
            · exact b4 q pn e q2 hq
    · cases h
  · rintro ⟨⟨hg, hc, hgg⟩, hs, h1, h2, h3⟩
    rw [if_pos hg]
    rw [rootS_eq] at h1
    obtain ⟨m, ts1, ts2, e, k1, k2⟩ := h1.split
    have hl := k1.len
    obtain ⟨e1, e2⟩ := List.append_inj (show c.toList ++ g.toList = ts1 ++ ts2 from e) (by
      rw [hl]
      unfold rootO
      cases c with
      | none => rw [if_neg (fun q => by simpa using hs.2 q)]; rfl
      | some t => rw [if_pos (hs.1 rfl)]; rfl)
    rw [← e1] at k1
    rw [← e2] at k2
    have l1 := k1.le
    have l2 := k2.le
    rw [optM_iff.2 ⟨hc, k1, fun t ht => h2 t (List.mem_append_left _ ht), fun q p q1 q2 => h3 q p q1 (by omega)⟩]
    simp only
    rw [optM_iff.2 ⟨hgg, k2, fun t ht => h2 t (List.mem_append_right _ ht), fun q p q1 q2 => h3 q p (by omega) q2⟩]
theorem roots_cons (s : PS) (l : List PS) : roots (s :: l) = rootS s ++ roots l := by simp [roots]
theorem runS_iff {ns : List PN} {lf : PN → Prop} : ∀ (l : List PS) {i j lets : Nat} {acc : List PT}, (∃ acc', runS ns (fun _ => lf) l i lets acc = some (acc', j)) ↔
    stmtsP l ∧ ∃ ts, IsTs ns i j (roots l) ts ∧ (∀ t ∈ ts, dep t ≤ 64) ∧ ∀ q p, i ≤ q → q < j → ns[q]? = some p → nodeOK lf p
  | [], i, j, lets, acc => by
    unfold stmtsP
    simp only [runS, roots, List.flatMap_nil]
    constructor
    · rintro ⟨acc', h⟩
      cases h
      exact ⟨by simp, [], .nil _, by simp, fun q p h1 h2 => by omega⟩
    · rintro ⟨_, ts, h, _⟩
      cases h
      exact ⟨acc, rfl⟩
  | s :: l, i, j, lets, acc => by
    rw [runS, roots_cons]
    have hst : stmtsP (s :: l) ↔ stmtP l.isEmpty s ∧ stmtsP l := by
      have e : decide (0 + 1 = (s :: l).length) = l.isEmpty := by cases l <;> simp
      constructor
      · intro h
        refine ⟨by have := h 0 s rfl; rwa [e] at this, fun k t ht => ?_⟩
        have := h (k + 1) t (by simpa using ht)
        simpa using this
      · rintro ⟨h1, h2⟩ k t ht
        cases k with
        | zero => simp at ht; subst ht; rw [e]; exact h1
        | succ k => have := h2 k t (by simpa using ht); simpa using this
    rw [hst]
    constructor
    · rintro ⟨acc', h⟩
      cases hm : stmtM ns lf l.isEmpty i s with
      | none => rw [hm] at h; cases h
      | some x =>
        obtain ⟨p, m⟩ := x
        rw [hm] at h
        obtain ⟨a1, _, a2, a3, a4⟩ := stmtM_iff.1 hm
        obtain ⟨b1, ts, b2, b3, b4⟩ := (runS_iff l).1 ⟨acc', h⟩
        refine ⟨⟨a1, b1⟩, _, a2.append b2, fun t ht => ?_, fun q pn q1 q2 hq => ?_⟩
        · rcases List.mem_append.1 ht with ht | ht
          · exact a3 t ht
          · exact b3 t ht
        · rcases Nat.lt_or_ge q m with e | e
          · exact a4 q pn q1 e hq
          · exact b4 q pn e q2 hq
    · rintro ⟨⟨h1, h2⟩, ts, h3, h4, h5⟩
      obtain ⟨m, ts1, ts2, rfl, k1, k2⟩ := h3.split
      have l1 := k1.le
      have l2 := k2.le
      obtain ⟨p, hp1, hp2⟩ : ∃ p : PT, trs p = ts1 ∧ (p.c.isSome = true ↔ 0 ≤ s.c) := by
        have hl := k1.len
        rw [rootS_eq] at hl
        unfold rootO at hl
        by_cases e1 : 0 ≤ s.c
        · by_cases e2 : 0 ≤ s.g
          · rw [if_pos e1, if_pos e2] at hl
            match ts1, hl with
            | [a, b], _ => exact ⟨⟨some a, some b⟩, rfl, by simp [e1]⟩
          · rw [if_pos e1, if_neg e2] at hl
            match ts1, hl with
            | [a], _ => exact ⟨⟨some a, none⟩, rfl, by simp [e1]⟩
        · by_cases e2 : 0 ≤ s.g
          · rw [if_neg e1, if_pos e2] at hl
            match ts1, hl with
            | [a], _ => exact ⟨⟨none, some a⟩, rfl, by simp; omega⟩
          · rw [if_neg e1, if_neg e2] at hl
            match ts1, hl with
            | [], _ => exact ⟨⟨none, none⟩, rfl, by simp; omega⟩
      have hm : stmtM ns lf l.isEmpty i s = some (p, m) := stmtM_iff.2 ⟨h1, hp2, by rw [hp1]; exact k1, fun t ht => h4 t (List.mem_append_left _ (by rw [← hp1]; exact ht)), fun q pn q1 q2 => h5 q pn q1 (by omega)⟩
      rw [hm]
      exact (runS_iff l).2 ⟨h2, ts2, k2, fun t ht => h4 t (List.mem_append_right _ ht), fun q pn q1 q2 => h5 q pn (by omega) q2⟩
theorem fieldsU_iff {p : PN} (hk : (p.ks.length : Int) = kidsF p.o) : fieldsP false p ↔ nodeOK leafU p := by
  obtain ⟨o, z, tx, xs, ks⟩ := p
  unfold fieldsP nodeOK leafU cOK
  simp only at hk ⊢
  have h0 : kidsF o = 0 ↔ 1 ≤ o ∧ o ≤ 7 := by unfold kidsF; (repeat' split) <;> omega
  have h1 : 0 ≤ kidsF o := by omega
  by_cases e : 1 ≤ o ∧ o ≤ 7
  · have hz := h0.2 e
    have : o = 1 ∨ o = 2 ∨ o = 3 ∨ o = 4 ∨ o = 5 ∨ o = 6 ∨ o = 7 := by omega
    rcases this with rfl | rfl | rfl | rfl | rfl | rfl | rfl <;> simp [hk, hz]
    · constructor
      · rintro ⟨a, b, c⟩; exact ⟨⟨b, c⟩, a⟩
      · rintro ⟨⟨b, c⟩, a⟩; exact ⟨a, b, c⟩
    · constructor
      · rintro ⟨a, b, c⟩; exact ⟨b, a, c⟩
      · rintro ⟨b, a, c⟩; exact ⟨a, b, c⟩
  · have h2 : kidsF o ≠ 0 := fun q => e (h0.1 q)
    have h3 : 1 ≤ kidsF o := by omega
    rw [if_neg (by omega), if_neg (by omega), if_neg (by omega), if_neg (by omega), if_neg (by omega), if_neg (by omega), if_neg (by omega)]
    exact ⟨fun h => ⟨fun q => absurd q h2, fun _ => h.2⟩, fun h => ⟨hk, h.2 h3⟩⟩
theorem policyU_iff {nv : List PN} {sv : List PS} : policyP false nv sv ↔ nv.length ≤ 4000 ∧ 1 ≤ sv.length ∧ sv.length ≤ 600 ∧ ∃ acc, runS nv (fun _ => leafU) sv 0 0 [] = some (acc, nv.length) := by
  unfold policyP
  rw [runS_iff]
  constructor
  · rintro ⟨h1, h2, h3, h4, h5, ts, h6, h7⟩
    exact ⟨h1, h2, h3, h5, ts, h6, h7, fun q p _ _ hq => (fieldsU_iff (h4 p (List.mem_of_getElem? hq)).1).1 (h4 p (List.mem_of_getElem? hq))⟩
  · rintro ⟨h1, h2, h3, h5, ts, h6, h7, h8⟩
    refine ⟨h1, h2, h3, fun p hp => ?_, h5, ts, h6, h7⟩
    obtain ⟨q, hq⟩ := List.mem_iff_getElem?.1 hp
    have hl := (List.getElem?_eq_some_iff.1 hq).1
    exact (fieldsU_iff (h6.node q p (by omega) hl hq)).2 (h8 q p (by omega) hl hq)
end Go.Proofs.YtgdnmpcaiaoaoaaDoor
/- The program's trees and ValidPolicy walked. -/
namespace Go.Proofs.YtgdnmpcaiaoaoaaDoor
open Go.Eng
set_option linter.unusedVariables false
set_option linter.unusedSimpArgs false
def zSt : List Value := [.int .i64 0, .string ⟨#[]⟩, .nilIface, .nilIface, .int .i64 0]
theorem tSt : Stc Tryd.prog 49 5 zSt := ⟨by kernel_rfl, by kernel_rfl⟩
theorem sSt : Slc Tryd.prog 43 49 (.agg ⟨zSt⟩) 5 64 := ⟨Tryd.underlying43, by kernel_rfl⟩
theorem fSt2 : Fld Tryd.prog 49 2 2 := ⟨by kernel_rfl⟩
theorem fSt3 : Fld Tryd.prog 49 3 3 := ⟨by kernel_rfl⟩
section
variable {E : Sym} {w : World} {K : Value → World → Prop} {d : Option Tmp} {ty : TypeId} {pos : String} {aft : Array Edge} {g : Option (Nat × Bool)} {bq : Bool}
theorem run_bWk (A : Option Addr) (m c : Nat) (f : FuncId) (fst cap : Array Value) (w : World) : (Instr.build 98 #[(0, .slice A m c), (2, .func (.func f) fst cap)]).run Tryd.prog w = .ok (.agg #[.slice A m c, .int .i64 0, .func (.func f) fst cap]) w := by kernel_rfl
theorem st_bWk (hE : EngB bq Tryd.prog E) {A : Option Addr} {m c : Nat} {f : FuncId} {fst cap : Array Value} {x y : Operand} (hk : K (.agg ⟨[.slice A m c, .int .i64 0, .func (.func f) fst cap]⟩) w) : E.stop ⟨d, .build 98 ⟨[(0, x), (2, y)]⟩, ty, pos, aft, g⟩ [.slice A m c, .func (.func f) fst cap] w K := by
  refine hE.det (v := .agg ⟨[.slice A m c, .int .i64 0, .func (.func f) fst cap]⟩) (fun w1 _ ρ hρ => ?_) hk
  simp only [opnds, List.map_cons, List.map_nil, List.cons.injEq, and_true] at hρ
  have := run_bWk A m c f fst cap w1
  simp [execOp, hρ, this]
theorem run_bSt (k i : Int) (s : ByteArray) (w : World) : (Instr.build 49 #[(0, .int .i64 k), (1, .string s), (4, .int .i64 i)]).run Tryd.prog w = .ok (.agg #[.int .i64 k, .string s, .nilIface, .nilIface, .int .i64 i]) w := by kernel_rfl
theorem st_bSt (hE : EngB bq Tryd.prog E) {k i : Int} {s : ByteArray} {x y z : Operand} (hk : K (.agg ⟨[.int .i64 k, .string s, .nilIface, .nilIface, .int .i64 i]⟩) w) : E.stop ⟨d, .build 49 ⟨[(0, x), (1, y), (4, z)]⟩, ty, pos, aft, g⟩ [.int .i64 k, .string s, .int .i64 i] w K := by
  refine hE.det (v := .agg ⟨[.int .i64 k, .string s, .nilIface, .nilIface, .int .i64 i]⟩) (fun w1 _ ρ hρ => ?_) hk
  simp only [opnds, List.map_cons, List.map_nil, List.cons.injEq, and_true] at hρ
  have := run_bSt k i s w1
  simp [execOp, hρ, this]
end
theorem size_nil {s : ByteArray} (h : s.size = 0) : s = ⟨#[]⟩ := by
  cases s with | mk d => cases d with | mk l => cases l with
    | nil => rfl
    | cons a l => simp [ByteArray.size] at h
theorem wr_new {w w' w'' : World} {R A : Option Addr} (h : Wr R w w') (hw : Wr A w' w'') {e k m c : Nat} {xs : List Value} (ho : Own w.heap.size e k w' A m c xs) : Wr R w w'' := by
  have hb := hw.bel ho h.size
  exact ⟨hb.os.trans h.os, hb.tape.trans h.tape, hb.output.trans h.output, Nat.le_trans h.size hb.size, fun k hk hn => (hb.block k hk).trans (h.block k hk hn)⟩
def optV (D : Nat → Prop) (w : World) : Option Tr → Value → Prop
  | none, v => v = .nilIface
  | some t, v => TreeV D w t v
theorem optV.keep {D D' : Nat → Prop} {w w' : World} {o : Option Tr} {v : Value} (h : optV D w o v) (hk : Keeps D w w') (hD : ∀ b, D b → D' b) : optV D' w' o v := by
  cases o with
  | none => exact h
  | some t => exact TreeV.keep hk hD t v h
theorem optV.one {D : Nat → Prop} {w : World} {o : Option Tr} {v : Value} (h : optV D w o v) : v.oneCell' = true := by
  cases o with
  | none => rw [show v = .nilIface from h]; rfl
  | some t => exact (TreeV.one h).1
/-- A statement with its trees. -/
structure SV where
  s : PS
  p : PT
  cv : Value
  gv : Value
  i : Int
def fV (e : SV) : List Value := [.int .i64 e.s.k, .string e.s.nm, e.cv, e.gv, .int .i64 e.i]
theorem fV_len (e : SV) : (fV e).length = 5 := rfl
def ES (D : Nat → Prop) (w : World) (es : List SV) : Prop := ∀ e ∈ es, optV D w e.p.c e.cv ∧ optV D w e.p.g e.gv
theorem ES.keep {D D' : Nat → Prop} {w w' : World} {es : List SV} (h : ES D w es) (hk : Keeps D w w') (hD : ∀ b, D b → D' b) : ES D' w' es := fun e he => ⟨(h e he).1.keep hk hD, (h e he).2.keep hk hD⟩
def Nums (sv : List PS) (es : List SV) : Prop := ∀ (j : Nat) (e : SV), es[j]? = some e → e.i = (j : Int) ∧ sv[j]? = some e.s
/-- What trees gives. -/
def LaidS (w : World) (A : Option Addr) (m c : Nat) (sv : List PS) (acc : List PT) : Prop := ∃ es : List SV, es.length = m ∧ m = sv.length ∧ m ≤ c ∧ es.map (·.p) = acc ∧ Cells w A (es.flatMap fV) ∧ Nums sv es ∧ ES (fun b => b < w.heap.size) w es
theorem foot_keep {w0s ws : Nat} {w w' : World} {A : Option Addr} {a : Addr} (h0 : w0s ≤ w.heap.size) (ha : w0s ≤ a.block ∧ a.block < ws) (ha0 : blk (some a) = some a.block) (hw : Wr (some a) w w') : Keeps (Foot w0s ws w A) w w' := fun b hb => hw.block b (foot_lt h0 hb) (by
    intro e
    rw [ha0] at e
    cases e
    rcases hb with hb | hb <;> omega)
theorem bx_form {B : Nat} {e : TypeId} {k : Nat} {w : World} {a : Addr} {m c : Nat} {xs : List Value} (h : Own B e k w (some a) m c xs) : B ≤ a.block ∧ a.block < w.heap.size ∧ blk (some a) = some a.block := by
  obtain ⟨g, rfl, h1, h2⟩ := h.form
  exact ⟨h1, h2, rfl⟩
theorem bx_apart {a b : Addr} (ha : blk (some a) = some a.block) (hb : blk (some b) = some b.block) (h : a.block ≠ b.block) : Apart (some a) (some b) := .inr (by rw [ha, hb]; intro q; exact h (Option.some.inj q))
theorem drop_cons {α : Type} {l : List α} {j : Nat} {x : α} (h : l[j]? = some x) : l.drop j = x :: l.drop (j + 1) := by
  have := (List.getElem?_eq_some_iff.1 h)
  rw [List.drop_eq_getElem_cons this.1, this.2]
set_option maxHeartbeats 16000000 in
theorem trees_f {w0 : World} (hT : Tab w0 2 constF) (hR0 : STab w0 1 words) {AN A2 : Option Addr} {N cN' n2 c2 : Nat} {nv : List PN} {sv : List PS} (h : PolR w0 AN N A2 n2 nv sv) (hN : N ≤ 9223372036854775807) (hn2 : n2 ≤ 9223372036854775807) {f0 : FuncId} {lp : Nat → PN → Prop} (hf : LeafA w0 f0 lp) :
    FC Tryd.prog 28 [.slice AN N cN', .slice A2 n2 c2, .func (.func f0) #[] #[]] w0 fun v w' => ∃ (A : Option Addr) (m c : Nat) (b : Bool), v = .tuple ⟨[.slice A m c, .bool b]⟩ ∧
      (b = true ↔ nv.length ≤ 4000 ∧ 1 ≤ sv.length ∧ sv.length ≤ 600 ∧ ∃ acc, runS nv lp sv 0 0 [] = some (acc, nv.length)) ∧
      (b = true → ∃ acc, runS nv lp sv 0 0 [] = some (acc, nv.length) ∧ LaidS w' A m c sv acc) := by
  refine FC.intro (cs := []) Tryd.func28 (by kernel_rfl) fun E R hE hr hR => ?_
  have hl := h.nodes.len
  have hl2 := h.stmts.len
  obtain ⟨V, hV0⟩ : ∃ V, V = runS nv lp sv 0 0 [] := ⟨_, rfl⟩
  rw [← hV0] at hR
  have no : ¬ (nv.length ≤ 4000 ∧ 1 ≤ sv.length ∧ sv.length ≤ 600 ∧ ∃ acc, V = some (acc, nv.length)) → ∀ A m c w', Ext w0 w' → R (.tuple ⟨[.slice A m c, .bool false]⟩) w' := fun h A m c w' hx => by
    rw [hR]; exact ⟨hx, A, m, c, false, rfl, ⟨(fun q => absurd q Bool.false_ne_true), fun q => absurd q h⟩, fun q => absurd q Bool.false_ne_true⟩
  conv => cbv
  refine st_box1 hr rfl fun q5 w1 hx1 hb50 => ?_
  have hb5 := hb50 _ (Nat.le_refl _)
  have f5 := bx_form hb5
  clear hb50
  conv => cbv
  refine st_len hE sINd fun x1 hx1' => ?_
  conv => cbv
  refine br (fun g => ?_) (fun g => ?_)
  · have g : 4000 < x1 := by simpa [hE.cmp, cmpR] using g
    conv => cbv
    exact no (fun q => by have := q.1; omega) _ _ _ _ hx1
  have g1 : N ≤ 4000 := by simp [hE.cmp, cmpR] at g; omega
  clear g
  conv => cbv
  refine st_len hE sISd fun x2 hx2' => ?_
  conv => cbv
  refine br (fun g => ?_) (fun g => ?_)
  · have g : x2 < 1 := by simpa [hE.cmp, cmpR] using g
    conv => cbv
    exact no (fun q => by have := q.2.1; omega) _ _ _ _ hx1
  have g2 : 1 ≤ n2 := by simp [hE.cmp, cmpR] at g; omega
  clear g
  conv => cbv
  refine st_len hE sISd fun x3 hx3' => ?_
  conv => cbv
  refine br (fun g => ?_) (fun g => ?_)
  · have g : 600 < x3 := by simpa [hE.cmp, cmpR] using g
    conv => cbv
    exact no (fun q => by have := q.2.2.1; omega) _ _ _ _ hx1
  have g3 : n2 ≤ 600 := by simp [hE.cmp, cmpR] at g; omega
  clear g
  have bad : (∀ acc, V ≠ some (acc, N)) → ∀ A m c w', Ext w0 w' → R (.tuple ⟨[.slice A m c, .bool false]⟩) w' := fun h => no fun q => by
    obtain ⟨acc, e⟩ := q.2.2.2
    exact h acc (by rw [e, hl])
  conv => cbv
  refine st_new hr (z := .int .i64 0) (by kernel_rfl) rfl fun q8 w2 hx2 hb80 => ?_
  have hb8 := hb80 _ (Nat.le_refl _)
  have f8 := bx_form hb8
  clear hb80
  conv => cbv
  refine st_put hr zInt hb8 (add_zero _).symm (by simp) rfl fun w3 hw3 hb8' => ?_
  simp only [List.set_cons_zero] at hb8'
  have hxa := hx2.then (hw3.bel hb8 hx2.size)
  clear hb8
  have hw3s := hw3.size
  replace hb5 := hb5.bel hxa
  have hxb := hx1.trans hxa
  have hb8 : Box w0.heap.size 3 1 w3 q8 [.int .i64 0] := hb8'.mono hx1.size
  clear hb8' hw3
  conv => cbv
  refine st_bWk hE ?_
  conv => cbv
  refine st_box hr fun q9 w4 hx4 hb90 => ?_
  have hb9 := hb90 _ (Nat.le_refl _)
  have f9 := bx_form hb9
  replace hb9 := hb9.mono hxb.size
  clear hb90
  replace hb5 := hb5.bel hx4
  replace hb8 := hb8.bel hx4
  have hx := hxb.trans hx4
  have s1 := hx1.size
  have s2 := hx2.size
  have s4 := hx4.size
  have a58 := bx_apart f5.2.2 f8.2.2 (by omega)
  have a59 := bx_apart f5.2.2 f9.2.2 (by omega)
  have a89 := bx_apart f8.2.2 f9.2.2 (by omega)
  have a98 := bx_apart f9.2.2 f8.2.2 (by omega)
  have r5 : w0.heap.size ≤ q5.block ∧ q5.block < w4.heap.size := by omega
  have r8 : w0.heap.size ≤ q8.block ∧ q8.block < w4.heap.size := by omega
  have r9 : w0.heap.size ≤ q9.block ∧ q9.block < w4.heap.size := by omega
  have hs04 : w0.heap.size ≤ w4.heap.size := hx.size
  have e5 := f5.2.2
  have e8 := f8.2.2
  have e9 := f9.2.2
  clear f5 f8 f9 hxa hxb hx1 hx2 hx4 s1 s2 s4 hw3s
  conv => cbv
  refine st_none hr sSt fun AA w5 hx5 ho0 => ?_
  have ho := ho0 w4.heap.size (Nat.le_refl _)
  clear ho0
  replace hb5 := hb5.bel hx5
  replace hb8 := hb8.bel hx5
  replace hb9 := hb9.bel hx5
  replace hx := hx.trans hx5
  have hs45 := hx5.size
  clear hx5
  conv => cbv
  refine st_len hE sISd fun x4 hx4 => ?_
  conv => cbv
  refine loop_rulec [13, 16, 18, 22] hr (fun (s : Nat × Int × Nat × Int × Nat × Int × Option Addr × Nat × List SV) w' => s.1 ≤ n2 ∧ s.2.1 = (s.1 : Int) ∧ s.2.2.1 ≤ N ∧ s.2.2.2.1 = (s.2.2.1 : Int) ∧ s.2.2.2.2.1 ≤ s.1 ∧ s.2.2.2.2.2.1 = (s.2.2.2.2.1 : Int) ∧ Ext w0 w' ∧ w4.heap.size ≤ w'.heap.size ∧
      Box w0.heap.size 72 1 w' q5 [.func (.func f0) #[] #[]] ∧ Box w0.heap.size 3 1 w' q8 [.int .i64 s.2.2.2.2.2.1] ∧ Box w0.heap.size 98 3 w' q9 [.slice AN N cN', .int .i64 s.2.2.2.1, .func (.func 46) #[] #[.pointer (some q5), .pointer (some q8)]] ∧
      Own w4.heap.size 49 5 w' s.2.2.2.2.2.2.1 s.1 s.2.2.2.2.2.2.2.1 (s.2.2.2.2.2.2.2.2.flatMap fV) ∧ ES (Foot w0.heap.size w4.heap.size w' s.2.2.2.2.2.2.1) w' s.2.2.2.2.2.2.2.2 ∧ Nums sv s.2.2.2.2.2.2.2.2 ∧
      runS nv lp (sv.drop s.1) s.2.2.1 s.2.2.2.2.1 (s.2.2.2.2.2.2.2.2.map (·.p)) = V)
    (fun s => [(0, .slice AN N cN'), (1, .slice A2 n2 c2), (8, .pointer (some q8)), (9, .pointer (some q9)), (10, .slice s.2.2.2.2.2.2.1 s.1 s.2.2.2.2.2.2.2.1), (34, .slice A2 n2 c2), (35, .int .i64 x4), (36, .int .i64 s.2.1)]) (fun s => n2 - s.1) (0, 0, 0, 0, 0, 0, AA, 0, [])
    (by simp [Fits, lk]) ⟨by simp, by simp, by simp, by simp, by simp, by simp, hx, hs45, hb5, hb8, hb9, by simpa using ho, (fun e he => by cases he), (fun j e he => by simp at he), hV0.symm⟩ ?_
  clear hb5 hb8 hb9 ho hx hs45 hV0
  rintro I hI ⟨j, jj, i, ii, le, ll, A, c, es⟩ w' ⟨hj, hjj, hi, hii, hle, hll, hx, hs4, hb5, hb8, hb9, ho, hes, hnu, hV⟩
  simp only at hj hjj hi hii hle hll hb5 hb8 hb9 ho hes hnu hV
  obtain ⟨jk, hjk⟩ : ∃ z, z = jj + 1 := ⟨_, rfl⟩
  obtain ⟨lk1, hlk⟩ : ∃ z, z = ll + 1 := ⟨_, rfl⟩
  obtain ⟨im, him⟩ : ∃ z : Int, z = n2 - 1 := ⟨_, rfl⟩
  have hol := ho.len
  rw [fl_len fV_len] at hol
  have h0s := hx.size
  conv => cbv
  refine br (fun g => ?_) (fun g => ?_)
  · have g : j < n2 := by
      have : jj < x4 := by simpa [hE.cmp, cmpR] using g
      omega
    have ej : E.ar .add .i64 jj 1 = jk := by rw [hE.ar, hjk]; exact wrap_in (by omega) (by omega)
    have el : E.ar .add .i64 ll 1 = lk1 := by rw [hE.ar, hlk]; exact wrap_in (by omega) (by omega)
    obtain ⟨a, v, hA, hg, hc, hok⟩ := (h.stmts.ext hx).get g
    obtain ⟨k, nm, cc, gg⟩ := v
    have s_nm := hok.s_nm
    simp only at s_nm
    rw [drop_cons hg, runS] at hV
    obtain ⟨la, hla⟩ : ∃ la, la = E.cmp .eql jj im := ⟨_, rfl⟩
    have hla2 : la = (sv.drop (j + 1)).isEmpty := by rw [hla, hE.cmp, Bool.eq_iff_iff]; simp [cmpR]; omega
    rw [← hla2] at hV
    obtain ⟨SM, hSM0⟩ : ∃ SM, SM = stmtM nv (lp le) la i ⟨k, nm, cc, gg⟩ := ⟨_, rfl⟩
    rw [← hSM0] at hV
    have hSM := hSM0
    unfold stmtM at hSM
    simp only at hSM
    have bad2 : SM = none → ∀ w2, Ext w0 w2 → R (.tuple ⟨[.slice none 0 0, .bool false]⟩) w2 := fun h => by
      rw [h] at hV
      simp only at hV
      exact bad (fun acc q => by rw [← hV] at q; cases q) _ _ _
    conv => cbv
    refine st_idx hE sISd hA (by omega) (by omega) fun q hq => ?_
    rw [show jj.toNat = j by omega] at hq
    conv => cbv
    refine st_loadS hE tISd (vs := [.int .i64 k, .string nm, .int .i64 cc, .int .i64 gg]) rfl (by rw [hq]; exact hc) ?_
    conv => cbv
    refine st_alloc hr tISd rfl fun q12 w6 hx6 hq0 => ?_
    conv => cbv
    refine st_putS hr (by kernel_rfl) (hq0 _ (Nat.le_refl _)) (add_zero _).symm (by simp) (by simp [Value.oneCell']) fun w7 hw7 hq12 => ?_
    simp only [List.take_zero, List.nil_append, List.length_cons, List.length_nil, List.drop_succ_cons, List.drop_nil, List.append_nil] at hq12
    have hy := hx6.then (hw7.bel (hq0 _ (Nat.le_refl _)) hx6.size)
    have f12 := bx_form hq12
    clear hq0 hw7 hx6 hq hc
    conv => cbv
    (refine st_fld hE fISd0 fun p hp => ?_; (conv => cbv); refine st_load hE cInt (by rw [hp]; exact (hq12).at _ _ rfl) ?_; clear hp; (conv => cbv))
    (refine st_fld hE fISd1 fun p hp => ?_; (conv => cbv); refine st_load hE cStr (by rw [hp]; exact (hq12).at _ _ rfl) ?_; clear hp; (conv => cbv))
    refine st_bSt hE ?_
    conv => cbv
    refine st_alloc hr tSt rfl fun q13 w8 hx8 hq0 => ?_
    conv => cbv
    refine st_putS hr (by kernel_rfl) (hq0 _ (Nat.le_refl _)) (add_zero _).symm (by simp [zSt]) (by simp [Value.oneCell']) fun w9 hw9 hq13 => ?_
    simp only [zSt, List.take_zero, List.nil_append, List.length_cons, List.length_nil, List.drop_succ_cons, List.drop_nil, List.append_nil] at hq13
    have hy2 := hx8.then (hw9.bel (hq0 _ (Nat.le_refl _)) hx8.size)
    replace hq12 := hq12.bel hy2
    have f1312 := (bx_form hq13).1
    replace hq13 := hq13.mono hy.size
    have f13 := (bx_form hq13)
    replace hy := hy.trans hy2
    clear hq0 hw9 hx8 hy2
    conv => cbv
    refine st_len hE sISd fun x6 hx6 => ?_
    have em : E.ar .sub .i64 x6 1 = im := by rw [hE.ar, show arR .sub .i64 x6 1 = IntKind.i64.wrap (x6 - 1) from rfl, wrap_in (by omega) (by omega)]; omega
    conv => cbv
    simp only [em, ← hla]
    have hxz := hx.trans hy
    refine cut_rule [] [16, 18, 22] hr (fun (s : Unit) wz => guardP la ⟨k, nm, cc, gg⟩ ∧ Ext w9 wz) (fun s => [(0, .slice AN N cN'), (1, .slice A2 n2 c2), (8, .pointer (some q8)), (9, .pointer (some q9)), (10, .slice A j c), (11, .int .i64 jj), (12, .pointer (some q12)), (13, .pointer (some q13)), (34, .slice A2 n2 c2), (35, .int .i64 x4), (36, .int .i64 jj)]) (fun J hJ => ?_) ?_
    · have bad3 : ¬ guardP la ⟨k, nm, cc, gg⟩ → ∀ wz, Ext w9 wz → R (.tuple ⟨[.slice none 0 0, .bool false]⟩) wz := fun q wz h => bad2 (by rw [hSM, if_neg q]) _ (hxz.trans h)
      conv => cbv
      (refine st_fld hE fISd0 fun p hp => ?_; (conv => cbv); refine st_load hE cInt (by rw [hp]; exact (hq12).at _ _ rfl) ?_; clear hp; (conv => cbv))
      refine br (fun b1 => ?_) (fun b1 => ?_)
      · have b1 : k < 1 := by simpa [hE.cmp, cmpR] using b1
        conv => cbv
        exact bad3 (fun q => by have := q.1; simp only at this; omega) _ (Ext.refl _)
      have b1 : ¬ k < 1 := by simpa [hE.cmp, cmpR] using b1
      conv => cbv
      (refine st_fld hE fISd0 fun p hp => ?_; (conv => cbv); refine st_load hE cInt (by rw [hp]; exact (hq12).at _ _ rfl) ?_; clear hp; (conv => cbv))
      refine br (fun b2 => ?_) (fun b2 => ?_)
      · have b2 : 3 < k := by simpa [hE.cmp, cmpR] using b2
        conv => cbv
        exact bad3 (fun q => by have := q.1; simp only at this; omega) _ (Ext.refl _)
      have b2 : ¬ 3 < k := by simpa [hE.cmp, cmpR] using b2
      conv => cbv
      (refine st_fld hE fISd0 fun p hp => ?_; (conv => cbv); refine st_load hE cInt (by rw [hp]; exact (hq12).at _ _ rfl) ?_; clear hp; (conv => cbv))
      refine st_bne hE uBool fun v1 hv1 => ?_
      cases v1 with
      | true =>
        have hv1 := hv1.1 rfl
        conv => cbv
        exact bad3 (fun q => hv1 (by rw [← q.2.1]; simp [hE.cmp, cmpR])) _ (Ext.refl _)
      | false =>
      have hv1 : k = 3 ↔ la = true := by
        have := Classical.byContradiction fun q => absurd (hv1.2 q) Bool.false_ne_true
        rw [← this]; simp [hE.cmp, cmpR]
      conv => cbv
      (refine st_fld hE fISd0 fun p hp => ?_; (conv => cbv); refine st_load hE cInt (by rw [hp]; exact (hq12).at _ _ rfl) ?_; clear hp; (conv => cbv))
      (refine st_fld hE fISd2 fun p hp => ?_; (conv => cbv); refine st_load hE cInt (by rw [hp]; exact (hq12).at _ _ rfl) ?_; clear hp; (conv => cbv))
      refine st_bne hE uBool fun v2 hv2 => ?_
      cases v2 with
      | true =>
        have hv2 := hv2.1 rfl
        conv => cbv
        exact bad3 (fun q => hv2 (by have := q.2.2.1; simpa [hE.cmp, cmpR] using this)) _ (Ext.refl _)
      | false =>
      have hv2 : k = 3 ↔ cc = -1 := by
        have := Classical.byContradiction fun q => absurd (hv2.2 q) Bool.false_ne_true
        simpa [hE.cmp, cmpR] using this
      conv => cbv
      (refine st_fld hE fISd0 fun p hp => ?_; (conv => cbv); refine st_load hE cInt (by rw [hp]; exact (hq12).at _ _ rfl) ?_; clear hp; (conv => cbv))
      refine br (fun b5 => ?_) (fun b5 => ?_)
      · have b5 : k = 1 := by simpa [hE.cmp, cmpR] using b5
        conv => cbv
        (refine st_fld hE fISd3 fun p hp => ?_; (conv => cbv); refine st_load hE cInt (by rw [hp]; exact (hq12).at _ _ rfl) ?_; clear hp; (conv => cbv))
        refine br (fun b6 => ?_) (fun b6 => ?_)
        · have b6 : gg ≠ -1 := by simpa [hE.cmp, cmpR] using b6
          conv => cbv
          exact bad3 (fun q => b6 (q.2.2.2.1 b5)) _ (Ext.refl _)
        have b6 : gg = -1 := by simpa [hE.cmp, cmpR] using b6
        conv => cbv
        (refine st_fld hE fISd0 fun p hp => ?_; (conv => cbv); refine st_load hE cInt (by rw [hp]; exact (hq12).at _ _ rfl) ?_; clear hp; (conv => cbv))
        refine br (fun b7 => ?_) (fun b7 => ?_)
        · have b7 : k ≠ 1 := by simpa [hE.cmp, cmpR] using b7
          exact absurd b5 b7
        conv => cbv
        (refine st_fld hE fISd0 fun p hp => ?_; (conv => cbv); refine st_load hE cInt (by rw [hp]; exact (hq12).at _ _ rfl) ?_; clear hp; (conv => cbv))
        refine br (fun b8 => ?_) (fun b8 => ?_)
        rotate_left
        · have b8 : k ≠ 1 := by simpa [hE.cmp, cmpR] using b8
          exact absurd b5 b8
        conv => cbv
        (refine st_fld hE fISd1 fun p hp => ?_; (conv => cbv); refine st_load hE cStr (by rw [hp]; exact (hq12).at _ _ rfl) ?_; clear hp; (conv => cbv))
        refine st_qb hE (isNameToken_f (hR0.ext hxz) nm s_nm) fun b hb2 wz hsz => ?_
        cases b with
        | false =>
          conv => cbv
          exact bad3 (fun q => absurd (hb2.2 (q.2.2.2.2.2 b5)) Bool.false_ne_true) _ hsz.ext
        | true =>
          conv => cbv
          exact ⟨(), by simp [Fits, lk], hJ _ _ ⟨⟨by simp only; omega, hv1, hv2, fun _ => b6, fun q => absurd b5 q, fun _ => hb2.1 rfl⟩, hsz.ext⟩⟩
      · have b5 : k ≠ 1 := by simpa [hE.cmp, cmpR] using b5
        conv => cbv
        (refine st_fld hE fISd0 fun p hp => ?_; (conv => cbv); refine st_load hE cInt (by rw [hp]; exact (hq12).at _ _ rfl) ?_; clear hp; (conv => cbv))
        refine br (fun b7 => ?_) (fun b7 => ?_)
        rotate_left
        · have b7 : k = 1 := by simpa [hE.cmp, cmpR] using b7
          exact absurd b7 b5
        conv => cbv
        (refine st_fld hE fISd1 fun p hp => ?_; (conv => cbv); refine st_load hE cStr (by rw [hp]; exact (hq12).at _ _ rfl) ?_; clear hp; (conv => cbv))
        refine br (fun b6 => ?_) (fun b6 => ?_)
        · have b6 := (scn hE _).1 b6
          conv => cbv
          exact bad3 (fun q => b6 (by rw [show nm = _ from q.2.2.2.2.1 b5]; rfl)) _ (Ext.refl _)
        have b6 : nm = ⟨#[]⟩ := Classical.byContradiction fun q => b6 ((scn hE _).2 fun z => q (size_nil z))
        conv => cbv
        (refine st_fld hE fISd0 fun p hp => ?_; (conv => cbv); refine st_load hE cInt (by rw [hp]; exact (hq12).at _ _ rfl) ?_; clear hp; (conv => cbv))
        refine br (fun b8 => ?_) (fun b8 => ?_)
        · have b8 : k = 1 := by simpa [hE.cmp, cmpR] using b8
          exact absurd b8 b5
        conv => cbv
        exact ⟨(), by simp [Fits, lk], hJ _ _ ⟨⟨by simp only; omega, hv1, hv2, fun q => absurd q b5, fun _ => b6, fun q => absurd q b5⟩, Ext.refl _⟩⟩
    · rintro _ wz ⟨hgd, hwz⟩
      rw [if_pos hgd] at hSM
      replace hq12 := hq12.bel hwz
      replace hq13 := hq13.bel hwz
      replace hy := hy.trans hwz
      have h9z := hwz.size
      clear hxz hwz
      have xw : ∀ wz, Wr (some q9) w' wz → Ext w0 wz := fun wz hz => hx.then (hz.bel hb9 hx.size)
      have e13 := f13.2.2
      have b13 : w'.heap.size ≤ q13.block ∧ q13.block < w9.heap.size := ⟨f13.1, f13.2.1⟩
      have a139 := bx_apart e13 e9 (by omega)
      have a129 := bx_apart f12.2.2 e9 (by omega)
      have a1213 := bx_apart f12.2.2 e13 (by omega)
      have hleaf : ∀ wy, Wr (some q9) w' wy → LeafC wy q9 46 #[] #[.pointer (some q5), .pointer (some q8)] (lp le) := fun wy hz => trees1_a hf (xw _ hz) ⟨r9.1, by have := hz.size; omega⟩ e9 (by omega) hll (hb5.wr hz a59) (hb8.wr hz a89) a59 a89
      conv => cbv
      refine cut_rule [] [18, 22] hr (fun (s : Option (Option Tr × Value × Nat × Int)) wy => match s with
          | none => SM = none ∧ Ext w0 wy
          | some (co, cv, i1, ii1) => optM nv (lp le) i cc = some (co, i1) ∧ ii1 = (i1 : Int) ∧ i1 ≤ N ∧ Wr (some q9) w' wy ∧ w9.heap.size ≤ wy.heap.size ∧ Box w0.heap.size 98 3 wy q9 [.slice AN N cN', .int .i64 ii1, .func (.func 46) #[] #[.pointer (some q5), .pointer (some q8)]] ∧
              Box w'.heap.size 39 4 wy q12 [.int .i64 k, .string nm, .int .i64 cc, .int .i64 gg] ∧ Box w'.heap.size 49 5 wy q13 [.int .i64 k, .string nm, cv, .nilIface, .int .i64 jj] ∧ optV (fun b => b < w0.heap.size ∨ (w9.heap.size ≤ b ∧ b < wy.heap.size)) wy co cv)
        (fun s => match s with
          | none => [(15, .bool false)]
          | some _ => [(0, .slice AN N cN'), (1, .slice A2 n2 c2), (8, .pointer (some q8)), (9, .pointer (some q9)), (10, .slice A j c), (12, .pointer (some q12)), (13, .pointer (some q13)), (15, .bool true), (34, .slice A2 n2 c2), (35, .int .i64 x4), (36, .int .i64 jj)]) (fun J hJ => ?_) ?_
      · (refine st_fld hE fISd2 fun p hp => ?_; (conv => cbv); refine st_load hE cInt (by rw [hp]; exact (hq12).at _ _ rfl) ?_; clear hp; (conv => cbv))
        refine br (fun t1 => ?_) (fun t1 => ?_)
        rotate_left
        · have t1 : cc = -1 := by simpa [hE.cmp, cmpR] using t1
          conv => cbv
          exact ⟨some (none, .nilIface, i, ii), by simp [Fits, lk], hJ _ _ ⟨by unfold optM; rw [if_pos t1], hii, hi, hy.wr _, h9z, hb9.bel hy, hq12, hq13, rfl⟩⟩
        · have t1 : cc ≠ -1 := by simpa [hE.cmp, cmpR] using t1
          conv => cbv
          (refine st_fld hE fISd2 fun p hp => ?_; (conv => cbv); refine st_load hE cInt (by rw [hp]; exact (hq12).at _ _ rfl) ?_; clear hp; (conv => cbv))
          refine st_g hr (tree_g hT h.nodes g1 hii hi (hb9.bel hy) (hx.trans hy) (hleaf _ (hy.wr _)) cc) fun u w10 ⟨v, b, ev, hv1, hw10, hbf, hbt⟩ => ?_
          subst ev
          conv => cbv
          have hwr10 := (hy.wr (some q9)).trans hw10
          replace hq12 := hq12.wr hw10 a129
          replace hq13 := hq13.wr hw10 a139
          refine st_fld hE fSt2 fun p hp => ?_
          conv => cbv
          refine st_put hr zTr hq13 hp (by simp) hv1 fun w11 hw11 hq13' => ?_
          simp only [List.set_cons_zero, List.set_cons_succ] at hq13'
          have hwr11 := wr_new hwr10 hw11 hq13
          have s10 := hw10.size
          have s11 := hw11.size
          replace hq12 := hq12.wr hw11 a1213
          conv => cbv
          cases b with
          | false =>
            exact ⟨none, by simp [Fits, lk], hJ _ _ ⟨by rw [hSM]; unfold optM; rw [if_neg t1, hbf rfl], xw _ hwr11⟩⟩
          | true =>
            obtain ⟨t, ty, u, rfl, ht, htv, hb9'⟩ := hbt rfl
            obtain ⟨kn, hkn, hk1, hk2, _⟩ := treeM_iff.1 ht
            exact ⟨some (some t, .iface ty u, cc.toNat + 1, cc + 1), by simp [Fits, lk], hJ _ _ ⟨by unfold optM; rw [if_neg t1, ht], by omega, by omega, hwr11, by omega, hb9'.wr hw11 (bx_apart e9 e13 (by omega)), hq12, hq13', by
              refine TreeV.keep (fun b hb => hw11.block b ?_ ?_) (fun b hb => ?_) t _ htv
              · rcases hb with hb | hb <;> omega
              · rw [e13]; intro q; cases q; rcases hb with hb | hb <;> omega
              · rcases hb with hb | hb
                · exact .inl hb
                · exact .inr ⟨by omega, by omega⟩⟩⟩
      · clear hq12 hq13 hy h9z
        rintro (_ | ⟨co, cv, i1, ii1⟩) wy hI2
        · obtain ⟨hS1, hS2⟩ := hI2
          conv => cbv
          refine cut_rule [] [] hr (fun (s : Unit) wy => Ext w0 wy) (fun s => [(15, .bool false)]) (fun J hJ => ?_) ?_
          · conv => cbv
            exact ⟨(), by simp [Fits, lk], hJ _ _ hS2⟩
          · rintro _ wy hS2
            conv => cbv
            exact bad2 hS1 _ hS2
        obtain ⟨hc1, hii1, hi1, hwr, h9z, hb9y, hq12, hq13, hcv⟩ := hI2
        rw [hc1] at hSM
        simp only at hSM
        conv => cbv
        refine cut_rule [] [22] hr (fun (s : Option (Option Tr × Value × Option Tr × Value × Nat × Int)) wy => match s with
            | none => SM = none ∧ Ext w0 wy
            | some (co, cv, go, gv, i2, ii2) => SM = some (⟨co, go⟩, i2) ∧ ii2 = (i2 : Int) ∧ i2 ≤ N ∧ Wr (some q9) w' wy ∧ w9.heap.size ≤ wy.heap.size ∧ Box w0.heap.size 98 3 wy q9 [.slice AN N cN', .int .i64 ii2, .func (.func 46) #[] #[.pointer (some q5), .pointer (some q8)]] ∧
                Box w'.heap.size 39 4 wy q12 [.int .i64 k, .string nm, .int .i64 cc, .int .i64 gg] ∧ Box w'.heap.size 49 5 wy q13 [.int .i64 k, .string nm, cv, gv, .int .i64 jj] ∧ optV (fun b => b < w0.heap.size ∨ (w9.heap.size ≤ b ∧ b < wy.heap.size)) wy co cv ∧ optV (fun b => b < w0.heap.size ∨ (w9.heap.size ≤ b ∧ b < wy.heap.size)) wy go gv)
          (fun s => match s with
            | none => [(15, .bool false)]
            | some _ => [(0, .slice AN N cN'), (1, .slice A2 n2 c2), (8, .pointer (some q8)), (9, .pointer (some q9)), (10, .slice A j c), (12, .pointer (some q12)), (13, .pointer (some q13)), (15, .bool true), (34, .slice A2 n2 c2), (35, .int .i64 x4), (36, .int .i64 jj)]) (fun J hJ => ?_) ?_
        · (refine st_fld hE fISd3 fun p hp => ?_; (conv => cbv); refine st_load hE cInt (by rw [hp]; exact (hq12).at _ _ rfl) ?_; clear hp; (conv => cbv))
          refine br (fun t1 => ?_) (fun t1 => ?_)
          rotate_left
          · have t1 : gg = -1 := by simpa [hE.cmp, cmpR] using t1
            conv => cbv
            exact ⟨some (co, cv, none, .nilIface, i1, ii1), by simp [Fits, lk], hJ _ _ ⟨by rw [hSM]; unfold optM; rw [if_pos t1], hii1, hi1, hwr, h9z, hb9y, hq12, hq13, hcv, rfl⟩⟩
          · have t1 : gg ≠ -1 := by simpa [hE.cmp, cmpR] using t1
            conv => cbv
            (refine st_fld hE fISd3 fun p hp => ?_; (conv => cbv); refine st_load hE cInt (by rw [hp]; exact (hq12).at _ _ rfl) ?_; clear hp; (conv => cbv))
            refine st_g hr (tree_g hT h.nodes g1 hii1 hi1 hb9y (xw _ hwr) (hleaf _ hwr) gg) fun u w10 ⟨v, b, ev, hv1, hw10, hbf, hbt⟩ => ?_
            subst ev
            conv => cbv
            have hwr10 := hwr.trans hw10
            replace hq12 := hq12.wr hw10 a129
            replace hq13 := hq13.wr hw10 a139
            refine st_fld hE fSt3 fun p hp => ?_
            conv => cbv
            refine st_put hr zTr hq13 hp (by simp) hv1 fun w11 hw11 hq13' => ?_
            simp only [List.set_cons_zero, List.set_cons_succ] at hq13'
            have hwr11 := wr_new hwr10 hw11 hq13
            have s10 := hw10.size
            have s11 := hw11.size
            replace hq12 := hq12.wr hw11 a1213
            conv => cbv
            cases b with
            | false =>
              exact ⟨none, by simp [Fits, lk], hJ _ _ ⟨by rw [hSM]; unfold optM; rw [if_neg t1, hbf rfl], xw _ hwr11⟩⟩
            | true =>
              obtain ⟨t, ty, u, rfl, ht, htv, hb9'⟩ := hbt rfl
              obtain ⟨kn, hkn, hk1, hk2, _⟩ := treeM_iff.1 ht
              have keepD : ∀ (b : Nat), b < w0.heap.size ∨ (w9.heap.size ≤ b ∧ b < w10.heap.size) → w11.heap[b]? = w10.heap[b]? := fun b hb => hw11.block b (by rcases hb with hb | hb <;> omega) (by rw [e13]; intro q; cases q; rcases hb with hb | hb <;> omega)
              exact ⟨some (co, cv, some t, .iface ty u, gg.toNat + 1, gg + 1), by simp [Fits, lk], hJ _ _ ⟨by rw [hSM]; unfold optM; rw [if_neg t1, ht], by omega, by omega, hwr11, by omega, hb9'.wr hw11 (bx_apart e9 e13 (by omega)), hq12, hq13', by
                refine (hcv.keep (fun b hb => hw10.block b ?_ ?_) (fun b hb => ?_)).keep (D := fun b => b < w0.heap.size ∨ (w9.heap.size ≤ b ∧ b < w10.heap.size)) keepD (fun b hb => ?_)
                · rcases hb with hb | hb <;> omega
                · rw [e9]; intro q; cases q; rcases hb with hb | hb <;> omega
                · rcases hb with hb | hb
                  · exact .inl hb
                  · exact .inr ⟨by omega, by omega⟩
                · rcases hb with hb | hb
                  · exact .inl hb
                  · exact .inr ⟨by omega, by omega⟩, by
                refine TreeV.keep (fun b hb => keepD b ?_) (fun b hb => ?_) t _ htv
                · rcases hb with hb | hb
                  · exact .inl hb
                  · exact .inr ⟨by omega, by omega⟩
                · rcases hb with hb | hb
                  · exact .inl hb
                  · exact .inr ⟨by omega, by omega⟩⟩⟩
        · clear hq12 hq13 hwr h9z hb9y hcv hSM hc1
          rintro (_ | ⟨co', cv', go, gv, i2, ii2⟩) wy hI2
          · obtain ⟨hS1, hS2⟩ := hI2
            conv => cbv
            exact bad2 hS1 _ hS2
          obtain ⟨hS1, hii2, hi2, hwr, h9z, hb9y, hq12, hq13, hcv, hgv⟩ := hI2
          rw [hS1] at hV
          simp only at hV
          have hw8 := hs4
          have hsy := hwr.size
          replace hb5 := hb5.wr hwr a59
          replace hb8 := hb8.wr hwr a89
          have apA := own_low ho r9.2 e9
          have hblA : ∀ b, w9.heap.size ≤ b → blk A ≠ some b := fun b hb q => by
            obtain rfl | ⟨g, rfl, _, hg⟩ := ho.blk
            · simp [Eng.blk, Value.ownBlock] at q
            · have e1 : blk (some (⟨g, 0, none⟩ : Addr)) = some g := rfl
              rw [e1] at q; cases q; omega
          replace ho := ho.wr hwr apA.1
          replace hes : ES (Foot w0.heap.size w4.heap.size wy A) wy es := hes.keep (foot_keep h0s ⟨r9.1, r9.2⟩ e9 hwr) fun b hb => foot_ext hsy hb
          have toF : ∀ b, b < w0.heap.size ∨ (w9.heap.size ≤ b ∧ b < wy.heap.size) → Foot w0.heap.size w4.heap.size wy A b := fun b hb => by
            rcases hb with hb | hb
            · exact .inl hb
            · exact .inr ⟨by omega, hb.2, hblA b hb.1⟩
          replace hcv : optV (Foot w0.heap.size w4.heap.size wy A) wy co' cv' := hcv.keep (fun b _ => rfl) toF
          replace hgv : optV (Foot w0.heap.size w4.heap.size wy A) wy go gv := hgv.keep (fun b _ => rfl) toF
          have hxy := xw _ hwr
          have h0y := hxy.size
          conv => cbv
          refine cut_rule [] [] hr (fun (s : Nat × Int) wv => s.1 = (if k = 1 then le + 1 else le) ∧ s.2 = (s.1 : Int) ∧ Ext w0 wv ∧ w4.heap.size ≤ wv.heap.size ∧ Box w0.heap.size 72 1 wv q5 [.func (.func f0) #[] #[]] ∧ Box w0.heap.size 3 1 wv q8 [.int .i64 s.2] ∧
              Box w0.heap.size 98 3 wv q9 [.slice AN N cN', .int .i64 ii2, .func (.func 46) #[] #[.pointer (some q5), .pointer (some q8)]] ∧ Box w'.heap.size 49 5 wv q13 [.int .i64 k, .string nm, cv', gv, .int .i64 jj] ∧ Own w4.heap.size 49 5 wv A j c (es.flatMap fV) ∧
              ES (Foot w0.heap.size w4.heap.size wv A) wv es ∧ optV (Foot w0.heap.size w4.heap.size wv A) wv co' cv' ∧ optV (Foot w0.heap.size w4.heap.size wv A) wv go gv)
            (fun s => [(0, .slice AN N cN'), (1, .slice A2 n2 c2), (8, .pointer (some q8)), (9, .pointer (some q9)), (10, .slice A j c), (13, .pointer (some q13)), (34, .slice A2 n2 c2), (35, .int .i64 x4), (36, .int .i64 jj)]) (fun J hJ => ?_) ?_
          · (refine st_fld hE fISd0 fun p hp => ?_; (conv => cbv); refine st_load hE cInt (by rw [hp]; exact (hq12).at _ _ rfl) ?_; clear hp; (conv => cbv))
            refine br (fun t1 => ?_) (fun t1 => ?_)
            rotate_left
            · have t1 : k ≠ 1 := by simpa [hE.cmp, cmpR] using t1
              conv => cbv
              exact ⟨(le, ll), by simp [Fits, lk], hJ _ _ ⟨by rw [if_neg t1], hll, hxy, by omega, hb5, hb8, hb9y, hq13, ho, hes, hcv, hgv⟩⟩
            · have t1 : k = 1 := by simpa [hE.cmp, cmpR] using t1
              conv => cbv
              refine st_load hE cInt (by have := hb8.at 0 _ rfl; rwa [add_zero] at this) ?_
              conv => cbv
              simp only [el]
              refine st_put hr zInt hb8 (add_zero _).symm (by simp) rfl fun wv hwv hb8' => ?_
              simp only [List.set_cons_zero] at hb8'
              have apA8 := own_low ho r8.2 e8
              have hvs := hwv.size
              have kp : ∀ b, Foot w0.heap.size w4.heap.size wy A b → wv.heap[b]? = wy.heap[b]? := foot_keep h0y ⟨r8.1, r8.2⟩ e8 hwv
              have kf : ∀ b, Foot w0.heap.size w4.heap.size wy A b → Foot w0.heap.size w4.heap.size wv A b := fun b hb => foot_ext hvs hb
              conv => cbv
              exact ⟨(le + 1, lk1), by simp [Fits, lk], hJ _ _ ⟨by rw [if_pos t1], by simp only; omega, hxy.then (hwv.bel hb8 h0y), by omega, hb5.wr hwv a58, hb8', hb9y.wr hwv a98, hq13.wr hwv (bx_apart e13 e8 (by omega)), ho.wr hwv apA8.1, hes.keep kp kf, hcv.keep kp kf, hgv.keep kp kf⟩⟩
          · clear hb5 hb8 hb9 hb9y hq13 hq12 ho hes hcv hgv hxy h0y apA
            rintro ⟨le', ll'⟩ wv ⟨hle', hll', hxy, hs4v, hb5, hb8, hb9, hq13, ho, hes, hcv, hgv⟩
            simp only at hle' hll' hb8
            rw [← hle'] at hV
            conv => cbv
            refine st_loadS hE tSt rfl hq13.at ?_
            conv => cbv
            have h0y := hxy.size
            refine st_oneS hr sSt rfl (by omega) (by omega) rfl fun A7 w7 hx7 hc7 => ?_
            have kp7 : ∀ b, Foot w0.heap.size w4.heap.size wv A b → w7.heap[b]? = wv.heap[b]? := fun b hb => hx7.block b (foot_lt h0y hb)
            have kf7 : ∀ b, Foot w0.heap.size w4.heap.size wv A b → Foot w0.heap.size w4.heap.size w7 A b := fun b hb => foot_ext hx7.size hb
            replace hb5 := hb5.bel hx7
            replace hb8 := hb8.bel hx7
            replace hb9 := hb9.bel hx7
            replace ho := ho.bel hx7
            replace hes := hes.keep kp7 kf7
            replace hcv := hcv.keep kp7 kf7
            replace hgv := hgv.keep kp7 kf7
            replace hxy := hxy.trans hx7
            have hs47 := hx7.size
            have oc := hcv.one
            have og := hgv.one
            clear kp7 kf7 hx7 h0y
            have h0y := hxy.size
            conv => cbv
            refine st_appsKG hr sSt rfl (by omega) ho hc7 rfl (by omega) (by
              intro v hv
              simp only [List.mem_cons, List.not_mem_nil, or_false] at hv
              rcases hv with rfl | rfl | rfl | rfl | rfl <;> first | rfl | assumption) (by omega) (by omega) (by omega) fun A8 c8 m8 w8 hm8 hw8 ho8 hbk => ?_
            subst hm8
            have hgro : Gro _ A w8 A8 := ⟨hw8, hbk.imp id fun e => ⟨_, e, Nat.le_refl _⟩⟩
            have hrow := own_row ho hs04
            have apA := own_low ho r5.2 e5
            have apB := own_low ho r8.2 e8
            have apC := own_low ho r9.2 e9
            have kp8 : ∀ b, Foot w0.heap.size w4.heap.size w7 A b → w8.heap[b]? = w7.heap[b]? := fun b hb => hw8.block b (foot_lt h0y hb) (by
              intro e
              rcases hb with hb | hb
              · rcases hrow with rfl | ⟨g, e2, hg2⟩
                · simp [Eng.blk, Value.ownBlock] at e
                · rw [e2] at e; cases e; omega
              · exact hb.2.2 e.symm)
            have kf8 : ∀ b, Foot w0.heap.size w4.heap.size w7 A b → Foot w0.heap.size w4.heap.size w8 A8 b := fun b hb => by
              rcases hb with hb | ⟨h1, h2, h3⟩
              · exact .inl hb
              · refine .inr ⟨h1, Nat.lt_of_lt_of_le h2 hgro.wr.size, ?_⟩
                rcases hgro.at_ with e | ⟨g, e, hg2⟩
                · rw [e]; exact h3
                · rw [e]; intro q; cases q; omega
            conv => cbv
            simp only [ej]
            have hs8 := hw8.size
            refine ⟨(j + 1, jk, i2, ii2, le', ll', A8, c8, es ++ [⟨⟨k, nm, cc, gg⟩, ⟨co', go⟩, cv', gv, jj⟩]), by simp [Fits, lk], hI _ _ ⟨by simp only; omega, by simp only; omega, hi2, hii2, ?_, hll', hxy.then (hw8.bel (ho.mono hs04) h0y), by omega, hb5.wr hw8 apA.2, hb8.wr hw8 apB.2, hb9.wr hw8 apC.2, ?_, ?_, ?_, ?_⟩, by simp only; omega⟩
            · simp only
              split at hle' <;> omega
            · simp only
              rw [List.flatMap_append]
              exact ho8
            · simp only
              intro e he
              rcases List.mem_append.1 he with he | he
              · exact (hes.keep kp8 kf8) e he
              · simp at he
                subst he
                exact ⟨hcv.keep kp8 kf8, hgv.keep kp8 kf8⟩
            · simp only
              intro q e hq
              rcases Nat.lt_or_ge q es.length with r | r
              · rw [List.getElem?_append_left r] at hq; exact hnu q e hq
              · rw [List.getElem?_append_right r] at hq
                have : q = j := by
                  have := (List.getElem?_eq_some_iff.1 hq).1
                  simp at this; omega
                subst this
                rw [show q - es.length = 0 by omega] at hq
                simp at hq
                subst hq
                exact ⟨hjj, hg⟩
            · simp only
              rw [List.map_append]
              exact hV
  · have g : j = n2 := by
      have : ¬ jj < x4 := by simpa [hE.cmp, cmpR] using g
      omega
    subst g
    rw [List.drop_eq_nil_of_le (by omega), runS] at hV
    conv => cbv
    refine draw_q hr fol (by kernel_rfl) fun E' hE' => ?_
    conv => cbv
    (refine st_nil hE' ?_; (conv => cbv); refine st_fld hE' fWk1 fun p hp => ?_; (conv => cbv); refine st_load hE' cInt (by rw [hp]; exact (hb9).at _ _ rfl) ?_; clear hp; (conv => cbv))
    refine st_len hE' sINd fun x5 hx5 => ?_
    conv => cbv
    obtain ⟨q4, hq4⟩ : ∃ q4, q4 = E'.cmp .eql ii x5 := ⟨_, rfl⟩
    have hq5 : q4 = true ↔ i = N := by rw [hq4, hE'.cmp]; simp [cmpR]; omega
    simp only [← hq4]
    intro wv hsv
    conv => cbv
    rw [hR]
    have hx2 := hx.trans hsv.ext
    refine ⟨hx2, A, j, c, q4, rfl, ?_, fun hq => ?_⟩
    · rw [hq5]
      constructor
      · intro e
        exact ⟨by omega, by omega, by omega, _, by rw [← hV, e, hl]⟩
      · rintro ⟨_, _, _, acc, e⟩
        rw [← hV] at e
        simp at e
        omega
    · have e := hq5.1 hq
      refine ⟨es.map (·.p), by rw [← hV, e, hl], es, by omega, by omega, ho.cap, rfl, ho.cells.ext hsv.ext, hnu, hes.keep (fun b hb => hsv.ext.block b (foot_lt h0s hb)) fun b hb => ?_⟩
      exact foot_lt hx2.size (foot_ext hsv.ext.size hb)
end Go.Proofs.YtgdnmpcaiaoaoaaDoor
/- The program's policyTrees and ValidPolicy. -/
namespace Go.Proofs.YtgdnmpcaiaoaoaaDoor
open Go.Eng
set_option linter.unusedVariables false
set_option linter.unusedSimpArgs false
theorem policyTrees_f {w : World} (hT : Tab w 2 constF) (hR0 : STab w 1 words) {A A2 : Option Addr} {n c n2 c2 : Nat} {nv : List PN} {sv : List PS} (h : PolR w A n A2 n2 nv sv) (hn : n ≤ 9223372036854775807) (hn2 : n2 ≤ 9223372036854775807) :
    FC Tryd.prog 15 [polV A n c A2 n2 c2] w fun v w' => ∃ (B : Option Addr) (m d : Nat) (b : Bool), v = .tuple ⟨[.slice B m d, .bool b]⟩ ∧ (b = true ↔ policyP false nv sv) ∧
      (b = true → ∃ acc, runS nv (fun _ => leafU) sv 0 0 [] = some (acc, nv.length) ∧ LaidS w' B m d sv acc) := by
  refine FC.intro (cs := []) Tryd.func15 (by kernel_rfl) fun E R hE hr hR => ?_
  conv => cbv
  refine st_box hr fun a w1 hx hb0 => ?_
  have hb := hb0 _ (Nat.le_refl _)
  conv => cbv
  (refine st_fld hE fIPol0 fun p hp => ?_; (conv => cbv); refine st_load hE cINs (by rw [hp]; exact (hb).at _ _ rfl) ?_; clear hp; (conv => cbv))
  (refine st_fld hE fIPol1 fun p hp => ?_; (conv => cbv); refine st_load hE cISs (by rw [hp]; exact (hb).at _ _ rfl) ?_; clear hp; (conv => cbv))
  refine st_f hr (trees_f (cN' := c) (c2 := c2) (hT.ext hx) (hR0.ext hx) (h.ext hx) hn hn2 (leafU_a (hR0.ext hx))) fun v w2 hx2 ⟨B, m, d, b, ev, h1, h2⟩ => ?_
  subst ev
  rw [← policyU_iff] at h1
  conv => cbv
  rw [hR]; exact ⟨hx.trans hx2, B, m, d, b, rfl, h1, h2⟩
end Go.Proofs.YtgdnmpcaiaoaoaaDoor
/- Types of nodes, in plain words; the reference's small functions about them. -/
namespace Go.Proofs.YtgdnmpcaiaoaoaaDoor
open Go.Eng
set_option linter.unusedVariables false
set_option linter.unusedSimpArgs false
/-! ### Places in lists of words -/
def posF : List ByteArray → ByteArray → Option Nat
  | [], _ => none
  | x :: l, s => if x = s then some 0 else (posF l s).map (· + 1)
def posI (l : List ByteArray) (s : ByteArray) : Int := match posF l s with | none => -1 | some i => i
/-! ### Types -/
def attrs : List ByteArray := [⟨⟨[99, 108, 105, 101, 110, 116]⟩⟩, ⟨⟨[117, 115, 101, 114]⟩⟩, ⟨⟨[108, 101, 118, 101, 108]⟩⟩, ⟨⟨[110, 111, 119]⟩⟩, ⟨⟨[97, 115, 107, 101, 100]⟩⟩, ⟨⟨[97, 103, 114, 101, 101, 100]⟩⟩]
/-- The type of an operator (8 to 27) over kids' types; 0 if they do not fit. -/
def typG (o : Int) (ts : List Int) : Int :=
  if o = 25 ∨ o = 26 then (if allT 1 ts = true then 1 else 0)
  else if o = 27 then (if ts[0]? = some 1 ∧ ts[1]? = ts[2]? then ts.getD 1 0 else 0)
  else typF o ts
/-- The reference's line of the table. -/
def rowF (o : Int) : List Int × Int :=
  if o = 1 then ([], 2) else if o = 2 then ([], 3) else if o = 3 then ([], 1) else if o = 4 then ([], 4)
  else if o = 8 then ([2], 2) else if o = 9 then ([1], 1) else if o = 10 then ([4], 2)
  else if 11 ≤ o ∧ o ≤ 15 then ([2, 2], 2) else if 16 ≤ o ∧ o ≤ 18 then ([4, 4], 4)
  else if o = 19 ∨ o = 20 then ([0, 0], 1) else if o = 21 ∨ o = 22 then ([2, 2], 1)
  else if o = 23 then ([3, 4], 1) else if o = 24 then ([4, 4], 1) else if o = 25 ∨ o = 26 then ([1, 1], 1)
  else ([1, 0, 0], 0)
/-- The reference's walk along such a line: 'any' so far; none: they do not fit. -/
def wantM : List Int → List Int → Int → Option Int
  | [], _, any => some any
  | w :: ws, ks, any =>
    let any' := if w = 0 then (if any = 0 then ks.headD 0 else any) else any
    let w' := if w = 0 then any' else w
    if ks.headD 0 ≠ w' then none else wantM ws ks.tail any'
def typR (o : Int) (ks : List Int) : Int := match wantM (rowF o).1 ks 0 with | none => 0 | some any => if (rowF o).2 = 0 then any else (rowF o).2
end Go.Proofs.YtgdnmpcaiaoaoaaDoor
/- Types of trees, in plain words: the reference's, node by node, and the program's, in one walk. -/
namespace Go.Proofs.YtgdnmpcaiaoaoaaDoor
set_option linter.unusedVariables false
set_option linter.unusedSimpArgs false
/-- What a name stands for. -/
def resN (names : List ByteArray) (tx : ByteArray) : Option Tr := match posF attrs tx with
  | some i => some (.att i)
  | none => (posF names tx).map fun i => .lt i
def tyLt (tys : List Int) (n : Int) : Int × Int := if (tys.length : Int) ≤ n then (0, 7) else (tys.getD n.toNat 0, 0)
def tyNam (names : List ByteArray) (tys : List Int) (tx : ByteArray) : Int × Int := match posF attrs tx with
  | some i => (attrF i, 0)
  | none => match posF names tx with
    | none => (0, 7)
    | some i => (tys.getD i 0, 0)
mutual
/-- The type of a tree, and the code of what is wrong with it. -/
def tyT (names : List ByteArray) (tys : List Int) : Tr → Int × Int
  | .con k _ _ _ _ => (k, 0)
  | .att n => (attrF n, 0)
  | .lt n => tyLt tys n
  | .nam tx _ => tyNam names tys tx
  | .op o kids _ => if (tyTs names tys kids).1 ≠ 0 then (0, (tyTs names tys kids).1) else if typG o (tyTs names tys kids).2 = 0 then (0, 9) else (typG o (tyTs names tys kids).2, 0)
def tyTs (names : List ByteArray) (tys : List Int) : List Tr → Int × List Int
  | [] => (0, [])
  | t :: l => if (tyT names tys t).2 ≠ 0 then ((tyT names tys t).2, []) else ((tyTs names tys l).1, (tyT names tys t).1 :: (tyTs names tys l).2)
end
mutual
/-- The types written down behind acc; the code; the type. -/
def chk (names : List ByteArray) (tys : List Int) : Tr → List Int → List Int × Int × Int
  | .con k _ _ _ _, acc => (acc ++ [k], 0, k)
  | .att n, acc => (acc ++ [attrF n], 0, attrF n)
  | .lt n, acc => if (tyLt tys n).2 ≠ 0 then (acc, (tyLt tys n).2, 0) else (acc ++ [(tyLt tys n).1], 0, (tyLt tys n).1)
  | .nam tx _, acc => if (tyNam names tys tx).2 ≠ 0 then (acc, (tyNam names tys tx).2, 0) else (acc ++ [(tyNam names tys tx).1], 0, (tyNam names tys tx).1)
  | .op o kids _, acc => if (chks names tys kids acc).2.1 ≠ 0 then ((chks names tys kids acc).1, (chks names tys kids acc).2.1, 0)
    else if typG o (chks names tys kids acc).2.2 = 0 then ((chks names tys kids acc).1, 9, 0)
    else ((chks names tys kids acc).1 ++ [typG o (chks names tys kids acc).2.2], 0, typG o (chks names tys kids acc).2.2)
def chks (names : List ByteArray) (tys : List Int) : List Tr → List Int → List Int × Int × List Int
  | [], acc => (acc, 0, [])
  | t :: l, acc => if (chk names tys t acc).2.1 ≠ 0 then ((chk names tys t acc).1, (chk names tys t acc).2.1, [])
    else ((chks names tys l (chk names tys t acc).1).1, (chks names tys l (chk names tys t acc).1).2.1, (chk names tys t acc).2.2 :: (chks names tys l (chk names tys t acc).1).2.2)
end
mutual
/-- The names put right. -/
def resT (names : List ByteArray) : Tr → Tr
  | .nam tx at_ => (resN names tx).getD (.nam tx at_)
  | .op o kids at_ => .op o (resTs names kids) at_
  | t => t
def resTs (names : List ByteArray) : List Tr → List Tr
  | [] => []
  | t :: l => resT names t :: resTs names l
end
mutual
/-- The trees of all nodes of a tree, in post-order. -/
def po : Tr → List Tr
  | .op o kids at_ => pos kids ++ [.op o kids at_]
  | t => [t]
def pos : List Tr → List Tr
  | [] => []
  | t :: l => po t ++ pos l
end
def walkL (names : List ByteArray) (tys : List Int) : List Tr → List Int → List Int × Int
  | [], acc => (acc, 0)
  | u :: l, acc => if (tyT names tys u).2 ≠ 0 then (acc, (tyT names tys u).2) else walkL names tys l (acc ++ [(tyT names tys u).1])
theorem walkL_append (names : List ByteArray) (tys : List Int) : ∀ (l r : List Tr) (acc : List Int), walkL names tys (l ++ r) acc = if (walkL names tys l acc).2 ≠ 0 then walkL names tys l acc else walkL names tys r (walkL names tys l acc).1
  | [], r, acc => by simp [walkL]
  | u :: l, r, acc => by
    rw [List.cons_append, walkL, walkL]
    split
    · rename_i h; simp [h]
    · exact walkL_append names tys l r _
mutual
theorem chk_walk (names : List ByteArray) (tys : List Int) : ∀ (t : Tr) (acc : List Int), (chk names tys t acc).1 = (walkL names tys (po t) acc).1 ∧ (chk names tys t acc).2.1 = (walkL names tys (po t) acc).2 ∧ ((walkL names tys (po t) acc).2 = 0 → (tyT names tys t).2 = 0 ∧ (chk names tys t acc).2.2 = (tyT names tys t).1)
  | .con k n tx xs at_, acc => by simp [chk, po, walkL, tyT]
  | .att n, acc => by simp [chk, po, walkL, tyT]
  | .lt n, acc => by
    simp only [chk, po, walkL, tyT]
    by_cases h : (tyLt tys n).2 = 0 <;> simp [h]
  | .nam tx at_, acc => by
    simp only [chk, po, walkL, tyT]
    by_cases h : (tyNam names tys tx).2 = 0 <;> simp [h]
  | .op o kids at_, acc => by
    obtain ⟨h1, h2, h3⟩ := chks_walk names tys kids acc
    by_cases h : (walkL names tys (pos kids) acc).2 = 0
    · obtain ⟨h4, h5⟩ := h3 h
      have e : chk names tys (.op o kids at_) acc = if typG o (tyTs names tys kids).2 = 0 then ((walkL names tys (pos kids) acc).1, 9, 0) else ((walkL names tys (pos kids) acc).1 ++ [typG o (tyTs names tys kids).2], 0, typG o (tyTs names tys kids).2) := by
        rw [chk, if_neg (by rw [h2]; simpa using h), h1, h5]
      have e2 : tyT names tys (.op o kids at_) = if typG o (tyTs names tys kids).2 = 0 then (0, 9) else (typG o (tyTs names tys kids).2, 0) := by rw [tyT, if_neg (by simpa using h4)]
      have e3 : walkL names tys (po (.op o kids at_)) acc = if (tyT names tys (.op o kids at_)).2 ≠ 0 then ((walkL names tys (pos kids) acc).1, (tyT names tys (.op o kids at_)).2) else ((walkL names tys (pos kids) acc).1 ++ [(tyT names tys (.op o kids at_)).1], 0) := by
        rw [po, walkL_append, if_neg (by simpa using h), walkL, walkL]
      rw [e, e3, e2]
      by_cases h6 : typG o (tyTs names tys kids).2 = 0 <;> simp [h6]
    · have e : chk names tys (.op o kids at_) acc = ((walkL names tys (pos kids) acc).1, (walkL names tys (pos kids) acc).2, 0) := by rw [chk, if_pos (by rw [h2]; exact h), h1, h2]
      have e3 : walkL names tys (po (.op o kids at_)) acc = walkL names tys (pos kids) acc := by rw [po, walkL_append, if_pos h]
      rw [e, e3]
      exact ⟨rfl, rfl, fun q => absurd q h⟩
theorem chks_walk (names : List ByteArray) (tys : List Int) : ∀ (l : List Tr) (acc : List Int), (chks names tys l acc).1 = (walkL names tys (pos l) acc).1 ∧ (chks names tys l acc).2.1 = (walkL names tys (pos l) acc).2 ∧ ((walkL names tys (pos l) acc).2 = 0 → (tyTs names tys l).1 = 0 ∧ (chks names tys l acc).2.2 = (tyTs names tys l).2)
  | [], acc => by simp [chks, pos, walkL, tyTs]
  | t :: l, acc => by
    obtain ⟨h1, h2, h3⟩ := chk_walk names tys t acc
    by_cases h : (walkL names tys (po t) acc).2 = 0
    · obtain ⟨h4, h5⟩ := h3 h
      obtain ⟨k1, k2, k3⟩ := chks_walk names tys l (walkL names tys (po t) acc).1
      have e : chks names tys (t :: l) acc = ((chks names tys l (walkL names tys (po t) acc).1).1, (chks names tys l (walkL names tys (po t) acc).1).2.1, (tyT names tys t).1 :: (chks names tys l (walkL names tys (po t) acc).1).2.2) := by rw [chks, if_neg (by rw [h2]; simpa using h), h1, h5]
      have e2 : tyTs names tys (t :: l) = ((tyTs names tys l).1, (tyT names tys t).1 :: (tyTs names tys l).2) := by rw [tyTs, if_neg (by simpa using h4)]
      have e3 : walkL names tys (pos (t :: l)) acc = walkL names tys (pos l) (walkL names tys (po t) acc).1 := by rw [pos, walkL_append, if_neg (by simpa using h)]
      rw [e, e2, e3]
      refine ⟨k1, k2, fun q => ?_⟩
      obtain ⟨k4, k5⟩ := k3 q
      exact ⟨k4, by simp only; rw [k5]⟩
    · have e : chks names tys (t :: l) acc = ((walkL names tys (po t) acc).1, (walkL names tys (po t) acc).2, []) := by rw [chks, if_pos (by rw [h2]; exact h), h1, h2]
      have e3 : walkL names tys (pos (t :: l)) acc = walkL names tys (po t) acc := by rw [pos, walkL_append, if_pos h]
      rw [e, e3]
      exact ⟨rfl, rfl, fun q => absurd q h⟩
end
theorem po_leaf {p : PN} {i : Int} (h : kidsF p.o = 0) (kids : List Tr) : po (mkT p i kids) = [mkT p i kids] := by
  unfold mkT; rw [if_pos h]; unfold leafF; (repeat' split) <;> simp [po]
/-- The trees in post-order are the trees of the nodes in their order. -/
theorem IsTs.pos {ns : List PN} {a b : Nat} {ks : List Int} {ts : List Tr} (h : IsTs ns a b ks ts) : (Proofs.YtgdnmpcaiaoaoaaDoor.pos ts).length = b - a ∧ ∀ j, j < b - a → ∃ u a', (Proofs.YtgdnmpcaiaoaoaaDoor.pos ts)[j]? = some u ∧ IsTs ns a' (a + j + 1) [((a + j : Nat) : Int)] [u] := by
  induction h with
  | nil a => exact ⟨by simp [Proofs.YtgdnmpcaiaoaoaaDoor.pos], fun j hj => by omega⟩
  | @cons a b k p ks kids ts hp hk h1 h2 i1 i2 =>
    have e1 := h1.le
    have e2 := h2.le
    obtain ⟨l1, g1⟩ := i1
    obtain ⟨l2, g2⟩ := i2
    have hpo : po (mkT p k kids) = Proofs.YtgdnmpcaiaoaoaaDoor.pos kids ++ [mkT p k kids] := by
      by_cases h0 : kidsF p.o = 0
      · have hks : p.ks = [] := List.eq_nil_of_length_eq_zero (by omega)
        have : kids = [] := List.eq_nil_of_length_eq_zero (by rw [h1.len, hks]; rfl)
        rw [po_leaf h0, this]; simp [Proofs.YtgdnmpcaiaoaoaaDoor.pos]
      · unfold mkT; rw [if_neg h0, po]
    rw [Proofs.YtgdnmpcaiaoaoaaDoor.pos, hpo]
    refine ⟨by simp; omega, fun j hj => ?_⟩
    rcases Nat.lt_trichotomy j (k - a) with q | q | q
    · obtain ⟨u, a', hu, hu2⟩ := g1 j q
      exact ⟨u, a', by rw [List.append_assoc, List.getElem?_append_left (by omega)]; exact hu, hu2⟩
    · refine ⟨mkT p k kids, a, ?_, ?_⟩
      · rw [List.append_assoc, List.getElem?_append_right (by omega), show j - (Proofs.YtgdnmpcaiaoaoaaDoor.pos kids).length = 0 by omega]; rfl
      · rw [show a + j = k by omega]
        exact .cons hp hk h1 (.nil _)
    · obtain ⟨u, a', hu, hu2⟩ := g2 (j - (k + 1 - a)) (by omega)
      refine ⟨u, a', ?_, by rw [show a + j = k + 1 + (j - (k + 1 - a)) by omega]; exact hu2⟩
      rw [List.getElem?_append_right (by simp; omega)]
      simp only [List.length_append, List.length_cons, List.length_nil]
      rw [show j - ((Proofs.YtgdnmpcaiaoaoaaDoor.pos kids).length + (0 + 1)) = j - (k + 1 - a) by omega]
      exact hu
end Go.Proofs.YtgdnmpcaiaoaoaaDoor
/- The text of a policy, in plain words. -/
namespace Go.Proofs.YtgdnmpcaiaoaoaaDoor
open Go.Eng
set_option linter.unusedVariables false
set_option linter.unusedSimpArgs false
/-- The level of an operator. -/
def levO (o : Int) : Int := if o = 27 then 0 else if o = 26 then 1 else if o = 25 then 2 else if o = 9 then 3 else if 19 ≤ o ∧ o ≤ 24 then 4 else if o = 11 ∨ o = 12 ∨ o = 16 ∨ o = 18 then 5 else if o = 13 ∨ o = 14 ∨ o = 15 ∨ o = 17 then 6 else if o = 8 then 7 else 8
def signO (o : Int) : ByteArray := if o = 11 then ⟨#[43]⟩ else if o = 12 then ⟨#[45]⟩ else if o = 13 then ⟨#[42]⟩ else if o = 14 then ⟨#[47]⟩ else if o = 15 then ⟨#[37]⟩ else if o = 16 then ⟨#[124]⟩ else if o = 17 then ⟨#[38]⟩ else if o = 18 then ⟨#[92]⟩
  else if o = 19 then ⟨#[61, 61]⟩ else if o = 20 then ⟨#[33, 61]⟩ else if o = 21 then ⟨#[60]⟩ else if o = 22 then ⟨#[60, 61]⟩ else if o = 23 then ⟨#[105, 110]⟩ else if o = 24 then ⟨#[119, 105, 116, 104, 105, 110]⟩ else if o = 25 then ⟨#[97, 110, 100]⟩ else if o = 26 then ⟨#[111, 114]⟩ else ⟨#[]⟩
def quo (s : ByteArray) : ByteArray := ⟨#[34]⟩ ++ s ++ ⟨#[34]⟩
def constS (k n : Int) (tx : ByteArray) (xs : List ByteArray) : ByteArray :=
  if k = 2 then decS n else if k = 3 then quo tx else if k = 1 then (if n = 1 then ⟨#[116, 114, 117, 101]⟩ else ⟨#[102, 97, 108, 115, 101]⟩) else ⟨#[123]⟩ ++ joinG ⟨#[44, 32]⟩ (xs.map quo) ++ ⟨#[125]⟩
def par (own lv : Int) (s : ByteArray) : ByteArray := if own < lv then ⟨#[40]⟩ ++ s ++ ⟨#[41]⟩ else s
/-- The levels for the kids. -/
def lvsO (o : Int) : List Int := if o = 27 then [0, 0, 0] else if o = 9 then [3] else if o = 8 then [7] else if o = 10 then [0] else [if levO o = 4 then 5 else levO o, levO o + 1]
def bodyO (o : Int) : List ByteArray → ByteArray
  | [a] => if o = 9 then ⟨#[110, 111, 116, 32]⟩ ++ a else if o = 8 then ⟨#[45]⟩ ++ a else ⟨#[115, 105, 122, 101, 40]⟩ ++ a ++ ⟨#[41]⟩
  | [a, b] => a ++ ⟨#[32]⟩ ++ signO o ++ ⟨#[32]⟩ ++ b
  | [a, b, c] => ⟨#[105, 102, 32]⟩ ++ a ++ ⟨#[32, 116, 104, 101, 110, 32]⟩ ++ b ++ ⟨#[32, 101, 108, 115, 101, 32]⟩ ++ c
  | _ => ⟨#[]⟩
mutual
/-- The text of a tree at a place that wants a level. -/
def prT : Tr → Int → ByteArray
  | .op o kids _, lv => par (levO o) lv (bodyO o (prTs kids (lvsO o)))
  | .con k n tx xs _, lv => par 8 lv (constS k n tx xs)
  | .nam tx _, lv => par 8 lv tx
  | _, lv => par 8 lv ⟨#[]⟩
def prTs : List Tr → List Int → List ByteArray
  | t :: ts, l :: ls => prT t l :: prTs ts ls
  | _, _ => []
end
theorem joinG_cons (sp x : ByteArray) : ∀ r : List ByteArray, r ≠ [] → joinG sp (x :: r) = x ++ sp ++ joinG sp r
  | [], h => absurd rfl h
  | y :: r, _ => by
    unfold joinG
    rw [List.map_cons, List.map_cons, Lib.join_cons, Lib.join_cons]
    have e : Lib.joinTail sp.data.toList (y.data.toList :: r.map (·.data.toList)) = sp.data.toList ++ (y.data.toList ++ Lib.joinTail sp.data.toList (r.map (·.data.toList))) := by simp [Lib.joinTail]
    rw [e, ← mk_append, ← mk_append sp.data.toList, bl_mk, bl_mk, ByteArray.append_assoc]
/-- The set's text, as the reference writes it. -/
theorem set_text : ∀ xs : List ByteArray, xs ≠ [] → (⟨#[123, 34]⟩ : ByteArray) ++ joinG ⟨#[34, 44, 32, 34]⟩ xs ++ ⟨#[34, 125]⟩ = ⟨#[123]⟩ ++ joinG ⟨#[44, 32]⟩ (xs.map quo) ++ ⟨#[125]⟩ := by
  have e1 : (⟨#[123, 34]⟩ : ByteArray) = ⟨#[123]⟩ ++ ⟨#[34]⟩ := rfl
  have e2 : (⟨#[34, 125]⟩ : ByteArray) = ⟨#[34]⟩ ++ ⟨#[125]⟩ := rfl
  have e3 : (⟨#[34, 44, 32, 34]⟩ : ByteArray) = ⟨#[34]⟩ ++ ⟨#[44, 32]⟩ ++ ⟨#[34]⟩ := rfl
  have key : ∀ xs : List ByteArray, xs ≠ [] → (⟨#[34]⟩ : ByteArray) ++ joinG ⟨#[34, 44, 32, 34]⟩ xs ++ ⟨#[34]⟩ = joinG ⟨#[44, 32]⟩ (xs.map quo) := by
    intro xs
    induction xs with
    | nil => intro h; exact absurd rfl h
    | cons x r ih =>
      intro _
      cases r with
      | nil => rw [List.map_cons, List.map_nil, joinG_one, joinG_one]; rfl
      | cons y r =>
        rw [joinG_cons _ x (y :: r) (by simp), List.map_cons, joinG_cons _ (quo x) ((y :: r).map quo) (by simp), ← ih (by simp), e3]
        unfold quo
        simp only [ByteArray.append_assoc]
  intro xs h
  rw [← key xs h, e1, e2]
  simp only [ByteArray.append_assoc]
/-- A tree that may be printed: what is in it is short. -/
def shortC : Tr → Prop
  | .con k n tx xs _ => tx.size ≤ 32 ∧ fits n ∧ xs.length ≤ 64 ∧ ∀ s ∈ xs, s.size ≤ 32
  | .nam tx _ => tx.size ≤ 32
  | _ => True
mutual
def shortT : Tr → Prop
  | .op _ kids _ => shortTs kids
  | t => shortC t
def shortTs : List Tr → Prop
  | [] => True
  | t :: l => shortT t ∧ shortTs l
end
theorem letters_le {xs : List ByteArray} {m : Nat} (h : ∀ s ∈ xs, s.size ≤ m) : letters xs ≤ m * xs.length := by
  induction xs with
  | nil => simp [letters]
  | cons x xs ih => rw [letters, List.length_cons, Nat.mul_succ]; have := h x (by simp); have := ih fun s hs => h s (by simp [hs]); omega
theorem quo_size (s : ByteArray) : (quo s).size = s.size + 2 := by
  unfold quo; rw [append_size, append_size, show (⟨#[34]⟩ : ByteArray).size = 1 from rfl]; omega
theorem letters_quo (xs : List ByteArray) : letters (xs.map quo) = letters xs + 2 * xs.length := by
  induction xs with
  | nil => rfl
  | cons x xs ih => rw [List.map_cons, letters, letters, ih, quo_size, List.length_cons]; omega
theorem constS_size {k n : Int} {tx : ByteArray} {xs : List ByteArray} (h1 : tx.size ≤ 32) (h2 : fits n) (h3 : xs.length ≤ 64) (h4 : ∀ s ∈ xs, s.size ≤ 32) : (constS k n tx xs).size ≤ 2400 := by
  unfold constS
  split
  · have := decS_size h2; omega
  · split
    · rw [quo_size]; omega
    · split
      · split <;> decide
      · rw [append_size, append_size]
        have := joinG_size ⟨#[44, 32]⟩ (xs.map quo)
        rw [letters_quo, List.length_map] at this
        have := letters_le h4
        simp only [ByteArray.size, List.size_toArray, List.length_cons, List.length_nil] at *
        omega
theorem par_size (own lv : Int) (s : ByteArray) : (par own lv s).size ≤ s.size + 2 := by
  unfold par; split
  · rw [append_size, append_size, show (⟨#[40]⟩ : ByteArray).size = 1 from rfl, show (⟨#[41]⟩ : ByteArray).size = 1 from rfl]; omega
  · omega
def sumS : List ByteArray → Nat
  | [] => 0
  | s :: l => s.size + sumS l
theorem ite_size {c : Prop} [Decidable c] {a b : ByteArray} {n : Nat} (ha : a.size ≤ n) (hb : b.size ≤ n) : (if c then a else b).size ≤ n := by split <;> assumption
theorem signO_size (o : Int) : (signO o).size ≤ 6 := by
  unfold signO
  repeat' first | decide | apply ite_size
theorem bodyO_size (o : Int) (l : List ByteArray) : (bodyO o l).size ≤ sumS l + 20 := by
  have hs := signO_size o
  unfold bodyO
  split
  · split
    · rw [append_size]; simp only [sumS, ByteArray.size, List.size_toArray, List.length_cons, List.length_nil]; omega
    · split
      · rw [append_size]; simp only [sumS, ByteArray.size, List.size_toArray, List.length_cons, List.length_nil]; omega
      · rw [append_size, append_size]; simp only [sumS, ByteArray.size, List.size_toArray, List.length_cons, List.length_nil]; omega
  · rw [append_size, append_size, append_size, append_size]; simp only [sumS, ByteArray.size, List.size_toArray, List.length_cons, List.length_nil] at hs ⊢; omega
  · rw [append_size, append_size, append_size, append_size, append_size]; simp only [sumS, ByteArray.size, List.size_toArray, List.length_cons, List.length_nil]; omega
  · exact Nat.zero_le _
mutual
theorem prT_size : ∀ (t : Tr) (lv : Int), shortT t → (prT t lv).size ≤ 2500 * (po t).length
  | .con k n tx xs at_, lv, h => by
    simp only [shortT, shortC] at h
    have := constS_size (k := k) h.1 h.2.1 h.2.2.1 h.2.2.2
    have := par_size 8 lv (constS k n tx xs)
    simp only [prT, po, List.length_cons, List.length_nil]; omega
  | .nam tx at_, lv, h => by
    simp only [shortT, shortC] at h
    have := par_size 8 lv tx
    simp only [prT, po, List.length_cons, List.length_nil]; omega
  | .att n, lv, h => by
    have := par_size 8 lv ⟨#[]⟩
    simp only [prT, po, List.length_cons, List.length_nil]
    have e : (⟨#[]⟩ : ByteArray).size = 0 := rfl
    omega
  | .lt n, lv, h => by
    have := par_size 8 lv ⟨#[]⟩
    simp only [prT, po, List.length_cons, List.length_nil]
    have e : (⟨#[]⟩ : ByteArray).size = 0 := rfl
    omega
  | .op o kids at_, lv, h => by
    simp only [shortT] at h
    have h1 := prTs_size kids (lvsO o) h
    have h2 := bodyO_size o (prTs kids (lvsO o))
    have h3 := par_size (levO o) lv (bodyO o (prTs kids (lvsO o)))
    simp only [prT, po, List.length_append, List.length_cons, List.length_nil]; omega
theorem prTs_size : ∀ (l : List Tr) (ls : List Int), shortTs l → sumS (prTs l ls) ≤ 2500 * (pos l).length
  | [], ls, _ => by simp [prTs, sumS]
  | t :: l, [], _ => by simp [prTs, sumS]
  | t :: l, lv :: ls, h => by
    simp only [shortTs] at h
    have h1 := prT_size t lv h.1
    have h2 := prTs_size l ls h.2
    simp only [prTs, sumS, pos, List.length_append]; omega
end
end Go.Proofs.YtgdnmpcaiaoaoaaDoor
/- More for the engine: maps of words to interface values, of one's own; type assertions. No condition. -/
namespace Go.Eng
set_option linter.unusedVariables false
set_option linter.unusedSimpArgs false
/-- A map of words to interface values in block bm, of one's own, in the order in which they came. -/
structure IMap (B : Nat) (w : World) (bm : Nat) (f : List (ByteArray × Value)) : Prop where
  lo : B ≤ bm
  ex : ∃ es clock, w.heap[bm]? = some (.map es clock) ∧ es.toList.map (fun e => (e.key, e.val)) = f.map (fun q => (Value.string q.1, q.2))
def mget : List (ByteArray × Value) → ByteArray → Option Value
  | [], _ => none
  | q :: f, k => if q.1 = k then some q.2 else mget f k
abbrev mb (bm : Nat) : Option Addr := some ⟨bm, 0, none⟩
theorem IMap.hi {B : Nat} {w : World} {bm : Nat} {f : List (ByteArray × Value)} (h : IMap B w bm f) : bm < w.heap.size := by
  obtain ⟨es, clock, h1, _⟩ := h.ex
  exact (Array.getElem?_eq_some_iff.1 h1).1
theorem IMap.bel {B : Nat} {w w' : World} {bm : Nat} {f : List (ByteArray × Value)} (h : IMap B w bm f) (hx : Ext w w') : IMap B w' bm f := by
  obtain ⟨es, clock, h1, h2⟩ := h.ex
  exact ⟨h.lo, es, clock, hx.getMap h1, h2⟩
theorem IMap.mono {B B' : Nat} {w : World} {bm : Nat} {f : List (ByteArray × Value)} (h : IMap B w bm f) (hB : B' ≤ B) : IMap B' w bm f := ⟨Nat.le_trans hB h.lo, h.ex⟩
theorem IMap.wr {B : Nat} {w w' : World} {bm : Nat} {f : List (ByteArray × Value)} {A : Option Addr} (h : IMap B w bm f) (hw : Wr A w w') (ha : blk A ≠ some bm) : IMap B w' bm f := by
  obtain ⟨es, clock, h1, h2⟩ := h.ex
  exact ⟨h.lo, es, clock, (hw.block bm h.hi (Ne.symm ha)).trans h1, h2⟩
section
variable {P : Program} {E : Sym} {n : Nat} {Pn : List PanicEntry → World → Prop} {w : World} {K : Value → World → Prop} {d : Option Tmp} {ty : TypeId} {pos : String} {aft : Array Edge} {g : Option (Nat × Bool)}
theorem st_ta {bq : Bool} (hE : EngB bq P E) {xt t : TypeId} {x : Operand} {v r : Value} (hr : ∀ w, (Instr.typeAssert v xt t true).run P w = .ok r w) (hk : K r w) : E.stop ⟨d, .typeAssert x xt t true, ty, pos, aft, g⟩ [v] w K := by
  refine hE.det (v := r) (fun w1 _ ρ hρ => ?_) hk
  simp only [opnds, List.map_cons, List.map_nil, List.cons.injEq, and_true] at hρ
  simp [execOp, hρ, hr w1]
end
end Go.Eng
/- Which tree is which: the assertions of the program (the first part printed by gen_t13.py). -/
namespace Go.Proofs.YtgdnmpcaiaoaoaaDoor
open Go.Eng
set_option linter.unusedVariables false
set_option linter.unusedSimpArgs false
theorem tCoT : Stc Tryd.prog 76 5 [.int .i64 0, .int .i64 0, .string ⟨#[]⟩, .slice none 0 0, .int .i64 0] := ⟨by kernel_rfl, by kernel_rfl⟩
theorem taCoCo (k n at_ : Int) (tx : ByteArray) (A : Option Addr) (m c : Nat) (w : World) : (Instr.typeAssert (.iface 76 (.agg ⟨[.int .i64 k, .int .i64 n, .string tx, .slice A m c, .int .i64 at_]⟩)) 47 76 true).run Tryd.prog w = .ok (.tuple ⟨[.agg ⟨[.int .i64 k, .int .i64 n, .string tx, .slice A m c, .int .i64 at_]⟩, .bool true]⟩) w := by kernel_rfl
theorem tNaT : Stc Tryd.prog 79 2 [.string ⟨#[]⟩, .int .i64 0] := ⟨by kernel_rfl, by kernel_rfl⟩
theorem taNaCo (tx : ByteArray) (at_ : Int) (w : World) : (Instr.typeAssert (.iface 79 (.agg ⟨[.string tx, .int .i64 at_]⟩)) 47 76 true).run Tryd.prog w = .ok (.tuple ⟨[.agg ⟨[.int .i64 0, .int .i64 0, .string ⟨#[]⟩, .slice none 0 0, .int .i64 0]⟩, .bool false]⟩) w := by kernel_rfl
theorem taNaNa (tx : ByteArray) (at_ : Int) (w : World) : (Instr.typeAssert (.iface 79 (.agg ⟨[.string tx, .int .i64 at_]⟩)) 47 79 true).run Tryd.prog w = .ok (.tuple ⟨[.agg ⟨[.string tx, .int .i64 at_]⟩, .bool true]⟩) w := by kernel_rfl
theorem taAtCo (n : Int) (w : World) : (Instr.typeAssert (.iface 126 (.agg ⟨[.int .i64 n]⟩)) 47 76 true).run Tryd.prog w = .ok (.tuple ⟨[.agg ⟨[.int .i64 0, .int .i64 0, .string ⟨#[]⟩, .slice none 0 0, .int .i64 0]⟩, .bool false]⟩) w := by kernel_rfl
theorem taAtNa (n : Int) (w : World) : (Instr.typeAssert (.iface 126 (.agg ⟨[.int .i64 n]⟩)) 47 79 true).run Tryd.prog w = .ok (.tuple ⟨[.agg ⟨[.string ⟨#[]⟩, .int .i64 0]⟩, .bool false]⟩) w := by kernel_rfl
theorem taLtCo (n : Int) (w : World) : (Instr.typeAssert (.iface 127 (.agg ⟨[.int .i64 n]⟩)) 47 76 true).run Tryd.prog w = .ok (.tuple ⟨[.agg ⟨[.int .i64 0, .int .i64 0, .string ⟨#[]⟩, .slice none 0 0, .int .i64 0]⟩, .bool false]⟩) w := by kernel_rfl
theorem taLtNa (n : Int) (w : World) : (Instr.typeAssert (.iface 127 (.agg ⟨[.int .i64 n]⟩)) 47 79 true).run Tryd.prog w = .ok (.tuple ⟨[.agg ⟨[.string ⟨#[]⟩, .int .i64 0]⟩, .bool false]⟩) w := by kernel_rfl
theorem tOpT : Stc Tryd.prog 82 3 [.int .i64 0, .slice none 0 0, .int .i64 0] := ⟨by kernel_rfl, by kernel_rfl⟩
theorem taOpCo (o at_ : Int) (A : Option Addr) (m c : Nat) (w : World) : (Instr.typeAssert (.iface 82 (.agg ⟨[.int .i64 o, .slice A m c, .int .i64 at_]⟩)) 47 76 true).run Tryd.prog w = .ok (.tuple ⟨[.agg ⟨[.int .i64 0, .int .i64 0, .string ⟨#[]⟩, .slice none 0 0, .int .i64 0]⟩, .bool false]⟩) w := by kernel_rfl
theorem taOpNa (o at_ : Int) (A : Option Addr) (m c : Nat) (w : World) : (Instr.typeAssert (.iface 82 (.agg ⟨[.int .i64 o, .slice A m c, .int .i64 at_]⟩)) 47 79 true).run Tryd.prog w = .ok (.tuple ⟨[.agg ⟨[.string ⟨#[]⟩, .int .i64 0]⟩, .bool false]⟩) w := by kernel_rfl
theorem taOpOp (o at_ : Int) (A : Option Addr) (m c : Nat) (w : World) : (Instr.typeAssert (.iface 82 (.agg ⟨[.int .i64 o, .slice A m c, .int .i64 at_]⟩)) 47 82 true).run Tryd.prog w = .ok (.tuple ⟨[.agg ⟨[.int .i64 o, .slice A m c, .int .i64 at_]⟩, .bool true]⟩) w := by kernel_rfl
theorem fNaT0 : Fld Tryd.prog 79 0 0 := ⟨by kernel_rfl⟩
theorem fCoT0 : Fld Tryd.prog 76 0 0 := ⟨by kernel_rfl⟩
theorem taCoOp (k n at_ : Int) (tx : ByteArray) (A : Option Addr) (m c : Nat) (w : World) : (Instr.typeAssert (.iface 76 (.agg ⟨[.int .i64 k, .int .i64 n, .string tx, .slice A m c, .int .i64 at_]⟩)) 47 82 true).run Tryd.prog w = .ok (.tuple ⟨[.agg ⟨[.int .i64 0, .slice none 0 0, .int .i64 0]⟩, .bool false]⟩) w := by kernel_rfl
theorem taNaOp (tx : ByteArray) (at_ : Int) (w : World) : (Instr.typeAssert (.iface 79 (.agg ⟨[.string tx, .int .i64 at_]⟩)) 47 82 true).run Tryd.prog w = .ok (.tuple ⟨[.agg ⟨[.int .i64 0, .slice none 0 0, .int .i64 0]⟩, .bool false]⟩) w := by kernel_rfl
theorem taAtOp (n : Int) (w : World) : (Instr.typeAssert (.iface 126 (.agg ⟨[.int .i64 n]⟩)) 47 82 true).run Tryd.prog w = .ok (.tuple ⟨[.agg ⟨[.int .i64 0, .slice none 0 0, .int .i64 0]⟩, .bool false]⟩) w := by kernel_rfl
theorem taLtOp (n : Int) (w : World) : (Instr.typeAssert (.iface 127 (.agg ⟨[.int .i64 n]⟩)) 47 82 true).run Tryd.prog w = .ok (.tuple ⟨[.agg ⟨[.int .i64 0, .slice none 0 0, .int .i64 0]⟩, .bool false]⟩) w := by kernel_rfl
/-- What asserting an operator's tree gives: its cells, and whether it is one. -/
theorem ta_op {D : Nat → Prop} {w : World} {t : Tr} {v : Value} (h : TreeV D w t v) : (∃ o kids at_ A m c vs, t = .op o kids at_ ∧ v = .iface 82 (.agg ⟨[.int .i64 o, .slice A m c, .int .i64 at_]⟩) ∧ vs.length = m ∧ m ≤ c ∧ m ≤ 9223372036854775807 ∧ Cells w A vs ∧ InD D A m ∧ TreesV D w kids vs) ∨
    ((∀ o kids at_, t ≠ .op o kids at_) ∧ ∀ w, (Instr.typeAssert v 47 82 true).run Tryd.prog w = .ok (.tuple ⟨[.agg ⟨[.int .i64 0, .slice none 0 0, .int .i64 0]⟩, .bool false]⟩) w) := by
  cases t with
  | con k n tx xs at_ =>
    simp only [TreeV] at h
    obtain ⟨A, m, c, rfl, _⟩ := h
    exact .inr ⟨by simp, taCoOp k n at_ tx A m c⟩
  | nam tx at_ =>
    simp only [TreeV] at h
    obtain ⟨rfl, _⟩ := h
    exact .inr ⟨by simp, taNaOp tx at_⟩
  | att n =>
    simp only [TreeV] at h
    subst h
    exact .inr ⟨by simp, taAtOp n⟩
  | lt n =>
    simp only [TreeV] at h
    subst h
    exact .inr ⟨by simp, taLtOp n⟩
  | op o kids at_ =>
    simp only [TreeV] at h
    obtain ⟨A, m, c, vs, rfl, h1, h2, h3, h4, h5, h6⟩ := h
    exact .inl ⟨o, kids, at_, A, m, c, vs, rfl, rfl, h1, h2, h3, h4, h5, h6⟩
end Go.Proofs.YtgdnmpcaiaoaoaaDoor
/- A region that draws its order: reads that stand whatever is done to one row, then a call that writes into this row. No condition. -/
namespace Go.Eng
set_option linter.unusedVariables false
def wreal (S : World → Prop) (P : Program) : Sym where
  ar := arR
  cmp := cmpR
  scmp := scmpR
  nat := Int.ofNat
  len := ByteArray.size
  stop o vals w K := ∃ v, (∀ w1, S w1 → ∀ ρ : Operand → Value, (opnds o.op).map ρ = vals → (execOp ρ o).run P w1 = .ok (.value v) w1) ∧ K v w
  loop _ _ _ _ := False
  draw _ _ _ _ _ := False
  cut _ _ _ _ _ := False
  cell _ _ _ _ := False
structure EngW (S : World → Prop) (P : Program) (E : Sym) : Prop where
  det : ∀ {o vals w v K}, (∀ w1, S w1 → ∀ ρ : Operand → Value, (opnds o.op).map ρ = vals → (execOp ρ o).run P w1 = .ok (.value v) w1) → K v w → E.stop o vals w K
section
variable {P : Program} {Pn : List PanicEntry → World → Prop} {n : Nat}
section
variable {S : World → Prop} {E : Sym} {w : World} {K : Value → World → Prop} {d : Option Tmp} {ty : TypeId} {pos : String} {aft : Array Edge} {g : Option (Nat × Bool)}
end
end
end Go.Eng
/- A region that draws its order: reads that stand whatever happens under S. No condition. -/
namespace Go.Eng
set_option linter.unusedVariables false
set_option linter.unusedSimpArgs false
section
variable {P : Program} {Pn : List PanicEntry → World → Prop} {n : Nat}
variable {S : World → Prop} {E : Sym} {w : World} {K : Value → World → Prop} {d : Option Tmp} {ty : TypeId} {pos : String} {aft : Array Edge} {g : Option (Nat × Bool)}
end
end Go.Eng
/- A region that draws its order: what reads may also be taken between the calls. No condition. -/
namespace Go.Eng
set_option linter.unusedVariables false
set_option linter.unusedSimpArgs false
/-- As ePh2; (k, true) may read what was there at the start. -/
def ePh2V (E E' : Sym) (w0 : World) (S : World → Prop) (all : List Oper) : List (Nat × Bool) → Fr → World → (Fr → World → Prop) → Prop
  | [], F, w, K => K F w
  | (k, true) :: l, F, w, K => match all[k]? with
    | none => False
    | some o => eOps E' all [o] F w0 fun F' _ => ePh2V E E' w0 S all l F' w K
  | (k, false) :: l, F, w, K => match all[k]? with
    | none => False
    | some o => eOps E all [o] F w fun F' w' => S w' ∧ ePh2V E E' w0 S all l F' w' K
section
variable {P : Program} {Pn : List PanicEntry → World → Prop} {n : Nat}
end
end Go.Eng
/- More for the engine: tables from whole numbers to values of any one-cell kind, behind a package variable. No condition. -/
namespace Go.Eng
set_option linter.unusedVariables false
set_option linter.unusedSimpArgs false
/-- A table that stands in block bm, behind the package variable in block v. -/
structure NTab (w : World) (v : Nat) (f : List (Int × Value)) : Prop where
  ex : ∃ bm es clock, w.cell? ⟨v, 0, none⟩ = some (.map (some bm)) ∧ w.heap[bm]? = some (.map es clock) ∧ (∀ e ∈ es.toList, ∃ k, e.key = .int .i64 k ∧ (k, e.val) ∈ f) ∧ ∀ k z, (k, z) ∈ f → ∃ e ∈ es.toList, e.key = .int .i64 k ∧ e.val = z
theorem NTab.ext {w w' : World} {v : Nat} {f : List (Int × Value)} (h : NTab w v f) (hx : Ext w w') : NTab w' v f := by
  obtain ⟨bm, es, clock, h1, h2, h3⟩ := h.ex
  exact ⟨bm, es, clock, hx.cell h1, hx.getMap h2, h3⟩
theorem find_intG (k : Int) : ∀ (es : List MapEntry) (i : Nat), (∀ e ∈ es, ∃ q, e.key = .int .i64 q) → ∃ r, Instr.findNow (.int .i64) (.int .i64 k) es i = some r ∧ ((r = none ∧ ∀ e ∈ es, e.key ≠ .int .i64 k) ∨ ∃ j, ∃ e ∈ es, r = some (j, e.val) ∧ e.key = .int .i64 k)
  | [], i, _ => ⟨none, rfl, .inl ⟨rfl, by simp⟩⟩
  | e :: es, i, h => by
    obtain ⟨q, h1⟩ := h e (by simp)
    by_cases hq : k = q
    · subst hq
      exact ⟨some (i, e.val), by simp [Instr.findNow, Instr.sameNow, h1], .inr ⟨i, e, by simp, rfl, h1⟩⟩
    · obtain ⟨r, hr, hr2⟩ := find_intG k es (i + 1) fun e he => h e (by simp [he])
      have hb : (k == q) = false := by simp [hq]
      refine ⟨r, by simp [Instr.findNow, Instr.sameNow, h1, hb, hr], ?_⟩
      rcases hr2 with ⟨h3, h4⟩ | ⟨j, e', he', h3, h4⟩
      · refine .inl ⟨h3, fun e' he' => ?_⟩
        rcases List.mem_cons.1 he' with rfl | he'
        · rw [h1]; simp [Ne.symm hq]
        · exact h4 e' he'
      · exact .inr ⟨j, e', by simp [he'], h3, h4⟩
section
variable {P : Program} {E : Sym} {w : World} {K : Value → World → Prop} {d : Option Tmp} {ty : TypeId} {pos : String} {aft : Array Edge} {g : Option (Nat × Bool)}
/-- m[k]: what is laid there, or nothing. -/
theorem st_ntab {bq : Bool} (hE : EngB bq P E) {t kt et : TypeId} (ht : P.underlying t = some (.map kt et)) (hkt : P.underlying kt = some (.int .i64)) {z0 : Value} (hz : (P.info? et).map (·.zero) = some (some z0)) {bm : Nat} {f : List (Int × Value)} {es : Array MapEntry} {clock : Nat} (hb : w.heap[bm]? = some (.map es clock))
    (h1 : ∀ e ∈ es.toList, ∃ k, e.key = .int .i64 k ∧ (k, e.val) ∈ f) (h2 : ∀ k z, (k, z) ∈ f → ∃ e ∈ es.toList, e.key = .int .i64 k ∧ e.val = z) {k : Int} {x y : Operand}
    (hk : ∀ z, (k, z) ∈ f ∨ (z = z0 ∧ ∀ q, (k, q) ∉ f) → K z w) : E.stop ⟨d, .lookup t x y false, ty, pos, aft, g⟩ [.map (some bm), .int .i64 k] w K := by
  obtain ⟨i0, hi, hz⟩ := Option.map_eq_some_iff.1 hz
  obtain ⟨r, hr, hr2⟩ := find_intG k es.toList 0 fun e he => by obtain ⟨q, h3, _⟩ := h1 e he; exact ⟨q, h3⟩
  have hck0 : ∀ (q : Nat) (w1 : World), (Instr.checkKey es.isEmpty (q + 1) kt (.int .i64 k)).run P w1 = .ok () w1 := fun q w1 => by simp [Instr.checkKey, run_underlying hkt]
  have hck : ∀ w1 : World, (Instr.checkKey es.isEmpty 10000 kt (.int .i64 k)).run P w1 = .ok () w1 := hck0 9999
  rcases hr2 with ⟨rfl, hno⟩ | ⟨j, e, he, rfl, hke⟩
  · refine hE.det (v := z0) (fun w1 hx ρ hρ => ?_) (hk z0 (.inr ⟨rfl, fun q hq => ?_⟩))
    · simp only [opnds, List.map_cons, List.map_nil, List.cons.injEq, and_true] at hρ
      have hb1 : w1.heap[bm]? = some (.map es clock) := hx.getMap hb
      have hg := MapKept.run_getObj_map (P := P) hb1
      simp [execOp, hρ.1, hρ.2, Instr.lookup, run_underlying ht, hg, hck, Instr.findKey, run_underlying hkt, hr, zeroValue, typeInfo, hi, hz]
    · obtain ⟨e, he, h3, _⟩ := h2 k q hq
      exact hno e he h3
  · obtain ⟨q, h3, h5⟩ := h1 e he
    rw [hke] at h3
    cases h3
    refine hE.det (v := e.val) (fun w1 hx ρ hρ => ?_) (hk e.val (.inl h5))
    simp only [opnds, List.map_cons, List.map_nil, List.cons.injEq, and_true] at hρ
    have hb1 : w1.heap[bm]? = some (.map es clock) := hx.getMap hb
    have hg := MapKept.run_getObj_map (P := P) hb1
    simp [execOp, hρ.1, hρ.2, Instr.lookup, run_underlying ht, hg, hck, Instr.findKey, run_underlying hkt, hr]
end
end Go.Eng
/- Print: levels of operators, FormatBool, the text of a constant (printed by gen_k2.py). -/
namespace Go.Proofs.YtgdnmpcaiaoaoaaDoor
open Go.Eng
set_option linter.unusedVariables false
set_option linter.unusedSimpArgs false
theorem catK {a b : ByteArray} {m n : Nat} (ha : a.size ≤ m) (hb : b.size ≤ n) (h : m + n ≤ 9223372036854775807) : a.size + b.size ≤ 9223372036854775807 := Nat.le_trans (Nat.add_le_add ha hb) h
theorem catL {a b v : ByteArray} {m n : Nat} (hv : v = a ++ b) (ha : a.size ≤ m) (hb : b.size ≤ n) : v.size ≤ m + n := by rw [hv, append_size]; exact Nat.add_le_add ha hb
/-- The level of a tree. -/
def levT : Tr → Int
  | .op o _ _ => levO o
  | _ => 8
theorem levT_leaf {t : Tr} (h : ∀ o kids at_, t ≠ .op o kids at_) : levT t = 8 := by
  cases t with
  | op o kids at_ => exact absurd rfl (h o kids at_)
  | _ => rfl

set_option maxHeartbeats 4000000 in
theorem levelOf_v {t : Tr} {v : Value} {w : World} {D : Nat → Prop} (ht : TreeV D w t v) : VF Tryd.prog 34 [v] w (.int .i64 (levT t)) := by
  refine VF.intro (cs := []) Tryd.func34 (by kernel_rfl) fun w hx0 E R hE hr hR => ?_
  rcases ta_op ht with ⟨o, kids, at_, A, m, c, vs, rfl, rfl, hvl, hmc, hm, hcl, hin, hts⟩ | ⟨hno, hta⟩
  · have fin : ∀ z w', Ext w w' → levO o = z → R (.int .i64 z) w' := fun z w' hx e => by rw [hR, levT, e]; exact ⟨rfl, hx⟩
    conv => cbv
    refine st_ta hE (taOpOp o at_ A m c) ?_
    conv => cbv
    refine st_alloc hr tOpT rfl fun q3 w1 hx1 hq0 => ?_
    conv => cbv
    refine st_putS hr (by kernel_rfl) (hq0 _ (Nat.le_refl _)) (add_zero _).symm (by simp) (by simp [Value.oneCell']) fun w2 hw2 hq3 => ?_
    simp only [List.take_zero, List.nil_append, List.length_cons, List.length_nil, List.drop_succ_cons, List.drop_nil, List.append_nil] at hq3
    have hx := hx1.then (hw2.bel (hq0 _ (Nat.le_refl _)) hx1.size)
    clear hq0 hw2 hx1
    conv => cbv
    (refine st_fld hE fOp0 fun p hp => ?_; (conv => cbv); refine st_load hE cInt (by rw [hp]; exact (hq3).at _ _ rfl) ?_; clear hp; (conv => cbv))
    refine br (fun g => ?_) (fun g27 => ?_)
    · have g0 := g
      have g : o = 27 := by simpa [hE.cmp, cmpR] using g
      conv => cbv
      exact fin 0 _ hx (by rw [g]; decide)
    have g27 : o ≠ 27 := by simpa [hE.cmp, cmpR] using g27
    conv => cbv
    refine br (fun g => ?_) (fun g26 => ?_)
    · have g0 := g
      have g : o = 26 := by simpa [hE.cmp, cmpR] using g
      conv => cbv
      exact fin 1 _ hx (by rw [g]; decide)
    have g26 : o ≠ 26 := by simpa [hE.cmp, cmpR] using g26
    conv => cbv
    refine br (fun g => ?_) (fun g25 => ?_)
    · have g0 := g
      have g : o = 25 := by simpa [hE.cmp, cmpR] using g
      conv => cbv
      exact fin 2 _ hx (by rw [g]; decide)
    have g25 : o ≠ 25 := by simpa [hE.cmp, cmpR] using g25
    conv => cbv
    refine br (fun g => ?_) (fun g9 => ?_)
    · have g0 := g
      have g : o = 9 := by simpa [hE.cmp, cmpR] using g
      conv => cbv
      exact fin 3 _ hx (by rw [g]; decide)
    have g9 : o ≠ 9 := by simpa [hE.cmp, cmpR] using g9
    conv => cbv
    refine br (fun g => ?_) (fun g19 => ?_)
    · have g0 := g
      have g : o = 19 := by simpa [hE.cmp, cmpR] using g
      conv => cbv
      refine br (fun _ => ?_) (fun q => absurd g0 q)
      conv => cbv
      exact fin 4 _ hx (by rw [g]; decide)
    have g19 : o ≠ 19 := by simpa [hE.cmp, cmpR] using g19
    conv => cbv
    refine br (fun g => ?_) (fun g20 => ?_)
    · have g0 := g
      have g : o = 20 := by simpa [hE.cmp, cmpR] using g
      conv => cbv
      refine br (fun _ => ?_) (fun q => absurd g0 q)
      conv => cbv
      exact fin 4 _ hx (by rw [g]; decide)
    have g20 : o ≠ 20 := by simpa [hE.cmp, cmpR] using g20
    conv => cbv
    refine br (fun g => ?_) (fun g21 => ?_)
    · have g0 := g
      have g : o = 21 := by simpa [hE.cmp, cmpR] using g
      conv => cbv
      refine br (fun _ => ?_) (fun q => absurd g0 q)
      conv => cbv
      exact fin 4 _ hx (by rw [g]; decide)
    have g21 : o ≠ 21 := by simpa [hE.cmp, cmpR] using g21
    conv => cbv
    refine br (fun g => ?_) (fun g22 => ?_)
    · have g0 := g
      have g : o = 22 := by simpa [hE.cmp, cmpR] using g
      conv => cbv
      refine br (fun _ => ?_) (fun q => absurd g0 q)
      conv => cbv
      exact fin 4 _ hx (by rw [g]; decide)
    have g22 : o ≠ 22 := by simpa [hE.cmp, cmpR] using g22
    conv => cbv
    refine br (fun g => ?_) (fun g23 => ?_)
    · have g0 := g
      have g : o = 23 := by simpa [hE.cmp, cmpR] using g
      conv => cbv
      refine br (fun _ => ?_) (fun q => absurd g0 q)
      conv => cbv
      exact fin 4 _ hx (by rw [g]; decide)
    have g23 : o ≠ 23 := by simpa [hE.cmp, cmpR] using g23
    conv => cbv
    refine br (fun g => ?_) (fun g24 => ?_)
    · have g0 := g
      have g : o = 24 := by simpa [hE.cmp, cmpR] using g
      conv => cbv
      exact fin 4 _ hx (by rw [g]; decide)
    have g24 : o ≠ 24 := by simpa [hE.cmp, cmpR] using g24
    conv => cbv
    refine br (fun g => ?_) (fun g11 => ?_)
    · have g0 := g
      have g : o = 11 := by simpa [hE.cmp, cmpR] using g
      conv => cbv
      refine br (fun _ => ?_) (fun q => absurd g0 q)
      conv => cbv
      exact fin 5 _ hx (by rw [g]; decide)
    have g11 : o ≠ 11 := by simpa [hE.cmp, cmpR] using g11
    conv => cbv
    refine br (fun g => ?_) (fun g12 => ?_)
    · have g0 := g
      have g : o = 12 := by simpa [hE.cmp, cmpR] using g
      conv => cbv
      refine br (fun _ => ?_) (fun q => absurd g0 q)
      conv => cbv
      exact fin 5 _ hx (by rw [g]; decide)
    have g12 : o ≠ 12 := by simpa [hE.cmp, cmpR] using g12
    conv => cbv
    refine br (fun g => ?_) (fun g16 => ?_)
    · have g0 := g
      have g : o = 16 := by simpa [hE.cmp, cmpR] using g
      conv => cbv
      refine br (fun _ => ?_) (fun q => absurd g0 q)
      conv => cbv
      exact fin 5 _ hx (by rw [g]; decide)
    have g16 : o ≠ 16 := by simpa [hE.cmp, cmpR] using g16
    conv => cbv
    refine br (fun g => ?_) (fun g18 => ?_)
    · have g0 := g
      have g : o = 18 := by simpa [hE.cmp, cmpR] using g
      conv => cbv
      exact fin 5 _ hx (by rw [g]; decide)
    have g18 : o ≠ 18 := by simpa [hE.cmp, cmpR] using g18
    conv => cbv
    refine br (fun g => ?_) (fun g13 => ?_)
    · have g0 := g
      have g : o = 13 := by simpa [hE.cmp, cmpR] using g
      conv => cbv
      refine br (fun _ => ?_) (fun q => absurd g0 q)
      conv => cbv
      exact fin 6 _ hx (by rw [g]; decide)
    have g13 : o ≠ 13 := by simpa [hE.cmp, cmpR] using g13
    conv => cbv
    refine br (fun g => ?_) (fun g14 => ?_)
    · have g0 := g
      have g : o = 14 := by simpa [hE.cmp, cmpR] using g
      conv => cbv
      refine br (fun _ => ?_) (fun q => absurd g0 q)
      conv => cbv
      exact fin 6 _ hx (by rw [g]; decide)
    have g14 : o ≠ 14 := by simpa [hE.cmp, cmpR] using g14
    conv => cbv
    refine br (fun g => ?_) (fun g15 => ?_)
    · have g0 := g
      have g : o = 15 := by simpa [hE.cmp, cmpR] using g
      conv => cbv
      refine br (fun _ => ?_) (fun q => absurd g0 q)
      conv => cbv
      exact fin 6 _ hx (by rw [g]; decide)
    have g15 : o ≠ 15 := by simpa [hE.cmp, cmpR] using g15
    conv => cbv
    refine br (fun g => ?_) (fun g17 => ?_)
    · have g0 := g
      have g : o = 17 := by simpa [hE.cmp, cmpR] using g
      conv => cbv
      exact fin 6 _ hx (by rw [g]; decide)
    have g17 : o ≠ 17 := by simpa [hE.cmp, cmpR] using g17
    conv => cbv
    refine br (fun g => ?_) (fun g8 => ?_)
    · have g0 := g
      have g : o = 8 := by simpa [hE.cmp, cmpR] using g
      conv => cbv
      exact fin 7 _ hx (by rw [g]; decide)
    have g8 : o ≠ 8 := by simpa [hE.cmp, cmpR] using g8
    conv => cbv
    exact fin 8 _ hx (by unfold levO; (repeat' split) <;> omega)
  · conv => cbv
    refine st_ta hE hta ?_
    conv => cbv
    refine st_alloc hr tOpT rfl fun q3 w1 hx1 hq0 => ?_
    conv => cbv
    refine st_putS hr (by kernel_rfl) (hq0 _ (Nat.le_refl _)) (add_zero _).symm (by simp) (by simp [Value.oneCell']) fun w2 hw2 hq3 => ?_
    have hx := hx1.then (hw2.bel (hq0 _ (Nat.le_refl _)) hx1.size)
    conv => cbv
    rw [hR]; exact ⟨by rw [levT_leaf hno]; rfl, hx⟩
theorem l2level_v (o : Int) (w : World) : VF Tryd.prog 22 [.int .i64 o] w (.int .i64 (levO o)) := by
  refine VF.intro (cs := []) Tryd.func22 (by kernel_rfl) fun w hx0 E R hE hr hR => ?_
  have fin : ∀ z w', Ext w w' → levO o = z → R (.int .i64 z) w' := fun z w' hx e => by rw [hR, e]; exact ⟨rfl, hx⟩
  have hx := Ext.refl w
  conv => cbv
  refine br (fun g => ?_) (fun g27 => ?_)
  · have g0 := g
    have g : o = 27 := by simpa [hE.cmp, cmpR] using g
    conv => cbv
    exact fin 0 _ hx (by rw [g]; decide)
  have g27 : o ≠ 27 := by simpa [hE.cmp, cmpR] using g27
  conv => cbv
  refine br (fun g => ?_) (fun g26 => ?_)
  · have g0 := g
    have g : o = 26 := by simpa [hE.cmp, cmpR] using g
    conv => cbv
    exact fin 1 _ hx (by rw [g]; decide)
  have g26 : o ≠ 26 := by simpa [hE.cmp, cmpR] using g26
  conv => cbv
  refine br (fun g => ?_) (fun g25 => ?_)
  · have g0 := g
    have g : o = 25 := by simpa [hE.cmp, cmpR] using g
    conv => cbv
    exact fin 2 _ hx (by rw [g]; decide)
  have g25 : o ≠ 25 := by simpa [hE.cmp, cmpR] using g25
  conv => cbv
  refine br (fun g => ?_) (fun g9 => ?_)
  · have g0 := g
    have g : o = 9 := by simpa [hE.cmp, cmpR] using g
    conv => cbv
    exact fin 3 _ hx (by rw [g]; decide)
  have g9 : o ≠ 9 := by simpa [hE.cmp, cmpR] using g9
  conv => cbv
  refine br (fun g => ?_) (fun g19 => ?_)
  · have g0 := g
    have g : o = 19 := by simpa [hE.cmp, cmpR] using g
    conv => cbv
    refine br (fun _ => ?_) (fun q => absurd g0 q)
    conv => cbv
    exact fin 4 _ hx (by rw [g]; decide)
  have g19 : o ≠ 19 := by simpa [hE.cmp, cmpR] using g19
  conv => cbv
  refine br (fun g => ?_) (fun g20 => ?_)
  · have g0 := g
    have g : o = 20 := by simpa [hE.cmp, cmpR] using g
    conv => cbv
    refine br (fun _ => ?_) (fun q => absurd g0 q)
    conv => cbv
    exact fin 4 _ hx (by rw [g]; decide)
  have g20 : o ≠ 20 := by simpa [hE.cmp, cmpR] using g20
  conv => cbv
  refine br (fun g => ?_) (fun g21 => ?_)
  · have g0 := g
    have g : o = 21 := by simpa [hE.cmp, cmpR] using g
    conv => cbv
    refine br (fun _ => ?_) (fun q => absurd g0 q)
    conv => cbv
    exact fin 4 _ hx (by rw [g]; decide)
  have g21 : o ≠ 21 := by simpa [hE.cmp, cmpR] using g21
  conv => cbv
  refine br (fun g => ?_) (fun g22 => ?_)
  · have g0 := g
    have g : o = 22 := by simpa [hE.cmp, cmpR] using g
    conv => cbv
    refine br (fun _ => ?_) (fun q => absurd g0 q)
    conv => cbv
    exact fin 4 _ hx (by rw [g]; decide)
  have g22 : o ≠ 22 := by simpa [hE.cmp, cmpR] using g22
  conv => cbv
  refine br (fun g => ?_) (fun g23 => ?_)
  · have g0 := g
    have g : o = 23 := by simpa [hE.cmp, cmpR] using g
    conv => cbv
    refine br (fun _ => ?_) (fun q => absurd g0 q)
    conv => cbv
    exact fin 4 _ hx (by rw [g]; decide)
  have g23 : o ≠ 23 := by simpa [hE.cmp, cmpR] using g23
  conv => cbv
  refine br (fun g => ?_) (fun g24 => ?_)
  · have g0 := g
    have g : o = 24 := by simpa [hE.cmp, cmpR] using g
    conv => cbv
    exact fin 4 _ hx (by rw [g]; decide)
  have g24 : o ≠ 24 := by simpa [hE.cmp, cmpR] using g24
  conv => cbv
  refine br (fun g => ?_) (fun g11 => ?_)
  · have g0 := g
    have g : o = 11 := by simpa [hE.cmp, cmpR] using g
    conv => cbv
    refine br (fun _ => ?_) (fun q => absurd g0 q)
    conv => cbv
    exact fin 5 _ hx (by rw [g]; decide)
  have g11 : o ≠ 11 := by simpa [hE.cmp, cmpR] using g11
  conv => cbv
  refine br (fun g => ?_) (fun g12 => ?_)
  · have g0 := g
    have g : o = 12 := by simpa [hE.cmp, cmpR] using g
    conv => cbv
    refine br (fun _ => ?_) (fun q => absurd g0 q)
    conv => cbv
    exact fin 5 _ hx (by rw [g]; decide)
  have g12 : o ≠ 12 := by simpa [hE.cmp, cmpR] using g12
  conv => cbv
  refine br (fun g => ?_) (fun g16 => ?_)
  · have g0 := g
    have g : o = 16 := by simpa [hE.cmp, cmpR] using g
    conv => cbv
    refine br (fun _ => ?_) (fun q => absurd g0 q)
    conv => cbv
    exact fin 5 _ hx (by rw [g]; decide)
  have g16 : o ≠ 16 := by simpa [hE.cmp, cmpR] using g16
  conv => cbv
  refine br (fun g => ?_) (fun g18 => ?_)
  · have g0 := g
    have g : o = 18 := by simpa [hE.cmp, cmpR] using g
    conv => cbv
    exact fin 5 _ hx (by rw [g]; decide)
  have g18 : o ≠ 18 := by simpa [hE.cmp, cmpR] using g18
  conv => cbv
  refine br (fun g => ?_) (fun g13 => ?_)
  · have g0 := g
    have g : o = 13 := by simpa [hE.cmp, cmpR] using g
    conv => cbv
    refine br (fun _ => ?_) (fun q => absurd g0 q)
    conv => cbv
    exact fin 6 _ hx (by rw [g]; decide)
  have g13 : o ≠ 13 := by simpa [hE.cmp, cmpR] using g13
  conv => cbv
  refine br (fun g => ?_) (fun g14 => ?_)
  · have g0 := g
    have g : o = 14 := by simpa [hE.cmp, cmpR] using g
    conv => cbv
    refine br (fun _ => ?_) (fun q => absurd g0 q)
    conv => cbv
    exact fin 6 _ hx (by rw [g]; decide)
  have g14 : o ≠ 14 := by simpa [hE.cmp, cmpR] using g14
  conv => cbv
  refine br (fun g => ?_) (fun g15 => ?_)
  · have g0 := g
    have g : o = 15 := by simpa [hE.cmp, cmpR] using g
    conv => cbv
    refine br (fun _ => ?_) (fun q => absurd g0 q)
    conv => cbv
    exact fin 6 _ hx (by rw [g]; decide)
  have g15 : o ≠ 15 := by simpa [hE.cmp, cmpR] using g15
  conv => cbv
  refine br (fun g => ?_) (fun g17 => ?_)
  · have g0 := g
    have g : o = 17 := by simpa [hE.cmp, cmpR] using g
    conv => cbv
    exact fin 6 _ hx (by rw [g]; decide)
  have g17 : o ≠ 17 := by simpa [hE.cmp, cmpR] using g17
  conv => cbv
  refine br (fun g => ?_) (fun g8 => ?_)
  · have g0 := g
    have g : o = 8 := by simpa [hE.cmp, cmpR] using g
    conv => cbv
    exact fin 7 _ hx (by rw [g]; decide)
  have g8 : o ≠ 8 := by simpa [hE.cmp, cmpR] using g8
  conv => cbv
  exact fin 8 _ hx (by unfold levO; (repeat' split) <;> omega)
theorem FormatBool1_v (b : Bool) (w : World) : VF Tryd.prog 70 [.bool b] w (.string (if b = true then ⟨#[116, 114, 117, 101]⟩ else ⟨#[102, 97, 108, 115, 101]⟩)) := by
  refine VF.intro (cs := []) Tryd.func70 (by kernel_rfl) fun w hx0 E R hE hr hR => ?_
  cases b with
  | true => conv => cbv
            rw [hR]; exact ⟨rfl, Ext.refl w⟩
  | false => conv => cbv
             rw [hR]; exact ⟨rfl, Ext.refl w⟩
theorem FormatBool_v (b : Bool) (w : World) : VF Tryd.prog 54 [.bool b] w (.string (if b = true then ⟨#[116, 114, 117, 101]⟩ else ⟨#[102, 97, 108, 115, 101]⟩)) := by
  refine VF.intro (cs := []) Tryd.func54 (by kernel_rfl) fun w hx0 E R hE hr hR => ?_
  obtain ⟨s, hs⟩ : ∃ s : ByteArray, s = (if b = true then ⟨#[116, 114, 117, 101]⟩ else ⟨#[102, 97, 108, 115, 101]⟩) := ⟨_, rfl⟩
  have hv := FormatBool1_v b w
  rw [← hs] at hv hR
  conv => cbv
  refine st_v hr hv fun w1 hx => ?_
  conv => cbv
  rw [hR]; exact ⟨rfl, hx⟩
set_option maxHeartbeats 4000000 in
/-- The program's text of a constant. -/
theorem constText_v {w : World} (hp : PowK w) {k z : Int} {tx : ByteArray} {A : Option Addr} {m c : Nat} {xs : List ByteArray} (h : Strs w A m c xs) (h1 : tx.size ≤ 32) (h2 : fits z) (h3 : xs.length ≤ 64) (h4 : ∀ s ∈ xs, s.size ≤ 32) :
    VF Tryd.prog 33 [.agg ⟨[.int .i64 k, .int .i64 z, .string tx, .slice A m c]⟩] w (.string (constS k z tx xs)) := by
  refine VF.intro (cs := []) Tryd.func33 (by kernel_rfl) fun w0 hx0 E R hE hr hR => ?_
  replace h := h.ext hx0
  replace hp : PowK w0 := tabIs_ext hp hx0
  clear hx0
  have hl := h.len
  have fin : ∀ s w', Ext w0 w' → s = constS k z tx xs → R (.string s) w' := fun s w' hx e => by rw [hR, e]; exact ⟨rfl, hx⟩
  conv => cbv
  refine st_box hr fun a w1 hx hb0 => ?_
  have hb := hb0 _ (Nat.le_refl _)
  clear hb0
  conv => cbv
  (refine st_fld hE fIV0 fun p hp => ?_; (conv => cbv); refine st_load hE cInt (by rw [hp]; exact (hb).at _ _ rfl) ?_; clear hp; (conv => cbv))
  refine br (fun g => ?_) (fun g => ?_)
  · have g : k = 2 := by simpa [hE.cmp, cmpR] using g
    conv => cbv
    (refine st_fld hE fIV1 fun p hp => ?_; (conv => cbv); refine st_load hE cI64 (by rw [hp]; exact (hb).at _ _ rfl) ?_; clear hp; (conv => cbv))
    obtain ⟨s, hs⟩ : ∃ s, s = decS z := ⟨_, rfl⟩
    have hv := FormatInt_k (tabIs_ext hp hx) h2
    rw [← hs] at hv
    refine st_v hr hv fun w2 hx2 => ?_
    conv => cbv
    exact fin _ _ (hx.trans hx2) (by rw [hs]; unfold constS; rw [if_pos g])
  have g2 : k ≠ 2 := by simpa [hE.cmp, cmpR] using g
  clear g
  conv => cbv
  refine br (fun g => ?_) (fun g => ?_)
  · have g : k = 3 := by simpa [hE.cmp, cmpR] using g
    conv => cbv
    (refine st_fld hE fIV2 fun p hp => ?_; (conv => cbv); refine st_load hE cStr (by rw [hp]; exact (hb).at _ _ rfl) ?_; clear hp; (conv => cbv))
    refine st_cat hE (catK (m := 1) (by decide) h1 (by decide)) fun v1 hv1 => ?_
    have s1 := catL hv1 (m := 1) (by decide) h1
    conv => cbv
    refine st_cat hE (catK s1 (n := 1) (by decide) (by decide)) fun v2 hv2 => ?_
    conv => cbv
    exact fin _ _ hx (by rw [hv2, hv1]; unfold constS; rw [if_neg g2, if_pos g]; rfl)
  have g3 : k ≠ 3 := by simpa [hE.cmp, cmpR] using g
  clear g
  conv => cbv
  refine br (fun g => ?_) (fun g => ?_)
  · have g : k = 1 := by simpa [hE.cmp, cmpR] using g
    conv => cbv
    (refine st_fld hE fIV1 fun p hp => ?_; (conv => cbv); refine st_load hE cI64 (by rw [hp]; exact (hb).at _ _ rfl) ?_; clear hp; (conv => cbv))
    have hbe2 : E.cmp .eql z 1 = true ↔ z = 1 := by simp [hE.cmp, cmpR]
    obtain ⟨s, hs⟩ : ∃ s : ByteArray, s = (if E.cmp .eql z 1 = true then ⟨#[116, 114, 117, 101]⟩ else ⟨#[102, 97, 108, 115, 101]⟩) := ⟨_, rfl⟩
    have hv := FormatBool_v (E.cmp .eql z 1) w1
    rw [← hs] at hv
    refine st_v hr hv fun w2 hx2 => ?_
    conv => cbv
    refine fin _ _ (hx.trans hx2) ?_
    rw [hs]; unfold constS; rw [if_neg g2, if_neg g3, if_pos g]
    by_cases q : z = 1
    · rw [if_pos q, if_pos (hbe2.2 q)]
    · rw [if_neg q, if_neg (fun r => q (hbe2.1 r))]
  have g1 : k ≠ 1 := by simpa [hE.cmp, cmpR] using g
  clear g
  conv => cbv
  refine st_none hr tStrs fun A0 w2 hx2 ho0 => ?_
  replace hb := hb.bel hx2
  have hs1 := hx.size
  have hoA := ho0 _ hx.size
  replace hx := hx.trans hx2
  clear hx2 ho0
  conv => cbv
  (refine st_fld hE fIV3 fun p hp => ?_; (conv => cbv); refine st_load hE cStrs (by rw [hp]; exact (hb).at _ _ rfl) ?_; clear hp; (conv => cbv))
  refine st_len hE tStrs fun x hx' => ?_
  conv => cbv
  have h' := h.ext hx
  refine loop_rule hr (fun (s : Nat × Int × Option Addr × Nat) w' => s.1 ≤ m ∧ s.2.1 = (s.1 : Int) ∧ Ext w0 w' ∧ Own w0.heap.size 9 1 w' s.2.2.1 s.1 s.2.2.2 (((xs.take s.1).map quo).map .string)) (fun s => [(3, .slice s.2.2.1 s.1 s.2.2.2), (27, .slice A m c), (28, .int .i64 x), (29, .int .i64 s.2.1)]) (fun s => m - s.1) (0, 0, A0, 0)
    (by simp [Fits, lk]) ⟨by simp, by simp, hx, hoA⟩ ?_
  clear hx hb
  rintro I hI ⟨j, jj, B, d⟩ w' ⟨hj, hjj, hx, ho⟩
  simp only at hj hjj ho
  obtain ⟨jk, hjk⟩ : ∃ z, z = jj + 1 := ⟨_, rfl⟩
  conv => cbv
  refine br (fun g => ?_) (fun g => ?_)
  · have g : j < m := by
      have : jj < x := by simpa [hE.cmp, cmpR] using g
      omega
    have ej : E.ar .add .i64 jj 1 = jk := by rw [hE.ar, hjk]; exact wrap_in (by omega) (by omega)
    conv => cbv
    refine st_str hE tStrs (h.ext hx) hjj g fun p s hsx hz hp => ?_
    conv => cbv
    refine st_load hE cStr hp ?_
    have hs32 := h4 s (List.mem_of_getElem? hsx)
    conv => cbv
    refine st_cat hE (catK (m := 1) (by decide) hs32 (by decide)) fun v1 hv1 => ?_
    have s1 := catL hv1 (m := 1) (by decide) hs32
    conv => cbv
    refine st_cat hE (catK s1 (n := 1) (by decide) (by decide)) fun v2 hv2 => ?_
    have e2 : v2 = quo s := by rw [hv2, hv1]; rfl
    conv => cbv
    refine st_one hr tStrs rfl rfl fun A1 w3 hx3 hc => ?_
    have z1 := hx.size
    have z3 := hx3.size
    conv => cbv
    refine st_app hr tStrs rfl (ho.bel hx3) hc rfl (by omega) (by omega) (by omega) fun A2 c2 m2 w4 hm2 hw ho2 => ?_
    subst hm2
    conv => cbv
    simp only [ej]
    refine ⟨(j + 1, jk, A2, c2), by simp [Fits, lk], hI _ _ ⟨by simp only; omega, by simp only; omega, (hx.trans hx3).then hw, ?_⟩, by simp only; omega⟩
    simp only
    rw [take_snoc hsx, List.map_append, List.map_append, List.map_cons, List.map_nil, List.map_cons, List.map_nil, ← e2]
    exact ho2
  · have g : j = m := by
      have : ¬ jj < x := by simpa [hE.cmp, cmpR] using g
      omega
    rw [List.take_of_length_le (by omega)] at ho
    have hbd : letters (xs.map quo) + (⟨#[44, 32]⟩ : ByteArray).size * (xs.map quo).length ≤ 2500 := by
      rw [letters_quo, List.length_map]
      have := letters_le h4
      have e : (⟨#[44, 32]⟩ : ByteArray).size = 2 := rfl
      rw [e]; omega
    obtain ⟨js, hjs⟩ : ∃ s, s = joinG ⟨#[44, 32]⟩ (xs.map quo) := ⟨_, rfl⟩
    have hjz : js.size ≤ 2500 := by rw [hjs]; exact Nat.le_trans (joinG_size _ _) hbd
    have hv := Join_k ⟨#[44, 32]⟩ ho (Nat.le_trans hbd (by decide)) (by rw [List.length_map]; omega)
    rw [← hjs] at hv
    conv => cbv
    refine st_v hr hv fun w2 hx2 => ?_
    conv => cbv
    refine st_cat hE (catK (m := 1) (by decide) hjz (by decide)) fun v1 hv1 => ?_
    have s1 := catL hv1 (m := 1) (by decide) hjz
    conv => cbv
    refine st_cat hE (catK s1 (n := 1) (by decide) (by decide)) fun v2 hv2 => ?_
    conv => cbv
    exact fin _ _ (hx.trans hx2) (by rw [hv2, hv1, hjs]; unfold constS; rw [if_neg g2, if_neg g3, if_neg g1])
end Go.Proofs.YtgdnmpcaiaoaoaaDoor
