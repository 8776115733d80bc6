/- The draw of asks' texts (printed by gen30.py). -/
import Derived.Test.YtjaejonnbhdddaaGreatDoorL29
namespace Go.Proofs.YtjaejonnbhdddaaGreatDoor
open Go.Eng
set_option linter.unusedVariables false
set_option linter.unusedSimpArgs false
theorem ext_size {s : ByteArray} {a b : Nat} (h : b ≤ s.size) : (s.extract a b).size ≤ b - a := by
  have := congrArg List.length (ext_data s a b)
  rw [data_len] at this
  rw [this]; simp; omega
set_option maxHeartbeats 2000000 in
theorem DrawParseAsk_f {w : World} {A : Option Addr} {n c : Nat} {zs : List Int} (hpw : Pow w) (hby : Byts w A n c zs) :
    FC Tryz.prog 9 [.slice A n c] w fun v _ => ∃ s, v = .string s ∧ s.size ≤ 10000 := by
  refine FC.intro (cs := []) Tryz.func9 (by kernel_rfl) fun E R hE hr hR => ?_
  have P : ∀ x y : Int, E.cmp .eql x y = true → x = y := fun x y h => by rw [hE.cmp] at h; simpa [cmpR] using h
  have N : ∀ x y : Int, ¬ E.cmp .eql x y = true → x ≠ y := fun x y h => by rw [hE.cmp] at h; simpa [cmpR] using h
  have T : ∀ x y : Int, x = y → E.cmp .eql x y = true := fun x y h => by rw [hE.cmp]; simp [cmpR, h]
  conv => cbv
  refine st_rd hE ?_
  conv => cbv
  refine st_box hr fun r w2 hx2 hr0 => ?_
  have h : Rd w w2 r A n c zs 0 := ⟨hx2, hr0 _ (Nat.le_refl _), hby, by omega, by omega⟩
  clear hr0
  conv => cbv
  refine st_g hr (next_g h) fun v w3 ⟨k, q, ev, k0, k1, _, h3, hw3⟩ => ?_
  subst ev
  conv => cbv
  refine st_g hr (ask_g h3) fun v w4 ⟨cl, us, lv, A4, n4, c4, xs, q4, ev, har, z1, z2, lv0, lv1, l4, z4, o4, h4, hw4⟩ => ?_
  subst ev
  have ar4 := (h3.box.apart o4 (Nat.le_refl _)).2
  replace o4 := o4.mono h3.ext.size
  conv => cbv
  refine st_alloc hr tIAsk rfl fun a5 w5 hx5 h50 => ?_
  have h5 := h50 _ h4.ext.size
  have ar5 := h4.box.apart (h50 _ (Nat.le_refl _)) (Nat.le_refl _)
  have ao5 := o4.apart (h50 _ (Nat.le_refl _)) (Nat.le_refl _)
  replace h4 := h4.bel hx5
  replace o4 := o4.bel hx5
  clear h50
  conv => cbv
  refine st_putS hr (by kernel_rfl) h5 (add_zero _).symm (by simp) (by simp [Value.oneCell']) fun w6 hw6 h52 => ?_
  simp only [List.take_zero, List.nil_append, List.length_cons, List.length_nil, List.drop_succ_cons, List.drop_nil, List.append_nil] at h52
  replace h4 := h4.wr hw6 h5 (Nat.le_refl _) ar5.1
  replace o4 := o4.wr hw6 ao5.1
  replace h5 := h52
  clear h52 hw6
  have hst := o4.strs fun t ht => Nat.le_trans (z4 t ht) (by decide)
  have hb60 : bulk xs ≤ 61 * 64 := by
    have : ∀ ys : List ByteArray, (∀ s ∈ ys, s.size ≤ 60) → bulk ys ≤ 61 * ys.length := by
      intro ys
      induction ys with
      | nil => intro _; simp [bulk]
      | cons y ys ih =>
        intro hy
        have a1 := hy y (by simp)
        have a2 := ih fun t ht => hy t (by simp [ht])
        simp only [bulk, List.length_cons]; omega
    have := this xs z4
    omega
  conv => cbv
  refine st_loadS hE tIAsk rfl h5.at ?_
  conv => cbv
  refine st_f hr (sFormatAsk_f (w0 := w) (lv := lv) (cl := cl) (us := us) (TabIs_ext hpw h4.ext) (by omega) hst o4) fun v w7 hx7 ⟨s, ev, hs0⟩ => ?_
  subst ev
  have hs : s.size ≤ 4000 := by
    rcases hs0 with ⟨a, rfl⟩ | ⟨_, rfl⟩
    · exact ask_size a
    · exact Nat.zero_le _
  replace h4 := h4.bel hx7
  replace h5 := h5.bel hx7
  replace o4 := o4.bel hx7
  replace hst := hst.ext hx7
  conv => cbv
  refine br (fun g => ?_) (fun g => ?_)
  · have g : k = 250 := P _ _ g
    conv => cbv
    refine br (fun _ => ?_) (fun k' => absurd (T _ _ g) k')
    conv => cbv
    refine loop_rule hr (fun (t : Int × ByteArray) w' => w' = w7 ∧ 1 ≤ t.1 ∧ t.1 ≤ 402 ∧ (t.2.size : Int) ≤ 40 + 2 * t.1) (fun t => [(4, .int .i64 k), (6, .string t.2), (7, .int .i64 t.1)]) (fun t => (500 - t.1).toNat) (1, ⟨#[99, 108, 105, 101, 110, 116, 61, 97, 32, 117, 115, 101, 114, 61, 98, 32, 108, 101, 118, 101, 108, 61, 49, 32, 97, 115, 107, 61, 97]⟩)
      (by simp [Fits, lk]) ⟨rfl, by simp, by simp, by decide⟩ ?_
    rintro I hI ⟨i, u⟩ w' ⟨rfl, i1, i2, i3⟩
    simp only at i1 i2 i3
    obtain ⟨y1, hy1⟩ : ∃ y, y = 400 + k := ⟨_, rfl⟩
    have e1 : E.ar .add .i64 400 k = y1 := by rw [hE.ar, hy1]; exact wrap_in (by omega) (by omega)
    obtain ⟨y2, hy2⟩ : ∃ y, y = y1 - 250 := ⟨_, rfl⟩
    have e2 : E.ar .sub .i64 y1 250 = y2 := by rw [hE.ar, hy2]; exact wrap_in (by omega) (by omega)
    conv => cbv
    simp only [e1]
    conv => cbv
    simp only [e2]
    refine br (fun g9 => ?_) (fun g9 => ?_)
    · have g9 : i < y2 := by simpa [hE.cmp, cmpR] using g9
      obtain ⟨i', hi'⟩ : ∃ y, y = i + 1 := ⟨_, rfl⟩
      have e3 : E.ar .add .i64 i 1 = i' := by rw [hE.ar, hi']; exact wrap_in (by omega) (by omega)
      conv => cbv
      refine st_cat hE (cat_ok (m := 2000) (n := 2) (by omega) (by decide) (by decide)) fun u2 hu2 => ?_
      have zu := cat_le hu2 (Nat.le_refl _) (n := 2) (by decide)
      conv => cbv
      simp only [e3]
      exact ⟨(i', u2), by simp [Fits, lk], hI _ _ ⟨rfl, by simp only; omega, by simp only; omega, by simp only; omega⟩, by simp only; omega⟩
    · conv => cbv
      rw [hR]; exact ⟨h4.ext, u, rfl, by omega⟩
  have g250 := N _ _ g
  clear g
  conv => cbv
  refine br (fun g => ?_) (fun g => ?_)
  · have g : k = 251 := P _ _ g
    conv => cbv
    refine loop_rule hr (fun (t : Int × ByteArray) w' => w' = w7 ∧ 1 ≤ t.1 ∧ t.1 ≤ 402 ∧ (t.2.size : Int) ≤ 40 + 2 * t.1) (fun t => [(4, .int .i64 k), (6, .string t.2), (7, .int .i64 t.1)]) (fun t => (500 - t.1).toNat) (1, ⟨#[99, 108, 105, 101, 110, 116, 61, 97, 32, 117, 115, 101, 114, 61, 98, 32, 108, 101, 118, 101, 108, 61, 49, 32, 97, 115, 107, 61, 97]⟩)
      (by simp [Fits, lk]) ⟨rfl, by simp, by simp, by decide⟩ ?_
    rintro I hI ⟨i, u⟩ w' ⟨rfl, i1, i2, i3⟩
    simp only at i1 i2 i3
    obtain ⟨y1, hy1⟩ : ∃ y, y = 400 + k := ⟨_, rfl⟩
    have e1 : E.ar .add .i64 400 k = y1 := by rw [hE.ar, hy1]; exact wrap_in (by omega) (by omega)
    obtain ⟨y2, hy2⟩ : ∃ y, y = y1 - 250 := ⟨_, rfl⟩
    have e2 : E.ar .sub .i64 y1 250 = y2 := by rw [hE.ar, hy2]; exact wrap_in (by omega) (by omega)
    conv => cbv
    simp only [e1]
    conv => cbv
    simp only [e2]
    refine br (fun g9 => ?_) (fun g9 => ?_)
    · have g9 : i < y2 := by simpa [hE.cmp, cmpR] using g9
      obtain ⟨i', hi'⟩ : ∃ y, y = i + 1 := ⟨_, rfl⟩
      have e3 : E.ar .add .i64 i 1 = i' := by rw [hE.ar, hi']; exact wrap_in (by omega) (by omega)
      conv => cbv
      refine st_cat hE (cat_ok (m := 2000) (n := 2) (by omega) (by decide) (by decide)) fun u2 hu2 => ?_
      have zu := cat_le hu2 (Nat.le_refl _) (n := 2) (by decide)
      conv => cbv
      simp only [e3]
      exact ⟨(i', u2), by simp [Fits, lk], hI _ _ ⟨rfl, by simp only; omega, by simp only; omega, by simp only; omega⟩, by simp only; omega⟩
    · conv => cbv
      rw [hR]; exact ⟨h4.ext, u, rfl, by omega⟩
  have g251 := N _ _ g
  clear g
  conv => cbv
  refine br (fun g => ?_) (fun g => ?_)
  · have g : k = 252 := P _ _ g
    conv => cbv
    refine br (fun _ => ?_) (fun k' => absurd (T _ _ g) k')
    conv => cbv
    refine loop_rule hr (fun (u : ByteArray) w' => w' = w7 ∧ u.size ≤ 4000) (fun u => [(4, .int .i64 k), (6, .string u)]) (fun u => 4001 - u.size) ⟨#[99, 108, 105, 101, 110, 116, 61, 97, 32, 117, 115, 101, 114, 61, 98, 32, 108, 101, 118, 101, 108, 61, 49, 32, 97, 115, 107, 61, 97]⟩
      (by simp [Fits, lk]) ⟨rfl, by decide⟩ ?_
    rintro I hI u w' ⟨rfl, i1⟩
    conv => cbv
    refine st_slen hE uStr fun x hx => ?_
    obtain ⟨y1, hy1⟩ : ∃ y, y = x + 32 := ⟨_, rfl⟩
    have e1 : E.ar .add .i64 x 32 = y1 := by rw [hE.ar, hy1]; exact wrap_in (by omega) (by omega)
    conv => cbv
    simp only [e1]
    refine br (fun g9 => ?_) (fun g9 => ?_)
    · have g9 : y1 < 4000 := by simpa [hE.cmp, cmpR] using g9
      conv => cbv
      refine st_cat hE (cat_ok (n := 32) i1 (by decide) (by decide)) fun u2 hu2 => ?_
      have zu : u2.size = u.size + 32 := by rw [hu2, append_size]; rfl
      conv => cbv
      exact ⟨u2, by simp [Fits, lk], hI _ _ ⟨rfl, by omega⟩, by omega⟩
    conv => cbv
    refine loop_rule hr (fun (u : ByteArray) w' => w' = w' ∧ Ext w w' ∧ u.size ≤ 4000) (fun u => [(4, .int .i64 k), (6, .string u)]) (fun u => 4001 - u.size) u
      (by simp [Fits, lk]) ⟨rfl, h4.ext, i1⟩ ?_
    rintro I hI u w8 ⟨_, hx8, i1⟩
    conv => cbv
    refine st_slen hE uStr fun x hx => ?_
    conv => cbv
    refine br (fun g9 => ?_) (fun g9 => ?_)
    · have g9 : x < 3998 := by simpa [hE.cmp, cmpR] using g9
      conv => cbv
      refine st_cat hE (cat_ok (n := 2) i1 (by decide) (by decide)) fun u2 hu2 => ?_
      have zu : u2.size = u.size + 2 := by rw [hu2, append_size]; rfl
      conv => cbv
      exact ⟨u2, by simp [Fits, lk], hI _ _ ⟨rfl, hx8, by omega⟩, by omega⟩
    conv => cbv
    refine loop_rule hr (fun (u : ByteArray) w' => w' = w' ∧ Ext w w' ∧ u.size ≤ 5000) (fun u => [(4, .int .i64 k), (6, .string u)]) (fun u => 6001 - u.size) u
      (by simp [Fits, lk]) ⟨rfl, hx8, by omega⟩ ?_
    rintro I hI u w9 ⟨_, hx9, i1⟩
    conv => cbv
    refine st_slen hE uStr fun x hx => ?_
    obtain ⟨y1, hy1⟩ : ∃ y, y = 4000 + k := ⟨_, rfl⟩
    have e1 : E.ar .add .i64 4000 k = y1 := by rw [hE.ar, hy1]; exact wrap_in (by omega) (by omega)
    obtain ⟨y2, hy2⟩ : ∃ y, y = y1 - 252 := ⟨_, rfl⟩
    have e2 : E.ar .sub .i64 y1 252 = y2 := by rw [hE.ar, hy2]; exact wrap_in (by omega) (by omega)
    conv => cbv
    simp only [e1]
    conv => cbv
    simp only [e2]
    refine br (fun g9 => ?_) (fun g9 => ?_)
    · have g9 : x < y2 := by simpa [hE.cmp, cmpR] using g9
      conv => cbv
      refine st_cat hE (cat_ok (n := 1) i1 (by decide) (by decide)) fun u2 hu2 => ?_
      have zu : u2.size = u.size + 1 := by rw [hu2, append_size]; rfl
      conv => cbv
      exact ⟨u2, by simp [Fits, lk], hI _ _ ⟨rfl, hx9, by omega⟩, by omega⟩
    · conv => cbv
      rw [hR]; exact ⟨hx9, u, rfl, by omega⟩
  have g252 := N _ _ g
  clear g
  conv => cbv
  refine br (fun g => ?_) (fun g => ?_)
  · have g : k = 253 := P _ _ g
    conv => cbv
    refine loop_rule hr (fun (u : ByteArray) w' => w' = w7 ∧ u.size ≤ 4000) (fun u => [(4, .int .i64 k), (6, .string u)]) (fun u => 4001 - u.size) ⟨#[99, 108, 105, 101, 110, 116, 61, 97, 32, 117, 115, 101, 114, 61, 98, 32, 108, 101, 118, 101, 108, 61, 49, 32, 97, 115, 107, 61, 97]⟩
      (by simp [Fits, lk]) ⟨rfl, by decide⟩ ?_
    rintro I hI u w' ⟨rfl, i1⟩
    conv => cbv
    refine st_slen hE uStr fun x hx => ?_
    obtain ⟨y1, hy1⟩ : ∃ y, y = x + 32 := ⟨_, rfl⟩
    have e1 : E.ar .add .i64 x 32 = y1 := by rw [hE.ar, hy1]; exact wrap_in (by omega) (by omega)
    conv => cbv
    simp only [e1]
    refine br (fun g9 => ?_) (fun g9 => ?_)
    · have g9 : y1 < 4000 := by simpa [hE.cmp, cmpR] using g9
      conv => cbv
      refine st_cat hE (cat_ok (n := 32) i1 (by decide) (by decide)) fun u2 hu2 => ?_
      have zu : u2.size = u.size + 32 := by rw [hu2, append_size]; rfl
      conv => cbv
      exact ⟨u2, by simp [Fits, lk], hI _ _ ⟨rfl, by omega⟩, by omega⟩
    conv => cbv
    refine loop_rule hr (fun (u : ByteArray) w' => w' = w' ∧ Ext w w' ∧ u.size ≤ 4000) (fun u => [(4, .int .i64 k), (6, .string u)]) (fun u => 4001 - u.size) u
      (by simp [Fits, lk]) ⟨rfl, h4.ext, i1⟩ ?_
    rintro I hI u w8 ⟨_, hx8, i1⟩
    conv => cbv
    refine st_slen hE uStr fun x hx => ?_
    conv => cbv
    refine br (fun g9 => ?_) (fun g9 => ?_)
    · have g9 : x < 3998 := by simpa [hE.cmp, cmpR] using g9
      conv => cbv
      refine st_cat hE (cat_ok (n := 2) i1 (by decide) (by decide)) fun u2 hu2 => ?_
      have zu : u2.size = u.size + 2 := by rw [hu2, append_size]; rfl
      conv => cbv
      exact ⟨u2, by simp [Fits, lk], hI _ _ ⟨rfl, hx8, by omega⟩, by omega⟩
    conv => cbv
    refine loop_rule hr (fun (u : ByteArray) w' => w' = w' ∧ Ext w w' ∧ u.size ≤ 5000) (fun u => [(4, .int .i64 k), (6, .string u)]) (fun u => 6001 - u.size) u
      (by simp [Fits, lk]) ⟨rfl, hx8, by omega⟩ ?_
    rintro I hI u w9 ⟨_, hx9, i1⟩
    conv => cbv
    refine st_slen hE uStr fun x hx => ?_
    obtain ⟨y1, hy1⟩ : ∃ y, y = 4000 + k := ⟨_, rfl⟩
    have e1 : E.ar .add .i64 4000 k = y1 := by rw [hE.ar, hy1]; exact wrap_in (by omega) (by omega)
    obtain ⟨y2, hy2⟩ : ∃ y, y = y1 - 252 := ⟨_, rfl⟩
    have e2 : E.ar .sub .i64 y1 252 = y2 := by rw [hE.ar, hy2]; exact wrap_in (by omega) (by omega)
    conv => cbv
    simp only [e1]
    conv => cbv
    simp only [e2]
    refine br (fun g9 => ?_) (fun g9 => ?_)
    · have g9 : x < y2 := by simpa [hE.cmp, cmpR] using g9
      conv => cbv
      refine st_cat hE (cat_ok (n := 1) i1 (by decide) (by decide)) fun u2 hu2 => ?_
      have zu : u2.size = u.size + 1 := by rw [hu2, append_size]; rfl
      conv => cbv
      exact ⟨u2, by simp [Fits, lk], hI _ _ ⟨rfl, hx9, by omega⟩, by omega⟩
    · conv => cbv
      rw [hR]; exact ⟨hx9, u, rfl, by omega⟩
  have hs_s : s.size ≤ 5000 := by omega
  conv => cbv
  refine st_rem hE (by decide) fun m3 hm3 => ?_
  conv => cbv
  refine br (fun g3 => ?_) (fun g3 => ?_)
  · conv => cbv
    (refine st_fld hE fK3 fun pf hpf => ?_; (conv => cbv); refine st_load hE cStrsa (by rw [hpf]; exact (h5).at _ _ rfl) ?_; clear hpf; (conv => cbv))
    refine st_len hE tStrs fun x hx => ?_
    conv => cbv
    refine br (fun g4 => ?_) (fun g4 => ?_)
    · have g4 : 0 < x := by simpa [hE.cmp, cmpR] using g4
      obtain ⟨aA, hA, _, _⟩ := o4.addr (by omega)
      obtain ⟨t0, xs', hxs⟩ : ∃ t l, xs = t :: l := by
        cases xs with
        | nil => have := hst.len; simp at this; omega
        | cons t l => exact ⟨t, l, rfl⟩
      have zt : t0.size ≤ 60 := z4 t0 (by rw [hxs]; simp)
      have cell0 : ∀ w1, Wr (some r) w7 w1 → w1.cell? (Addr.mk aA 0 none) = some (.string t0) := fun w1 hw1 => by
        have o1 := o4.wr hw1 ar4
        rw [hA] at o1
        have := o1.at 0 (.string t0) (by rw [hxs]; rfl)
        rwa [add_zero] at this
      conv => cbv
      refine draw_w (some r) [0, 1, 2, 3, 4, 5, 6, 7] [(8, false), (9, false), (10, false), (11, false)] hr fol (by kernel_rfl) fun E' hE' w8 hs8 => ?_
      have hw8 : Wr (some r) w7 w8 := hs8.ext.wr _
      conv => cbv
      refine sw_fld hE' fK3 fun pf hpf => ?_
      conv => cbv
      refine sw_load hE' cStrsa (v := .slice A4 n4 c4) (fun w1 hw1 => by rw [hpf]; exact (h5.wr hw1 ar5.2).at _ _ rfl) ?_
      conv => cbv
      refine sw_idx hE' tStrs hA (by omega) (by omega) fun pe hpe => ?_
      conv => cbv
      refine sw_load hE' cStr (v := .string t0) (fun w1 hw1 => by rw [hpe]; simpa [add_zero] using cell0 w1 hw1) ?_
      conv => cbv
      refine sw_cat hE' (cat_ok (m := 1) (by decide) zt (by decide)) fun v1 hv1 => ?_
      have s1 := cat_le hv1 (m := 1) (by decide) zt
      conv => cbv
      refine sw_cat hE' (cat_ok s1 (n := 1) (by decide) (by decide)) fun v2 hv2 => ?_
      have s2 := cat_le hv2 s1 (n := 1) (by decide)
      conv => cbv
      refine st_g hr (word_g (h4.bel hs8.ext)) fun v w9 ⟨wd, q9, ev, _, zw, h9, hw9⟩ => ?_
      subst ev
      refine ⟨hw8.trans hw9, ?_⟩
      conv => cbv
      refine st_cat hE (cat_ok s2 zw (by decide)) fun v3 hv3 => ?_
      have s3 := cat_le hv3 s2 zw
      refine ⟨hw8.trans hw9, ?_⟩
      conv => cbv
      refine st_cat hE (cat_ok hs s3 (by decide)) fun s5 hs5 => ?_
      have hs_s5 : s5.size ≤ 5000 := Nat.le_trans (cat_le hs5 hs s3) (by decide)
      refine ⟨hw8.trans hw9, ?_⟩
      conv => cbv
      refine ⟨hw8.trans hw9, ?_⟩
      conv => cbv
      refine st_rem hE (by decide) fun m5 hm5 => ?_
      conv => cbv
      refine br (fun g6 => ?_) (fun g6 => ?_)
      rotate_left
      · skip
        conv => cbv
        rw [hR]; exact ⟨h9.ext, s5, rfl, by omega⟩
      conv => cbv
      refine st_g hr (next_g h9) fun v w20 ⟨j, q20, ev, j0, j1, _, h20, hw20⟩ => ?_
      subst ev
      conv => cbv
      refine st_slen hE uStr fun x hx => ?_
      obtain ⟨y1, hy1⟩ : ∃ y, y = x + 1 := ⟨_, rfl⟩
      have e1 : E.ar .add .i64 x 1 = y1 := by rw [hE.ar, hy1]; exact wrap_in (by omega) (by omega)
      conv => cbv
      simp only [e1]
      refine st_rem hE (by omega) fun at_ hat => ?_
      have at0 : 0 ≤ at_ := by rw [hat]; exact Int.tmod_nonneg _ j0
      have at1 : at_ ≤ x := by have := Int.tmod_lt_of_pos j (show 0 < y1 by omega); omega
      conv => cbv
      refine st_g hr (next_g h20) fun v w21 ⟨j2, q21, ev, j20, j21, _, h21, hw21⟩ => ?_
      subst ev
      conv => cbv
      refine st_rem hE (by decide) fun m4 hm4 => ?_
      conv => cbv
      refine br (fun g7 => ?_) (fun g7 => ?_)
      · conv => cbv
        refine draw_h [0, 1, 2, 3, 4, 5, 6, 10, 11, 12] [(7, false), (8, false), (9, false), (13, false), (14, false)] hr fol (by kernel_rfl) fun E' hE' w22 hs22 S hS => ?_
        conv => cbv
        refine st_upTo hE' uStr at0 (by omega) fun u1 hu1 => ?_
        have zu1 : u1.size ≤ 5000 := by rw [hu1]; exact Nat.le_trans (ext_size (by omega)) (by omega)
        conv => cbv
        refine st_quo hE' (by decide) fun x4 hx4 => ?_
        have hx4 : x4 = j2 / 4 := by rw [hx4, Int.tdiv_eq_ediv_of_nonneg j20]; exact wrap_in (by omega) (by omega)
        conv => cbv
        refine st_rem hE' (by decide) fun x5 hx5' => ?_
        have hx5' : x5 = x4 % 5 := by rw [hx5', Int.tmod_eq_emod_of_nonneg (by omega)]
        conv => cbv
        refine st_byte hE' uStr (by omega) (by have : (⟨⟨[32, 44, 61, 48, 97]⟩⟩ : ByteArray).size = 5 := rfl; show x5 < (((⟨⟨[32, 44, 61, 48, 97]⟩⟩ : ByteArray).size : Nat) : Int); omega) fun b hb b0 b1 => ?_
        conv => cbv
        refine st_onFrom hE' uStr at0 (by omega) fun u3 hu3 => ?_
        have zu3 : u3.size ≤ 5000 := by rw [hu3]; exact Nat.le_trans (ext_size (Nat.le_refl _)) (by omega)
        conv => cbv
        refine st_one hr tBytes rfl rfl fun A23 w23 hx23 hc23 => ?_
        refine ⟨hS _ hx23, ?_⟩
        have hbn : b = ((UInt8.ofNat b.toNat).toNat : Int) := by rw [UInt8.toNat_ofNat']; omega
        conv => cbv
        refine st_b2s hE Tryz.underlying22 uU8 uStr (bs := [UInt8.ofNat b.toNat]) rfl (by rw [hbn] at hc23; simpa using hc23) ?_
        obtain ⟨u4, hu4⟩ : ∃ u : ByteArray, u = ⟨[UInt8.ofNat b.toNat].toArray⟩ := ⟨_, rfl⟩
        have zu4 : u4.size ≤ 1 := by rw [hu4]; exact Nat.le_refl _
        rw [← hu4]
        refine ⟨hS _ hx23, ?_⟩
        conv => cbv
        refine st_cat hE (cat_ok zu1 zu4 (by decide)) fun u5 hu5 => ?_
        have zu5 := cat_le hu5 zu1 zu4
        refine ⟨hS _ hx23, ?_⟩
        conv => cbv
        refine st_cat hE (cat_ok zu5 zu3 (by decide)) fun u6 hu6 => ?_
        have zu6 : u6.size ≤ 10000 := by
          have a1 : u1.size ≤ at_.toNat := by rw [hu1]; exact ext_size (by omega)
          have a3 : u3.size ≤ s5.size - at_.toNat := by rw [hu3]; exact ext_size (Nat.le_refl _)
          rw [hu6, append_size, hu5, append_size]; omega
        refine ⟨hS _ hx23, ?_⟩
        conv => cbv
        refine ⟨hS _ hx23, ?_⟩
        conv => cbv
        rw [hR]; exact ⟨(h21.ext.trans hs22.ext).trans hx23, u6, rfl, zu6⟩
      conv => cbv
      refine br (fun g8 => ?_) (fun g8 => ?_)
      · conv => cbv
        refine st_upTo hE uStr at0 (by omega) fun u1 hu1 => ?_
        have zu1 : u1.size ≤ 5000 := by rw [hu1]; exact Nat.le_trans (ext_size (by omega)) (by omega)
        conv => cbv
        rw [hR]; exact ⟨h21.ext, u1, rfl, by omega⟩
      conv => cbv
      refine br (fun g9 => ?_) (fun g9 => ?_)
      · conv => cbv
        refine st_slen hE uStr fun x9 hx9 => ?_
        conv => cbv
        refine br (fun g10 => ?_) (fun g10 => ?_)
        · have g10 : at_ < x9 := by simpa [hE.cmp, cmpR] using g10
          conv => cbv
          refine draw_q hr fol (by kernel_rfl) fun E' hE' => ?_
          conv => cbv
          refine st_upTo hE' uStr at0 (by omega) fun u1 hu1 => ?_
          have zu1 : u1.size ≤ 5000 := by rw [hu1]; exact Nat.le_trans (ext_size (by omega)) (by omega)
          obtain ⟨y3, hy3⟩ : ∃ y, y = at_ + 1 := ⟨_, rfl⟩
          have e3 : E'.ar .add .i64 at_ 1 = y3 := by rw [hE'.ar, hy3]; exact wrap_in (by omega) (by omega)
          conv => cbv
          simp only [e3]
          refine st_onFrom hE' uStr (by omega) (by omega) fun u3 hu3 => ?_
          have zu3 : u3.size ≤ 5000 := by rw [hu3]; exact Nat.le_trans (ext_size (Nat.le_refl _)) (by omega)
          conv => cbv
          refine st_cat hE' (cat_ok zu1 zu3 (by decide)) fun u6 hu6 => ?_
          have zu6 := cat_le hu6 zu1 zu3
          conv => cbv
          intro w23 hs23
          conv => cbv
          rw [hR]; exact ⟨h21.ext.trans hs23.ext, u6, rfl, by omega⟩
        · skip
          conv => cbv
          rw [hR]; exact ⟨h21.ext, s5, rfl, by omega⟩
      conv => cbv
      refine st_cat hE (cat_ok hs_s5 (n := 1) (by decide) (by decide)) fun u6 hu6 => ?_
      have zu6 := cat_le hu6 hs_s5 (n := 1) (by decide)
      conv => cbv
      rw [hR]; exact ⟨h21.ext, u6, rfl, by omega⟩
    · skip
      conv => cbv
      refine st_rem hE (by decide) fun m5 hm5 => ?_
      conv => cbv
      refine br (fun g6 => ?_) (fun g6 => ?_)
      rotate_left
      · skip
        conv => cbv
        rw [hR]; exact ⟨h4.ext, s, rfl, by omega⟩
      conv => cbv
      refine st_g hr (next_g h4) fun v w20 ⟨j, q20, ev, j0, j1, _, h20, hw20⟩ => ?_
      subst ev
      conv => cbv
      refine st_slen hE uStr fun x hx => ?_
      obtain ⟨y1, hy1⟩ : ∃ y, y = x + 1 := ⟨_, rfl⟩
      have e1 : E.ar .add .i64 x 1 = y1 := by rw [hE.ar, hy1]; exact wrap_in (by omega) (by omega)
      conv => cbv
      simp only [e1]
      refine st_rem hE (by omega) fun at_ hat => ?_
      have at0 : 0 ≤ at_ := by rw [hat]; exact Int.tmod_nonneg _ j0
      have at1 : at_ ≤ x := by have := Int.tmod_lt_of_pos j (show 0 < y1 by omega); omega
      conv => cbv
      refine st_g hr (next_g h20) fun v w21 ⟨j2, q21, ev, j20, j21, _, h21, hw21⟩ => ?_
      subst ev
      conv => cbv
      refine st_rem hE (by decide) fun m4 hm4 => ?_
      conv => cbv
      refine br (fun g7 => ?_) (fun g7 => ?_)
      · conv => cbv
        refine draw_h [0, 1, 2, 3, 4, 5, 6, 10, 11, 12] [(7, false), (8, false), (9, false), (13, false), (14, false)] hr fol (by kernel_rfl) fun E' hE' w22 hs22 S hS => ?_
        conv => cbv
        refine st_upTo hE' uStr at0 (by omega) fun u1 hu1 => ?_
        have zu1 : u1.size ≤ 5000 := by rw [hu1]; exact Nat.le_trans (ext_size (by omega)) (by omega)
        conv => cbv
        refine st_quo hE' (by decide) fun x4 hx4 => ?_
        have hx4 : x4 = j2 / 4 := by rw [hx4, Int.tdiv_eq_ediv_of_nonneg j20]; exact wrap_in (by omega) (by omega)
        conv => cbv
        refine st_rem hE' (by decide) fun x5 hx5' => ?_
        have hx5' : x5 = x4 % 5 := by rw [hx5', Int.tmod_eq_emod_of_nonneg (by omega)]
        conv => cbv
        refine st_byte hE' uStr (by omega) (by have : (⟨⟨[32, 44, 61, 48, 97]⟩⟩ : ByteArray).size = 5 := rfl; show x5 < (((⟨⟨[32, 44, 61, 48, 97]⟩⟩ : ByteArray).size : Nat) : Int); omega) fun b hb b0 b1 => ?_
        conv => cbv
        refine st_onFrom hE' uStr at0 (by omega) fun u3 hu3 => ?_
        have zu3 : u3.size ≤ 5000 := by rw [hu3]; exact Nat.le_trans (ext_size (Nat.le_refl _)) (by omega)
        conv => cbv
        refine st_one hr tBytes rfl rfl fun A23 w23 hx23 hc23 => ?_
        refine ⟨hS _ hx23, ?_⟩
        have hbn : b = ((UInt8.ofNat b.toNat).toNat : Int) := by rw [UInt8.toNat_ofNat']; omega
        conv => cbv
        refine st_b2s hE Tryz.underlying22 uU8 uStr (bs := [UInt8.ofNat b.toNat]) rfl (by rw [hbn] at hc23; simpa using hc23) ?_
        obtain ⟨u4, hu4⟩ : ∃ u : ByteArray, u = ⟨[UInt8.ofNat b.toNat].toArray⟩ := ⟨_, rfl⟩
        have zu4 : u4.size ≤ 1 := by rw [hu4]; exact Nat.le_refl _
        rw [← hu4]
        refine ⟨hS _ hx23, ?_⟩
        conv => cbv
        refine st_cat hE (cat_ok zu1 zu4 (by decide)) fun u5 hu5 => ?_
        have zu5 := cat_le hu5 zu1 zu4
        refine ⟨hS _ hx23, ?_⟩
        conv => cbv
        refine st_cat hE (cat_ok zu5 zu3 (by decide)) fun u6 hu6 => ?_
        have zu6 : u6.size ≤ 10000 := by
          have a1 : u1.size ≤ at_.toNat := by rw [hu1]; exact ext_size (by omega)
          have a3 : u3.size ≤ s.size - at_.toNat := by rw [hu3]; exact ext_size (Nat.le_refl _)
          rw [hu6, append_size, hu5, append_size]; omega
        refine ⟨hS _ hx23, ?_⟩
        conv => cbv
        refine ⟨hS _ hx23, ?_⟩
        conv => cbv
        rw [hR]; exact ⟨(h21.ext.trans hs22.ext).trans hx23, u6, rfl, zu6⟩
      conv => cbv
      refine br (fun g8 => ?_) (fun g8 => ?_)
      · conv => cbv
        refine st_upTo hE uStr at0 (by omega) fun u1 hu1 => ?_
        have zu1 : u1.size ≤ 5000 := by rw [hu1]; exact Nat.le_trans (ext_size (by omega)) (by omega)
        conv => cbv
        rw [hR]; exact ⟨h21.ext, u1, rfl, by omega⟩
      conv => cbv
      refine br (fun g9 => ?_) (fun g9 => ?_)
      · conv => cbv
        refine st_slen hE uStr fun x9 hx9 => ?_
        conv => cbv
        refine br (fun g10 => ?_) (fun g10 => ?_)
        · have g10 : at_ < x9 := by simpa [hE.cmp, cmpR] using g10
          conv => cbv
          refine draw_q hr fol (by kernel_rfl) fun E' hE' => ?_
          conv => cbv
          refine st_upTo hE' uStr at0 (by omega) fun u1 hu1 => ?_
          have zu1 : u1.size ≤ 5000 := by rw [hu1]; exact Nat.le_trans (ext_size (by omega)) (by omega)
          obtain ⟨y3, hy3⟩ : ∃ y, y = at_ + 1 := ⟨_, rfl⟩
          have e3 : E'.ar .add .i64 at_ 1 = y3 := by rw [hE'.ar, hy3]; exact wrap_in (by omega) (by omega)
          conv => cbv
          simp only [e3]
          refine st_onFrom hE' uStr (by omega) (by omega) fun u3 hu3 => ?_
          have zu3 : u3.size ≤ 5000 := by rw [hu3]; exact Nat.le_trans (ext_size (Nat.le_refl _)) (by omega)
          conv => cbv
          refine st_cat hE' (cat_ok zu1 zu3 (by decide)) fun u6 hu6 => ?_
          have zu6 := cat_le hu6 zu1 zu3
          conv => cbv
          intro w23 hs23
          conv => cbv
          rw [hR]; exact ⟨h21.ext.trans hs23.ext, u6, rfl, by omega⟩
        · skip
          conv => cbv
          rw [hR]; exact ⟨h21.ext, s, rfl, by omega⟩
      conv => cbv
      refine st_cat hE (cat_ok hs_s (n := 1) (by decide) (by decide)) fun u6 hu6 => ?_
      have zu6 := cat_le hu6 hs_s (n := 1) (by decide)
      conv => cbv
      rw [hR]; exact ⟨h21.ext, u6, rfl, by omega⟩
  · skip
    conv => cbv
    refine st_rem hE (by decide) fun m5 hm5 => ?_
    conv => cbv
    refine br (fun g6 => ?_) (fun g6 => ?_)
    rotate_left
    · skip
      conv => cbv
      rw [hR]; exact ⟨h4.ext, s, rfl, by omega⟩
    conv => cbv
    refine st_g hr (next_g h4) fun v w20 ⟨j, q20, ev, j0, j1, _, h20, hw20⟩ => ?_
    subst ev
    conv => cbv
    refine st_slen hE uStr fun x hx => ?_
    obtain ⟨y1, hy1⟩ : ∃ y, y = x + 1 := ⟨_, rfl⟩
    have e1 : E.ar .add .i64 x 1 = y1 := by rw [hE.ar, hy1]; exact wrap_in (by omega) (by omega)
    conv => cbv
    simp only [e1]
    refine st_rem hE (by omega) fun at_ hat => ?_
    have at0 : 0 ≤ at_ := by rw [hat]; exact Int.tmod_nonneg _ j0
    have at1 : at_ ≤ x := by have := Int.tmod_lt_of_pos j (show 0 < y1 by omega); omega
    conv => cbv
    refine st_g hr (next_g h20) fun v w21 ⟨j2, q21, ev, j20, j21, _, h21, hw21⟩ => ?_
    subst ev
    conv => cbv
    refine st_rem hE (by decide) fun m4 hm4 => ?_
    conv => cbv
    refine br (fun g7 => ?_) (fun g7 => ?_)
    · conv => cbv
      refine draw_h [0, 1, 2, 3, 4, 5, 6, 10, 11, 12] [(7, false), (8, false), (9, false), (13, false), (14, false)] hr fol (by kernel_rfl) fun E' hE' w22 hs22 S hS => ?_
      conv => cbv
      refine st_upTo hE' uStr at0 (by omega) fun u1 hu1 => ?_
      have zu1 : u1.size ≤ 5000 := by rw [hu1]; exact Nat.le_trans (ext_size (by omega)) (by omega)
      conv => cbv
      refine st_quo hE' (by decide) fun x4 hx4 => ?_
      have hx4 : x4 = j2 / 4 := by rw [hx4, Int.tdiv_eq_ediv_of_nonneg j20]; exact wrap_in (by omega) (by omega)
      conv => cbv
      refine st_rem hE' (by decide) fun x5 hx5' => ?_
      have hx5' : x5 = x4 % 5 := by rw [hx5', Int.tmod_eq_emod_of_nonneg (by omega)]
      conv => cbv
      refine st_byte hE' uStr (by omega) (by have : (⟨⟨[32, 44, 61, 48, 97]⟩⟩ : ByteArray).size = 5 := rfl; show x5 < (((⟨⟨[32, 44, 61, 48, 97]⟩⟩ : ByteArray).size : Nat) : Int); omega) fun b hb b0 b1 => ?_
      conv => cbv
      refine st_onFrom hE' uStr at0 (by omega) fun u3 hu3 => ?_
      have zu3 : u3.size ≤ 5000 := by rw [hu3]; exact Nat.le_trans (ext_size (Nat.le_refl _)) (by omega)
      conv => cbv
      refine st_one hr tBytes rfl rfl fun A23 w23 hx23 hc23 => ?_
      refine ⟨hS _ hx23, ?_⟩
      have hbn : b = ((UInt8.ofNat b.toNat).toNat : Int) := by rw [UInt8.toNat_ofNat']; omega
      conv => cbv
      refine st_b2s hE Tryz.underlying22 uU8 uStr (bs := [UInt8.ofNat b.toNat]) rfl (by rw [hbn] at hc23; simpa using hc23) ?_
      obtain ⟨u4, hu4⟩ : ∃ u : ByteArray, u = ⟨[UInt8.ofNat b.toNat].toArray⟩ := ⟨_, rfl⟩
      have zu4 : u4.size ≤ 1 := by rw [hu4]; exact Nat.le_refl _
      rw [← hu4]
      refine ⟨hS _ hx23, ?_⟩
      conv => cbv
      refine st_cat hE (cat_ok zu1 zu4 (by decide)) fun u5 hu5 => ?_
      have zu5 := cat_le hu5 zu1 zu4
      refine ⟨hS _ hx23, ?_⟩
      conv => cbv
      refine st_cat hE (cat_ok zu5 zu3 (by decide)) fun u6 hu6 => ?_
      have zu6 : u6.size ≤ 10000 := by
        have a1 : u1.size ≤ at_.toNat := by rw [hu1]; exact ext_size (by omega)
        have a3 : u3.size ≤ s.size - at_.toNat := by rw [hu3]; exact ext_size (Nat.le_refl _)
        rw [hu6, append_size, hu5, append_size]; omega
      refine ⟨hS _ hx23, ?_⟩
      conv => cbv
      refine ⟨hS _ hx23, ?_⟩
      conv => cbv
      rw [hR]; exact ⟨(h21.ext.trans hs22.ext).trans hx23, u6, rfl, zu6⟩
    conv => cbv
    refine br (fun g8 => ?_) (fun g8 => ?_)
    · conv => cbv
      refine st_upTo hE uStr at0 (by omega) fun u1 hu1 => ?_
      have zu1 : u1.size ≤ 5000 := by rw [hu1]; exact Nat.le_trans (ext_size (by omega)) (by omega)
      conv => cbv
      rw [hR]; exact ⟨h21.ext, u1, rfl, by omega⟩
    conv => cbv
    refine br (fun g9 => ?_) (fun g9 => ?_)
    · conv => cbv
      refine st_slen hE uStr fun x9 hx9 => ?_
      conv => cbv
      refine br (fun g10 => ?_) (fun g10 => ?_)
      · have g10 : at_ < x9 := by simpa [hE.cmp, cmpR] using g10
        conv => cbv
        refine draw_q hr fol (by kernel_rfl) fun E' hE' => ?_
        conv => cbv
        refine st_upTo hE' uStr at0 (by omega) fun u1 hu1 => ?_
        have zu1 : u1.size ≤ 5000 := by rw [hu1]; exact Nat.le_trans (ext_size (by omega)) (by omega)
        obtain ⟨y3, hy3⟩ : ∃ y, y = at_ + 1 := ⟨_, rfl⟩
        have e3 : E'.ar .add .i64 at_ 1 = y3 := by rw [hE'.ar, hy3]; exact wrap_in (by omega) (by omega)
        conv => cbv
        simp only [e3]
        refine st_onFrom hE' uStr (by omega) (by omega) fun u3 hu3 => ?_
        have zu3 : u3.size ≤ 5000 := by rw [hu3]; exact Nat.le_trans (ext_size (Nat.le_refl _)) (by omega)
        conv => cbv
        refine st_cat hE' (cat_ok zu1 zu3 (by decide)) fun u6 hu6 => ?_
        have zu6 := cat_le hu6 zu1 zu3
        conv => cbv
        intro w23 hs23
        conv => cbv
        rw [hR]; exact ⟨h21.ext.trans hs23.ext, u6, rfl, by omega⟩
      · skip
        conv => cbv
        rw [hR]; exact ⟨h21.ext, s, rfl, by omega⟩
    conv => cbv
    refine st_cat hE (cat_ok hs_s (n := 1) (by decide) (by decide)) fun u6 hu6 => ?_
    have zu6 := cat_le hu6 hs_s (n := 1) (by decide)
    conv => cbv
    rw [hR]; exact ⟨h21.ext, u6, rfl, by omega⟩
end Go.Proofs.YtjaejonnbhdddaaGreatDoor
