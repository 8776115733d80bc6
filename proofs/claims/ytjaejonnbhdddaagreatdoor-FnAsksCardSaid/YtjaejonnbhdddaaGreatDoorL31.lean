/- The law FnAsks (printed by gen31.py). -/
import Derived.Test.YtjaejonnbhdddaaGreatDoorL30
namespace Go.Proofs.YtjaejonnbhdddaaGreatDoor
open Go.Eng
set_option linter.unusedVariables false
set_option linter.unusedSimpArgs false
theorem sameNames_q {w : World} {A A' : Option Addr} {n n' c c' : Nat} {xs ys : List ByteArray} (h : Strs w A n c xs) (h' : Strs w A' n' c' ys) :
    QB Tryz.prog 8 [.slice A n c, .slice A' n' c'] w (xs = ys) := by
  refine QB.intro (cs := []) Tryz.func8 (by kernel_rfl) fun w hx0 w1 hs E R hE hr hR => ?_
  have h := h.ext hx0
  have h' := h'.ext hx0
  have hl := h.len
  have hl' := h'.len
  have hle := h.le
  conv => cbv
  refine st_len hE tStrs fun x hx => ?_
  conv => cbv
  refine st_len hE tStrs fun x' hx' => ?_
  conv => cbv
  refine br (fun g => ?_) (fun g => ?_)
  · have g : x ≠ x' := by simpa [hE.cmp, cmpR] using g
    conv => cbv
    exact hR false _ hs (by simp only [Bool.false_eq_true, false_iff]; intro e; apply g; rw [hx, hx', ← hl, ← hl', e])
  have g : x = x' := by simpa [hE.cmp, cmpR] using g
  conv => cbv
  refine st_len hE tStrs fun y hy => ?_
  conv => cbv
  refine loop_rule hr (fun (k : Nat) w' => Same w w' ∧ k ≤ n ∧ xs.take k = ys.take k) (fun k => [(0, .slice A n c), (1, .slice A' n' c'), (12, .slice A n c), (13, .int .i64 y), (14, .int .i64 (E.nat k))]) (fun k => n - k) 0
    (by simp [Fits, lk, hE.nat]) ⟨hs, by omega, by simp⟩ ?_
  rintro I hI k w2 ⟨hs2, hk, ht⟩
  conv => cbv
  refine br (fun g2 => ?_) (fun g2 => ?_)
  · have g2 : k < n := by simpa [hE.cmp, cmpR, nk hE, hy] using g2
    conv => cbv
    refine st_str hE tStrs (h.ext hs2.ext) (nk hE k) g2 fun p s hsx hz hp => ?_
    conv => cbv
    refine st_load hE cStr hp ?_
    conv => cbv
    refine st_str hE tStrs (h'.ext hs2.ext) (nk hE k) (by omega) fun p' s' hsx' hz' hp' => ?_
    conv => cbv
    refine st_load hE cStr hp' ?_
    conv => cbv
    refine br (fun g3 => ?_) (fun g3 => ?_)
    · have g3 : s' ≠ s := by simpa [hE.scmp, scmp_neq] using g3
      conv => cbv
      exact hR false _ hs2 (by simp only [Bool.false_eq_true, false_iff]; intro e; apply g3; rw [e, hsx'] at hsx; exact Option.some.inj hsx)
    · have g3 : s' = s := by simpa [hE.scmp, scmp_neq] using g3
      conv => cbv
      refine ⟨k + 1, by simp [Fits, lk, inc hE (show k < 9223372036854775807 by omega)], hI _ _ ⟨hs2, by omega, ?_⟩, by omega⟩
      rw [List.take_add_one, List.take_add_one, ht, hsx, hsx', g3]
  · have g2 : k = n := by simp [hE.cmp, cmpR, nk hE, hy] at g2; omega
    conv => cbv
    refine hR true _ hs2 (by simp only [true_iff]; rwa [List.take_of_length_le (by omega), List.take_of_length_le (by omega)] at ht)
theorem bulk61 : ∀ ys : List ByteArray, (∀ s ∈ ys, s.size ≤ 60) → bulk ys ≤ 61 * ys.length := by
  intro ys
  induction ys with
  | nil => intro _; simp [bulk]
  | cons y ys ih =>
    intro hy
    have a1 := hy y (by simp)
    have a2 := ih fun t ht => hy t (by simp [ht])
    simp only [bulk, List.length_cons]; omega
set_option maxHeartbeats 1000000 in
theorem lawAsks (A : Option Addr) (n c : Nat) (zs : List Int) (A' : Option Addr) (n' c' : Nat) (zs' : List Int) (w : World) (hl : LibV w) (hby : Byts w A n c zs) (hby' : Byts w A' n' c' zs') : Law Tryz.prog 3 [.slice A n c, .slice A' n' c'] w := by
  refine FC.intro (cs := []) Tryz.func3 (by kernel_rfl) fun E R hE hr hR => ?_
  have hle := hby.le
  have hle' := hby'.le
  have done : R (.bool true) w := by rw [hR]; exact ⟨Ext.refl _, rfl⟩
  have S : ∀ x y : ByteArray, x = y → ¬ E.scmp .neq x y = true := fun x y h => by rw [hE.scmp, scmp_neq]; exact fun k => k h
  have SE : ∀ x y : ByteArray, x = y → E.scmp .eql x y = true := fun x y h => by rw [hE.scmp, scmp_eql]; exact h
  have SN : ∀ x y : ByteArray, x ≠ y → E.scmp .neq x y = true := fun x y h => by rw [hE.scmp, scmp_neq]; exact h
  have N : ∀ x y : Int, x = y → ¬ E.cmp .neq x y = true := fun x y h => by rw [hE.cmp]; simp [cmpR, h]
  have T : ∀ x y : Int, x = y → E.cmp .eql x y = true := fun x y h => by rw [hE.cmp]; simp [cmpR, h]
  conv => cbv
  refine st_len hE tBytes fun x hx0 => ?_
  conv => cbv
  refine br (fun _ => ?_) (fun g => ?_)
  · conv => cbv
    exact done
  have g : x ≤ 1048576 := by simp [hE.cmp, cmpR] at g; omega
  conv => cbv
  refine st_len hE tBytes fun x' hx0' => ?_
  conv => cbv
  refine br (fun _ => ?_) (fun g' => ?_)
  · conv => cbv
    exact done
  have g' : x' ≤ 1048576 := by simp [hE.cmp, cmpR] at g'; omega
  conv => cbv
  refine st_len hE tBytes fun x2 hx02 => ?_
  conv => cbv
  refine st_len hE tBytes fun x3 hx03 => ?_
  conv => cbv
  refine br (fun _ => ?_) (fun _ => ?_)
  · conv => cbv
    exact done
  conv => cbv
  refine st_f hr (DrawFormatAsk_f hby) fun v w1 hx ⟨cl, us, lv, A1, n1, c1, xs, ev, hd, z1, z2, hfl, l1, z3, o1⟩ => ?_
  subst ev
  have hbk := bulk61 xs z3
  conv => cbv
  refine st_alloc hr tIAsk rfl fun a5 w2 hx2 h50 => ?_
  have h5 := h50 _ hx.size
  have ao5 := o1.apart (h50 _ (Nat.le_refl _)) (Nat.le_refl _)
  replace o1 := o1.bel hx2
  replace hx := hx.trans hx2
  clear h50 hx2
  conv => cbv
  refine st_putS hr (by kernel_rfl) h5 (add_zero _).symm (by simp) (by simp [Value.oneCell']) fun w3 hw3 h52 => ?_
  simp only [List.take_zero, List.nil_append, List.length_cons, List.length_nil, List.drop_succ_cons, List.drop_nil, List.append_nil] at h52
  replace hx := hx.then (hw3.bel h5 hx.size)
  replace o1 := o1.wr hw3 ao5.1
  replace h5 := h52
  clear h52 hw3
  have s1 := o1.strs fun t ht => Nat.le_trans (z3 t ht) (by decide)
  conv => cbv
  refine st_f hr (DrawFormatAsk_f (hby.ext hx)) fun v w4 hx4 ⟨cl', us', lv', A4, n4, c4, xs', ev, hd', _, _, _, _, _, o4⟩ => ?_
  subst ev
  obtain ⟨rfl, rfl, rfl, rfl⟩ := hd.same hd'
  have s4 := o4.strs fun t ht => Nat.le_trans (z3 t ht) (by decide)
  replace o1 := o1.bel hx4
  replace s1 := s1.ext hx4
  replace h5 := h5.bel hx4
  have hxp := hx
  replace hx := hx.trans hx4
  conv => cbv
  refine st_f hr (FormatAsk_f (w0 := w3) (lv := lv) (cl := cl) (us := us) (TabIs_ext hl.pow hx) (by omega) s4 o4) fun v w5 hx5 ⟨t, ev, ht1⟩ => ?_
  subst ev
  replace o1 := o1.bel hx5
  replace s1 := s1.ext hx5
  replace h5 := h5.bel hx5
  replace hx := hx.trans hx5
  conv => cbv
  refine st_loadS hE tIAsk rfl h5.at ?_
  conv => cbv
  refine st_f hr (sFormatAsk_f (w0 := w) (lv := lv) (cl := cl) (us := us) (TabIs_ext hl.pow hx) (by omega) s1 o1) fun v w6 hx6 ⟨t2, ev, ht2⟩ => ?_
  subst ev
  replace s1 := s1.ext hx6
  replace h5 := h5.bel hx6
  replace hx := hx.trans hx6
  obtain rfl : t = t2 := by
    rcases ht1 with ⟨k1, k2⟩ | ⟨k1, k2⟩ <;> rcases ht2 with ⟨j1, j2⟩ | ⟨j1, j2⟩
    · rw [k2, j2]
    · exact absurd k1 j1
    · exact absurd j1 k1
    · rw [k2, j2]
  conv => cbv
  refine br (fun k => absurd k (S _ _ rfl)) (fun _ => ?_)
  rcases ht1 with ⟨hv, ht1⟩ | ⟨hv, ht1⟩
  · skip
    have zt := ask_size hv
    rw [← ht1] at zt
    conv => cbv
    refine br (fun _ => ?_) (fun k => absurd (SN _ _ (by rw [ht1]; exact ask_ne hv)) k)
    conv => cbv
    refine st_slen hE uStr fun y hy => ?_
    conv => cbv
    refine br (fun _ => ?_) (fun k => absurd (by simp [hE.cmp, cmpR]; omega) k)
    conv => cbv
    refine st_f hr (ParseAsk_f (hl.ext hx) t (by omega)) fun v w7 hx7 ⟨cl2, us2, lv2, A7, n7, c7, xs2, o2, ev, hp2, s7, o7⟩ => ?_
    subst ev
    obtain ⟨rfl, rfl, rfl, rfl, rfl⟩ := hp2.same (.inl ⟨rfl, by rw [ht1]; exact ask_text hv⟩)
    replace s1 := s1.ext hx7
    replace h5 := h5.bel hx7
    have hx6s := hx.size
    replace o7 := o7.mono hx6s
    replace hx := hx.trans hx7
    conv => cbv
    refine st_alloc hr tIAsk rfl fun a7 w8 hx8 h70 => ?_
    have h7 := h70 _ hx.size
    have a77 := o7.apart (h70 _ (Nat.le_refl _)) (Nat.le_refl _)
    have a57 := h5.apart (h70 _ (Nat.le_refl _)) (Nat.le_refl _)
    have hk7 := h70 w7.heap.size (Nat.le_refl _)
    replace o7 := o7.bel hx8
    replace h5 := h5.bel hx8
    replace hx := hx.trans hx8
    clear h70
    conv => cbv
    refine st_putS hr (by kernel_rfl) h7 (add_zero _).symm (by simp) (by simp [Value.oneCell']) fun w9 hw9 h72 => ?_
    simp only [List.take_zero, List.nil_append, List.length_cons, List.length_nil, List.drop_succ_cons, List.drop_nil, List.append_nil] at h72
    have hx9 : Ext w7 w9 := hx8.then (hw9.bel hk7 hx8.size)
    replace hx := hx.then (hw9.bel h7 hx.size)
    replace o7 := o7.wr hw9 a77.1
    replace h5 := h5.wr hw9 a57.1
    replace h7 := h72
    replace s1 := s1.ext hx9
    replace s7 := o7.strs s7.small
    conv => cbv
    (refine st_fld hE fK0 fun pf hpf => ?_; (conv => cbv); refine st_load hE cStr (by rw [hpf]; exact (h7).at _ _ rfl) ?_; clear hpf; (conv => cbv))
    (refine st_fld hE fK0 fun pf hpf => ?_; (conv => cbv); refine st_load hE cStr (by rw [hpf]; exact (h5).at _ _ rfl) ?_; clear hpf; (conv => cbv))
    refine br (fun k => absurd k (S _ _ rfl)) (fun _ => ?_)
    conv => cbv
    (refine st_fld hE fK1 fun pf hpf => ?_; (conv => cbv); refine st_load hE cStr (by rw [hpf]; exact (h7).at _ _ rfl) ?_; clear hpf; (conv => cbv))
    (refine st_fld hE fK1 fun pf hpf => ?_; (conv => cbv); refine st_load hE cStr (by rw [hpf]; exact (h5).at _ _ rfl) ?_; clear hpf; (conv => cbv))
    refine br (fun k => absurd k (S _ _ rfl)) (fun _ => ?_)
    conv => cbv
    (refine st_fld hE fK2 fun pf hpf => ?_; (conv => cbv); refine st_load hE cI64a (by rw [hpf]; exact (h7).at _ _ rfl) ?_; clear hpf; (conv => cbv))
    (refine st_fld hE fK2 fun pf hpf => ?_; (conv => cbv); refine st_load hE cI64a (by rw [hpf]; exact (h5).at _ _ rfl) ?_; clear hpf; (conv => cbv))
    refine br (fun k => absurd k (N _ _ rfl)) (fun _ => ?_)
    conv => cbv
    (refine st_fld hE fK3 fun pf hpf => ?_; (conv => cbv); refine st_load hE cStrsa (by rw [hpf]; exact (h5).at _ _ rfl) ?_; clear hpf; (conv => cbv))
    (refine st_fld hE fK3 fun pf hpf => ?_; (conv => cbv); refine st_load hE cStrsa (by rw [hpf]; exact (h7).at _ _ rfl) ?_; clear hpf; (conv => cbv))
    refine st_qb hE (sameNames_q s1 s7) fun b hb w10 hs10 => ?_
    obtain rfl : b = true := hb.2 rfl
    replace hx := hx.trans hs10.ext
    clear s1 s7 h5 h7 o7
    conv => cbv
    refine st_f hr (DrawParseAsk_f (TabIs_ext hl.pow hx) (hby'.ext hx)) fun v w20 hx20 ⟨tx, ev, ztx⟩ => ?_
    subst ev
    replace hx := hx.trans hx20
    conv => cbv
    refine st_f hr (sParseAsk_f tx (by omega)) fun v w21 hx21 ⟨cl3, us3, lv3, A21, n21, c21, xs3, o3, ev, hp3, _, _⟩ => ?_
    subst ev
    replace hx := hx.trans hx21
    conv => cbv
    refine st_alloc hr tIAsk rfl fun a10 w22 hx22 h100 => ?_
    have h10 := h100 _ hx.size
    replace hx := hx.trans hx22
    conv => cbv
    refine st_putS hr (by kernel_rfl) h10 (add_zero _).symm (by simp) (by simp [Value.oneCell']) fun w23 hw23 _ => ?_
    replace hx := hx.then (hw23.bel h10 hx.size)
    clear h10 h100
    conv => cbv
    refine st_f hr (ParseAsk_f (hl.ext hx) tx (by omega)) fun v w24 hx24 ⟨cl4, us4, lv4, A24, n24, c24, xs4, o4', ev, hp4, s24, o24⟩ => ?_
    subst ev
    have hp43 := hp3.same hp4
    obtain ⟨e0, _, _, _, _⟩ := hp43
    subst e0
    have hxq := hx.size
    replace o24 := o24.mono hxq
    replace hx := hx.trans hx24
    conv => cbv
    refine st_alloc hr tIAsk rfl fun a12 w25 hx25 h120 => ?_
    have h12 := h120 _ hx.size
    have a24 := o24.apart (h120 _ (Nat.le_refl _)) (Nat.le_refl _)
    replace o24 := o24.bel hx25
    replace hx := hx.trans hx25
    clear h120
    conv => cbv
    refine st_putS hr (by kernel_rfl) h12 (add_zero _).symm (by simp) (by simp [Value.oneCell']) fun w26 hw26 h122 => ?_
    simp only [List.take_zero, List.nil_append, List.length_cons, List.length_nil, List.drop_succ_cons, List.drop_nil, List.append_nil] at h122
    replace hx := hx.then (hw26.bel h12 hx.size)
    replace o24 := o24.wr hw26 a24.1
    replace h12 := h122
    clear h122 hw26
    replace s24 := o24.strs s24.small
    conv => cbv
    refine st_bne hE uBool fun vb hvb => ?_
    obtain rfl : vb = false := by rw [← Bool.not_eq_true, hvb]; simp
    cases o3 with
    | false =>
      conv => cbv
      rw [hR]; exact ⟨hx, rfl⟩
    | true =>
      rcases hp4 with ⟨_, hask⟩ | ⟨hno, _⟩
      rotate_left
      · cases hno
      have hva := hask.valid
      have hz4 := bulk_set xs4 fun s hs => (hva.2.2.2.2.1 s hs).2.2
      have hn64 := hva.2.2.2.2.2.2
      have hcl := hva.1.2.2
      have hus := hva.2.1.2.2
      conv => cbv
      refine st_loadS hE tIAsk rfl h12.at ?_
      conv => cbv
      refine st_f hr (FormatAsk_f (w0 := w) (lv := lv4) (cl := cl4) (us := us4) (TabIs_ext hl.pow hx) (by omega) s24 o24) fun v w27 hx27 ⟨tt, ev, htt⟩ => ?_
      subst ev
      replace h12 := h12.bel hx27
      replace s24 := s24.ext hx27
      replace hx := hx.trans hx27
      obtain ⟨_, htt⟩ : validAsk cl4 us4 lv4 xs4 ∧ tt = askText cl4 us4 lv4 xs4 := htt.elim id fun k => absurd hva k.1
      have zt := ask_size hva
      rw [← htt] at zt
      conv => cbv
      refine st_f hr (ParseAsk_f (hl.ext hx) tt (by omega)) fun v w28 hx28 ⟨cl5, us5, lv5, A28, n28, c28, xs5, o5, ev, hp5, s28, o28⟩ => ?_
      subst ev
      obtain ⟨rfl, rfl, rfl, rfl, rfl⟩ := hp5.same (.inl ⟨rfl, by rw [htt]; exact ask_text hva⟩)
      have hxq2 := hx.size
      replace o28 := o28.mono hxq2
      replace h12 := h12.bel hx28
      replace s24 := s24.ext hx28
      replace hx := hx.trans hx28
      conv => cbv
      refine st_alloc hr tIAsk rfl fun a15 w29 hx29 h150 => ?_
      have h15 := h150 _ hx.size
      have a28 := o28.apart (h150 _ (Nat.le_refl _)) (Nat.le_refl _)
      have a125 := h12.apart (h150 _ (Nat.le_refl _)) (Nat.le_refl _)
      have hk15 := h150 w28.heap.size (Nat.le_refl _)
      replace o28 := o28.bel hx29
      replace h12 := h12.bel hx29
      replace hx := hx.trans hx29
      clear h150
      conv => cbv
      refine st_putS hr (by kernel_rfl) h15 (add_zero _).symm (by simp) (by simp [Value.oneCell']) fun w30 hw30 h152 => ?_
      simp only [List.take_zero, List.nil_append, List.length_cons, List.length_nil, List.drop_succ_cons, List.drop_nil, List.append_nil] at h152
      have hx30 : Ext w28 w30 := hx29.then (hw30.bel hk15 hx29.size)
      replace hx := hx.then (hw30.bel h15 hx.size)
      replace o28 := o28.wr hw30 a28.1
      replace h12 := h12.wr hw30 a125.1
      replace h15 := h152
      replace s24 := s24.ext hx30
      replace s28 := o28.strs s28.small
      conv => cbv
      refine br (fun _ => ?_) (fun k => absurd (SN _ _ (by rw [htt]; exact ask_ne hva)) k)
      conv => cbv
      (refine st_fld hE fK0 fun pf hpf => ?_; (conv => cbv); refine st_load hE cStr (by rw [hpf]; exact (h15).at _ _ rfl) ?_; clear hpf; (conv => cbv))
      (refine st_fld hE fK0 fun pf hpf => ?_; (conv => cbv); refine st_load hE cStr (by rw [hpf]; exact (h12).at _ _ rfl) ?_; clear hpf; (conv => cbv))
      refine br (fun _ => ?_) (fun k => absurd (SE _ _ rfl) k)
      conv => cbv
      (refine st_fld hE fK1 fun pf hpf => ?_; (conv => cbv); refine st_load hE cStr (by rw [hpf]; exact (h15).at _ _ rfl) ?_; clear hpf; (conv => cbv))
      (refine st_fld hE fK1 fun pf hpf => ?_; (conv => cbv); refine st_load hE cStr (by rw [hpf]; exact (h12).at _ _ rfl) ?_; clear hpf; (conv => cbv))
      refine br (fun _ => ?_) (fun k => absurd (SE _ _ rfl) k)
      conv => cbv
      (refine st_fld hE fK2 fun pf hpf => ?_; (conv => cbv); refine st_load hE cI64a (by rw [hpf]; exact (h15).at _ _ rfl) ?_; clear hpf; (conv => cbv))
      (refine st_fld hE fK2 fun pf hpf => ?_; (conv => cbv); refine st_load hE cI64a (by rw [hpf]; exact (h12).at _ _ rfl) ?_; clear hpf; (conv => cbv))
      refine br (fun _ => ?_) (fun k => absurd (T _ _ rfl) k)
      conv => cbv
      (refine st_fld hE fK3 fun pf hpf => ?_; (conv => cbv); refine st_load hE cStrsa (by rw [hpf]; exact (h12).at _ _ rfl) ?_; clear hpf; (conv => cbv))
      (refine st_fld hE fK3 fun pf hpf => ?_; (conv => cbv); refine st_load hE cStrsa (by rw [hpf]; exact (h15).at _ _ rfl) ?_; clear hpf; (conv => cbv))
      refine st_qb hE (sameNames_q s24 s28) fun b hb w31 hs31 => ?_
      obtain rfl : b = true := hb.2 rfl
      conv => cbv
      rw [hR]; exact ⟨hx.trans hs31.ext, rfl⟩
  · conv => cbv
    refine br (fun k => absurd k (S _ _ ht1)) (fun _ => ?_)
    conv => cbv
    refine st_f hr (DrawParseAsk_f (TabIs_ext hl.pow hx) (hby'.ext hx)) fun v w20 hx20 ⟨tx, ev, ztx⟩ => ?_
    subst ev
    replace hx := hx.trans hx20
    conv => cbv
    refine st_f hr (sParseAsk_f tx (by omega)) fun v w21 hx21 ⟨cl3, us3, lv3, A21, n21, c21, xs3, o3, ev, hp3, _, _⟩ => ?_
    subst ev
    replace hx := hx.trans hx21
    conv => cbv
    refine st_alloc hr tIAsk rfl fun a10 w22 hx22 h100 => ?_
    have h10 := h100 _ hx.size
    replace hx := hx.trans hx22
    conv => cbv
    refine st_putS hr (by kernel_rfl) h10 (add_zero _).symm (by simp) (by simp [Value.oneCell']) fun w23 hw23 _ => ?_
    replace hx := hx.then (hw23.bel h10 hx.size)
    clear h10 h100
    conv => cbv
    refine st_f hr (ParseAsk_f (hl.ext hx) tx (by omega)) fun v w24 hx24 ⟨cl4, us4, lv4, A24, n24, c24, xs4, o4', ev, hp4, s24, o24⟩ => ?_
    subst ev
    have hp43 := hp3.same hp4
    obtain ⟨e0, _, _, _, _⟩ := hp43
    subst e0
    have hxq := hx.size
    replace o24 := o24.mono hxq
    replace hx := hx.trans hx24
    conv => cbv
    refine st_alloc hr tIAsk rfl fun a12 w25 hx25 h120 => ?_
    have h12 := h120 _ hx.size
    have a24 := o24.apart (h120 _ (Nat.le_refl _)) (Nat.le_refl _)
    replace o24 := o24.bel hx25
    replace hx := hx.trans hx25
    clear h120
    conv => cbv
    refine st_putS hr (by kernel_rfl) h12 (add_zero _).symm (by simp) (by simp [Value.oneCell']) fun w26 hw26 h122 => ?_
    simp only [List.take_zero, List.nil_append, List.length_cons, List.length_nil, List.drop_succ_cons, List.drop_nil, List.append_nil] at h122
    replace hx := hx.then (hw26.bel h12 hx.size)
    replace o24 := o24.wr hw26 a24.1
    replace h12 := h122
    clear h122 hw26
    replace s24 := o24.strs s24.small
    conv => cbv
    refine st_bne hE uBool fun vb hvb => ?_
    obtain rfl : vb = false := by rw [← Bool.not_eq_true, hvb]; simp
    cases o3 with
    | false =>
      conv => cbv
      rw [hR]; exact ⟨hx, rfl⟩
    | true =>
      rcases hp4 with ⟨_, hask⟩ | ⟨hno, _⟩
      rotate_left
      · cases hno
      have hva := hask.valid
      have hz4 := bulk_set xs4 fun s hs => (hva.2.2.2.2.1 s hs).2.2
      have hn64 := hva.2.2.2.2.2.2
      have hcl := hva.1.2.2
      have hus := hva.2.1.2.2
      conv => cbv
      refine st_loadS hE tIAsk rfl h12.at ?_
      conv => cbv
      refine st_f hr (FormatAsk_f (w0 := w) (lv := lv4) (cl := cl4) (us := us4) (TabIs_ext hl.pow hx) (by omega) s24 o24) fun v w27 hx27 ⟨tt, ev, htt⟩ => ?_
      subst ev
      replace h12 := h12.bel hx27
      replace s24 := s24.ext hx27
      replace hx := hx.trans hx27
      obtain ⟨_, htt⟩ : validAsk cl4 us4 lv4 xs4 ∧ tt = askText cl4 us4 lv4 xs4 := htt.elim id fun k => absurd hva k.1
      have zt := ask_size hva
      rw [← htt] at zt
      conv => cbv
      refine st_f hr (ParseAsk_f (hl.ext hx) tt (by omega)) fun v w28 hx28 ⟨cl5, us5, lv5, A28, n28, c28, xs5, o5, ev, hp5, s28, o28⟩ => ?_
      subst ev
      obtain ⟨rfl, rfl, rfl, rfl, rfl⟩ := hp5.same (.inl ⟨rfl, by rw [htt]; exact ask_text hva⟩)
      have hxq2 := hx.size
      replace o28 := o28.mono hxq2
      replace h12 := h12.bel hx28
      replace s24 := s24.ext hx28
      replace hx := hx.trans hx28
      conv => cbv
      refine st_alloc hr tIAsk rfl fun a15 w29 hx29 h150 => ?_
      have h15 := h150 _ hx.size
      have a28 := o28.apart (h150 _ (Nat.le_refl _)) (Nat.le_refl _)
      have a125 := h12.apart (h150 _ (Nat.le_refl _)) (Nat.le_refl _)
      have hk15 := h150 w28.heap.size (Nat.le_refl _)
      replace o28 := o28.bel hx29
      replace h12 := h12.bel hx29
      replace hx := hx.trans hx29
      clear h150
      conv => cbv
      refine st_putS hr (by kernel_rfl) h15 (add_zero _).symm (by simp) (by simp [Value.oneCell']) fun w30 hw30 h152 => ?_
      simp only [List.take_zero, List.nil_append, List.length_cons, List.length_nil, List.drop_succ_cons, List.drop_nil, List.append_nil] at h152
      have hx30 : Ext w28 w30 := hx29.then (hw30.bel hk15 hx29.size)
      replace hx := hx.then (hw30.bel h15 hx.size)
      replace o28 := o28.wr hw30 a28.1
      replace h12 := h12.wr hw30 a125.1
      replace h15 := h152
      replace s24 := s24.ext hx30
      replace s28 := o28.strs s28.small
      conv => cbv
      refine br (fun _ => ?_) (fun k => absurd (SN _ _ (by rw [htt]; exact ask_ne hva)) k)
      conv => cbv
      (refine st_fld hE fK0 fun pf hpf => ?_; (conv => cbv); refine st_load hE cStr (by rw [hpf]; exact (h15).at _ _ rfl) ?_; clear hpf; (conv => cbv))
      (refine st_fld hE fK0 fun pf hpf => ?_; (conv => cbv); refine st_load hE cStr (by rw [hpf]; exact (h12).at _ _ rfl) ?_; clear hpf; (conv => cbv))
      refine br (fun _ => ?_) (fun k => absurd (SE _ _ rfl) k)
      conv => cbv
      (refine st_fld hE fK1 fun pf hpf => ?_; (conv => cbv); refine st_load hE cStr (by rw [hpf]; exact (h15).at _ _ rfl) ?_; clear hpf; (conv => cbv))
      (refine st_fld hE fK1 fun pf hpf => ?_; (conv => cbv); refine st_load hE cStr (by rw [hpf]; exact (h12).at _ _ rfl) ?_; clear hpf; (conv => cbv))
      refine br (fun _ => ?_) (fun k => absurd (SE _ _ rfl) k)
      conv => cbv
      (refine st_fld hE fK2 fun pf hpf => ?_; (conv => cbv); refine st_load hE cI64a (by rw [hpf]; exact (h15).at _ _ rfl) ?_; clear hpf; (conv => cbv))
      (refine st_fld hE fK2 fun pf hpf => ?_; (conv => cbv); refine st_load hE cI64a (by rw [hpf]; exact (h12).at _ _ rfl) ?_; clear hpf; (conv => cbv))
      refine br (fun _ => ?_) (fun k => absurd (T _ _ rfl) k)
      conv => cbv
      (refine st_fld hE fK3 fun pf hpf => ?_; (conv => cbv); refine st_load hE cStrsa (by rw [hpf]; exact (h12).at _ _ rfl) ?_; clear hpf; (conv => cbv))
      (refine st_fld hE fK3 fun pf hpf => ?_; (conv => cbv); refine st_load hE cStrsa (by rw [hpf]; exact (h15).at _ _ rfl) ?_; clear hpf; (conv => cbv))
      refine st_qb hE (sameNames_q s24 s28) fun b hb w31 hs31 => ?_
      obtain rfl : b = true := hb.2 rfl
      conv => cbv
      rw [hR]; exact ⟨hx.trans hs31.ext, rfl⟩
end Go.Proofs.YtjaejonnbhdddaaGreatDoor
