/- The law FnSets: the algebra of drawn scope sets. -/
import Derived.Test.YtjaejonnbhdddaaDoorL19
import Derived.Test.YtjaejonnbhdddaaDoorL20
namespace Go.Proofs.YtjaejonnbhdddaaDoor
open Go.Eng
set_option linter.unusedVariables false
theorem sameNames_q {w : World} {A A' : Option Addr} {n n' c c' : Nat} {xs ys : List ByteArray} (h : Strs w A n c xs) (h' : Strs w A' n' c' ys) :
    QB Tryd.prog 9 [.slice A n c, .slice A' n' c'] w (xs = ys) := by
  refine QB.intro (cs := []) Tryd.func9 (by kernel_rfl) fun w hx0 w1 hs E R hE hr hR => ?_
  have h := h.ext hx0
  have h' := h'.ext hx0
  have hl := h.len
  have hl' := h'.len
  have hle := h.le
  conv => cbv
  refine st_len hE tStrs fun x hx => ?_
  conv => cbv
  refine st_len hE tStrs fun x' hx' => ?_
  conv => cbv
  refine br (fun g => ?_) (fun g => ?_)
  · have g : x ≠ x' := by simpa [hE.cmp, cmpR] using g
    conv => cbv
    exact hR false _ hs (by simp only [Bool.false_eq_true, false_iff]; intro e; apply g; rw [hx, hx', ← hl, ← hl', e])
  have g : x = x' := by simpa [hE.cmp, cmpR] using g
  conv => cbv
  refine st_len hE tStrs fun y hy => ?_
  conv => cbv
  refine loop_rule hr (fun (k : Nat) w' => Same w w' ∧ k ≤ n ∧ xs.take k = ys.take k) (fun k => [(0, .slice A n c), (1, .slice A' n' c'), (12, .slice A n c), (13, .int .i64 y), (14, .int .i64 (E.nat k))]) (fun k => n - k) 0
    (by simp [Fits, lk, hE.nat]) ⟨hs, by omega, by simp⟩ ?_
  rintro I hI k w2 ⟨hs2, hk, ht⟩
  conv => cbv
  refine br (fun g2 => ?_) (fun g2 => ?_)
  · have g2 : k < n := by simpa [hE.cmp, cmpR, nk hE, hy] using g2
    conv => cbv
    refine st_str hE tStrs (h.ext hs2.ext) (nk hE k) g2 fun p s hsx hz hp => ?_
    conv => cbv
    refine st_load hE cStr hp ?_
    conv => cbv
    refine st_str hE tStrs (h'.ext hs2.ext) (nk hE k) (by omega) fun p' s' hsx' hz' hp' => ?_
    conv => cbv
    refine st_load hE cStr hp' ?_
    conv => cbv
    refine br (fun g3 => ?_) (fun g3 => ?_)
    · have g3 : s' ≠ s := by simpa [hE.scmp, scmp_neq] using g3
      conv => cbv
      exact hR false _ hs2 (by simp only [Bool.false_eq_true, false_iff]; intro e; apply g3; rw [e, hsx'] at hsx; exact Option.some.inj hsx)
    · have g3 : s' = s := by simpa [hE.scmp, scmp_neq] using g3
      conv => cbv
      refine ⟨k + 1, by simp [Fits, lk, inc hE (show k < 9223372036854775807 by omega)], hI _ _ ⟨hs2, by omega, ?_⟩, by omega⟩
      rw [List.take_add_one, List.take_add_one, ht, hsx, hsx', g3]
  · have g2 : k = n := by simp [hE.cmp, cmpR, nk hE, hy] at g2; omega
    conv => cbv
    refine hR true _ hs2 (by simp only [true_iff]; rwa [List.take_of_length_le (by omega), List.take_of_length_le (by omega)] at ht)
set_option maxHeartbeats 1000000 in
theorem lawSets (A : Option Addr) (n c : Nat) (zs : List Int) (w : World) {z o v : Addr} (he : Errs w z o v) (hb : Byts w A n c zs) : Law Tryd.prog 3 [.slice A n c] w := by
  refine FC.intro (cs := []) Tryd.func3 (by kernel_rfl) fun E R hE hr hR => ?_
  conv => cbv
  refine st_len hE tBytes fun x hx => ?_
  conv => cbv
  refine br (fun _ => ?_) (fun _ => ?_)
  · conv => cbv
    rw [hR]; exact ⟨Ext.refl _, rfl⟩
  clear hx
  have N : ∀ x y : Int, x = y → ¬ E.cmp .neq x y = true := fun x y h => by rw [hE.cmp]; simp [cmpR, h]
  have T : ∀ x y : Int, x = y → E.cmp .eql x y = true := fun x y h => by rw [hE.cmp]; simp [cmpR, h]
  have P : ∀ x y : Int, E.cmp .eql x y = true → x = y := fun x y h => by rw [hE.cmp] at h; simpa [cmpR] using h
  have G : ∀ x : Int, x = 0 → ¬ E.cmp .gtr x 0 = true := fun x h => by rw [hE.cmp]; simp [cmpR, h]
  conv => cbv
  refine st_f hr (DrawUnion_f hb) fun u w1 hx ⟨A1, n1, c1, xs, A2, n2, c2, ys, ev, sa, b1, sb, b2⟩ => ?_
  subst ev
  have la := sa.len
  have lb := sb.len
  conv => cbv
  refine st_f hr (Union_f (he.ext hx) sa sb (by omega) (by omega)) fun u w2 hx2 ⟨r, k, A3, n3, c3, ev, hU, su, _⟩ => ?_
  subst ev
  (replace hx := hx.trans hx2; replace sa := sa.ext hx2; replace sb := sb.ext hx2)
  conv => cbv
  refine st_f hr (sUnion_f sa sb (by omega) (by omega)) fun u w3 hx3 ⟨r', k', A4, n4, c4, ev, hU', sw, _⟩ => ?_
  subst ev
  obtain ⟨rfl, rfl⟩ := hU.same hU'
  (replace hx := hx.trans hx3; replace sa := sa.ext hx3; replace sb := sb.ext hx3; replace su := su.ext hx3)
  conv => cbv
  refine br (fun g => absurd g (N _ _ rfl)) (fun _ => ?_)
  conv => cbv
  refine st_qb hE (sameNames_q su sw) fun b hb1 w4 hs4 => ?_
  obtain rfl : b = true := hb1.2 rfl
  (replace hx := hx.trans hs4.ext; replace sa := sa.ext hs4.ext; replace sb := sb.ext hs4.ext; replace su := su.ext hs4.ext)
  clear sw
  conv => cbv
  refine br (fun g => ?_) (fun g => ?_)
  · have hn := hU.none (P _ _ g)
    conv => cbv
    refine st_f hr (Meet_f sa sb (by omega) (by omega)) fun u w5 hx5 ⟨q, hq, A5, n5, c5, ev, s5, _⟩ => ?_
    subst ev
    obtain rfl := hq.none hn
    have l5 := s5.len
    simp at l5
    (replace hx := hx.trans hx5; replace sa := sa.ext hx5; replace sb := sb.ext hx5)
    conv => cbv
    refine st_len hE tStrs fun y hy => ?_
    conv => cbv
    refine br (fun _ => ?_) (fun g => absurd (T _ _ (by omega)) g)
    conv => cbv
    refine st_f hr (Minus_f sa sb (by omega) (by omega)) fun u w6 hx6 ⟨q, hq, A6, n6, c6, ev, s6, _⟩ => ?_
    subst ev
    obtain rfl := hq.none hn
    have l6 := s6.len
    simp at l6
    (replace hx := hx.trans hx6; replace sa := sa.ext hx6; replace sb := sb.ext hx6)
    conv => cbv
    refine st_len hE tStrs fun y2 hy2 => ?_
    conv => cbv
    refine br (fun _ => ?_) (fun g => absurd (T _ _ (by omega)) g)
    conv => cbv
    refine st_f hr (Within_f sa sb (by omega) (by omega)) fun u w7 hx7 ⟨b, ev, hw⟩ => ?_
    subst ev
    obtain rfl : b = false := by rw [← Bool.not_eq_true, hw]; exact fun k => hn ⟨k.1, k.2.1⟩
    conv => cbv
    rw [hR]; exact ⟨hx.trans hx7, rfl⟩
  have g : k ≠ 4 := fun e => g (T _ _ e)
  obtain ⟨hX, hY⟩ := hU.sets g
  conv => cbv
  refine st_f hr (Meet_f sa sb (by omega) (by omega)) fun u w5 hx5 ⟨q, hq, A5, n5, c5, ev, sbo, _⟩ => ?_
  subst ev
  obtain rfl := hq.some hX hY
  (replace hx := hx.trans hx5; replace sa := sa.ext hx5; replace sb := sb.ext hx5; replace su := su.ext hx5)
  conv => cbv
  refine st_f hr (Minus_f sa sb (by omega) (by omega)) fun u w6 hx6 ⟨q, hq6, A6, n6, c6, ev, sre, _⟩ => ?_
  subst ev
  obtain rfl := hq6.some hX hY
  (replace hx := hx.trans hx6; replace sa := sa.ext hx6; replace sb := sb.ext hx6; replace su := su.ext hx6; replace sbo := sbo.ext hx6)
  have lbo := sbo.len
  have lre := sre.len
  have pbo := picked_len xs ys true
  have pre := picked_len xs ys false
  conv => cbv
  refine st_f hr (Union_f (he.ext hx) sbo sre (by omega) (by omega)) fun u w7 hx7 ⟨r7, k7, A7, n7, c7, ev, hU7, sx, _⟩ => ?_
  subst ev
  obtain ⟨e7, rfl⟩ := parts hX hY hU7
  rw [e7] at sx
  (replace hx := hx.trans hx7; replace sa := sa.ext hx7; replace sb := sb.ext hx7; replace su := su.ext hx7; replace sbo := sbo.ext hx7; replace sre := sre.ext hx7)
  conv => cbv
  refine br (fun g => absurd g (N _ _ rfl)) (fun _ => ?_)
  conv => cbv
  refine st_qb hE (sameNames_q sx sa) fun b hb1 w8 hs8 => ?_
  obtain rfl : b = true := hb1.2 rfl
  have hx8 := hs8.ext
  clear sx
  (replace hx := hx.trans hx8; replace sa := sa.ext hx8; replace sb := sb.ext hx8; replace su := su.ext hx8; replace sbo := sbo.ext hx8; replace sre := sre.ext hx8)
  conv => cbv
  refine st_f hr (Meet_f sbo sre (by omega) (by omega)) fun u w9 hx9 ⟨q, hq9, A9, n9, c9, ev, s9, _⟩ => ?_
  subst ev
  obtain rfl := apart_parts hX hq9
  have l9 := s9.len
  simp at l9
  (replace hx := hx.trans hx9; replace sa := sa.ext hx9; replace sb := sb.ext hx9; replace su := su.ext hx9; replace sbo := sbo.ext hx9; replace sre := sre.ext hx9)
  conv => cbv
  refine st_len hE tStrs fun y hy => ?_
  conv => cbv
  refine br (fun g => absurd g (G _ (by omega))) (fun _ => ?_)
  conv => cbv
  refine st_f hr (Meet_f sb sa (by omega) (by omega)) fun u w10 hx10 ⟨q, hq10, A10, n10, c10, ev, s10, _⟩ => ?_
  subst ev
  obtain rfl := meet_swap hX hY hq10
  (replace hx := hx.trans hx10; replace sa := sa.ext hx10; replace sb := sb.ext hx10; replace su := su.ext hx10; replace sbo := sbo.ext hx10; replace sre := sre.ext hx10)
  conv => cbv
  refine st_qb hE (sameNames_q s10 sbo) fun b hb1 w11 hs11 => ?_
  obtain rfl : b = true := hb1.2 rfl
  have hx11 := hs11.ext
  clear s10
  (replace hx := hx.trans hx11; replace sa := sa.ext hx11; replace sb := sb.ext hx11; replace su := su.ext hx11; replace sbo := sbo.ext hx11; replace sre := sre.ext hx11)
  conv => cbv
  refine st_f hr (Within_f sa sb (by omega) (by omega)) fun u w12 hx12 ⟨b, ev, hw12⟩ => ?_
  subst ev
  (replace hx := hx.trans hx12; replace sa := sa.ext hx12; replace sb := sb.ext hx12; replace su := su.ext hx12; replace sbo := sbo.ext hx12; replace sre := sre.ext hx12)
  conv => cbv
  refine st_len hE tStrs fun y2 hy2 => ?_
  conv => cbv
  refine st_bne hE uBool fun v2 hv2 => ?_
  have hE0 : E.cmp .eql y2 0 = true ↔ picked xs ys false = [] := by
    constructor
    · intro h; have := P _ _ h; exact List.eq_nil_of_length_eq_zero (by omega)
    · intro h; rw [h] at lre; simp at lre; exact T _ _ (by omega)
  obtain rfl : v2 = false := by
    rw [← Bool.not_eq_true, hv2, hw12]
    intro h; apply h
    rw [show (E.2 BinOp.eql y2 0 = true) = (E.cmp .eql y2 0 = true) from rfl, hE0]
    exact ⟨fun k => k.2.2, fun k => ⟨hX, hY, k⟩⟩
  conv => cbv
  refine st_f hr (Within_f sbo sa (by omega) (by omega)) fun u w13 hx13 ⟨b, ev, hw13⟩ => ?_
  subst ev
  obtain rfl : b = true := hw13.2 ⟨isSet_picked true hX, hX, part_in_first⟩
  (replace hx := hx.trans hx13; replace sa := sa.ext hx13; replace sb := sb.ext hx13; replace su := su.ext hx13; replace sbo := sbo.ext hx13; replace sre := sre.ext hx13)
  conv => cbv
  refine st_f hr (Within_f sbo sb (by omega) (by omega)) fun u w14 hx14 ⟨b, ev, hw14⟩ => ?_
  subst ev
  obtain rfl : b = true := hw14.2 ⟨isSet_picked true hX, hY, part_in_second⟩
  (replace hx := hx.trans hx14; replace sa := sa.ext hx14; replace sb := sb.ext hx14; replace su := su.ext hx14; replace sre := sre.ext hx14)
  clear sbo
  have on : Own w14.heap.size 9 1 w14 none 0 0 [] := Own.nil
  conv => cbv
  refine st_apps hr tStrs rfl on sb.cells (by simp [lb]) (by simp [Value.oneCell']) (Nat.le_refl _) (by omega) (by omega) fun A15 c15 m15 w15 em15 hw15 ho15 => ?_
  have hx15 : Ext w14 w15 := hw15.bel on (Nat.le_refl _)
  rw [List.nil_append] at ho15
  conv => cbv
  refine st_apps hr tStrs rfl ho15 (sa.ext hx15).cells (by simp [la]) (by simp [Value.oneCell']) hx15.size (by omega) (by omega) fun A16 c16 m16 w16 em16 hw16 ho16 => ?_
  have hx16 : Ext w14 w16 := hx15.then (hw16.bel ho15 hx15.size)
  rw [← List.map_append] at ho16
  have st := ho16.strs fun s hs => (List.mem_append.1 hs).elim (sb.small s) (sa.small s)
  (replace hx := hx.trans hx16; replace sa := sa.ext hx16; replace sb := sb.ext hx16; replace su := su.ext hx16; replace sre := sre.ext hx16)
  conv => cbv
  refine st_f hr (MakeSet_f st (by omega)) fun u w17 hx17 ⟨m, cm, A17, n17, c17, ev, hm, sm, _⟩ => ?_
  subst ev
  (replace hx := hx.trans hx17; replace sa := sa.ext hx17; replace sb := sb.ext hx17; replace su := su.ext hx17; replace sre := sre.ext hx17)
  conv => cbv
  refine st_f hr (Union_f (he.ext hx) sb sa (by omega) (by omega)) fun u w18 hx18 ⟨y, cy, A18, n18, c18, ev, hU18, sy, _⟩ => ?_
  subst ev
  (replace hx := hx.trans hx18; replace sa := sa.ext hx18; replace sb := sb.ext hx18; replace su := su.ext hx18; replace sre := sre.ext hx18; replace sm := sm.ext hx18)
  rcases three_ways hX hY hU hU18 hm with ⟨e1, e2, e3⟩ | ⟨e1, e2, e3, rfl, rfl, hSu, hmem⟩
  · conv => cbv
    refine br (fun _ => ?_) (fun g => absurd (T _ _ e1) g)
    conv => cbv
    refine br (fun _ => ?_) (fun g => absurd (T _ _ e2) g)
    conv => cbv
    rw [hR]; refine ⟨hx, ?_⟩
    have := T _ _ e3
    show Value.bool (E.cmp .eql cm 3) = _
    rw [this]
  · conv => cbv
    refine br (fun g => absurd (P _ _ g) (by omega)) (fun _ => ?_)
    conv => cbv
    refine br (fun g => absurd g (N _ _ e2)) (fun _ => ?_)
    conv => cbv
    refine br (fun g => absurd g (N _ _ e3)) (fun _ => ?_)
    conv => cbv
    refine st_qb hE (sameNames_q sy su) fun b hb1 w19 hs19 => ?_
    obtain rfl : b = true := hb1.2 rfl
    have hx19 := hs19.ext
    (replace hx := hx.trans hx19; replace sa := sa.ext hx19; replace sb := sb.ext hx19; replace su := su.ext hx19; replace sre := sre.ext hx19; replace sm := sm.ext hx19)
    conv => cbv
    refine st_qb hE (sameNames_q sm su) fun b hb1 w20 hs20 => ?_
    obtain rfl : b = true := hb1.2 rfl
    have hx20 := hs20.ext
    clear sm sy
    have lu := su.len
    have hu64 := hSu.2.2
    (replace hx := hx.trans hx20; replace sa := sa.ext hx20; replace sb := sb.ext hx20; replace su := su.ext hx20; replace sre := sre.ext hx20)
    conv => cbv
    refine st_f hr (Within_f sa su (by omega) (by omega)) fun u w21 hx21 ⟨b, ev, hw21⟩ => ?_
    subst ev
    obtain rfl : b = true := hw21.2 ⟨hX, hSu, first_in hmem⟩
    (replace hx := hx.trans hx21; replace sb := sb.ext hx21; replace su := su.ext hx21; replace sre := sre.ext hx21)
    conv => cbv
    refine st_f hr (Within_f sb su (by omega) (by omega)) fun u w22 hx22 ⟨b, ev, hw22⟩ => ?_
    subst ev
    obtain rfl : b = true := hw22.2 ⟨hY, hSu, second_in hmem⟩
    (replace hx := hx.trans hx22; replace sb := sb.ext hx22; replace su := su.ext hx22; replace sre := sre.ext hx22)
    conv => cbv
    refine st_f hr (Minus_f su sb (by omega) (by omega)) fun u w23 hx23 ⟨q, hq23, A23, n23, c23, ev, s23, _⟩ => ?_
    subst ev
    obtain rfl := less_second hX hY hSu hmem hq23
    conv => cbv
    refine st_qb hE (sameNames_q s23 (sre.ext hx23)) fun b hb1 w24 hs24 => ?_
    obtain rfl : b = true := hb1.2 rfl
    conv => cbv
    rw [hR]; exact ⟨(hx.trans hx23).trans hs24.ext, rfl⟩
end Go.Proofs.YtjaejonnbhdddaaDoor
