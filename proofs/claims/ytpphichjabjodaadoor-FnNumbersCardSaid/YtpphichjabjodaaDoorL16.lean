/- Numbers: what quotient, remainder, sum and difference give back; the law FnNumbers. -/
import Derived.Test.YtpphichjabjodaaDoorL14
import Derived.Test.YtpphichjabjodaaDoorL15
namespace Go.Proofs.YtpphichjabjodaaDoor
open Go.Eng
set_option linter.unusedVariables false
theorem CalcOf.good {op a b r c : Int} (h : CalcOf op a b r c) : fits r ∧ (c ≠ 0 → r = 0) := by
  have z : fits 0 := by simp [fits]
  have k : ∀ v, OutOf v r c → fits r ∧ (c ≠ 0 → r = 0) := fun v ho => by
    rcases ho with ⟨h1, rfl, rfl⟩ | ⟨h1, rfl, rfl⟩
    · exact ⟨h1, fun h => absurd rfl h⟩
    · exact ⟨z, fun _ => rfl⟩
  rcases h with ⟨_, h⟩ | ⟨_, h⟩ | ⟨_, h⟩ | ⟨_, _, rfl, rfl⟩ | ⟨_, _, h⟩ | ⟨_, _, h⟩ | ⟨_, rfl, rfl⟩ <;> first | exact k _ h | exact ⟨z, fun _ => rfl⟩
theorem OutOf.val {v r c : Int} (h : OutOf v r c) (hv : fits v) : r = v ∧ c = 0 := by
  rcases h with ⟨_, h1, h2⟩ | ⟨h1, _⟩
  · exact ⟨h1, h2⟩
  · exact absurd hv h1
theorem OutOf.ok {v r c : Int} (h : OutOf v r c) (hc : c = 0) : r = v ∧ fits v := by
  rcases h with ⟨h1, h2, _⟩ | ⟨_, _, h2⟩
  · exact ⟨h2, h1⟩
  · omega
theorem CalcOf.add {a b r c : Int} (h : CalcOf 1 a b r c) : OutOf (a + b) r c := by
  rcases h with ⟨_, h⟩ | ⟨h0, _⟩ | ⟨h0, _⟩ | ⟨h0, _⟩ | ⟨h0, _⟩ | ⟨h0, _⟩ | ⟨h0, _⟩ <;> first | exact h | omega
theorem CalcOf.sub {a b r c : Int} (h : CalcOf 2 a b r c) : OutOf (a - b) r c := by
  rcases h with ⟨h0, _⟩ | ⟨_, h⟩ | ⟨h0, _⟩ | ⟨h0, _⟩ | ⟨h0, _⟩ | ⟨h0, _⟩ | ⟨h0, _⟩ <;> first | exact h | omega
theorem CalcOf.mul {a b r c : Int} (h : CalcOf 3 a b r c) : OutOf (a * b) r c := by
  rcases h with ⟨h0, _⟩ | ⟨h0, _⟩ | ⟨_, h⟩ | ⟨h0, _⟩ | ⟨h0, _⟩ | ⟨h0, _⟩ | ⟨h0, _⟩ <;> first | exact h | omega
theorem CalcOf.div {a b r c : Int} (h : CalcOf 4 a b r c) (hc : c = 0) : b ≠ 0 ∧ r = a.tdiv b := by
  rcases h with ⟨h0, _⟩ | ⟨h0, _⟩ | ⟨h0, _⟩ | ⟨h0, _, _, h1⟩ | ⟨_, hb, h⟩ | ⟨h0, _⟩ | ⟨h0, _⟩ <;> first | exact ⟨hb, (h.ok hc).1⟩ | omega
theorem CalcOf.mod {a b r c : Int} (h : CalcOf 5 a b r c) (hb : b ≠ 0) (fb : fits b) : r = a.tmod b ∧ c = 0 := by
  rcases h with ⟨h0, _⟩ | ⟨h0, _⟩ | ⟨h0, _⟩ | ⟨_, h0, _⟩ | ⟨h0, _⟩ | ⟨_, _, h⟩ | ⟨h0, _⟩ <;> first | exact h.val (rem_ok fb hb) | omega
theorem part_fits {a b : Int} (ha : fits a) (hb : b ≠ 0) : fits (a.tdiv b * b) ∧ a.tdiv b * b + a.tmod b = a := by
  have h1 : a.tdiv b * b + a.tmod b = a := Int.tdiv_mul_add_tmod a b
  have h2 : (a.tmod b).natAbs ≤ a.natAbs := by rw [Int.natAbs_tmod]; exact Nat.mod_le _ _
  have h3 : 0 ≤ a → 0 ≤ a.tmod b := fun h => Int.tmod_nonneg _ h
  have h4 : a ≤ 0 → a.tmod b ≤ 0 := fun h => by
    have := Int.tmod_nonneg b (show 0 ≤ -a by omega)
    rw [Int.neg_tmod] at this; omega
  refine ⟨?_, h1⟩
  unfold fits at ha ⊢
  generalize a.tdiv b * b = p at *
  generalize a.tmod b = m at *
  omega
theorem lawNumbers (A : Option Addr) (n c : Nat) (zs : List Int) (w : World) {z o v : Addr} (he : Errs w z o v) (hb : Byts w A n c zs) : Law Tryd.prog 4 [.slice A n c] w := by
  refine FC.intro (cs := []) Tryd.func4 (by kernel_rfl) fun E R hE hr hR => ?_
  conv => cbv
  refine st_len hE tBytes fun x hx => ?_
  conv => cbv
  refine br (fun _ => ?_) (fun _ => ?_)
  · conv => cbv
    rw [hR]; exact ⟨Ext.refl _, rfl⟩
  have N : ∀ x : Int, ¬ E.cmp .neq x x = true := fun x => by rw [hE.cmp]; simp [cmpR]
  have N' : ∀ x y : Int, x = y → ¬ E.cmp .neq x y = true := fun x y h => by rw [hE.cmp]; simp [cmpR, h]
  conv => cbv
  refine st_f hr (DrawCalc_f hb) fun u w1 hx1 ⟨d, a, b, eu, ha, hb1⟩ => ?_
  subst eu
  conv => cbv
  refine loop_rule hr (fun (i : Int) w' => 1 ≤ i ∧ i ≤ 6 ∧ Ext w w') (fun i => [(0, .slice A n c), (4, .int .i64 a), (5, .int .i64 b), (6, .int .i64 i)]) (fun i => (6 - i).toNat) 1
    (by simp [Fits, lk]) ⟨by omega, by omega, hx1⟩ ?_
  rintro I hI i w2 ⟨i1, i6, hx2⟩
  conv => cbv
  refine br (fun g => ?_) (fun g => ?_)
  · have g : i ≤ 5 := by simpa [hE.cmp, cmpR] using g
    conv => cbv
    refine st_f hr (Calc_f (he.ext hx2) i a b ha hb1) fun u w3 hx3 ⟨r, k, eu, hk⟩ => ?_
    subst eu
    conv => cbv
    refine st_f hr (sCalc_f i a b ha hb1) fun u w4 hx4 ⟨r', k', eu, hk'⟩ => ?_
    subst eu
    obtain ⟨rfl, rfl⟩ := hk.same hk'
    obtain ⟨i', hi'⟩ : ∃ j, j = i + 1 := ⟨_, rfl⟩
    have e1 : E.ar .add .i64 i 1 = i' := by rw [hE.ar, hi']; exact wrap_in (by omega) (by omega)
    have fin : ∃ s', Fits [(0, .slice A n c), (4, .int .i64 a), (5, .int .i64 b), (6, .int .i64 s')] [(6, .int .i64 i'), (0, .slice A n c), (4, .int .i64 a), (5, .int .i64 b)] ∧ I s' w4 ∧ (6 - s').toNat < (6 - i).toNat :=
      ⟨i', by simp [Fits, lk], hI _ _ ⟨by omega, by omega, (hx2.trans hx3).trans hx4⟩, by omega⟩
    conv => cbv
    refine br (fun k => absurd k (N _)) (fun _ => ?_)
    conv => cbv
    refine br (fun k => absurd k (N _)) (fun _ => ?_)
    conv => cbv
    refine br (fun g2 => ?_) (fun g2 => ?_)
    · have g2 : k ≠ 0 := by simpa [hE.cmp, cmpR] using g2
      conv => cbv
      refine br (fun k => absurd k (N' _ _ (hk.good.2 g2))) (fun _ => ?_)
      conv => cbv
      simp only [e1]
      exact ⟨i', by simp [Fits, lk], hI _ _ ⟨by omega, by omega, (hx2.trans hx3).trans hx4⟩, by omega⟩
    · conv => cbv
      simp only [e1]
      exact ⟨i', by simp [Fits, lk], hI _ _ ⟨by omega, by omega, (hx2.trans hx3).trans hx4⟩, by omega⟩
  have P : ∀ x y : Int, E.cmp .eql x y = true → x = y := fun x y h => by rw [hE.cmp] at h; simpa [cmpR] using h
  conv => cbv
  refine st_f hr (Calc_f (he.ext hx2) 4 a b ha hb1) fun u w3 hx3 ⟨q, cq, eu, hq⟩ => ?_
  subst eu
  replace hx2 := hx2.trans hx3
  conv => cbv
  refine st_f hr (Calc_f (he.ext hx2) 5 a b ha hb1) fun u w4 hx4 ⟨r, cr, eu, hr5⟩ => ?_
  subst eu
  replace hx2 := hx2.trans hx4
  conv => cbv
  refine br (fun g => ?_) (fun g => ?_)
  · have g : cq = 0 := P _ _ g
    obtain ⟨b0, eq1⟩ := hq.div g
    obtain ⟨eq2, eq3⟩ := hr5.mod b0 hb1
    obtain ⟨pf, ps⟩ := part_fits ha b0
    rw [← eq1] at pf ps
    rw [← eq2] at ps
    conv => cbv
    refine st_f hr (Calc_f (he.ext hx2) 3 q b hq.good.1 hb1) fun u w5 hx5 ⟨p, cp, eu, hp⟩ => ?_
    subst eu
    replace hx2 := hx2.trans hx5
    obtain ⟨ep, ecp⟩ := hp.mul.val pf
    conv => cbv
    refine st_f hr (Calc_f (he.ext hx2) 1 p r hp.good.1 hr5.good.1) fun u w6 hx6 ⟨s, cs, eu, hs⟩ => ?_
    subst eu
    replace hx2 := hx2.trans hx6
    obtain ⟨es, ecs⟩ := hs.add.val (by rw [ep, ps]; exact ha)
    conv => cbv
    refine br (fun k => absurd k (N' _ _ eq3)) (fun _ => ?_)
    conv => cbv
    refine br (fun k => absurd k (N' _ _ ecp)) (fun _ => ?_)
    conv => cbv
    refine br (fun k => absurd k (N' _ _ ecs)) (fun _ => ?_)
    conv => cbv
    refine br (fun k => absurd k (N' _ _ (by rw [es, ep, ps]))) (fun _ => ?_)
    conv => cbv
    refine st_f hr (Calc_f (he.ext hx2) 1 a b ha hb1) fun u w7 hx7 ⟨s2, cs2, eu, hs2⟩ => ?_
    subst eu
    replace hx2 := hx2.trans hx7
    conv => cbv
    refine br (fun g => ?_) (fun g => ?_)
    · have g : cs2 = 0 := P _ _ g
      obtain ⟨v2, f2⟩ := hs2.add.ok g
      conv => cbv
      refine st_f hr (Calc_f (he.ext hx2) 2 s2 b hs2.good.1 hb1) fun u w8 hx8 ⟨d2, cd2, eu, hd2⟩ => ?_
      subst eu
      replace hx2 := hx2.trans hx8
      obtain ⟨v3, v4⟩ := hd2.sub.val (by rw [v2]; rw [show a + b - b = a by omega]; exact ha)
      conv => cbv
      refine br (fun k => absurd k (N' _ _ v4)) (fun _ => ?_)
      conv => cbv
      refine br (fun k => absurd k (N' _ _ (by rw [v3, v2]; omega))) (fun _ => ?_)
      conv => cbv
      rw [hR]; exact ⟨hx2, rfl⟩
    · conv => cbv
      rw [hR]; exact ⟨hx2, rfl⟩
  · skip
    conv => cbv
    refine st_f hr (Calc_f (he.ext hx2) 1 a b ha hb1) fun u w7 hx7 ⟨s2, cs2, eu, hs2⟩ => ?_
    subst eu
    replace hx2 := hx2.trans hx7
    conv => cbv
    refine br (fun g => ?_) (fun g => ?_)
    · have g : cs2 = 0 := P _ _ g
      obtain ⟨v2, f2⟩ := hs2.add.ok g
      conv => cbv
      refine st_f hr (Calc_f (he.ext hx2) 2 s2 b hs2.good.1 hb1) fun u w8 hx8 ⟨d2, cd2, eu, hd2⟩ => ?_
      subst eu
      replace hx2 := hx2.trans hx8
      obtain ⟨v3, v4⟩ := hd2.sub.val (by rw [v2]; rw [show a + b - b = a by omega]; exact ha)
      conv => cbv
      refine br (fun k => absurd k (N' _ _ v4)) (fun _ => ?_)
      conv => cbv
      refine br (fun k => absurd k (N' _ _ (by rw [v3, v2]; omega))) (fun _ => ?_)
      conv => cbv
      rw [hR]; exact ⟨hx2, rfl⟩
    · conv => cbv
      rw [hR]; exact ⟨hx2, rfl⟩
end Go.Proofs.YtpphichjabjodaaDoor
