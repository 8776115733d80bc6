/- Texts that the law FnExactCompile leans on, part 7 of 7: contracts of the functions that it reaches and plain lemmas. Each holds under the conditions that it states. -/
import Derived.Test.YtgdnmpcaiaoaoaaGreatDoorMFnExactCompile6
import Derived.Test.YtgdnmpcaiaoaoaaGreatDoorTie
import Derived.Test.YtgdnmpcaiaoaoaaGreatDoorCards
import Derived.SevenTiedAt
import Derived.LaidMore
import Derived.Stop.Joined
import Derived.Stop.LaidTwo
import Derived.Lay
import Derived.HandedShaped
/- The reference's Compile walked. -/
namespace Go.Proofs.YtgdnmpcaiaoaoaaGreatDoor
open Go.Eng
set_option linter.unusedVariables false
set_option linter.unusedSimpArgs false
theorem typed_ex {nv : List PN} {sv : List PS} {tyl : List Int} (h : wellP nv sv tyl) : ∃ acc y, TypedP nv sv tyl acc y := by
  obtain ⟨⟨a1, a2, a3, acc, hrun⟩, hall⟩ := wellP_iff.1 h
  obtain ⟨y, h1, h2⟩ := hall acc hrun
  exact ⟨acc, y, ⟨a1, a2, a3⟩, hrun, h1, h2⟩
theorem blk_mk {b g : Nat} (h : blk (some ⟨b, 0, none⟩) = some g) : g = b := by simp [Eng.blk, Value.ownBlock] at h; omega
set_option maxHeartbeats 16000000 in
theorem specCompile_f {w : World} {A A2 A3 : Option Addr} {n c n2 c2 n3 c3 : Nat} {nv : List PN} {sv : List PS} {tyl : List Int} (h : TypR w A n A2 n2 A3 n3 c3 nv sv tyl) (hn : n ≤ 9223372036854775807) (hn2 : n2 ≤ 9223372036854775807) :
    FC Tryz.prog 19 [typV A n c A2 n2 c2 A3 n3 c3] w fun v w' => ∃ x, CodO w.heap.size w' v x ∧ CodeP nv sv tyl x := by
  refine FC.intro (cs := [12, 18, 21, 43]) Tryz.func19 (by kernel_rfl) fun E R hE hr hR => ?_
  have hlN := h.pol.nodes.len
  have hlS := h.pol.stmts.len
  conv => cbv
  refine st_box hr fun a w1 hx hb0 => ?_
  have hb := hb0 _ (Nat.le_refl _)
  clear hb0
  conv => cbv
  refine st_alloc hr tIC rfl fun q2 w2 hx2 hq0 => ?_
  have hq2 := hq0 _ hx.size
  clear hq0
  replace hb := hb.bel hx2
  replace hx := hx.trans hx2
  clear hx2
  conv => cbv
  refine st_loadS hE tITyp rfl hb.at ?_
  conv => cbv
  refine st_f hr (specWellTyped_f (c := c) (c2 := c2) (h.ext hx) hn hn2) fun v w3 hx3 ⟨b, ev, h1⟩ => ?_
  subst ev
  replace hb := hb.bel hx3
  replace hq2 := hq2.bel hx3
  replace hx := hx.trans hx3
  clear hx3
  cases b with
  | false =>
    conv => cbv
    refine st_bIC hE ?_
    conv => cbv
    refine st_putS hr (by kernel_rfl) hq2 (add_zero _).symm (by simp) (by simp [Value.oneCell']) fun w4 hw4 hq4 => ?_
    simp only [List.take_zero, List.nil_append, List.length_cons, List.length_nil, List.drop_succ_cons, List.drop_nil, List.append_nil] at hq4
    conv => cbv
    refine st_cell hr tIC rfl hq4.at ?_
    rw [hR]
    exact ⟨hx.then (hw4.bel hq2 hx.size), (0, ⟨[], []⟩), ⟨none, 0, 0, none, 0, 0, [], rfl, CdO.nil, rfl⟩, .inl ⟨fun q => absurd (h1.2 q) Bool.false_ne_true, rfl⟩⟩
  | true =>
  have hw := h1.1 rfl
  clear h1
  obtain ⟨acc, y, hTy⟩ := typed_ex hw
  obtain ⟨k1, k2, k3, k4⟩ := typed_ok hw hTy
  obtain ⟨⟨p1, p2, p3, p4, p5, _⟩, _⟩ := id hw
  obtain ⟨pts, q1, q2', q3, q4, q5⟩ := runS_full leafT_6 leafT_7 sv hTy.2.1
  rw [List.nil_append] at q1
  subst q1
  obtain ⟨F, hF⟩ : ∃ F, F = cmpP (sv.zip acc) 0 ⟨[], []⟩ := ⟨_, rfl⟩
  have hcp : CodeP nv sv tyl F := .inr ⟨hw, acc, y, hTy, hF⟩
  have hF2 := cmp_eq (sv.zip acc) 0 [] (okS_of k1)
  rw [show passR [] ⟨[], []⟩ = (⟨[], []⟩ : CS) from rfl, ← hF] at hF2
  conv => cbv
  refine st_bIC hE ?_
  conv => cbv
  refine st_alloc hr tIC rfl fun q4 w4 hx4 hq0 => ?_
  conv => cbv
  refine st_putS hr (by kernel_rfl) (hq0 _ (Nat.le_refl _)) (add_zero _).symm (by simp) (by simp [Value.oneCell']) fun w5 hw5 hq4 => ?_
  simp only [List.take_zero, List.nil_append, List.length_cons, List.length_nil, List.drop_succ_cons, List.drop_nil, List.append_nil] at hq4
  have hx45 := hx4.then (hw5.bel (hq0 _ (Nat.le_refl _)) hx4.size)
  have haq := dj_new hb (hq0 _ (Nat.le_refl _)) (Nat.le_refl _)
  have hqq := dj_new hq2 (hq0 _ (Nat.le_refl _)) (Nat.le_refl _)
  have f4 := bx_form hq4
  replace hb := hb.bel hx45
  conv => cbv
  (refine st_fld hE fITyp1 fun p hp => ?_; (conv => cbv); refine st_load hE cISs (by rw [hp]; exact (hb).at _ _ rfl) ?_; clear hp; (conv => cbv))
  refine st_len hE sISd fun x1 hx1 => ?_
  conv => cbv
  have hqe : blk (some q4) = some q4.block := f4.2.2
  have hql : w3.heap.size ≤ q4.block := f4.1
  have hqs : q4.block < w5.heap.size := f4.2.1
  obtain ⟨V, hV⟩ : ∃ V, V = cmpL (sv.zip acc) 0 [] := ⟨_, rfl⟩
  rw [← hV] at hF2
  have h3 := h.ext hx
  have hb3 := hb
  have hm2 : Match sv acc := q2'
  have hla : acc.length = sv.length := k3
  refine loop_rulec [12, 18, 21] hr (fun (s : Nat × Int × Option Addr × Nat × Nat × Int × List RI) w' => s.1 ≤ n2 ∧ s.2.1 = (s.1 : Int) ∧ Ext w3 w' ∧ w5.heap.size ≤ w'.heap.size ∧ LA w5.heap.size q4 w' s.2.2.1 s.2.2.2.1 s.2.2.2.2.1 s.2.2.2.2.2.2 ∧
      Box w3.heap.size 51 3 w' q4 [.slice none 0 0, .int .i64 s.2.2.2.2.2.1, .slice none 0 0] ∧ Box w.heap.size 31 3 w' a [.slice A n c, .slice A2 n2 c2, .slice A3 n3 c3] ∧ cmpL ((sv.zip acc).drop s.1) s.2.2.2.2.2.1 s.2.2.2.2.2.2 = V ∧ 0 ≤ s.2.2.2.2.2.1 ∧ s.2.2.2.2.2.1 ≤ s.1 ∧ s.2.2.2.2.2.2.length ≤ szTs ((acc.take s.1).flatMap trs) + 2 * s.1)
    (fun s => [(1, .pointer (some a)), (2, .pointer (some q2)), (3, .slice s.2.2.1 s.2.2.2.1 s.2.2.2.2.1), (4, .pointer (some q4)), (22, .slice A2 n2 c2), (23, .int .i64 x1), (24, .int .i64 s.2.1)]) (fun s => n2 - s.1) (0, 0, none, 0, 0, 0, [])
    (by simp [Fits, lk]) ⟨by simp, by simp, hx45, Nat.le_refl _, ⟨[], Own.nil, trivial⟩, hq4, hb, by simp [hV], by simp, by simp, by simp⟩ ?_
  clear hq4 hb
  rintro I hI ⟨j, jj, AL, mL, cL, sl, all⟩ w' ⟨hj, hjj, hx', hws, hLA, hq4, hb, hcm, hs0, hs1, hal⟩
  simp only at hj hjj hLA hq4 hcm hs0 hs1 hal
  obtain ⟨jk, hjk⟩ : ∃ z, z = jj + 1 := ⟨_, rfl⟩
  conv => cbv
  refine br (fun g => ?_) (fun g => ?_)
  · have g : j < n2 := by
      have : jj < x1 := by simpa [hE.cmp, cmpR] using g
      omega
    have ej : E.ar .add .i64 jj 1 = jk := by rw [hE.ar, hjk]; exact wrap_in (by omega) (by omega)
    obtain ⟨ad, v, hA, hg, hc, hok⟩ := (h3.pol.stmts.ext hx').get g
    obtain ⟨pt, hpt⟩ : ∃ pt, acc[j]? = some pt := ⟨_, List.getElem?_eq_getElem (by omega)⟩
    obtain ⟨mc, mg⟩ := hm2.2 j _ _ hg hpt
    obtain ⟨tc, tg⟩ := tree_at hm2 k4 j _ _ hg hpt
    have hst := k1 (v, pt) (List.mem_of_getElem? (by simp [List.getElem?_zip_eq_some, hg, hpt] : (sv.zip acc)[j]? = some (v, pt)))
    have hcon : ∀ t ∈ trs pt, conT t := fun t ht => conTs_mem (ists_con k4) (List.mem_flatMap.2 ⟨pt, List.mem_of_getElem? hpt, ht⟩)
    have hzt : szTs ((acc.take (j + 1)).flatMap trs) = szTs ((acc.take j).flatMap trs) + szTs (trs pt) := by rw [List.take_add_one, hpt, List.flatMap_append, szTs_append]; simp
    have hzl : szTs ((acc.take (j + 1)).flatMap trs) ≤ 12000 := by
      have e3 : acc = acc.take (j + 1) ++ acc.drop (j + 1) := (List.take_append_drop _ _).symm
      have e4 := szTs_pos (acc.flatMap trs)
      have e5 : szTs (acc.flatMap trs) = szTs ((acc.take (j + 1)).flatMap trs) + szTs ((acc.drop (j + 1)).flatMap trs) := by conv => lhs; rw [e3, List.flatMap_append, szTs_append]
      omega
    rw [show (sv.zip acc).drop j = (v, pt) :: (sv.zip acc).drop (j + 1) from drop_cons (by simp [List.getElem?_zip_eq_some, hg, hpt])] at hcm
    obtain ⟨k, nm, cc, gg⟩ := v
    obtain ⟨ptc, ptg⟩ := pt
    have hkk := hst.k
    have hkc := hst.c
    have hko := hst.ok
    simp only at mc mg tc tg hkk hkc
    simp only [trs] at hko hcon
    have ez : szTs (trs ⟨ptc, ptg⟩) = szTs ptc.toList + szTs ptg.toList := by cases ptc <;> cases ptg <;> simp [trs, szTs]
    rw [ez] at hzt
    obtain ⟨a1, ha1⟩ : ∃ a1, a1 = (match ptc with | none => all | some t => all ++ refT t all.length) := ⟨_, rfl⟩
    have hl1 : a1.length = all.length + szTs ptc.toList := by
      rw [ha1]
      cases ptc with
      | none => simp [szTs]
      | some t => simp only; rw [List.length_append, refT_len t _ (hko t (by simp)).1]; simp [szTs]
    have hcm1 : (if k = 1 then cmpL ((sv.zip acc).drop (j + 1)) (sl + 1) (a1 ++ [.ins 4 sl]) else if k = 2 then cmpL ((sv.zip acc).drop (j + 1)) sl (a1 ++ [.ins 23 ((a1.length + 1 + (decL ptg (a1.length + 1)).length : Nat) : Int)] ++ decL ptg (a1.length + 1)) else cmpL ((sv.zip acc).drop (j + 1)) sl (a1 ++ decL ptg a1.length)) = V := by
      cases ptc <;> (simp only [cmpL] at hcm; rw [← hcm, ha1])
    have hdl : ∀ at_, (decL ptg at_).length = szTs ptg.toList + 1 := fun at_ => by
      cases ptg with
      | none => simp [decL, szTs]
      | some t => simp only [decL]; rw [List.length_append, refT_len t _ (hko t (by simp)).1]; simp [szTs]
    clear hcm
    have hjn : jj.toNat = j := by omega
    have hlL := hLA.len
    conv => cbv
    refine st_idx hE sISd hA (by omega) (by omega) fun q hq => ?_
    rw [hjn] at hq
    conv => cbv
    refine st_loadS hE tISd (vs := [.int .i64 k, .string nm, .int .i64 cc, .int .i64 gg]) rfl (by rw [hq]; exact hc) ?_
    conv => cbv
    refine st_alloc hr tISd rfl fun q6 w6 hx6 hq0 => ?_
    conv => cbv
    refine st_putS hr (by kernel_rfl) (hq0 _ (Nat.le_refl _)) (add_zero _).symm (by simp) (by simp [Value.oneCell']) fun w7 hw7 h6 => ?_
    simp only [List.take_zero, List.nil_append, List.length_cons, List.length_nil, List.drop_succ_cons, List.drop_nil, List.append_nil] at h6
    have hx7 := hx6.then (hw7.bel (hq0 _ (Nat.le_refl _)) hx6.size)
    clear hx6 hq0 hw7 hq hc
    have hx07 := hx'.trans hx7
    have hws7 := Nat.le_trans hws hx7.size
    have d6 : Dj (some q6) AL := hLA.dn h6 (Nat.le_refl _)
    replace hLA := hLA.ext hx7
    have hb7 := hb.bel hx7
    have hq47 := hq4.bel hx7
    clear hb hq4
    have djq : ∀ {wz : World} {X : Option Addr} {m c : Nat} {l : List RI}, LA w5.heap.size q4 wz X m c l → Dj (some q4) X := fun hL => hL.dj fun g hg => by rw [hqe] at hg; cases hg; exact hqs
    have dja : ∀ {wz : World} {X : Option Addr} {m c : Nat} {l : List RI}, LA w5.heap.size q4 wz X m c l → Dj (some a) X := fun hL => hL.dj fun g hg => by have := (own_blk hb3 g hg).2; omega
    conv => cbv
    refine st_len hE s5I fun x8 hx8 => ?_
    conv => cbv
    refine cut_rule [] [18, 21] hr (fun (s : Option Addr × Nat × Nat) wy => Ext w3 wy ∧ w'.heap.size ≤ wy.heap.size ∧ LA w5.heap.size q4 wy s.1 s.2.1 s.2.2 a1 ∧ Box w3.heap.size 51 3 wy q4 [.slice none 0 0, .int .i64 sl, .slice none 0 0] ∧ Box w.heap.size 31 3 wy a [.slice A n c, .slice A2 n2 c2, .slice A3 n3 c3] ∧ Box w'.heap.size 117 4 wy q6 [.int .i64 k, .string nm, .int .i64 cc, .int .i64 gg] ∧ Dj (some q6) s.1)
      (fun s => [(1, .pointer (some a)), (2, .pointer (some q2)), (3, .slice s.1 s.2.1 s.2.2), (4, .pointer (some q4)), (6, .pointer (some q6)), (7, .slice none 0 0), (22, .slice A2 n2 c2), (23, .int .i64 x1), (24, .int .i64 jj)]) (fun J hJ => ?_) ?_
    · conv => cbv
      (refine st_fld hE fISd2 fun p hp => ?_; (conv => cbv); refine st_load hE cInt (by rw [hp]; exact (h6).at _ _ rfl) ?_; clear hp; (conv => cbv))
      refine br (fun g2 => ?_) (fun g2 => ?_)
      · have g2 : 0 ≤ cc := by simpa [hE.cmp, cmpR] using g2
        obtain ⟨t, ht⟩ : ∃ t, ptc = some t := Option.isSome_iff_exists.1 (mc.2 g2)
        subst ht
        obtain ⟨kn, a', hkn, hI1⟩ := tc t rfl
        have hok1 := (hko t (by simp)).1
        have hfew1 := (hko t (by simp)).2
        have hcon1 := hcon t (by simp)
        have hz1 : szTs (some t).toList = szT t := by simp [szTs]
        have hg1 := szT_ge t
        conv => cbv
        (refine st_fld hE fITyp0 fun p hp => ?_; (conv => cbv); refine st_load hE cINs (by rw [hp]; exact (hb7).at _ _ rfl) ?_; clear hp; (conv => cbv))
        (refine st_fld hE fISd2 fun p hp => ?_; (conv => cbv); refine st_load hE cInt (by rw [hp]; exact (h6).at _ _ rfl) ?_; clear hp; (conv => cbv))
        have hof := l4of_f (cN' := c) h3.pol.nodes (by omega) p4 kn a' (kn + 1) t hI1 w7 hx07
        rw [← hkn] at hof
        refine st_f hr hof fun r w8 hx8' ⟨cv, ev, hcv⟩ => ?_
        subst ev
        have hDk : ∀ b, DB w3.heap.size w7.heap.size w8 b → b < w8.heap.size := fun b hb => db_lt (Nat.le_trans hx07.size hx8'.size) hb
        have h5t := l5tree_f (dep t) t cv w8 _ (Nat.le_refl _) hcv hDk hok1 hcon1 hfew1 x8 all.length (by omega) (by omega)
        obtain ⟨va, vb, vc, vd, ve⟩ := cv
        conv => cbv
        refine st_f hr h5t fun r w9 hx9 ⟨A9, m9, c9, ev, xs9, ho9, hr9⟩ => ?_
        subst ev
        have l9 := (show LR w8 w9 (DB w3.heap.size w7.heap.size w8) A9 m9 c9 (refT t all.length) from ⟨xs9, ho9, hr9⟩).len
        rw [refT_len t _ hok1] at l9
        have xl9 := ho9.len
        rw [fl_len iV_len] at xl9
        have hx79 := hx8'.trans hx9
        conv => cbv
        refine st_appA hr (hLA.ext hx79) (hx07.trans hx79) hx45.size (Nat.le_trans hws7 hx79.size) (ys := xs9) ho9.cells (LA.lr hqs hql hLA hws7 hx9 (Nat.le_trans hx07.size hx8'.size) hr9) (by omega) (by omega) (by omega) fun AA cA mA wA hmA hxA hwA hdA hLA2 => ?_
        conv => cbv
        refine ⟨(AA, mA, cA), by simp [Fits, lk], hJ _ _ ⟨hxA, Nat.le_trans hx7.size (Nat.le_trans hx79.size hwA.size), by rw [ha1]; exact hLA2, (hq47.bel hx79).wr hwA (dj_apart (hq47.bel hx79) (djq hLA)), (hb7.bel hx79).wr hwA (dj_apart (hb7.bel hx79) (dja hLA)), (h6.bel hx79).wr hwA (dj_apart (h6.bel hx79) d6), hdA _ d6 fun g hg => (own_blk (h6.bel hx79) g hg).2⟩⟩
      · have g2 : ¬ 0 ≤ cc := by simpa [hE.cmp, cmpR] using g2
        have hp : ptc = none := by
          cases ptc with
          | none => rfl
          | some t => exact absurd (mc.1 rfl) g2
        subst hp
        conv => cbv
        exact ⟨(AL, mL, cL), by simp [Fits, lk], hJ _ _ ⟨hx07, hx7.size, by rw [ha1]; exact hLA, hq47, hb7, h6, d6⟩⟩
    · rintro ⟨AY, mY, cY⟩ wy ⟨hxy, hwy, hLy, hqy, hby, h6y, d6y⟩
      simp only at hLy d6y
      have hlY := hLy.len
      have hwsy := Nat.le_trans hws hwy
      conv => cbv
      (refine st_fld hE fISd0 fun p hp => ?_; (conv => cbv); refine st_load hE cInt (by rw [hp]; exact (h6y).at _ _ rfl) ?_; clear hp; (conv => cbv))
      by_cases e1 : k = 1
      · refine br (fun _ => ?_) (fun q => absurd e1 (by simpa [hE.cmp, cmpR] using q))
        rw [if_pos e1] at hcm1
        conv => cbv
        (refine st_fld hE fIC1 fun p hp => ?_; (conv => cbv); refine st_load hE cInt (by rw [hp]; exact (hqy).at _ _ rfl) ?_; clear hp; (conv => cbv))
        refine st_bLI2 hE ?_
        conv => cbv
        refine st_oneS hr s5I rfl (by omega) (by omega) rfl fun Aa wa hxa hca => ?_
        conv => cbv
        refine st_appA hr (hLy.ext hxa) (hxy.trans hxa) hx45.size (Nat.le_trans hwsy hxa.size) (ys := [⟨4, sl, v0V⟩]) (l2 := [.ins 4 sl]) (by simpa [iV, v0V] using hca) (one5 (rim_ins (by omega))) rfl (by omega) (by omega) fun AA cA mA wA hmA hxA hwA hdA hLA2 => ?_
        have hqA := (hqy.bel hxa).wr hwA (dj_apart (hqy.bel hxa) (djq hLy))
        have hbA := (hby.bel hxa).wr hwA (dj_apart (hby.bel hxa) (dja hLy))
        conv => cbv
        (refine st_fld hE fIC1 fun p hp => ?_; (conv => cbv); refine st_load hE cInt (by rw [hp]; exact (hqA).at _ _ rfl) ?_; clear hp; (conv => cbv))
        obtain ⟨sk, hsk⟩ : ∃ zq : Int, zq = sl + 1 := ⟨_, rfl⟩
        have es : E.ar .add .i64 sl 1 = sk := by rw [hE.ar, hsk]; exact wrap_in (by omega) (by omega)
        refine st_fld hE fIC1 fun p2 hp2 => ?_
        conv => cbv
        simp only [es]
        refine st_put hr zInt hqA (p := p2) (j := 1) hp2 (by simp) rfl fun wB hwB hqB => ?_
        simp only [List.set_cons_zero, List.set_cons_succ] at hqB
        conv => cbv
        simp only [ej]
        exact ⟨(j + 1, jk, AA, mA, cA, sk, a1 ++ [.ins 4 sl]), by simp [Fits, lk], hI _ _ ⟨by simp only; omega, by simp only; omega, hxA.then (hwB.bel hqA hxA.size), Nat.le_trans hwsy (Nat.le_trans hxa.size (Nat.le_trans hwA.size hwB.size)), hLA2.wrq hqe hqs hwB, hqB, hbA.wr hwB (dj_apart hbA haq), by simp only; rw [hsk]; exact hcm1, by simp only; omega, by simp only; omega, by simp only [List.length_append, List.length_cons, List.length_nil]; omega⟩, by simp only; omega⟩
      · refine br (fun q => absurd (by simpa [hE.cmp, cmpR] using q) e1) (fun _ => ?_)
        rw [if_neg e1] at hcm1
        conv => cbv
        refine st_len hE s5I fun x9 hx9 => ?_
        conv => cbv
        obtain ⟨atn, hatn⟩ : ∃ z : Nat, z = a1.length + (if k = 2 then 1 else 0) := ⟨_, rfl⟩
        refine cut_rule [] [21] hr (fun (s : Int) wz => s = atn ∧ wz = wy) (fun s => [(1, .pointer (some a)), (2, .pointer (some q2)), (3, .slice AY mY cY), (4, .pointer (some q4)), (6, .pointer (some q6)), (9, .int .i64 s), (22, .slice A2 n2 c2), (23, .int .i64 x1), (24, .int .i64 jj)]) (fun J hJ => ?_) ?_
        · conv => cbv
          (refine st_fld hE fISd0 fun p hp => ?_; (conv => cbv); refine st_load hE cInt (by rw [hp]; exact (h6y).at _ _ rfl) ?_; clear hp; (conv => cbv))
          by_cases e2 : k = 2
          · refine br (fun _ => ?_) (fun q => absurd e2 (by simpa [hE.cmp, cmpR] using q))
            rw [if_pos e2] at hatn
            obtain ⟨x10, hx10⟩ : ∃ zq : Int, zq = x9 + 1 := ⟨_, rfl⟩
            have es : E.ar .add .i64 x9 1 = x10 := by rw [hE.ar, hx10]; exact wrap_in (by omega) (by omega)
            conv => cbv
            simp only [es]
            exact ⟨x10, by simp [Fits, lk], hJ _ _ ⟨by omega, rfl⟩⟩
          · refine br (fun q => absurd (by simpa [hE.cmp, cmpR] using q) e2) (fun _ => ?_)
            rw [if_neg e2] at hatn
            conv => cbv
            exact ⟨x9, by simp [Fits, lk], hJ _ _ ⟨by omega, rfl⟩⟩
        · rintro atz wz ⟨hat, ewz⟩
          rw [ewz]
          have hat2 : atn ≤ a1.length + 1 := by rw [hatn]; split <;> omega
          conv => cbv
          refine st_bLI1 hE ?_
          conv => cbv
          refine st_litsK hr s5I rfl (by omega) (m := 1) rfl (by omega) (by omega) rfl (by simp [Value.cells]) (cs := iV ⟨24, 0, v0V⟩) (by simp [Value.cells, iV, v0V]) fun AD wd hxd hod0 => ?_
          have hod := hod0 _ (Nat.le_refl _)
          clear hod0
          have hbd := hby.bel hxd
          have h6d := h6y.bel hxd
          have hxyd := hxy.trans hxd
          conv => cbv
          refine cut_rule [] [] hr (fun (s : Option Addr × Nat × Nat) we => Ext wy we ∧ ∃ xs : List VI, Own wy.heap.size 126 6 we s.1 s.2.1 s.2.2 (xs.flatMap iV) ∧ RIMs (DB w3.heap.size wy.heap.size we) we (decL ptg atn) xs)
            (fun s => [(1, .pointer (some a)), (2, .pointer (some q2)), (3, .slice AY mY cY), (4, .pointer (some q4)), (6, .pointer (some q6)), (7, .slice s.1 s.2.1 s.2.2), (9, .int .i64 atz), (22, .slice A2 n2 c2), (23, .int .i64 x1), (24, .int .i64 jj)]) (fun J hJ => ?_) ?_
          · conv => cbv
            (refine st_fld hE fISd3 fun p hp => ?_; (conv => cbv); refine st_load hE cInt (by rw [hp]; exact (h6d).at _ _ rfl) ?_; clear hp; (conv => cbv))
            refine br (fun g2 => ?_) (fun g2 => ?_)
            · have g2 : 0 ≤ gg := by simpa [hE.cmp, cmpR] using g2
              obtain ⟨t, ht⟩ : ∃ t, ptg = some t := Option.isSome_iff_exists.1 (mg.2 g2)
              subst ht
              obtain ⟨kn, a', hkn, hI1⟩ := tg t rfl
              have hok1 := (hko t (by simp)).1
              have hfew1 := (hko t (by simp)).2
              have hcon1 := hcon t (by simp)
              have hz1 : szTs (some t).toList = szT t := by simp [szTs]
              have hg1 := szT_ge t
              conv => cbv
              (refine st_fld hE fITyp0 fun p hp => ?_; (conv => cbv); refine st_load hE cINs (by rw [hp]; exact (hbd).at _ _ rfl) ?_; clear hp; (conv => cbv))
              (refine st_fld hE fISd3 fun p hp => ?_; (conv => cbv); refine st_load hE cInt (by rw [hp]; exact (h6d).at _ _ rfl) ?_; clear hp; (conv => cbv))
              have hof := l4of_f (cN' := c) h3.pol.nodes (by omega) p4 kn a' (kn + 1) t hI1 wd hxyd
              rw [← hkn] at hof
              refine st_f hr hof fun r w8 hx8' ⟨cv, ev, hcv⟩ => ?_
              subst ev
              have hDk : ∀ b, DB w3.heap.size wd.heap.size w8 b → b < w8.heap.size := fun b hb => db_lt (Nat.le_trans hxyd.size hx8'.size) hb
              have h5t := l5tree_f (dep t) t cv w8 _ (Nat.le_refl _) hcv hDk hok1 hcon1 hfew1 atz atn hat (by omega)
              obtain ⟨va, vb, vc, vd, ve⟩ := cv
              conv => cbv
              refine st_f hr h5t fun r w9 hx9' ⟨A9, m9, c9, ev, hL9⟩ => ?_
              subst ev
              have l9 := hL9.len
              rw [refT_len t _ hok1] at l9
              conv => cbv
              refine st_bLI1 hE ?_
              conv => cbv
              refine st_oneS hr s5I rfl (by omega) (by omega) rfl fun Aa wa hxa hca => ?_
              conv => cbv
              refine st_app5 hr hDk (hL9.keep (fun b hb => Nat.lt_of_lt_of_le (hDk b hb) hx9'.size) hxa) (hx9'.trans hxa) (ys := [⟨25, 0, v0V⟩]) (l2 := [.ins 25 0]) (by simpa [iV, v0V] using hca) (one5 (rim_ins (by omega))) rfl (by omega) (by omega) fun AA cA mA wA hmA hxA hLA2 => ?_
              conv => cbv
              obtain ⟨xs, ho, hrr⟩ := hLA2
              have hs8 := hx8'.size
              have hsd := hxd.size
              have hsA := hxA.size
              exact ⟨(AA, mA, cA), by simp [Fits, lk], hJ _ _ ⟨(hxd.trans hx8').trans hxA, xs, ho.mono (by omega), hrr.keep (fun b hb => rfl) (fun b hb => by rcases hb with hb | hb; exact .inl hb; exact .inr ⟨by omega, by omega⟩)⟩⟩
            · have g2 : ¬ 0 ≤ gg := by simpa [hE.cmp, cmpR] using g2
              have hp : ptg = none := by
                cases ptg with
                | none => rfl
                | some t => exact absurd (mg.1 rfl) g2
              subst hp
              conv => cbv
              exact ⟨(AD, 1, 1), by simp [Fits, lk], hJ _ _ ⟨hxd, [⟨24, 0, v0V⟩], by simpa using hod, one5 (rim_ins (by omega))⟩⟩
          · rintro ⟨AE, mE, cE⟩ we ⟨hxe, xsE, hoE, hrE⟩
            simp only at hoE
            have hdlE := hdl atn
            have hlE := hoE.len
            rw [fl_len iV_len] at hlE
            have hlE2 := hrE.len
            have hxye := hxy.trans hxe
            have h6e := h6y.bel hxe
            have hse := Nat.le_trans hwsy hxe.size
            have dEY : Dj AE AY := hLy.dn hoE (Nat.le_refl _)
            conv => cbv
            (refine st_fld hE fISd0 fun p hp => ?_; (conv => cbv); refine st_load hE cInt (by rw [hp]; exact (h6e).at _ _ rfl) ?_; clear hp; (conv => cbv))
            by_cases e2 : k = 2
            · refine br (fun _ => ?_) (fun q => absurd e2 (by simpa [hE.cmp, cmpR] using q))
              rw [if_pos e2] at hatn hcm1
              conv => cbv
              refine st_len hE s5I fun xl hxl => ?_
              obtain ⟨x10, hx10⟩ : ∃ zq : Int, zq = atz + xl := ⟨_, rfl⟩
              have es : E.ar .add .i64 atz xl = x10 := by rw [hE.ar, hx10]; exact wrap_in (by omega) (by omega)
              conv => cbv
              simp only [es]
              refine st_bLI2 hE ?_
              conv => cbv
              refine st_oneS hr s5I rfl (by omega) (by omega) rfl fun Aa wa hxa hca => ?_
              have hxea := hxe.trans hxa
              conv => cbv
              refine st_appA hr (hLy.ext hxea) (hxy.trans hxea) hx45.size (Nat.le_trans hwsy hxea.size) (ys := [⟨23, x10, v0V⟩]) (l2 := [.ins 23 x10]) (by simpa [iV, v0V] using hca) (one5 (rim_ins (by omega))) rfl (by omega) (by omega) fun AA cA mA wA hmA hxA hwA hdA hLA2 => ?_
              have hqA := (hqy.bel hxea).wr hwA (dj_apart (hqy.bel hxea) (djq hLy))
              have hbA := (hby.bel hxea).wr hwA (dj_apart (hby.bel hxea) (dja hLy))
              have hoA := (hoE.bel hxa).wr hwA (dj_apart (hoE.bel hxa) dEY)
              have hsA := Nat.le_trans hxea.size hwA.size
              have hlo : ∀ g, blk AY = some g → w5.heap.size ≤ g ∧ g < wy.heap.size := fun g hg => by
                obtain ⟨xs, h1, h2⟩ := hLy
                exact own_blk h1 g hg
              have s45 := hx45.size
              have sea := hxa.size
              have see := hxe.size
              have swy := hxy.size
              have hdb : ∀ b, DB w3.heap.size wy.heap.size we b → b < we.heap.size := fun b hb => db_lt (Nat.le_trans swy see) hb
              have hrA : RIMs (LD q4 wA AA) wA (decL ptg atn) xsE := hrE.keep (fun b hb => by
                  rw [hwA.block b (Nat.lt_of_lt_of_le (hdb b hb) sea) (fun e => by have := hlo b e.symm; rcases hb with hb | hb <;> omega)]
                  exact hxa.block b (hdb b hb)) (fun b hb => ⟨Nat.lt_of_lt_of_le (hdb b hb) (Nat.le_trans sea hwA.size), fun e => hdA (some ⟨b, 0, none⟩) (fun g hg e3 => by have hgb := blk_mk hg; have := hlo _ e3; rcases hb with hb | hb <;> omega) (fun g hg => by have hgb := blk_mk hg; have := hdb _ hb; omega) b rfl e, by rcases hb with hb | hb <;> omega⟩)
              conv => cbv
              refine st_appA hr hLA2 hxA hx45.size (Nat.le_trans hwsy hsA) (ys := xsE) hoA.cells hrA (by omega) (by omega) (by omega) fun AB cB mB wB hmB hxB hwB hdB hLB => ?_
              conv => cbv
              simp only [ej]
              have ex10 : x10 = ((a1.length + 1 + (decL ptg (a1.length + 1)).length : Nat) : Int) := by rw [hdl]; omega
              have eat : atn = a1.length + 1 := hatn
              exact ⟨(j + 1, jk, AB, mB, cB, sl, a1 ++ [.ins 23 x10] ++ decL ptg atn), by simp [Fits, lk], hI _ _ ⟨by simp only; omega, by simp only; omega, hxB, Nat.le_trans hwsy (Nat.le_trans hsA hwB.size), hLB, hqA.wr hwB (dj_apart hqA (djq hLA2)), hbA.wr hwB (dj_apart hbA (dja hLA2)), by simp only; rw [ex10, eat]; exact hcm1, hs0, by simp only; omega, by simp only [List.length_append, List.length_cons, List.length_nil]; omega⟩, by simp only; omega⟩
            · refine br (fun q => absurd (by simpa [hE.cmp, cmpR] using q) e2) (fun _ => ?_)
              rw [if_neg e2] at hatn hcm1
              conv => cbv
              refine st_appA hr (hLy.ext hxe) hxye hx45.size hse (ys := xsE) hoE.cells (LA.lr hqs hql hLy hwsy (Ext.refl _) hxye.size hrE) (by omega) (by omega) (by omega) fun AB cB mB wB hmB hxB hwB hdB hLB => ?_
              have hqA := (hqy.bel hxe).wr hwB (dj_apart (hqy.bel hxe) (djq hLy))
              have hbA := (hby.bel hxe).wr hwB (dj_apart (hby.bel hxe) (dja hLy))
              conv => cbv
              simp only [ej]
              have eat : atn = a1.length := hatn
              exact ⟨(j + 1, jk, AB, mB, cB, sl, a1 ++ decL ptg atn), by simp [Fits, lk], hI _ _ ⟨by simp only; omega, by simp only; omega, hxB, Nat.le_trans hse hwB.size, hLB, hqA, hbA, by simp only; rw [eat]; exact hcm1, hs0, by simp only; omega, by simp only [List.length_append, List.length_cons, List.length_nil]; omega⟩, by simp only; omega⟩
  · have g : j = n2 := by
      have : ¬ jj < x1 := by simpa [hE.cmp, cmpR] using g
      omega
    have hVe : V = (sl, all) := by
      rw [← hcm, List.drop_eq_nil_of_le (by rw [List.length_zip]; omega)]; rfl
    rw [hVe] at hF2
    simp only at hF2
    conv => cbv
    refine st_len hE s5I fun x92 hx92 => ?_
    obtain ⟨xs, hoL, hrL⟩ := hLA
    have hlx := hoL.len
    rw [fl_len iV_len] at hlx
    have hlr := hrL.len
    have hq2' := hq2.bel hx'
    have hsz : szTs ((acc.take j).flatMap trs) ≤ 12000 := by
      have e4 := szTs_pos (acc.flatMap trs)
      rw [List.take_of_length_le (by omega)]
      omega
    have C0 : C2 w3.heap.size w'.heap.size w' q4 none 0 0 sl none 0 0 [] [] := ⟨hq4, CdO.nil, by omega, hqe, Nat.le_refl _⟩
    have hLq : Dj AL (some q4) := fun g hg e => by
      rw [hqe] at e; cases e
      have := (own_blk hoL _ hg).1
      omega
    have ExW : ∀ {wy : World}, Wr (some q4) w' wy → Ext w3 wy := fun hw => hx'.then ⟨hw.os, hw.tape, hw.output, hw.size, fun i hi => hw.block i (Nat.lt_of_lt_of_le hi hx'.size) (fun e => by rw [hqe] at e; cases e; omega)⟩
    conv => cbv
    refine loop_rulec [43] hr (fun (s : Nat × Int × Option Addr × Nat × Nat × Option Addr × Nat × Nat × List VV × List (Int × Int)) wy => s.1 ≤ mL ∧ s.2.1 = (s.1 : Int) ∧ Wr (some q4) w' wy ∧ C2 w3.heap.size w'.heap.size wy q4 s.2.2.1 s.2.2.2.1 s.2.2.2.2.1 sl s.2.2.2.2.2.1 s.2.2.2.2.2.2.1 s.2.2.2.2.2.2.2.1 s.2.2.2.2.2.2.2.2.1 s.2.2.2.2.2.2.2.2.2 ∧
        passR (all.drop s.1) ⟨s.2.2.2.2.2.2.2.2.1.map (·.p), s.2.2.2.2.2.2.2.2.2⟩ = passR all ⟨[], []⟩ ∧ s.2.2.2.1 ≤ s.1 ∧ s.2.2.2.2.2.2.1 = s.1)
      (fun s => [(2, .pointer (some q2)), (4, .pointer (some q4)), (92, .slice AL mL cL), (93, .int .i64 x92), (94, .int .i64 s.2.1)]) (fun s => mL - s.1) (0, 0, none, 0, 0, none, 0, 0, [], [])
      (by simp [Fits, lk]) ⟨by simp, by simp, Wr.refl _ _, C0, by simp, by simp, by simp⟩ ?_
    clear C0 hq4 hb
    rintro I2 hI2 ⟨i, ii, P, pn, pc, IA, ni, ic, vs, is⟩ wy ⟨hi, hii, hWy, hC, hps, hpn, hni⟩
    simp only at hi hii hC hps hpn hni
    obtain ⟨ik, hik⟩ : ∃ z, z = ii + 1 := ⟨_, rfl⟩
    have hdone : pn ≤ 20000 ∧ ni ≤ 20000 := by omega
    conv => cbv
    refine br (fun g3 => ?_) (fun g3 => ?_)
    · have g3 : i < mL := by
        have : ii < x92 := by simpa [hE.cmp, cmpR] using g3
        omega
      have ei : E.ar .add .i64 ii 1 = ik := by rw [hE.ar, hik]; exact wrap_in (by omega) (by omega)
      obtain ⟨⟨xo, xa, ⟨⟨xk, xn, xt, xxs⟩, xA, xm, xc⟩⟩, hx0⟩ : ∃ x, xs[i]? = some x := ⟨_, List.getElem?_eq_getElem (by omega)⟩
      obtain ⟨r, hr0⟩ : ∃ r, all[i]? = some r := ⟨_, List.getElem?_eq_getElem (by omega)⟩
      have hoLy := hoL.wr hWy (dj_apart hoL hLq)
      obtain ⟨aK, hAK, hcell⟩ := fl_at iV_len hoLy.cells (by omega) hx0
      have hrim : RIM (fun b => b < w'.heap.size) wy r ⟨xo, xa, ⟨⟨xk, xn, xt, xxs⟩, xA, xm, xc⟩⟩ := (hrL.get i r _ hr0 hx0).keep (fun b hb => hWy.block b hb.1 (fun e => by rw [hqe] at e; cases e; exact hb.2.2 rfl)) (fun b hb => hb.1)
      have hpr := drop_cons hr0
      rw [hpr, show r :: all.drop (i + 1) = [r] ++ all.drop (i + 1) from rfl, ← passR_cat] at hps
      obtain ⟨cx, hcx⟩ : ∃ cx, cx = iV ⟨xo, xa, ⟨⟨xk, xn, xt, xxs⟩, xA, xm, xc⟩⟩ := ⟨_, rfl⟩
      have hcxl : cx.length = 6 := by rw [hcx]; rfl
      have hcx1 : ∀ y ∈ cx, y.oneCell' = true := by rw [hcx]; simp [iV, Value.oneCell']
      rw [← hcx] at hcell
      have hin : ii.toNat = i := by omega
      conv => cbv
      refine st_idx hE s5I hAK (by omega) (by omega) fun p hp => ?_
      rw [hin] at hp
      conv => cbv
      refine st_loadS hE t5I hcxl (by rw [hp]; exact hcell) ?_
      conv => cbv
      refine st_alloc hr t5I rfl fun q11 w8 hx8 hq0 => ?_
      conv => cbv
      refine st_putS hr (by rw [hcxl]; kernel_rfl) (hq0 _ (Nat.le_refl _)) (add_zero _).symm (by simp [z5I, hcxl]) hcx1 fun w9 hw9 h11 => ?_
      have e5 : z5I.take 0 ++ cx ++ z5I.drop (0 + cx.length) = cx := by rw [hcxl]; simp [z5I]
      rw [e5] at h11
      have hx9 := hx8.then (hw9.bel (hq0 _ (Nat.le_refl _)) hx8.size)
      clear hx8 hq0 hw9 hp hcell
      replace hrim := hrim.keep (w' := w9) (D' := fun b => b < w'.heap.size) (fun b hb => hx9.block b (Nat.lt_of_lt_of_le hb hWy.size)) (fun _ h => h)
      have hW9 : Wr (some q4) w' w9 := hWy.trans (hx9.wr _)
      have hPq : Dj P (some q11) := dj_new hC.cd.rP h11 (Nat.le_refl _)
      have hIq : Dj IA (some q11) := dj_new hC.cd.rI h11 (Nat.le_refl _)
      have h4q : Dj (some q11) (some q4) := fun g hg e => by
        rw [hqe] at e; cases e
        have := (own_blk h11 _ hg).1
        have := hWy.size
        omega
      replace hC := hC.ext hx9
      rw [hcx] at h11
      simp only [iV] at h11
      conv => cbv
      (refine st_fld hE f5I1 fun p hp => ?_; (conv => cbv); refine st_load hE cInt (by rw [hp]; exact (h11).at _ _ rfl) ?_; clear hp; (conv => cbv))
      refine cut_rule [] [] hr (fun (s : Option Addr × Nat × Nat × List VV × Int) wz => Wr (some q4) w' wz ∧ C2 w3.heap.size w'.heap.size wz q4 s.1 s.2.1 s.2.2.1 sl IA ni ic s.2.2.2.1 is ∧ Box wy.heap.size 126 6 wz q11 [.int .i64 xo, .int .i64 xa, .int .i64 xk, .int .i64 xn, .string xt, .slice xA xm xc] ∧ passR [r] ⟨vs.map (·.p), is⟩ = ⟨s.2.2.2.1.map (·.p), is ++ [(xo, s.2.2.2.2)]⟩ ∧ s.2.1 ≤ pn + 1)
        (fun s => [(2, .pointer (some q2)), (4, .pointer (some q4)), (11, .pointer (some q11)), (12, .int .i64 s.2.2.2.2), (92, .slice AL mL cL), (93, .int .i64 x92), (94, .int .i64 ii)]) (fun J hJ => ?_) ?_
      · conv => cbv
        (refine st_fld hE f5I0 fun p hp => ?_; (conv => cbv); refine st_load hE cInt (by rw [hp]; exact (h11).at _ _ rfl) ?_; clear hp; (conv => cbv))
        by_cases o1 : xo = 1
        · refine br (fun _ => ?_) (fun q => absurd o1 (by simpa [hE.cmp, cmpR] using q))
          obtain ⟨pv, hrp⟩ : ∃ p, r = .push p := by
            cases r with
            | push p => exact ⟨p, rfl⟩
            | ins o a => exact absurd (hrim.1 ▸ o1) hrim.2.2
          subst hrp
          obtain ⟨_, hxp, hxv, _, hxm⟩ := hrim
          simp only at hxp hxm
          subst hxp
          have hCb := hC.box
          conv => cbv
          (refine st_fld hE fIC0 fun p hp => ?_; (conv => cbv); refine st_load hE cIVs (by rw [hp]; exact (hCb).at _ _ rfl) ?_; clear hp; (conv => cbv))
          refine st_len hE sIV fun x105 hx105 => ?_
          conv => cbv
          refine loop_rule hr (fun (s : Nat × Int × Int) wz => s.1 ≤ pn ∧ s.2.1 = (s.1 : Int) ∧ Ext w9 wz ∧ ((s.2.2 = -1 ∧ ∀ (i : Nat) (y : PV), i < s.1 → (vs.map (·.p))[i]? = some y → y ≠ ⟨xk, xn, xt, xxs⟩) ∨ ∃ m : Nat, s.2.2 = (m : Int) ∧ posV (vs.map (·.p)) ⟨xk, xn, xt, xxs⟩ = some m))
            (fun s => [(2, .pointer (some q2)), (4, .pointer (some q4)), (11, .pointer (some q11)), (12, .int .i64 s.2.2), (92, .slice AL mL cL), (93, .int .i64 x92), (94, .int .i64 ii), (104, .slice P pn pc), (105, .int .i64 x105), (106, .int .i64 s.2.1)]) (fun s => pn - s.1) (0, 0, -1)
            (by simp [Fits, lk]) ⟨by simp, by simp, Ext.refl _, .inl ⟨rfl, fun i y hi => by simp only at hi; omega⟩⟩ ?_
          rintro I3 hI3 ⟨m, mm, arg⟩ wz ⟨hm, hmm, hxz, harg⟩
          simp only at hm hmm harg
          obtain ⟨mk, hmk⟩ : ∃ z, z = mm + 1 := ⟨_, rfl⟩
          have hCz := hC.ext hxz
          have h11z := h11.bel hxz
          have hlv : vs.length = pn := by have := hCz.cd.rP.len; rw [fl_len vC_len] at this; omega
          conv => cbv
          refine br (fun g4 => ?_) (fun g4 => ?_)
          · have g4 : m < pn := by
              have : mm < x105 := by simpa [hE.cmp, cmpR] using g4
              omega
            have em : E.ar .add .i64 mm 1 = mk := by rw [hE.ar, hmk]; exact wrap_in (by omega) (by omega)
            obtain ⟨u, hu⟩ : ∃ u, vs[m]? = some u := ⟨_, List.getElem?_eq_getElem (by omega)⟩
            obtain ⟨aP, hAP, hcell⟩ := fl_at vC_len hCz.cd.rP.cells (by omega) hu
            have hum := (hCz.cd.nam u (List.mem_of_getElem? hu)).2
            obtain ⟨cu, hcu⟩ : ∃ cu, cu = vC u := ⟨_, rfl⟩
            have hcul : cu.length = 4 := by rw [hcu]; rfl
            have hcu1 : ∀ y ∈ cu, y.oneCell' = true := by rw [hcu]; simp [vC, Value.oneCell']
            rw [← hcu] at hcell
            conv => cbv
            refine st_idx hE sIV hAP (by omega) (by omega) fun p hp => ?_
            rw [show mm.toNat = m by omega] at hp
            conv => cbv
            refine st_loadS hE tIV hcul (by rw [hp]; exact hcell) ?_
            conv => cbv
            refine st_alloc hr tIV rfl fun q14 w3 hx3 hq0 => ?_
            conv => cbv
            refine st_putS hr (by rw [hcul]; kernel_rfl) (hq0 _ (Nat.le_refl _)) (add_zero _).symm (by simp [zV, hcul]) hcu1 fun w4 hw4 hq14 => ?_
            have e5 : zV.take 0 ++ cu ++ zV.drop (0 + cu.length) = cu := by rw [hcul]; simp [zV]
            rw [e5] at hq14
            have hx34 := hx3.then (hw4.bel (hq0 _ (Nat.le_refl _)) hx3.size)
            clear hx3 hq0 hw4 hp hcell
            conv => cbv
            rcases harg with ⟨ha, hall⟩ | ⟨k, ha, hpos⟩
            · refine br (fun _ => ?_) (fun q => absurd (show arg < 0 by omega) (by simpa [hE.cmp, cmpR] using q))
              conv => cbv
              refine st_loadS hE tIV hcul hq14.at ?_
              conv => cbv
              refine st_fld hE f5I2 fun p hp => ?_
              conv => cbv
              refine st_loadS hE tIV (vs := [.int .i64 xk, .int .i64 xn, .string xt, .slice xA xm xc]) rfl (by
                intro j v hv
                rw [hp, add_add]
                refine (h11z.bel hx34).at _ _ ?_
                rw [Nat.add_comm]; exact hv) ?_
              conv => cbv
              rw [hcu]
              refine st_f hr (l5sameValue_f (a := u) (b := ⟨⟨xk, xn, xt, xxs⟩, xA, xm, xc⟩) (hum.ext hx34) ((hxv.ext hxz).ext hx34)) fun rr w5 hx5 ⟨rb, ev, hrb⟩ => ?_
              subst ev
              rw [← hcu]
              have hxz5 := hxz.trans (hx34.trans hx5)
              simp only at hrb
              cases rb with
              | true =>
                have heq := hrb.1 rfl
                conv => cbv
                simp only [em]
                exact ⟨(m + 1, mk, mm), by simp [Fits, lk], hI3 _ _ ⟨by simp only; omega, by simp only; omega, hxz5, .inr ⟨m, hmm, posV_some hall (by rw [List.getElem?_map, hu, ← heq]; rfl)⟩⟩, by simp only; omega⟩
              | false =>
                have hne : u.p ≠ ⟨xk, xn, xt, xxs⟩ := fun e => by simpa using hrb.2 e
                conv => cbv
                simp only [em]
                refine ⟨(m + 1, mk, arg), by simp [Fits, lk], hI3 _ _ ⟨by simp only; omega, by simp only; omega, hxz5, .inl ⟨ha, fun i y hi hy => ?_⟩⟩, by simp only; omega⟩
                simp only at hi
                by_cases hij : i = m
                · subst hij
                  rw [List.getElem?_map, hu] at hy
                  cases hy; exact hne
                · exact hall i y (by omega) hy
            · refine br (fun q => absurd (show arg < 0 by simpa [hE.cmp, cmpR] using q) (by omega)) (fun _ => ?_)
              conv => cbv
              simp only [em]
              exact ⟨(m + 1, mk, arg), by simp [Fits, lk], hI3 _ _ ⟨by simp only; omega, by simp only; omega, hxz.trans hx34, .inr ⟨k, ha, hpos⟩⟩, by simp only; omega⟩
          · have g4 : m = pn := by
              have : ¬ mm < x105 := by simpa [hE.cmp, cmpR] using g4
              omega
            have hWz : Wr (some q4) w' wz := hW9.trans (hxz.wr _)
            conv => cbv
            rcases harg with ⟨ha, hall⟩ | ⟨k, ha, hpos⟩
            · have hpos : posV (vs.map (·.p)) ⟨xk, xn, xt, xxs⟩ = none := posV_none fun i y hy => hall i y (by have := (List.getElem?_eq_some_iff.1 hy).1; rw [List.length_map] at this; omega) hy
              refine br (fun _ => ?_) (fun q => absurd (show arg < 0 by omega) (by simpa [hE.cmp, cmpR] using q))
              have hCzb := hCz.box
              have hxs := hxv.1
              simp only at hxs
              have hxsl := hxs.len
              have hxsm := hxs.le
              conv => cbv
              (refine st_fld hE fIC0 fun p hp => ?_; (conv => cbv); refine st_load hE cIVs (by rw [hp]; exact (hCzb).at _ _ rfl) ?_; clear hp; (conv => cbv))
              refine st_len hE sIV fun x12 hx12 => ?_
              conv => cbv
              refine st_fld hE f5I2 fun p hp => ?_
              conv => cbv
              refine st_loadS hE tIV (vs := [.int .i64 xk, .int .i64 xn, .string xt, .slice xA xm xc]) rfl (by
                intro j v hv
                rw [hp, add_add]
                refine h11z.at _ _ ?_
                rw [Nat.add_comm]; exact hv) ?_
              conv => cbv
              refine st_alloc hr tIV rfl fun q15 w13 hx13 hq0 => ?_
              conv => cbv
              refine st_putS hr (by kernel_rfl) (hq0 _ (Nat.le_refl _)) (add_zero _).symm (by simp [zV]) (by simp [Value.oneCell']) fun w14 hw14 h15 => ?_
              simp only [zV, List.take_zero, List.nil_append, List.length_cons, List.length_nil, List.drop_succ_cons, List.drop_nil, List.append_nil] at h15
              have hx14 := hx13.then (hw14.bel (hq0 _ (Nat.le_refl _)) hx13.size)
              clear hx13 hq0 hw14
              conv => cbv
              refine st_fld hE fIV3 fun p hp => ?_
              conv => cbv
              refine st_put hr zStrs h15 hp (by simp) rfl fun w15 hw15 h15b => ?_
              simp only [List.set_cons_zero, List.set_cons_succ] at h15b
              have hx15 := hx14.then (hw15.bel h15 hx14.size)
              have h11w := h11z.bel hx15
              conv => cbv
              (refine st_fld hE fIV3 fun p hp => ?_; (conv => cbv); refine st_load hE cStrs (by rw [hp]; exact (h15b).at _ _ rfl) ?_; clear hp; (conv => cbv))
              refine st_fld hE f5I2 fun p hp => ?_
              conv => cbv
              refine st_fld hE fIV3 fun p2 hp2 => ?_
              conv => cbv
              refine st_load hE cStrs (by rw [hp2, hp, add_add]; exact h11w.at 5 _ rfl) ?_
              conv => cbv
              refine st_apps hr tStrs rfl (Own.nil (B := w15.heap.size)) ((hxs.ext hxz).ext hx15).cells (by rw [List.length_map]; exact hxsl) (by simp [Value.oneCell']) (Nat.le_refl _) (by omega) (by omega) fun NA nc nm w16 hnm hw16 hoN => ?_
              rw [Nat.zero_add] at hnm
              subst hnm
              rw [List.nil_append] at hoN
              have hxA := (Ext.refl w15).then (hw16.bel (Own.nil (B := w15.heap.size) (e := 9) (k := 1) (w := w15)) (Nat.le_refl _))
              have dqN : Dj (some q15) NA := dj_new h15b hoN (Nat.le_refl _)
              have h15c := h15b.bel hxA
              conv => cbv
              refine st_fld hE fIV3 fun p hp => ?_
              conv => cbv
              refine st_put hr zStrs h15c hp (by simp) rfl fun w17 hw17 h17 => ?_
              simp only [List.set_cons_zero, List.set_cons_succ] at h17
              have hx16 := hx15.trans hxA
              have hx17 := hx16.then (hw17.bel h15c hx16.size)
              have hoN17 := hoN.wr hw17 (dj_apart hoN dqN.symm)
              have hC15 := hCz.ext hx15
              have hC17 := hCz.ext hx17
              have hC17b := hC17.box
              conv => cbv
              (refine st_fld hE fIC0 fun p hp => ?_; (conv => cbv); refine st_load hE cIVs (by rw [hp]; exact (hC17b).at _ _ rfl) ?_; clear hp; (conv => cbv))
              refine st_loadS hE tIV rfl h17.at ?_
              conv => cbv
              refine st_oneS hr sIV rfl (by omega) (by omega) rfl fun A6 w18 hx18 hc6 => ?_
              have hC18 := hC17.ext hx18
              conv => cbv
              refine st_appsKG hr sIV rfl (by omega) hC18.cd.rP hc6 rfl (by omega) (by simp [Value.oneCell']) hC18.le (by omega) (by omega) fun P' pc' m7 w19 hm7 hw19 ho19 hk19 => ?_
              subst hm7
              have hbx := hC18.box.wr hw19 (dj_apart hC18.box (hC18.dq hC18.cd.rP))
              conv => cbv
              refine st_fld hE fIC0 fun p2 hp2 => ?_
              conv => cbv
              refine st_put hr zIVs hbx (p := p2) (j := 0) hp2 (by simp) rfl fun w20 hw20 hb20 => ?_
              simp only [List.set_cons_zero, List.set_cons_succ] at hb20
              have hle : w'.heap.size ≤ w15.heap.size := Nat.le_trans hC15.le (Nat.le_refl _)
              have hoN18 := (hoN17.bel hx18).mono hle
              have hvN : ValM w18 ⟨⟨xk, xn, xt, xxs⟩, NA, nm, nc⟩ := ⟨hoN18.strs hxs.small, hxv.2⟩
              have hC20 := hC18.putP (v := ⟨⟨xk, xn, xt, xxs⟩, NA, nm, nc⟩) hoN18 hvN (dj_new hC15.cd.rP hoN (Nat.le_refl _)) (dj_new hC15.cd.rI hoN (Nat.le_refl _)) (fun u hu => dj_new (hC15.cd.nam u hu).1 hoN (Nat.le_refl _)) hw19 hk19 (by simpa [vC] using ho19) hw20 hb20
              have hW18 := (hWz.trans (hx17.wr _)).trans (hx18.wr _)
              have hW20 := (wr_new hW18 hw19 hC18.cd.rP).trans hw20
              have h11y := (h11z.bel hx17).bel hx18
              have h1120 := (h11y.wr hw19 (dj_apart h11y hPq.symm)).wr hw20 (dj_apart h11y h4q)
              conv => cbv
              refine ⟨(P', pn + 1, pc', vs ++ [⟨⟨xk, xn, xt, xxs⟩, NA, nm, nc⟩], x12), by simp [Fits, lk], hJ _ _ ⟨hW20, hC20, h1120, ?_, by simp only; omega⟩⟩
              simp only [passR, poolR, insR, hpos, o1, List.map_append, List.map_cons, List.map_nil, List.length_map, hlv, hx12]
            · refine br (fun q => absurd (show arg < 0 by simpa [hE.cmp, cmpR] using q) (by omega)) (fun _ => ?_)
              conv => cbv
              refine ⟨(P, pn, pc, vs, arg), by simp [Fits, lk], hJ _ _ ⟨hWz, hCz, h11z, ?_, by simp only; omega⟩⟩
              simp only [passR, poolR, insR, hpos, ha, o1]
        · refine br (fun q => absurd (by simpa [hE.cmp, cmpR] using q) o1) (fun _ => ?_)
          obtain ⟨o, av, hrp⟩ : ∃ o av, r = .ins o av := by
            cases r with
            | push p => exact absurd hrim.1 o1
            | ins o a => exact ⟨o, a, rfl⟩
          subst hrp
          obtain ⟨ho, ha, _⟩ := hrim
          simp only at ho ha
          conv => cbv
          refine ⟨(P, pn, pc, vs, xa), by simp [Fits, lk], hJ _ _ ⟨hW9, hC, h11, ?_, by simp only; omega⟩⟩
          simp only [passR, poolR, insR, ho, ha]
      · rintro ⟨P2, pn2, pc2, vs2, argz⟩ wz ⟨hWz, hCz, h11z, hpz, hpn2⟩
        simp only at hCz hpz hpn2
        have hCzb := hCz.box
        conv => cbv
        (refine st_fld hE fIC2 fun p hp => ?_; (conv => cbv); refine st_load hE cIIs (by rw [hp]; exact (hCzb).at _ _ rfl) ?_; clear hp; (conv => cbv))
        (refine st_fld hE f5I0 fun p hp => ?_; (conv => cbv); refine st_load hE cInt (by rw [hp]; exact (h11z).at _ _ rfl) ?_; clear hp; (conv => cbv))
        refine st_bIn hE ?_
        conv => cbv
        refine st_oneS hr sII rfl (by omega) (by omega) rfl fun A1 w21 hx21 hc1 => ?_
        have hC21 := hCz.ext hx21
        conv => cbv
        refine st_appsKG hr sII rfl (by omega) hC21.cd.rI hc1 rfl (by omega) (by simp [Value.oneCell']) hC21.le (by omega) (by omega) fun I' ic' m2 w22 hm2 hw22 ho22 hk22 => ?_
        subst hm2
        have hbx := hC21.box.wr hw22 (dj_apart hC21.box (hC21.dq hC21.cd.rI))
        conv => cbv
        refine st_fld hE fIC2 fun p2 hp2 => ?_
        conv => cbv
        refine st_put hr zIIs hbx (p := p2) (j := 2) hp2 (by simp) rfl fun w23 hw23 hb23 => ?_
        simp only [List.set_cons_zero, List.set_cons_succ] at hb23
        have hW23 := (wr_new (hWz.trans (hx21.wr _)) hw22 hC21.cd.rI).trans hw23
        conv => cbv
        simp only [ei]
        exact ⟨(i + 1, ik, P2, pn2, pc2, I', ni + 1, ic', vs2, is ++ [(xo, argz)]), by simp [Fits, lk], hI2 _ _ ⟨by simp only; omega, by simp only; omega, hW23, hC21.putI hw22 hk22 (by simpa [iC] using ho22) hw23 hb23, by simp only; rw [hpz] at hps; exact hps, by simp only; omega, by simp only; omega⟩, by simp only; omega⟩
    · have g3 : i = mL := by
        have : ¬ ii < x92 := by simpa [hE.cmp, cmpR] using g3
        omega
      rw [List.drop_eq_nil_of_le (by omega), show passR [] ⟨vs.map (·.p), is⟩ = (⟨vs.map (·.p), is⟩ : CS) by simp [passR, poolR, insR]] at hps
      rw [← hps] at hF2
      conv => cbv
      refine st_loadS hE tIC (vs := [.slice P pn pc, .int .i64 sl, .slice IA ni ic]) rfl hC.box.at ?_
      conv => cbv
      have hq2y := hq2.bel (ExW hWy)
      refine st_putS hr (by kernel_rfl) hq2y (add_zero _).symm (by simp) (by simp [Value.oneCell']) fun w8 hw8 hq8 => ?_
      simp only [List.take_zero, List.nil_append, List.length_cons, List.length_nil, List.drop_succ_cons, List.drop_nil, List.append_nil] at hq8
      conv => cbv
      refine st_cell hr tIC rfl hq8.at ?_
      rw [hR]
      have hs3 := hx'.size
      have hs2 := (own_blk hq2)
      have nw : ∀ {e : TypeId} {k : Nat} {X : Option Addr} {m c : Nat} {xs : List Value}, Own w'.heap.size e k wy X m c xs → Dj X (some q2) := fun hX g hg e => by
        have := (own_blk hX g hg).1
        have := (hs2 g e).2
        omega
      have hx03 := hx.trans (ExW hWy)
      have hcd := hC.cd
      refine ⟨hx03.then (hw8.bel hq2y hx03.size), F, ⟨P, pn, pc, IA, ni, ic, vs, (by rw [hF2]; exact rfl), ?_, (by rw [hF2])⟩, hcp⟩
      rw [hF2]
      refine CdO.mono ⟨hcd.rP.wr hw8 (dj_apart hcd.rP (nw hcd.rP)), hcd.rI.wr hw8 (dj_apart hcd.rI (nw hcd.rI)), fun v hv => ?_, hcd.PI, hcd.Pn, hcd.In, hcd.nn⟩ (Nat.le_trans hx.size hs3)
      have o1 := (hcd.nam v hv).1
      have o2 := o1.wr hw8 (dj_apart o1 (nw o1))
      exact ⟨o2, valm_keep o2 (hcd.nam v hv).2⟩
end Go.Proofs.YtgdnmpcaiaoaoaaGreatDoor
/- Rows whose elements hold rows of their own, all of them apart: what a mark changes. -/
namespace Go.Proofs.YtgdnmpcaiaoaoaaGreatDoor
open Go.Eng
set_option linter.unusedVariables false
set_option linter.unusedSimpArgs false
/-- A row that an element holds. -/
structure Sub where
  A : Option Addr
  m : Nat
  c : Nat
  e : TypeId
  xs : List Value
theorem pw_get {β : Type} {R : β → β → Prop} (hs : ∀ a b, R a b → R b a) {l : List β} (h : l.Pairwise R) {i j : Nat} {a b : β} (hi : l[i]? = some a) (hj : l[j]? = some b) (hne : i ≠ j) : R a b := by
  obtain ⟨h1, e1⟩ := List.getElem?_eq_some_iff.1 hi
  obtain ⟨h2, e2⟩ := List.getElem?_eq_some_iff.1 hj
  subst e1; subst e2
  rcases Nat.lt_or_gt_of_ne hne with q | q
  · exact List.pairwise_iff_getElem.1 h i j h1 h2 q
  · exact hs _ _ (List.pairwise_iff_getElem.1 h j i h2 h1 q)
/-- The row and the rows of its elements lie apart. -/
structure DJ (A : Option Addr) (ls : List (List (Option Addr))) : Prop where
  rowd : ∀ l ∈ ls, ∀ a ∈ l, Dj A a
  own : ∀ l ∈ ls, l.Pairwise Dj
  pw : ls.Pairwise fun la lb => ∀ a ∈ la, ∀ b ∈ lb, Dj a b
def adr {α : Type} (sb : α → List Sub) (v : α) : List (Option Addr) := (sb v).map (·.A)
structure RO {α : Type} (e : TypeId) (k : Nat) (f : α → List Value) (sb : α → List Sub) (B : Nat) (w : World) (A : Option Addr) (n c : Nat) (vs : List α) : Prop where
  row : Own B e k w A n c (vs.flatMap f)
  sub : ∀ v ∈ vs, ∀ s ∈ sb v, Own B s.e 1 w s.A s.m s.c s.xs
  dj : DJ A (vs.map (adr sb))
/-- All the rows. -/
def roA {α : Type} (sb : α → List Sub) (A : Option Addr) (vs : List α) : List (Option Addr) := A :: vs.flatMap (adr sb)
section
variable {α : Type} {e : TypeId} {k : Nat} {f : α → List Value} {sb : α → List Sub} {B : Nat} {w w' : World} {A : Option Addr} {n c : Nat} {vs : List α}
theorem RO.ext (h : RO e k f sb B w A n c vs) (hx : Ext w w') : RO e k f sb B w' A n c vs := ⟨h.row.bel hx, fun v hv s hs => (h.sub v hv s hs).bel hx, h.dj⟩
theorem RO.low {B' : Nat} (h : RO e k f sb B w A n c vs) (hB : B' ≤ B) : RO e k f sb B' w A n c vs := ⟨h.row.mono hB, fun v hv s hs => (h.sub v hv s hs).mono hB, h.dj⟩
theorem fset {α : Type} {f : α → List Value} {k : Nat} (hf : ∀ v, (f v).length = k) : ∀ (xs : List α) (i : Nat) (x y : α) (j : Nat) (v : Value), xs[i]? = some x → j < k → f y = (f x).set j v → (xs.flatMap f).set (i * k + j) v = (xs.set i y).flatMap f
  | [], i, x, y, j, v, h, _, _ => by simp at h
  | z :: zs, 0, x, y, j, v, h, hj, he => by
    simp at h; subst h
    rw [List.flatMap_cons, List.set_append_left _ _ (by rw [hf]; omega), List.set_cons_zero, List.flatMap_cons, he]; simp
  | z :: zs, i + 1, x, y, j, v, h, hj, he => by
    simp only [List.getElem?_cons_succ] at h
    rw [List.flatMap_cons, List.set_append_right _ _ (by rw [hf, Nat.add_mul]; omega), List.set_cons_succ, List.flatMap_cons, ← fset hf zs i x y j v h hj he]
    congr 2
    rw [hf, Nat.add_mul]; omega
theorem fset0 {α : Type} {f : α → List Value} : ∀ (xs : List α) (i : Nat) (x y : α), xs[i]? = some x → f y = f x → (xs.set i y).flatMap f = xs.flatMap f
  | [], i, x, y, h, _ => by simp at h
  | z :: zs, 0, x, y, h, he => by simp at h; subst h; simp [he]
  | z :: zs, i + 1, x, y, h, he => by
    simp only [List.getElem?_cons_succ] at h
    rw [List.set_cons_succ, List.flatMap_cons, List.flatMap_cons, fset0 zs i x y h he]
theorem map_set {α β : Type} {g : α → β} {xs : List α} {i : Nat} {x y : α} (h : xs[i]? = some x) (he : g y = g x) : (xs.set i y).map g = xs.map g := by
  apply List.ext_getElem?
  intro j
  rw [List.getElem?_map, List.getElem?_map]
  by_cases hij : i = j
  · subst hij
    rw [List.getElem?_set_self ((List.getElem?_eq_some_iff.1 h).1), h]
    simp [he]
  · rw [List.getElem?_set_ne hij]
/-- A field of an element written. -/
theorem RO.put (hf : ∀ v, (f v).length = k) (h : RO e k f sb B w A n c vs) {i j : Nat} {x y : α} {v : Value} (hi : vs[i]? = some x) (hj : j < k) (hy : f y = (f x).set j v) (hs : sb y = sb x) (hw : Wr A w w') (ho : Own B e k w' A n c ((vs.flatMap f).set (i * k + j) v)) : RO e k f sb B w' A n c (vs.set i y) := by
  rw [fset hf vs i x y j v hi hj hy] at ho
  have hk := map_set (g := adr sb) hi (y := y) (by unfold adr; rw [hs])
  have old : ∀ u ∈ vs, ∀ s ∈ sb u, Own B s.e 1 w' s.A s.m s.c s.xs := fun u hu s hsu =>
    (h.sub u hu s hsu).wr hw (dj_apart (h.sub u hu s hsu) (h.dj.rowd _ (List.mem_map.2 ⟨u, hu, rfl⟩) _ (List.mem_map.2 ⟨s, hsu, rfl⟩)).symm)
  refine ⟨ho, fun u hu s hsu => ?_, by rw [hk]; exact h.dj⟩
  rcases List.mem_or_eq_of_mem_set hu with hu | rfl
  · exact old u hu s hsu
  · exact old x (List.mem_of_getElem? hi) s (hs ▸ hsu)
/-- A row that an element holds written. -/
theorem RO.putS (h : RO e k f sb B w A n c vs) {i q : Nat} {x y : α} {s s' : Sub} (hi : vs[i]? = some x) (hy : f y = f x) (hq : (sb x)[q]? = some s) (hs : sb y = (sb x).set q s') (hA : s'.A = s.A) (hw : Wr s.A w w') (ho : Own B s'.e 1 w' s'.A s'.m s'.c s'.xs) : RO e k f sb B w' A n c (vs.set i y) := by
  have hadr : adr sb y = adr sb x := by unfold adr; rw [hs]; exact map_set hq hA
  have hk := map_set (g := adr sb) hi (y := y) hadr
  have hsA : s.A ∈ adr sb x := List.mem_map.2 ⟨s, List.mem_of_getElem? hq, rfl⟩
  have hxm : adr sb x ∈ vs.map (adr sb) := List.mem_map.2 ⟨x, List.mem_of_getElem? hi, rfl⟩
  have hd := h.dj.rowd _ hxm _ hsA
  refine ⟨?_, fun u hu t ht => ?_, by rw [hk]; exact h.dj⟩
  · rw [fset0 vs i x y hi hy]
    exact h.row.wr hw (dj_apart h.row hd)
  · obtain ⟨j, hj⟩ := List.mem_iff_getElem?.1 hu
    by_cases hij : i = j
    · subst hij
      rw [List.getElem?_set_self ((List.getElem?_eq_some_iff.1 hi).1)] at hj
      cases hj
      rw [hs] at ht
      obtain ⟨r, hr⟩ := List.mem_iff_getElem?.1 ht
      by_cases hrq : q = r
      · subst hrq
        rw [List.getElem?_set_self ((List.getElem?_eq_some_iff.1 hq).1)] at hr
        cases hr; exact ho
      · rw [List.getElem?_set_ne hrq] at hr
        have o1 := h.sub x (List.mem_of_getElem? hi) t (List.mem_of_getElem? hr)
        have d1 : Dj t.A s.A := pw_get (fun _ _ h => h.symm) (h.dj.own _ hxm) (i := r) (j := q) (by unfold adr; rw [List.getElem?_map, hr]; rfl) (by unfold adr; rw [List.getElem?_map, hq]; rfl) (fun e => hrq e.symm)
        exact o1.wr hw (dj_apart o1 d1)
    · rw [List.getElem?_set_ne hij] at hj
      have o1 := h.sub u (List.mem_of_getElem? hj) t ht
      have d1 := pw_get (R := fun la lb => ∀ a ∈ la, ∀ b ∈ lb, Dj a b) (fun _ _ h a ha b hb => (h b hb a ha).symm) h.dj.pw (i := j) (j := i) (by rw [List.getElem?_map, hj]; rfl) (by rw [List.getElem?_map, hi]; rfl) (fun e => hij e.symm) t.A (List.mem_map.2 ⟨t, ht, rfl⟩) s.A hsA
      exact o1.wr hw (dj_apart o1 d1)
theorem RO.lo (h : RO e k f sb B w A n c vs) : ∀ r ∈ roA sb A vs, ∀ g, blk r = some g → B ≤ g ∧ g < w.heap.size := fun r hr g hg => by
  rcases List.mem_cons.1 hr with rfl | hr
  · exact own_blk h.row g hg
  · obtain ⟨v, hv, hr⟩ := List.mem_flatMap.1 hr
    obtain ⟨s, hs, rfl⟩ := List.mem_map.1 hr
    exact own_blk (h.sub v hv s hs) g hg
theorem RO.len (hf : ∀ v, (f v).length = k) (hk : 0 < k) (h : RO e k f sb B w A n c vs) : vs.length = n := by
  have := h.row.len
  rw [fl_len hf] at this
  exact Nat.eq_of_mul_eq_mul_right hk this
/-- What a mark that writes into these rows alone leaves of them. -/
theorem RO.keepR (h : RO e k f sb B w A n c vs) {R : List (Option Addr)} (hc : CSt w R w' R) (hd : ∀ r ∈ R, ∀ a ∈ roA sb A vs, Dj r a) : RO e k f sb B w' A n c vs :=
  ⟨(hc.own h.row fun r hr => hd r hr _ (List.mem_cons_self ..)).1, fun v hv s hs => (hc.own (h.sub v hv s hs) fun r hr => hd r hr _ (List.mem_cons_of_mem _ (List.mem_flatMap.2 ⟨v, hv, List.mem_map.2 ⟨s, hs, rfl⟩⟩))).1, h.dj⟩
end
/-! ### Marking a list -/
section
variable {α : Type} (mk : α → Int → α) (ct : α → Nat)
def mkL : List α → Int → List α
  | [], _ => []
  | v :: l, z => mk v z :: mkL l (z + ct v)
def ctL : List α → Nat
  | [] => 0
  | v :: l => ct v + ctL l
variable {mk ct}
theorem mkL_len : ∀ (l : List α) (z : Int), (mkL mk ct l z).length = l.length
  | [], _ => rfl
  | v :: l, z => by simp [mkL, mkL_len l]
theorem ctL_append : ∀ (l m : List α), ctL ct (l ++ m) = ctL ct l + ctL ct m
  | [], m => by simp [ctL]
  | v :: l, m => by rw [List.cons_append, ctL, ctL, ctL_append l m]; omega
theorem mkL_append : ∀ (l m : List α) (z : Int), mkL mk ct (l ++ m) z = mkL mk ct l z ++ mkL mk ct m (z + ctL ct l)
  | [], m, z => by simp [mkL, ctL]
  | v :: l, m, z => by rw [List.cons_append, mkL, mkL, mkL_append l m, List.cons_append, ctL]; congr 3; push_cast; omega
theorem ctL_take {l : List α} {i : Nat} {x : α} (h : l[i]? = some x) : ctL ct (l.take (i + 1)) = ctL ct (l.take i) + ct x := by
  rw [List.take_add_one, h, ctL_append]; simp [ctL]
theorem ctL_le (l : List α) (i : Nat) : ctL ct (l.take i) ≤ ctL ct l := by
  have e : ctL ct l = ctL ct (l.take i) + ctL ct (l.drop i) := by rw [← ctL_append, List.take_append_drop]
  omega
theorem mkL_mid {l : List α} {i : Nat} {x : α} (z : Int) (h : l[i]? = some x) : (mkL mk ct (l.take i) z ++ l.drop i)[i]? = some x := by
  have := (List.getElem?_eq_some_iff.1 h).1
  rw [List.getElem?_append_right (by rw [mkL_len, List.length_take]; omega), mkL_len, List.length_take, Nat.min_eq_left (by omega), Nat.sub_self, List.getElem?_drop]
  simpa using h
theorem mkL_set {l : List α} {i : Nat} {x : α} (z : Int) (h : l[i]? = some x) : (mkL mk ct (l.take i) z ++ l.drop i).set i (mk x (z + ctL ct (l.take i))) = mkL mk ct (l.take (i + 1)) z ++ l.drop (i + 1) := by
  have hl := (List.getElem?_eq_some_iff.1 h).1
  rw [List.set_append_right _ _ (by rw [mkL_len, List.length_take]; omega), mkL_len, List.length_take, Nat.min_eq_left (by omega), Nat.sub_self, drop_cons h, List.set_cons_zero, List.take_add_one, h, mkL_append]
  simp [mkL]
theorem mkL_get {l : List α} {i : Nat} {x : α} (z : Int) (h : l[i]? = some x) : (mkL mk ct l z)[i]? = some (mk x (z + ctL ct (l.take i))) := by
  have hl := (List.getElem?_eq_some_iff.1 h).1
  have e := mkL_append (mk := mk) (ct := ct) (l.take i) (l.drop i) z
  rw [List.take_append_drop] at e
  rw [e, List.getElem?_append_right (by rw [mkL_len, List.length_take]; omega), mkL_len, List.length_take, Nat.min_eq_left (by omega), Nat.sub_self, drop_cons h, mkL]
  rfl
end
end Go.Proofs.YtgdnmpcaiaoaoaaGreatDoor
/- Marks of numbers (printed by gen_m.py). -/
namespace Go.Proofs.YtgdnmpcaiaoaoaaGreatDoor
open Go.Eng
set_option linter.unusedVariables false
set_option linter.unusedSimpArgs false
theorem cInts1 : Cel Tryz.prog 29 := ⟨_, Tryz.underlying29, by simp, by simp⟩
/-- The n marks of numbers from the k-th on. -/
def imarks (k : Int) (n : Nat) : List Int := (List.range n).map fun (i : Nat) => k + i
theorem imarks_len (k : Int) (n : Nat) : (imarks k n).length = n := by simp [imarks]
theorem markIntS_g {w : World} {B : Nat} {A : Option Addr} {n c : Nat} {xs : List Int} (h : Own B 3 1 w A n c (xs.map (.int .i64))) (k : Int) (hk : 0 ≤ k) (hkn : k + n < 9223372036854775807) :
    GC Tryz.prog 61 [.slice A n c, .int .i64 k] w fun v w' => v = .int .i64 (k + n) ∧ Own B 3 1 w' A n c ((imarks k n).map (.int .i64)) ∧ Wr A w w' := by
  refine GC.intro (cs := []) Tryz.func61 (by kernel_rfl) fun E R hE hr hR => ?_
  have hl := h.len
  rw [List.length_map, Nat.mul_one] at hl
  conv => cbv
  refine loop_rule hr (fun (s : Nat × Int × Int) w' => s.1 ≤ n ∧ s.2.1 = k + s.1 ∧ s.2.2 = s.1 ∧ Wr A w w' ∧ Own B 3 1 w' A n c ((imarks k s.1 ++ xs.drop s.1).map (.int .i64))) (fun s => [(0, .slice A n c), (1, .int .i64 s.2.1), (5, .int .i64 s.2.2)]) (fun s => n - s.1) (0, k, 0)
    (by simp [Fits, lk]) ⟨by simp, by simp, by simp, Wr.refl _ _, by simpa [imarks] using h⟩ ?_
  rintro I hI ⟨i, z, ii⟩ w' ⟨hi, hz, hii, hw, ho⟩
  simp only at hi hz hii ho
  obtain ⟨ii', hii'⟩ : ∃ z, z = ii + 1 := ⟨_, rfl⟩
  conv => cbv
  refine st_len hE tInts fun x hx => ?_
  conv => cbv
  refine br (fun h1 => ?_) (fun h1 => ?_)
  · have h1 : i < n := by have : ii < x := by simpa [hE.cmp, cmpR] using h1
                          omega
    have ei : E.ar .add .i64 ii 1 = ii' := by rw [hii']; exact inc' hE (by omega) (by omega)
    obtain ⟨g, hg, _⟩ := ho.addr (by omega)
    conv => cbv
    refine st_idx hE tInts hg (by omega) (by omega) fun q hq => ?_
    rw [show ii.toNat = i by omega] at hq
    conv => cbv
    refine st_set hr tInts ho hg h1 hq rfl fun w3 _ hw3 ho3 => ?_
    have hw := hw.trans hw3
    obtain ⟨z', hz'⟩ : ∃ z', z' = z + 1 := ⟨_, rfl⟩
    have e1 : E.ar .add .i64 z 1 = z' := by rw [hz']; exact inc' hE (by omega) (by omega)
    conv => cbv
    simp only [e1, ei]
    refine ⟨(i + 1, z', ii'), by simp [Fits, lk], hI _ _ ⟨by simp only; omega, by simp only; omega, by simp only; omega, hw, ?_⟩, by simp only; omega⟩
    have e : (imarks k (i + 1) ++ xs.drop (i + 1)).map (Value.int .i64) = ((imarks k i ++ xs.drop i).map (Value.int .i64)).set i (.int .i64 z) := by
      rw [← List.map_set, List.set_append_right _ _ (by rw [imarks_len]; omega), imarks_len, Nat.sub_self, List.drop_eq_getElem_cons (show i < xs.length by omega)]
      simp only [List.set_cons_zero, imarks, List.range_succ, List.map_append, List.map_cons, List.map_nil, List.append_assoc, List.cons_append, List.nil_append]
      rw [hz]
    simp only; rw [e]; exact ho3
  · have h1 : i = n := by
      have : ¬ ii < x := by simpa [hE.cmp, cmpR] using h1
      omega
    subst h1
    rw [List.drop_of_length_le (by omega), List.append_nil] at ho
    conv => cbv
    rw [hR]; exact ⟨by rw [hz]; rfl, ho, hw⟩
end Go.Proofs.YtgdnmpcaiaoaoaaGreatDoor
/- Marks of constants and instructions (printed by gen_m.py). -/
namespace Go.Proofs.YtgdnmpcaiaoaoaaGreatDoor
open Go.Eng
set_option linter.unusedVariables false
set_option linter.unusedSimpArgs false
def sbValue (v : VV) : List Sub := [⟨v.A, v.m, v.c, 9, v.p.xs.map .string⟩]
def mkValue (v : VV) (z : Int) : VV := ⟨⟨z, z + 1, mkText (z + 2), marks (z + 3) v.m⟩, v.A, v.m, v.c⟩
def ctValue (v : VV) : Nat := 3 + v.m
set_option maxHeartbeats 4000000 in
theorem markValueS_g {w : World} {B : Nat} {A : Option Addr} {n c : Nat} {vs : List VV} (h : RO 124 4 vC sbValue B w A n c vs) (k0 : Int) (hk : 0 ≤ k0) (hkn : k0 + ctL ctValue vs < 9223372036854775807) :
    GC Tryz.prog 75 [.slice A n c, .int .i64 k0] w fun v w' => v = .int .i64 (k0 + ctL ctValue vs) ∧ RO 124 4 vC sbValue B w' A n c (mkL mkValue ctValue vs k0) ∧ CSt w (roA sbValue A vs) w' (roA sbValue A vs) := by
  refine GC.intro (cs := []) Tryz.func75 (by kernel_rfl) fun E R hE hr hR => ?_
  have hl : vs.length = n := h.len vC_len (by omega)
  have hnle := h.row.le
  conv => cbv
  refine loop_rule hr (fun (s : Nat × Int × Int) w' => s.1 ≤ n ∧ s.2.1 = k0 + ctL ctValue (vs.take s.1) ∧ s.2.2 = s.1 ∧ RO 124 4 vC sbValue B w' A n c (mkL mkValue ctValue (vs.take s.1) k0 ++ vs.drop s.1) ∧ CSt w (roA sbValue A vs) w' (roA sbValue A vs)) (fun s => [(0, .slice A n c), (1, .int .i64 s.2.1), (5, .int .i64 s.2.2)]) (fun s => n - s.1) (0, k0, 0)
    (by simp [Fits, lk]) ⟨by simp, by simp [ctL], by simp, by simpa [mkL] using h, CSt.refl _ _⟩ ?_
  rintro I hI ⟨i, z, ii⟩ w' ⟨hi, hz, hii, ho, hC⟩
  simp only at hi hz hii ho
  obtain ⟨ii', hii'⟩ : ∃ z, z = ii + 1 := ⟨_, rfl⟩
  conv => cbv
  refine st_len hE sIV fun x hx => ?_
  conv => cbv
  refine br (fun h1 => ?_) (fun h1 => ?_)
  · have h1 : i < n := by have : ii < x := by simpa [hE.cmp, cmpR] using h1
                          omega
    have ei : E.ar .add .i64 ii 1 = ii' := by rw [hii']; exact inc' hE (by omega) (by omega)
    obtain ⟨y, hy⟩ : ∃ y, vs[i]? = some y := ⟨_, List.getElem?_eq_getElem (by omega)⟩
    have hct := ctL_take (ct := ctValue) hy
    have hcl := ctL_le (ct := ctValue) vs (i + 1)
    have hcur := mkL_mid (mk := mkValue) (ct := ctValue) k0 hy
    have hfin := mkL_set (mk := mkValue) (ct := ctValue) k0 hy
    have hcy : ctValue y = 3 + y.m := rfl
    have hmem : ∀ a ∈ adr sbValue y, a ∈ roA sbValue A vs := fun a ha => List.mem_cons_of_mem _ (List.mem_flatMap.2 ⟨y, List.mem_of_getElem? hy, ha⟩)
    obtain ⟨cur, hcr⟩ : ∃ cur, cur = mkL mkValue ctValue (vs.take i) k0 ++ vs.drop i := ⟨_, rfl⟩
    rw [← hcr] at ho hcur hfin
    have hcl2 : cur.length = n := ho.len vC_len (by omega)
    obtain ⟨⟨f0, f1, f2, x0⟩, A0, m0, c0⟩ := y
    simp only at hcy
    obtain ⟨gb, rfl, _⟩ := ho.row.addr (by omega)
    conv => cbv
    refine st_idx hE sIV rfl (by omega) (by omega) fun q hq => ?_
    rw [show ii.toNat = i by omega] at hq
    conv => cbv
    refine st_fld hE fIV0 fun p hp => ?_
    conv => cbv
    refine st_put hr (by kernel_rfl) ho.row (j := i * 4 + 0) (by rw [hp, hq, add_add]) (by rw [fl_len vC_len]; omega) rfl fun w3 hw3 ho3 => ?_
    replace ho := RO.put vC_len (x := ⟨⟨f0, f1, f2, x0⟩, A0, m0, c0⟩) (y := ⟨⟨z, f1, f2, x0⟩, A0, m0, c0⟩) ho hcur (by omega) rfl rfl hw3 ho3
    replace hC := hC.trans (CSt.of_wr hw3 (List.mem_cons_self ..))
    clear ho3 hw3 hp hq
    obtain ⟨z0, hz0⟩ : ∃ q, q = z + 1 := ⟨_, rfl⟩
    have e0 : E.ar .add .i64 z 1 = z0 := by rw [hz0, inc' hE (by omega) (by omega)]
    conv => cbv
    simp only [e0]
    conv => cbv
    conv => cbv
    refine st_idx hE sIV rfl (by omega) (by omega) fun q hq => ?_
    rw [show ii.toNat = i by omega] at hq
    conv => cbv
    refine st_fld hE fIV1 fun p hp => ?_
    conv => cbv
    refine st_put hr (by kernel_rfl) ho.row (j := i * 4 + 1) (by rw [hp, hq, add_add]) (by rw [fl_len vC_len, List.length_set]; omega) rfl fun w3 hw3 ho3 => ?_
    replace ho := RO.put vC_len (x := ⟨⟨z, f1, f2, x0⟩, A0, m0, c0⟩) (y := ⟨⟨z, z0, f2, x0⟩, A0, m0, c0⟩) ho (List.getElem?_set_self (by omega)) (by omega) rfl rfl hw3 ho3
    rw [List.set_set] at ho
    replace hC := hC.trans (CSt.of_wr hw3 (List.mem_cons_self ..))
    clear ho3 hw3 hp hq
    obtain ⟨z1, hz1⟩ : ∃ q, q = z0 + 1 := ⟨_, rfl⟩
    have e1 : E.ar .add .i64 z0 1 = z1 := by rw [hz1, inc' hE (by omega) (by omega)]
    conv => cbv
    simp only [e1]
    conv => cbv
    obtain ⟨u2, hu2⟩ : ∃ u, u = mkText z1 := ⟨_, rfl⟩
    refine st_v hr (v := .string u2) (by rw [hu2]; exact markText_v z1 _ (by omega)) fun w2 hx2 => ?_
    replace hC := hC.trans (CSt.of_ext hx2 _)
    replace ho := ho.ext hx2
    clear hx2
    conv => cbv
    refine st_idx hE sIV rfl (by omega) (by omega) fun q hq => ?_
    rw [show ii.toNat = i by omega] at hq
    conv => cbv
    refine st_fld hE fIV2 fun p hp => ?_
    conv => cbv
    refine st_put hr (by kernel_rfl) ho.row (j := i * 4 + 2) (by rw [hp, hq, add_add]) (by rw [fl_len vC_len, List.length_set]; omega) rfl fun w3 hw3 ho3 => ?_
    replace ho := RO.put vC_len (x := ⟨⟨z, z0, f2, x0⟩, A0, m0, c0⟩) (y := ⟨⟨z, z0, u2, x0⟩, A0, m0, c0⟩) ho (List.getElem?_set_self (by omega)) (by omega) rfl rfl hw3 ho3
    rw [List.set_set] at ho
    replace hC := hC.trans (CSt.of_wr hw3 (List.mem_cons_self ..))
    clear ho3 hw3 hp hq
    obtain ⟨z2, hz2⟩ : ∃ q, q = z1 + 1 := ⟨_, rfl⟩
    have e2 : E.ar .add .i64 z1 1 = z2 := by rw [hz2, inc' hE (by omega) (by omega)]
    conv => cbv
    simp only [e2]
    conv => cbv
    obtain ⟨aK, hAK, hcell⟩ := fl_at vC_len ho.row.cells (by omega) (show (cur.set i ⟨⟨z, z0, u2, x0⟩, A0, m0, c0⟩)[i]? = some ⟨⟨z, z0, u2, x0⟩, A0, m0, c0⟩ from List.getElem?_set_self (by omega))
    cases hAK
    refine st_idx hE sIV rfl (by omega) (by omega) fun q hq => ?_
    rw [show ii.toNat = i by omega] at hq
    conv => cbv
    refine st_fld hE fIV3 fun p hp => ?_
    conv => cbv
    refine st_load hE cStrs (by rw [hp, hq]; exact hcell 3 _ rfl) ?_
    conv => cbv
    clear hp hq hcell
    have hs0 := ho.sub ⟨⟨z, z0, u2, x0⟩, A0, m0, c0⟩ (List.mem_of_getElem? (List.getElem?_set_self (by omega))) ⟨A0, m0, c0, 9, x0.map .string⟩ (by simp [sbValue])
    simp only at hs0
    have hm0 := markStringS_g hs0 z2 (by omega) (by omega)
    obtain ⟨z3, hz3⟩ : ∃ q : Int, q = z2 + (m0 : Int) := ⟨_, rfl⟩
    rw [← hz3] at hm0
    refine st_g hr hm0 fun v w4 ⟨ev, ho4, hw4⟩ => ?_
    subst ev
    replace ho := RO.putS (q := 0) (s := ⟨A0, m0, c0, 9, x0.map .string⟩) (s' := ⟨A0, m0, c0, 9, (marks z2 m0).map .string⟩) (x := ⟨⟨z, z0, u2, x0⟩, A0, m0, c0⟩) (y := ⟨⟨z, z0, u2, (marks z2 m0)⟩, A0, m0, c0⟩) ho (List.getElem?_set_self (by omega)) rfl rfl rfl rfl hw4 ho4
    rw [List.set_set] at ho
    replace hC := hC.trans (CSt.of_wr hw4 (hmem _ (by simp [adr, sbValue])))
    clear ho4 hw4 hs0 hm0
    conv => cbv
    simp only [ei]
    refine ⟨(i + 1, z3, ii'), by simp [Fits, lk], hI _ _ ⟨by simp only; omega, by simp only; rw [hct]; simp only [ctValue]; omega, by simp only; omega, ?_, hC⟩, by simp only; omega⟩
    simp only
    rw [← hfin]
    have ey : (⟨⟨z, z0, u2, (marks z2 m0)⟩, A0, m0, c0⟩ : VV) = mkValue ⟨⟨f0, f1, f2, x0⟩, A0, m0, c0⟩ (k0 + ctL ctValue (vs.take i)) := by
      simp only [mkValue, hu2, VV.mk.injEq, PV.mk.injEq]
      rw [← hz]
      simp only [hz0, hz1, hz2, hz3, Int.add_assoc, and_self, and_true, true_and]
      try simp
      try (congr 1; omega)
    rw [← ey]
    exact ho
  · have h1 : i = n := by
      have : ¬ ii < x := by simpa [hE.cmp, cmpR] using h1
      omega
    subst h1
    rw [List.drop_of_length_le (by omega), List.append_nil, List.take_of_length_le (by omega)] at ho
    rw [List.take_of_length_le (by omega)] at hz
    conv => cbv
    rw [hR]; exact ⟨by rw [hz]; rfl, ho, hC⟩
set_option maxHeartbeats 4000000 in
theorem heldValueS_f {w : World} {B : Nat} {A : Option Addr} {n c : Nat} {vs : List VV} {k0 : Int} (h : RO 124 4 vC sbValue B w A n c (mkL mkValue ctValue vs k0)) (hk : 0 ≤ k0) (hkn : k0 + ctL ctValue vs < 9223372036854775807) :
    FC Tryz.prog 77 [.slice A n c, .int .i64 k0] w fun v _ => v = .int .i64 (k0 + ctL ctValue vs) := by
  refine FC.intro (cs := []) Tryz.func77 (by kernel_rfl) fun E R hE hr hR => ?_
  have ec : ∀ z : Int, ¬ E.cmp .neq z z = true := fun z => by rw [hE.cmp]; simp [cmpR]
  have hnle := h.row.le
  have hl : vs.length = n := by have := h.len vC_len (by omega); rwa [mkL_len] at this
  conv => cbv
  refine loop_rule hr (fun (s : Nat × Int × Int) w' => s.1 ≤ n ∧ s.2.1 = k0 + ctL ctValue (vs.take s.1) ∧ s.2.2 = s.1 ∧ Ext w w') (fun s => [(0, .slice A n c), (1, .int .i64 s.2.1), (5, .int .i64 s.2.2)]) (fun s => n - s.1) (0, k0, 0)
    (by simp [Fits, lk]) ⟨by simp, by simp [ctL], by simp, Ext.refl _⟩ ?_
  rintro I hI ⟨i, z, ii⟩ w' ⟨hi, hz, hii, hx⟩
  simp only at hi hz hii
  obtain ⟨ii', hii'⟩ : ∃ z, z = ii + 1 := ⟨_, rfl⟩
  conv => cbv
  refine st_len hE sIV fun x hxl => ?_
  conv => cbv
  refine br (fun h1 => ?_) (fun h1 => ?_)
  · have h1 : i < n := by have : ii < x := by simpa [hE.cmp, cmpR] using h1
                          omega
    have ei : E.ar .add .i64 ii 1 = ii' := by rw [hii']; exact inc' hE (by omega) (by omega)
    obtain ⟨v0, hv0⟩ : ∃ y, vs[i]? = some y := ⟨_, List.getElem?_eq_getElem (by omega)⟩
    have hct := ctL_take (ct := ctValue) hv0
    have hcl := ctL_le (ct := ctValue) vs (i + 1)
    have hg := mkL_get (mk := mkValue) (ct := ctValue) k0 hv0
    have hcy : ctValue v0 = 3 + v0.m := rfl
    rw [← hz] at hg
    obtain ⟨y, hy⟩ : ∃ y, y = mkValue v0 z := ⟨_, rfl⟩
    rw [← hy] at hg
    have hsub := h.sub y (List.mem_of_getElem? hg)
    obtain ⟨aK, hAK, _⟩ := fl_at vC_len (h.row.cells.ext hx) (by omega) hg
    have hc : ∀ w2, Ext w w2 → ∀ j v, (vC y)[j]? = some v → w2.cell? ((aK.add (i * 4)).add j) = some v := fun w2 hx2 => by
      obtain ⟨a', hA', hc'⟩ := fl_at vC_len (h.row.cells.ext hx2) (by omega) hg
      rw [hAK] at hA'; cases hA'; exact hc'
    obtain ⟨⟨f0, f1, f2, x0⟩, A0, m0, c0⟩ := y
    simp only [mkValue, VV.mk.injEq, PV.mk.injEq] at hy
    obtain ⟨⟨d0, d1, d2, d3⟩, rA0, rm0, rc0⟩ := hy
    have g0 : f0 = z := by omega
    conv => cbv
    refine st_idx hE sIV hAK (by omega) (by omega) fun q hq => ?_
    rw [show ii.toNat = i by omega] at hq
    conv => cbv
    refine st_fld hE fIV0 fun p hp => ?_
    conv => cbv
    refine st_load hE cInt (v := .int .i64 z) (by rw [hp, hq, ← g0]; exact hc _ hx _ _ rfl) ?_
    conv => cbv
    refine br (fun g => absurd g (ec _)) (fun _ => ?_)
    obtain ⟨z0, hz0⟩ : ∃ q, q = z + 1 := ⟨_, rfl⟩
    have e0 : E.ar .add .i64 z 1 = z0 := by rw [hz0, inc' hE (by omega) (by omega)]
    conv => cbv
    simp only [e0]
    have g1 : f1 = z0 := by omega
    conv => cbv
    refine st_idx hE sIV hAK (by omega) (by omega) fun q hq => ?_
    rw [show ii.toNat = i by omega] at hq
    conv => cbv
    refine st_fld hE fIV1 fun p hp => ?_
    conv => cbv
    refine st_load hE cI64 (v := .int .i64 z0) (by rw [hp, hq, ← g1]; exact hc _ hx _ _ rfl) ?_
    conv => cbv
    refine br (fun g => absurd g (ec _)) (fun _ => ?_)
    obtain ⟨z1, hz1⟩ : ∃ q, q = z0 + 1 := ⟨_, rfl⟩
    have e1 : E.ar .add .i64 z0 1 = z1 := by rw [hz1, inc' hE (by omega) (by omega)]
    conv => cbv
    simp only [e1]
    have g2 : f2 = mkText z1 := by rw [d2]; congr 1; omega
    conv => cbv
    refine draw_x hr fol (by kernel_rfl) fun E' hE' hX => ?_
    conv => cbv
    refine st_idx hE' sIV hAK (by omega) (by omega) fun q hq => ?_
    rw [show ii.toNat = i by omega] at hq
    conv => cbv
    refine st_fld hE' fIV2 fun p hp => ?_
    conv => cbv
    refine st_load hE' cStr (v := .string f2) (by rw [hp, hq]; exact hc _ hx _ _ rfl) ?_
    conv => cbv
    refine st_vx hX (v := .string f2) (by rw [g2]; exact markText_v z1 _ (by omega)) ?_
    conv => cbv
    intro w2 hx2
    replace hx := hx.trans hx2
    have hne : ¬ E'.scmp .neq f2 f2 = true := by rw [hE'.scmp, scmp_neq]; simp
    clear hx2
    conv => cbv
    refine br (fun h2 => absurd h2 hne) (fun _ => ?_)
    clear hne hE' hX
    obtain ⟨z2, hz2⟩ : ∃ q, q = z1 + 1 := ⟨_, rfl⟩
    have e2 : E.ar .add .i64 z1 1 = z2 := by rw [hz2, inc' hE (by omega) (by omega)]
    conv => cbv
    simp only [e2]
    have g3 : x0 = marks z2 m0 := by rw [d3, rm0]; congr 1; omega
    have hs0 := hsub ⟨A0, m0, c0, 9, x0.map .string⟩ (by simp [sbValue])
    simp only at hs0
    rw [g3] at hs0
    conv => cbv
    refine st_idx hE sIV hAK (by omega) (by omega) fun q hq => ?_
    rw [show ii.toNat = i by omega] at hq
    conv => cbv
    refine st_fld hE fIV3 fun p hp => ?_
    conv => cbv
    refine st_load hE cStrs (v := .slice A0 m0 c0) (by rw [hp, hq]; exact hc _ hx _ _ rfl) ?_
    conv => cbv
    have hh0 := heldStringS_v (k := z2) ((hs0.strs (marks_small (by omega))).ext hx) (by omega) (by omega)
    obtain ⟨z3, hz3⟩ : ∃ q : Int, q = z2 + (m0 : Int) := ⟨_, rfl⟩
    rw [← hz3] at hh0
    refine st_v hr hh0 fun w2 hx2 => ?_
    replace hx := hx.trans hx2
    clear hx2
    conv => cbv
    refine br (fun g => absurd (show z3 < 0 by simpa [hE.cmp, cmpR] using g) (by omega)) (fun _ => ?_)
    conv => cbv
    simp only [ei]
    exact ⟨(i + 1, z3, ii'), by simp [Fits, lk], hI _ _ ⟨by simp only; omega, by simp only; rw [hct, hcy]; omega, by simp only; omega, hx⟩, by simp only; omega⟩
  · have h1 : i = n := by
      have : ¬ ii < x := by simpa [hE.cmp, cmpR] using h1
      omega
    subst h1
    rw [List.take_of_length_le (by omega)] at hz
    conv => cbv
    rw [hR]; exact ⟨hx, by rw [hz]; rfl⟩
def sbIns (v : (Int × Int)) : List Sub := []
def mkIns (v : (Int × Int)) (z : Int) : (Int × Int) := (z, z + 1)
def ctIns (v : (Int × Int)) : Nat := 2
set_option maxHeartbeats 4000000 in
theorem markInsS_g {w : World} {B : Nat} {A : Option Addr} {n c : Nat} {vs : List (Int × Int)} (h : RO 129 2 iC sbIns B w A n c vs) (k0 : Int) (hk : 0 ≤ k0) (hkn : k0 + ctL ctIns vs < 9223372036854775807) :
    GC Tryz.prog 76 [.slice A n c, .int .i64 k0] w fun v w' => v = .int .i64 (k0 + ctL ctIns vs) ∧ RO 129 2 iC sbIns B w' A n c (mkL mkIns ctIns vs k0) ∧ CSt w (roA sbIns A vs) w' (roA sbIns A vs) := by
  refine GC.intro (cs := []) Tryz.func76 (by kernel_rfl) fun E R hE hr hR => ?_
  have hl : vs.length = n := h.len iC_len (by omega)
  have hnle := h.row.le
  conv => cbv
  refine loop_rule hr (fun (s : Nat × Int × Int) w' => s.1 ≤ n ∧ s.2.1 = k0 + ctL ctIns (vs.take s.1) ∧ s.2.2 = s.1 ∧ RO 129 2 iC sbIns B w' A n c (mkL mkIns ctIns (vs.take s.1) k0 ++ vs.drop s.1) ∧ CSt w (roA sbIns A vs) w' (roA sbIns A vs)) (fun s => [(0, .slice A n c), (1, .int .i64 s.2.1), (5, .int .i64 s.2.2)]) (fun s => n - s.1) (0, k0, 0)
    (by simp [Fits, lk]) ⟨by simp, by simp [ctL], by simp, by simpa [mkL] using h, CSt.refl _ _⟩ ?_
  rintro I hI ⟨i, z, ii⟩ w' ⟨hi, hz, hii, ho, hC⟩
  simp only at hi hz hii ho
  obtain ⟨ii', hii'⟩ : ∃ z, z = ii + 1 := ⟨_, rfl⟩
  conv => cbv
  refine st_len hE sII fun x hx => ?_
  conv => cbv
  refine br (fun h1 => ?_) (fun h1 => ?_)
  · have h1 : i < n := by have : ii < x := by simpa [hE.cmp, cmpR] using h1
                          omega
    have ei : E.ar .add .i64 ii 1 = ii' := by rw [hii']; exact inc' hE (by omega) (by omega)
    obtain ⟨y, hy⟩ : ∃ y, vs[i]? = some y := ⟨_, List.getElem?_eq_getElem (by omega)⟩
    have hct := ctL_take (ct := ctIns) hy
    have hcl := ctL_le (ct := ctIns) vs (i + 1)
    have hcur := mkL_mid (mk := mkIns) (ct := ctIns) k0 hy
    have hfin := mkL_set (mk := mkIns) (ct := ctIns) k0 hy
    have hcy : ctIns y = 2 := rfl
    have hmem : ∀ a ∈ adr sbIns y, a ∈ roA sbIns A vs := fun a ha => List.mem_cons_of_mem _ (List.mem_flatMap.2 ⟨y, List.mem_of_getElem? hy, ha⟩)
    obtain ⟨cur, hcr⟩ : ∃ cur, cur = mkL mkIns ctIns (vs.take i) k0 ++ vs.drop i := ⟨_, rfl⟩
    rw [← hcr] at ho hcur hfin
    have hcl2 : cur.length = n := ho.len iC_len (by omega)
    obtain ⟨f0, f1⟩ := y
    obtain ⟨gb, rfl, _⟩ := ho.row.addr (by omega)
    conv => cbv
    refine st_idx hE sII rfl (by omega) (by omega) fun q hq => ?_
    rw [show ii.toNat = i by omega] at hq
    conv => cbv
    refine st_fld hE fII0 fun p hp => ?_
    conv => cbv
    refine st_put hr (by kernel_rfl) ho.row (j := i * 2 + 0) (by rw [hp, hq, add_add]) (by rw [fl_len iC_len]; omega) rfl fun w3 hw3 ho3 => ?_
    replace ho := RO.put iC_len (x := ⟨f0, f1⟩) (y := ⟨z, f1⟩) ho hcur (by omega) rfl rfl hw3 ho3
    replace hC := hC.trans (CSt.of_wr hw3 (List.mem_cons_self ..))
    clear ho3 hw3 hp hq
    obtain ⟨z0, hz0⟩ : ∃ q, q = z + 1 := ⟨_, rfl⟩
    have e0 : E.ar .add .i64 z 1 = z0 := by rw [hz0, inc' hE (by omega) (by omega)]
    conv => cbv
    simp only [e0]
    conv => cbv
    conv => cbv
    refine st_idx hE sII rfl (by omega) (by omega) fun q hq => ?_
    rw [show ii.toNat = i by omega] at hq
    conv => cbv
    refine st_fld hE fII1 fun p hp => ?_
    conv => cbv
    refine st_put hr (by kernel_rfl) ho.row (j := i * 2 + 1) (by rw [hp, hq, add_add]) (by rw [fl_len iC_len, List.length_set]; omega) rfl fun w3 hw3 ho3 => ?_
    replace ho := RO.put iC_len (x := ⟨z, f1⟩) (y := ⟨z, z0⟩) ho (List.getElem?_set_self (by omega)) (by omega) rfl rfl hw3 ho3
    rw [List.set_set] at ho
    replace hC := hC.trans (CSt.of_wr hw3 (List.mem_cons_self ..))
    clear ho3 hw3 hp hq
    obtain ⟨z1, hz1⟩ : ∃ q, q = z0 + 1 := ⟨_, rfl⟩
    have e1 : E.ar .add .i64 z0 1 = z1 := by rw [hz1, inc' hE (by omega) (by omega)]
    conv => cbv
    simp only [e1]
    conv => cbv
    simp only [ei]
    refine ⟨(i + 1, z1, ii'), by simp [Fits, lk], hI _ _ ⟨by simp only; omega, by simp only; rw [hct]; simp only [ctIns]; omega, by simp only; omega, ?_, hC⟩, by simp only; omega⟩
    simp only
    rw [← hfin]
    have ey : (⟨z, z0⟩ : (Int × Int)) = mkIns ⟨f0, f1⟩ (k0 + ctL ctIns (vs.take i)) := by
      simp only [mkIns, Prod.mk.injEq]
      rw [← hz]
      simp only [hz0, hz1, Int.add_assoc, and_self, and_true, true_and]
      try simp
      try (congr 1; omega)
    rw [← ey]
    exact ho
  · have h1 : i = n := by
      have : ¬ ii < x := by simpa [hE.cmp, cmpR] using h1
      omega
    subst h1
    rw [List.drop_of_length_le (by omega), List.append_nil, List.take_of_length_le (by omega)] at ho
    rw [List.take_of_length_le (by omega)] at hz
    conv => cbv
    rw [hR]; exact ⟨by rw [hz]; rfl, ho, hC⟩
set_option maxHeartbeats 4000000 in
theorem heldInsS_f {w : World} {B : Nat} {A : Option Addr} {n c : Nat} {vs : List (Int × Int)} {k0 : Int} (h : RO 129 2 iC sbIns B w A n c (mkL mkIns ctIns vs k0)) (hk : 0 ≤ k0) (hkn : k0 + ctL ctIns vs < 9223372036854775807) :
    FC Tryz.prog 78 [.slice A n c, .int .i64 k0] w fun v _ => v = .int .i64 (k0 + ctL ctIns vs) := by
  refine FC.intro (cs := []) Tryz.func78 (by kernel_rfl) fun E R hE hr hR => ?_
  have ec : ∀ z : Int, ¬ E.cmp .neq z z = true := fun z => by rw [hE.cmp]; simp [cmpR]
  have hnle := h.row.le
  have hl : vs.length = n := by have := h.len iC_len (by omega); rwa [mkL_len] at this
  conv => cbv
  refine loop_rule hr (fun (s : Nat × Int × Int) w' => s.1 ≤ n ∧ s.2.1 = k0 + ctL ctIns (vs.take s.1) ∧ s.2.2 = s.1 ∧ Ext w w') (fun s => [(0, .slice A n c), (1, .int .i64 s.2.1), (5, .int .i64 s.2.2)]) (fun s => n - s.1) (0, k0, 0)
    (by simp [Fits, lk]) ⟨by simp, by simp [ctL], by simp, Ext.refl _⟩ ?_
  rintro I hI ⟨i, z, ii⟩ w' ⟨hi, hz, hii, hx⟩
  simp only at hi hz hii
  obtain ⟨ii', hii'⟩ : ∃ z, z = ii + 1 := ⟨_, rfl⟩
  conv => cbv
  refine st_len hE sII fun x hxl => ?_
  conv => cbv
  refine br (fun h1 => ?_) (fun h1 => ?_)
  · have h1 : i < n := by have : ii < x := by simpa [hE.cmp, cmpR] using h1
                          omega
    have ei : E.ar .add .i64 ii 1 = ii' := by rw [hii']; exact inc' hE (by omega) (by omega)
    obtain ⟨v0, hv0⟩ : ∃ y, vs[i]? = some y := ⟨_, List.getElem?_eq_getElem (by omega)⟩
    have hct := ctL_take (ct := ctIns) hv0
    have hcl := ctL_le (ct := ctIns) vs (i + 1)
    have hg := mkL_get (mk := mkIns) (ct := ctIns) k0 hv0
    have hcy : ctIns v0 = 2 := rfl
    rw [← hz] at hg
    obtain ⟨y, hy⟩ : ∃ y, y = mkIns v0 z := ⟨_, rfl⟩
    rw [← hy] at hg
    have hsub := h.sub y (List.mem_of_getElem? hg)
    obtain ⟨aK, hAK, _⟩ := fl_at iC_len (h.row.cells.ext hx) (by omega) hg
    have hc : ∀ w2, Ext w w2 → ∀ j v, (iC y)[j]? = some v → w2.cell? ((aK.add (i * 2)).add j) = some v := fun w2 hx2 => by
      obtain ⟨a', hA', hc'⟩ := fl_at iC_len (h.row.cells.ext hx2) (by omega) hg
      rw [hAK] at hA'; cases hA'; exact hc'
    obtain ⟨f0, f1⟩ := y
    simp only [mkIns, Prod.mk.injEq] at hy
    obtain ⟨d0, d1⟩ := hy
    have g0 : f0 = z := by omega
    conv => cbv
    refine st_idx hE sII hAK (by omega) (by omega) fun q hq => ?_
    rw [show ii.toNat = i by omega] at hq
    conv => cbv
    refine st_fld hE fII0 fun p hp => ?_
    conv => cbv
    refine st_load hE cInt (v := .int .i64 z) (by rw [hp, hq, ← g0]; exact hc _ hx _ _ rfl) ?_
    conv => cbv
    refine br (fun g => absurd g (ec _)) (fun _ => ?_)
    obtain ⟨z0, hz0⟩ : ∃ q, q = z + 1 := ⟨_, rfl⟩
    have e0 : E.ar .add .i64 z 1 = z0 := by rw [hz0, inc' hE (by omega) (by omega)]
    conv => cbv
    simp only [e0]
    have g1 : f1 = z0 := by omega
    conv => cbv
    refine st_idx hE sII hAK (by omega) (by omega) fun q hq => ?_
    rw [show ii.toNat = i by omega] at hq
    conv => cbv
    refine st_fld hE fII1 fun p hp => ?_
    conv => cbv
    refine st_load hE cInt (v := .int .i64 z0) (by rw [hp, hq, ← g1]; exact hc _ hx _ _ rfl) ?_
    conv => cbv
    refine br (fun g => absurd g (ec _)) (fun _ => ?_)
    obtain ⟨z1, hz1⟩ : ∃ q, q = z0 + 1 := ⟨_, rfl⟩
    have e1 : E.ar .add .i64 z0 1 = z1 := by rw [hz1, inc' hE (by omega) (by omega)]
    conv => cbv
    simp only [e1]
    conv => cbv
    simp only [ei]
    exact ⟨(i + 1, z1, ii'), by simp [Fits, lk], hI _ _ ⟨by simp only; omega, by simp only; rw [hct, hcy]; omega, by simp only; omega, hx⟩, by simp only; omega⟩
  · have h1 : i = n := by
      have : ¬ ii < x := by simpa [hE.cmp, cmpR] using h1
      omega
    subst h1
    rw [List.take_of_length_le (by omega)] at hz
    conv => cbv
    rw [hR]; exact ⟨hx, by rw [hz]; rfl⟩
end Go.Proofs.YtgdnmpcaiaoaoaaGreatDoor
/- Marks of nodes and statements (printed by gen_m.py). -/
namespace Go.Proofs.YtgdnmpcaiaoaoaaGreatDoor
open Go.Eng
set_option linter.unusedVariables false
set_option linter.unusedSimpArgs false
def sbNode (v : VN) : List Sub := [⟨v.A0, v.m0, v.c0, 9, v.p.xs.map .string⟩, ⟨v.A1, v.m1, v.c1, 3, v.p.ks.map (.int .i64)⟩]
def mkNode (v : VN) (z : Int) : VN := ⟨⟨z, z + 1, mkText (z + 2), marks (z + 3) v.m0, imarks (z + 3 + v.m0) v.m1⟩, v.A0, v.m0, v.c0, v.A1, v.m1, v.c1⟩
def ctNode (v : VN) : Nat := 3 + v.m0 + v.m1
set_option maxHeartbeats 4000000 in
theorem markNodeS_g {w : World} {B : Nat} {A : Option Addr} {n c : Nat} {vs : List VN} (h : RO 91 5 cN sbNode B w A n c vs) (k0 : Int) (hk : 0 ≤ k0) (hkn : k0 + ctL ctNode vs < 9223372036854775807) :
    GC Tryz.prog 59 [.slice A n c, .int .i64 k0] w fun v w' => v = .int .i64 (k0 + ctL ctNode vs) ∧ RO 91 5 cN sbNode B w' A n c (mkL mkNode ctNode vs k0) ∧ CSt w (roA sbNode A vs) w' (roA sbNode A vs) := by
  refine GC.intro (cs := []) Tryz.func59 (by kernel_rfl) fun E R hE hr hR => ?_
  have hl : vs.length = n := h.len cN_len (by omega)
  have hnle := h.row.le
  conv => cbv
  refine loop_rule hr (fun (s : Nat × Int × Int) w' => s.1 ≤ n ∧ s.2.1 = k0 + ctL ctNode (vs.take s.1) ∧ s.2.2 = s.1 ∧ RO 91 5 cN sbNode B w' A n c (mkL mkNode ctNode (vs.take s.1) k0 ++ vs.drop s.1) ∧ CSt w (roA sbNode A vs) w' (roA sbNode A vs)) (fun s => [(0, .slice A n c), (1, .int .i64 s.2.1), (5, .int .i64 s.2.2)]) (fun s => n - s.1) (0, k0, 0)
    (by simp [Fits, lk]) ⟨by simp, by simp [ctL], by simp, by simpa [mkL] using h, CSt.refl _ _⟩ ?_
  rintro I hI ⟨i, z, ii⟩ w' ⟨hi, hz, hii, ho, hC⟩
  simp only at hi hz hii ho
  obtain ⟨ii', hii'⟩ : ∃ z, z = ii + 1 := ⟨_, rfl⟩
  conv => cbv
  refine st_len hE sINd fun x hx => ?_
  conv => cbv
  refine br (fun h1 => ?_) (fun h1 => ?_)
  · have h1 : i < n := by have : ii < x := by simpa [hE.cmp, cmpR] using h1
                          omega
    have ei : E.ar .add .i64 ii 1 = ii' := by rw [hii']; exact inc' hE (by omega) (by omega)
    obtain ⟨y, hy⟩ : ∃ y, vs[i]? = some y := ⟨_, List.getElem?_eq_getElem (by omega)⟩
    have hct := ctL_take (ct := ctNode) hy
    have hcl := ctL_le (ct := ctNode) vs (i + 1)
    have hcur := mkL_mid (mk := mkNode) (ct := ctNode) k0 hy
    have hfin := mkL_set (mk := mkNode) (ct := ctNode) k0 hy
    have hcy : ctNode y = 3 + y.m0 + y.m1 := rfl
    have hmem : ∀ a ∈ adr sbNode y, a ∈ roA sbNode A vs := fun a ha => List.mem_cons_of_mem _ (List.mem_flatMap.2 ⟨y, List.mem_of_getElem? hy, ha⟩)
    obtain ⟨cur, hcr⟩ : ∃ cur, cur = mkL mkNode ctNode (vs.take i) k0 ++ vs.drop i := ⟨_, rfl⟩
    rw [← hcr] at ho hcur hfin
    have hcl2 : cur.length = n := ho.len cN_len (by omega)
    obtain ⟨⟨f0, f1, f2, x0, x1⟩, A0, m0, c0, A1, m1, c1⟩ := y
    simp only at hcy
    obtain ⟨gb, rfl, _⟩ := ho.row.addr (by omega)
    conv => cbv
    refine st_idx hE sINd rfl (by omega) (by omega) fun q hq => ?_
    rw [show ii.toNat = i by omega] at hq
    conv => cbv
    refine st_fld hE fINd0 fun p hp => ?_
    conv => cbv
    refine st_put hr (by kernel_rfl) ho.row (j := i * 5 + 0) (by rw [hp, hq, add_add]) (by rw [fl_len cN_len]; omega) rfl fun w3 hw3 ho3 => ?_
    replace ho := RO.put cN_len (x := ⟨⟨f0, f1, f2, x0, x1⟩, A0, m0, c0, A1, m1, c1⟩) (y := ⟨⟨z, f1, f2, x0, x1⟩, A0, m0, c0, A1, m1, c1⟩) ho hcur (by omega) rfl rfl hw3 ho3
    replace hC := hC.trans (CSt.of_wr hw3 (List.mem_cons_self ..))
    clear ho3 hw3 hp hq
    obtain ⟨z0, hz0⟩ : ∃ q, q = z + 1 := ⟨_, rfl⟩
    have e0 : E.ar .add .i64 z 1 = z0 := by rw [hz0, inc' hE (by omega) (by omega)]
    conv => cbv
    simp only [e0]
    conv => cbv
    conv => cbv
    refine st_idx hE sINd rfl (by omega) (by omega) fun q hq => ?_
    rw [show ii.toNat = i by omega] at hq
    conv => cbv
    refine st_fld hE fINd1 fun p hp => ?_
    conv => cbv
    refine st_put hr (by kernel_rfl) ho.row (j := i * 5 + 1) (by rw [hp, hq, add_add]) (by rw [fl_len cN_len, List.length_set]; omega) rfl fun w3 hw3 ho3 => ?_
    replace ho := RO.put cN_len (x := ⟨⟨z, f1, f2, x0, x1⟩, A0, m0, c0, A1, m1, c1⟩) (y := ⟨⟨z, z0, f2, x0, x1⟩, A0, m0, c0, A1, m1, c1⟩) ho (List.getElem?_set_self (by omega)) (by omega) rfl rfl hw3 ho3
    rw [List.set_set] at ho
    replace hC := hC.trans (CSt.of_wr hw3 (List.mem_cons_self ..))
    clear ho3 hw3 hp hq
    obtain ⟨z1, hz1⟩ : ∃ q, q = z0 + 1 := ⟨_, rfl⟩
    have e1 : E.ar .add .i64 z0 1 = z1 := by rw [hz1, inc' hE (by omega) (by omega)]
    conv => cbv
    simp only [e1]
    conv => cbv
    obtain ⟨u2, hu2⟩ : ∃ u, u = mkText z1 := ⟨_, rfl⟩
    refine st_v hr (v := .string u2) (by rw [hu2]; exact markText_v z1 _ (by omega)) fun w2 hx2 => ?_
    replace hC := hC.trans (CSt.of_ext hx2 _)
    replace ho := ho.ext hx2
    clear hx2
    conv => cbv
    refine st_idx hE sINd rfl (by omega) (by omega) fun q hq => ?_
    rw [show ii.toNat = i by omega] at hq
    conv => cbv
    refine st_fld hE fINd2 fun p hp => ?_
    conv => cbv
    refine st_put hr (by kernel_rfl) ho.row (j := i * 5 + 2) (by rw [hp, hq, add_add]) (by rw [fl_len cN_len, List.length_set]; omega) rfl fun w3 hw3 ho3 => ?_
    replace ho := RO.put cN_len (x := ⟨⟨z, z0, f2, x0, x1⟩, A0, m0, c0, A1, m1, c1⟩) (y := ⟨⟨z, z0, u2, x0, x1⟩, A0, m0, c0, A1, m1, c1⟩) ho (List.getElem?_set_self (by omega)) (by omega) rfl rfl hw3 ho3
    rw [List.set_set] at ho
    replace hC := hC.trans (CSt.of_wr hw3 (List.mem_cons_self ..))
    clear ho3 hw3 hp hq
    obtain ⟨z2, hz2⟩ : ∃ q, q = z1 + 1 := ⟨_, rfl⟩
    have e2 : E.ar .add .i64 z1 1 = z2 := by rw [hz2, inc' hE (by omega) (by omega)]
    conv => cbv
    simp only [e2]
    conv => cbv
    obtain ⟨aK, hAK, hcell⟩ := fl_at cN_len ho.row.cells (by omega) (show (cur.set i ⟨⟨z, z0, u2, x0, x1⟩, A0, m0, c0, A1, m1, c1⟩)[i]? = some ⟨⟨z, z0, u2, x0, x1⟩, A0, m0, c0, A1, m1, c1⟩ from List.getElem?_set_self (by omega))
    cases hAK
    refine st_idx hE sINd rfl (by omega) (by omega) fun q hq => ?_
    rw [show ii.toNat = i by omega] at hq
    conv => cbv
    refine st_fld hE fINd3 fun p hp => ?_
    conv => cbv
    refine st_load hE cStrs (by rw [hp, hq]; exact hcell 3 _ rfl) ?_
    conv => cbv
    clear hp hq hcell
    have hs0 := ho.sub ⟨⟨z, z0, u2, x0, x1⟩, A0, m0, c0, A1, m1, c1⟩ (List.mem_of_getElem? (List.getElem?_set_self (by omega))) ⟨A0, m0, c0, 9, x0.map .string⟩ (by simp [sbNode])
    simp only at hs0
    have hm0 := markStringS_g hs0 z2 (by omega) (by omega)
    obtain ⟨z3, hz3⟩ : ∃ q : Int, q = z2 + (m0 : Int) := ⟨_, rfl⟩
    rw [← hz3] at hm0
    refine st_g hr hm0 fun v w4 ⟨ev, ho4, hw4⟩ => ?_
    subst ev
    replace ho := RO.putS (q := 0) (s := ⟨A0, m0, c0, 9, x0.map .string⟩) (s' := ⟨A0, m0, c0, 9, (marks z2 m0).map .string⟩) (x := ⟨⟨z, z0, u2, x0, x1⟩, A0, m0, c0, A1, m1, c1⟩) (y := ⟨⟨z, z0, u2, (marks z2 m0), x1⟩, A0, m0, c0, A1, m1, c1⟩) ho (List.getElem?_set_self (by omega)) rfl rfl rfl rfl hw4 ho4
    rw [List.set_set] at ho
    replace hC := hC.trans (CSt.of_wr hw4 (hmem _ (by simp [adr, sbNode])))
    clear ho4 hw4 hs0 hm0
    conv => cbv
    obtain ⟨aK, hAK, hcell⟩ := fl_at cN_len ho.row.cells (by omega) (show (cur.set i ⟨⟨z, z0, u2, (marks z2 m0), x1⟩, A0, m0, c0, A1, m1, c1⟩)[i]? = some ⟨⟨z, z0, u2, (marks z2 m0), x1⟩, A0, m0, c0, A1, m1, c1⟩ from List.getElem?_set_self (by omega))
    cases hAK
    refine st_idx hE sINd rfl (by omega) (by omega) fun q hq => ?_
    rw [show ii.toNat = i by omega] at hq
    conv => cbv
    refine st_fld hE fINd4 fun p hp => ?_
    conv => cbv
    refine st_load hE cInts1 (by rw [hp, hq]; exact hcell 4 _ rfl) ?_
    conv => cbv
    clear hp hq hcell
    have hs1 := ho.sub ⟨⟨z, z0, u2, (marks z2 m0), x1⟩, A0, m0, c0, A1, m1, c1⟩ (List.mem_of_getElem? (List.getElem?_set_self (by omega))) ⟨A1, m1, c1, 3, x1.map (.int .i64)⟩ (by simp [sbNode])
    simp only at hs1
    have hm1 := markIntS_g hs1 z3 (by omega) (by omega)
    obtain ⟨z4, hz4⟩ : ∃ q : Int, q = z3 + (m1 : Int) := ⟨_, rfl⟩
    rw [← hz4] at hm1
    refine st_g hr hm1 fun v w4 ⟨ev, ho4, hw4⟩ => ?_
    subst ev
    replace ho := RO.putS (q := 1) (s := ⟨A1, m1, c1, 3, x1.map (.int .i64)⟩) (s' := ⟨A1, m1, c1, 3, (imarks z3 m1).map (.int .i64)⟩) (x := ⟨⟨z, z0, u2, (marks z2 m0), x1⟩, A0, m0, c0, A1, m1, c1⟩) (y := ⟨⟨z, z0, u2, (marks z2 m0), (imarks z3 m1)⟩, A0, m0, c0, A1, m1, c1⟩) ho (List.getElem?_set_self (by omega)) rfl rfl rfl rfl hw4 ho4
    rw [List.set_set] at ho
    replace hC := hC.trans (CSt.of_wr hw4 (hmem _ (by simp [adr, sbNode])))
    clear ho4 hw4 hs1 hm1
    conv => cbv
    simp only [ei]
    refine ⟨(i + 1, z4, ii'), by simp [Fits, lk], hI _ _ ⟨by simp only; omega, by simp only; rw [hct]; simp only [ctNode]; omega, by simp only; omega, ?_, hC⟩, by simp only; omega⟩
    simp only
    rw [← hfin]
    have ey : (⟨⟨z, z0, u2, (marks z2 m0), (imarks z3 m1)⟩, A0, m0, c0, A1, m1, c1⟩ : VN) = mkNode ⟨⟨f0, f1, f2, x0, x1⟩, A0, m0, c0, A1, m1, c1⟩ (k0 + ctL ctNode (vs.take i)) := by
      simp only [mkNode, hu2, VN.mk.injEq, PN.mk.injEq]
      rw [← hz]
      simp only [hz0, hz1, hz2, hz3, hz4, Int.add_assoc, and_self, and_true, true_and]
      try simp
      try (congr 1; omega)
    rw [← ey]
    exact ho
  · have h1 : i = n := by
      have : ¬ ii < x := by simpa [hE.cmp, cmpR] using h1
      omega
    subst h1
    rw [List.drop_of_length_le (by omega), List.append_nil, List.take_of_length_le (by omega)] at ho
    rw [List.take_of_length_le (by omega)] at hz
    conv => cbv
    rw [hR]; exact ⟨by rw [hz]; rfl, ho, hC⟩
def sbStmt (v : PS) : List Sub := []
def mkStmt (v : PS) (z : Int) : PS := ⟨z, mkText (z + 1), z + 2, z + 3⟩
def ctStmt (v : PS) : Nat := 4
set_option maxHeartbeats 4000000 in
theorem markStmtS_g {w : World} {B : Nat} {A : Option Addr} {n c : Nat} {vs : List PS} (h : RO 117 4 cS sbStmt B w A n c vs) (k0 : Int) (hk : 0 ≤ k0) (hkn : k0 + ctL ctStmt vs < 9223372036854775807) :
    GC Tryz.prog 60 [.slice A n c, .int .i64 k0] w fun v w' => v = .int .i64 (k0 + ctL ctStmt vs) ∧ RO 117 4 cS sbStmt B w' A n c (mkL mkStmt ctStmt vs k0) ∧ CSt w (roA sbStmt A vs) w' (roA sbStmt A vs) := by
  refine GC.intro (cs := []) Tryz.func60 (by kernel_rfl) fun E R hE hr hR => ?_
  have hl : vs.length = n := h.len cS_len (by omega)
  have hnle := h.row.le
  conv => cbv
  refine loop_rule hr (fun (s : Nat × Int × Int) w' => s.1 ≤ n ∧ s.2.1 = k0 + ctL ctStmt (vs.take s.1) ∧ s.2.2 = s.1 ∧ RO 117 4 cS sbStmt B w' A n c (mkL mkStmt ctStmt (vs.take s.1) k0 ++ vs.drop s.1) ∧ CSt w (roA sbStmt A vs) w' (roA sbStmt A vs)) (fun s => [(0, .slice A n c), (1, .int .i64 s.2.1), (5, .int .i64 s.2.2)]) (fun s => n - s.1) (0, k0, 0)
    (by simp [Fits, lk]) ⟨by simp, by simp [ctL], by simp, by simpa [mkL] using h, CSt.refl _ _⟩ ?_
  rintro I hI ⟨i, z, ii⟩ w' ⟨hi, hz, hii, ho, hC⟩
  simp only at hi hz hii ho
  obtain ⟨ii', hii'⟩ : ∃ z, z = ii + 1 := ⟨_, rfl⟩
  conv => cbv
  refine st_len hE sISd fun x hx => ?_
  conv => cbv
  refine br (fun h1 => ?_) (fun h1 => ?_)
  · have h1 : i < n := by have : ii < x := by simpa [hE.cmp, cmpR] using h1
                          omega
    have ei : E.ar .add .i64 ii 1 = ii' := by rw [hii']; exact inc' hE (by omega) (by omega)
    obtain ⟨y, hy⟩ : ∃ y, vs[i]? = some y := ⟨_, List.getElem?_eq_getElem (by omega)⟩
    have hct := ctL_take (ct := ctStmt) hy
    have hcl := ctL_le (ct := ctStmt) vs (i + 1)
    have hcur := mkL_mid (mk := mkStmt) (ct := ctStmt) k0 hy
    have hfin := mkL_set (mk := mkStmt) (ct := ctStmt) k0 hy
    have hcy : ctStmt y = 4 := rfl
    have hmem : ∀ a ∈ adr sbStmt y, a ∈ roA sbStmt A vs := fun a ha => List.mem_cons_of_mem _ (List.mem_flatMap.2 ⟨y, List.mem_of_getElem? hy, ha⟩)
    obtain ⟨cur, hcr⟩ : ∃ cur, cur = mkL mkStmt ctStmt (vs.take i) k0 ++ vs.drop i := ⟨_, rfl⟩
    rw [← hcr] at ho hcur hfin
    have hcl2 : cur.length = n := ho.len cS_len (by omega)
    obtain ⟨f0, f1, f2, f3⟩ := y
    obtain ⟨gb, rfl, _⟩ := ho.row.addr (by omega)
    conv => cbv
    refine st_idx hE sISd rfl (by omega) (by omega) fun q hq => ?_
    rw [show ii.toNat = i by omega] at hq
    conv => cbv
    refine st_fld hE fISd0 fun p hp => ?_
    conv => cbv
    refine st_put hr (by kernel_rfl) ho.row (j := i * 4 + 0) (by rw [hp, hq, add_add]) (by rw [fl_len cS_len]; omega) rfl fun w3 hw3 ho3 => ?_
    replace ho := RO.put cS_len (x := ⟨f0, f1, f2, f3⟩) (y := ⟨z, f1, f2, f3⟩) ho hcur (by omega) rfl rfl hw3 ho3
    replace hC := hC.trans (CSt.of_wr hw3 (List.mem_cons_self ..))
    clear ho3 hw3 hp hq
    obtain ⟨z0, hz0⟩ : ∃ q, q = z + 1 := ⟨_, rfl⟩
    have e0 : E.ar .add .i64 z 1 = z0 := by rw [hz0, inc' hE (by omega) (by omega)]
    conv => cbv
    simp only [e0]
    conv => cbv
    obtain ⟨u1, hu1⟩ : ∃ u, u = mkText z0 := ⟨_, rfl⟩
    refine st_v hr (v := .string u1) (by rw [hu1]; exact markText_v z0 _ (by omega)) fun w2 hx2 => ?_
    replace hC := hC.trans (CSt.of_ext hx2 _)
    replace ho := ho.ext hx2
    clear hx2
    conv => cbv
    refine st_idx hE sISd rfl (by omega) (by omega) fun q hq => ?_
    rw [show ii.toNat = i by omega] at hq
    conv => cbv
    refine st_fld hE fISd1 fun p hp => ?_
    conv => cbv
    refine st_put hr (by kernel_rfl) ho.row (j := i * 4 + 1) (by rw [hp, hq, add_add]) (by rw [fl_len cS_len, List.length_set]; omega) rfl fun w3 hw3 ho3 => ?_
    replace ho := RO.put cS_len (x := ⟨z, f1, f2, f3⟩) (y := ⟨z, u1, f2, f3⟩) ho (List.getElem?_set_self (by omega)) (by omega) rfl rfl hw3 ho3
    rw [List.set_set] at ho
    replace hC := hC.trans (CSt.of_wr hw3 (List.mem_cons_self ..))
    clear ho3 hw3 hp hq
    obtain ⟨z1, hz1⟩ : ∃ q, q = z0 + 1 := ⟨_, rfl⟩
    have e1 : E.ar .add .i64 z0 1 = z1 := by rw [hz1, inc' hE (by omega) (by omega)]
    conv => cbv
    simp only [e1]
    conv => cbv
    conv => cbv
    refine st_idx hE sISd rfl (by omega) (by omega) fun q hq => ?_
    rw [show ii.toNat = i by omega] at hq
    conv => cbv
    refine st_fld hE fISd2 fun p hp => ?_
    conv => cbv
    refine st_put hr (by kernel_rfl) ho.row (j := i * 4 + 2) (by rw [hp, hq, add_add]) (by rw [fl_len cS_len, List.length_set]; omega) rfl fun w3 hw3 ho3 => ?_
    replace ho := RO.put cS_len (x := ⟨z, u1, f2, f3⟩) (y := ⟨z, u1, z1, f3⟩) ho (List.getElem?_set_self (by omega)) (by omega) rfl rfl hw3 ho3
    rw [List.set_set] at ho
    replace hC := hC.trans (CSt.of_wr hw3 (List.mem_cons_self ..))
    clear ho3 hw3 hp hq
    obtain ⟨z2, hz2⟩ : ∃ q, q = z1 + 1 := ⟨_, rfl⟩
    have e2 : E.ar .add .i64 z1 1 = z2 := by rw [hz2, inc' hE (by omega) (by omega)]
    conv => cbv
    simp only [e2]
    conv => cbv
    conv => cbv
    refine st_idx hE sISd rfl (by omega) (by omega) fun q hq => ?_
    rw [show ii.toNat = i by omega] at hq
    conv => cbv
    refine st_fld hE fISd3 fun p hp => ?_
    conv => cbv
    refine st_put hr (by kernel_rfl) ho.row (j := i * 4 + 3) (by rw [hp, hq, add_add]) (by rw [fl_len cS_len, List.length_set]; omega) rfl fun w3 hw3 ho3 => ?_
    replace ho := RO.put cS_len (x := ⟨z, u1, z1, f3⟩) (y := ⟨z, u1, z1, z2⟩) ho (List.getElem?_set_self (by omega)) (by omega) rfl rfl hw3 ho3
    rw [List.set_set] at ho
    replace hC := hC.trans (CSt.of_wr hw3 (List.mem_cons_self ..))
    clear ho3 hw3 hp hq
    obtain ⟨z3, hz3⟩ : ∃ q, q = z2 + 1 := ⟨_, rfl⟩
    have e3 : E.ar .add .i64 z2 1 = z3 := by rw [hz3, inc' hE (by omega) (by omega)]
    conv => cbv
    simp only [e3]
    conv => cbv
    simp only [ei]
    refine ⟨(i + 1, z3, ii'), by simp [Fits, lk], hI _ _ ⟨by simp only; omega, by simp only; rw [hct]; simp only [ctStmt]; omega, by simp only; omega, ?_, hC⟩, by simp only; omega⟩
    simp only
    rw [← hfin]
    have ey : (⟨z, u1, z1, z2⟩ : PS) = mkStmt ⟨f0, f1, f2, f3⟩ (k0 + ctL ctStmt (vs.take i)) := by
      simp only [mkStmt, hu1, PS.mk.injEq]
      rw [← hz]
      simp only [hz0, hz1, hz2, hz3, Int.add_assoc, and_self, and_true, true_and]
      try simp
      try (congr 1; omega)
    rw [← ey]
    exact ho
  · have h1 : i = n := by
      have : ¬ ii < x := by simpa [hE.cmp, cmpR] using h1
      omega
    subst h1
    rw [List.drop_of_length_le (by omega), List.append_nil, List.take_of_length_le (by omega)] at ho
    rw [List.take_of_length_le (by omega)] at hz
    conv => cbv
    rw [hR]; exact ⟨by rw [hz]; rfl, ho, hC⟩
end Go.Proofs.YtgdnmpcaiaoaoaaGreatDoor
/- Copies of typed policies, all of one's own and apart (printed by gen_m4.py from P3 and T23). -/
namespace Go.Proofs.YtgdnmpcaiaoaoaaGreatDoor
open Go.Eng
set_option linter.unusedVariables false
set_option linter.unusedSimpArgs false
theorem DJ.snoc {A : Option Addr} {ls : List (List (Option Addr))} {n : List (Option Addr)} (h : DJ A ls) (h1 : ∀ a ∈ n, Dj A a) (h2 : n.Pairwise Dj) (h3 : ∀ l ∈ ls, ∀ b ∈ n, ∀ a ∈ l, Dj a b) : DJ A (ls ++ [n]) := by
  refine ⟨fun l hl => ?_, fun l hl => ?_, List.pairwise_append.2 ⟨h.pw, by simp, fun la hla lb hlb a ha b hb => ?_⟩⟩
  · rcases List.mem_append.1 hl with hl | hl
    · exact h.rowd l hl
    · simp at hl; subst hl; exact h1
  · rcases List.mem_append.1 hl with hl | hl
    · exact h.own l hl
    · simp at hl; subst hl; exact h2
  · simp at hlb; subst hlb; exact h3 la hla b hb a ha
/-- A typed policy of one's own. -/
structure OT (B : Nat) (w : World) (A : Option Addr) (n c : Nat) (A2 : Option Addr) (n2 c2 : Nat) (A3 : Option Addr) (n3 c3 : Nat) (vs : List VN) (sv : List PS) (tyl : List Int) : Prop where
  nd : RO 91 5 cN sbNode B w A n c vs
  st : Own B 117 4 w A2 n2 c2 (sv.flatMap cS)
  ty : Own B 3 1 w A3 n3 c3 (tyl.map (.int .i64))
  d12 : ∀ r ∈ roA sbNode A vs, Dj r A2
  d13 : ∀ r ∈ roA sbNode A vs, Dj r A3
  d23 : Dj A2 A3
theorem RO.above {α : Type} {e : TypeId} {k : Nat} {f : α → List Value} {sb : α → List Sub} {B : Nat} {w w' : World} {A : Option Addr} {n c : Nat} {vs : List α} (h : RO e k f sb B w A n c vs) (ha : Above B w w') : RO e k f sb B w' A n c vs := ⟨h.row.above ha, fun v hv s hs => (h.sub v hv s hs).above ha, h.dj⟩
theorem toNodeO_f {w : World} (v : VN) (h : OKN w v) (b_xs : v.m0 ≤ 1048576) (b_ks : v.m1 ≤ 1048576) :
    FC Tryz.prog 107 [.agg ⟨cN v⟩] w fun u w' => ∃ B0 n0 d0 B1 n1 d1, u = .agg ⟨[.int .i64 v.p.o, .int .i64 v.p.z, .string v.p.tx, .slice B0 n0 d0, .slice B1 n1 d1]⟩ ∧ Own w.heap.size 9 1 w' B0 n0 d0 (v.p.xs.map (.string)) ∧ Own w.heap.size 3 1 w' B1 n1 d1 (v.p.ks.map (.int .i64)) ∧ Dj B0 B1 := by
  refine FC.intro (cs := []) Tryz.func107 (by kernel_rfl) fun E R hE hr hR => ?_
  obtain ⟨⟨o, z, tx, xs, ks⟩, A0, m0, c0, A1, m1, c1⟩ := v
  have r_xs := h.r_xs
  have r_ks := h.r_ks
  clear h
  simp only at r_xs b_xs r_ks b_ks hR
  conv => cbv
  refine st_box hr fun a w1 hx hb0 => ?_
  have hb := hb0 _ (Nat.le_refl _)
  conv => cbv
  refine st_alloc hr tINd rfl fun oo w2 hx2 ho0 => ?_
  have ho := ho0 _ hx.size
  have hb := hb.bel hx2
  have hx := hx.trans hx2
  conv => cbv
  refine st_alloc hr tINd rfl fun q w3 hx3 hq0 => ?_
  have hq := hq0 _ hx.size
  have aq := (hb.apart (hq0 _ (Nat.le_refl _)) (Nat.le_refl _)).1
  have oq := (ho.apart (hq0 _ (Nat.le_refl _)) (Nat.le_refl _)).1
  have hb := hb.bel hx3
  have ho := ho.bel hx3
  have hx := hx.trans hx3
  clear hb0 ho0 hq0
  conv => cbv
  (refine st_fld hE fLNd0 fun p hp => ?_; (conv => cbv); refine st_load hE cInt (by rw [hp]; exact (hb).at _ _ rfl) ?_; clear hp; (conv => cbv))
  (refine st_fld hE fINd0 fun p hp => ?_; (conv => cbv); refine st_put hr zInt hq hp (by simp) rfl fun wn hw hq2 => ?_; replace hx := hx.then (hw.bel hq hx.size); (try clear hq); (have hq := hq2); clear hq2; (simp only [List.set_cons_zero, List.set_cons_succ] at hq); clear hp)
  replace hb := hb.wr hw aq
  replace ho := ho.wr hw oq
  conv => cbv
  (refine st_fld hE fLNd1 fun p hp => ?_; (conv => cbv); refine st_load hE cI64 (by rw [hp]; exact (hb).at _ _ rfl) ?_; clear hp; (conv => cbv))
  (refine st_fld hE fINd1 fun p hp => ?_; (conv => cbv); refine st_put hr zI64 hq hp (by simp) rfl fun wn hw hq2 => ?_; replace hx := hx.then (hw.bel hq hx.size); (try clear hq); (have hq := hq2); clear hq2; (simp only [List.set_cons_zero, List.set_cons_succ] at hq); clear hp)
  replace hb := hb.wr hw aq
  replace ho := ho.wr hw oq
  conv => cbv
  (refine st_fld hE fLNd2 fun p hp => ?_; (conv => cbv); refine st_load hE cStr (by rw [hp]; exact (hb).at _ _ rfl) ?_; clear hp; (conv => cbv))
  (refine st_fld hE fINd2 fun p hp => ?_; (conv => cbv); refine st_put hr zStr hq hp (by simp) rfl fun wn hw hq2 => ?_; replace hx := hx.then (hw.bel hq hx.size); (try clear hq); (have hq := hq2); clear hq2; (simp only [List.set_cons_zero, List.set_cons_succ] at hq); clear hp)
  replace hb := hb.wr hw aq
  replace ho := ho.wr hw oq
  conv => cbv
  (refine st_fld hE fLNd3 fun p hp => ?_; (conv => cbv); refine st_load hE cStrs (by rw [hp]; exact (hb).at _ _ rfl) ?_; clear hp; (conv => cbv))
  refine st_f hr (toStringS_f (r_xs.ext hx) b_xs) fun u ww hxx ⟨B0, n0, d0, ev, hcp, o_xs⟩ => ?_
  clear hcp
  subst ev
  have ax_xs := (hq.apart o_xs (Nat.le_refl _)).2
  have bx_xs := (ho.apart o_xs (Nat.le_refl _)).2
  replace o_xs := o_xs.mono hx.size
  replace hb := hb.bel hxx
  replace ho := ho.bel hxx
  replace hq := hq.bel hxx
  replace hx := hx.trans hxx
  clear hxx
  conv => cbv
  (refine st_fld hE fINd3 fun p hp => ?_; (conv => cbv); refine st_put hr zStrs hq hp (by simp) rfl fun wn hw hq2 => ?_; replace hx := hx.then (hw.bel hq hx.size); (try clear hq); (have hq := hq2); clear hq2; (simp only [List.set_cons_zero, List.set_cons_succ] at hq); clear hp)
  replace hb := hb.wr hw aq
  replace ho := ho.wr hw oq
  replace o_xs := o_xs.wr hw ax_xs
  conv => cbv
  (refine st_fld hE fLNd4 fun p hp => ?_; (conv => cbv); refine st_load hE cInts (by rw [hp]; exact (hb).at _ _ rfl) ?_; clear hp; (conv => cbv))
  refine st_f hr (toIntS_f (r_ks.ext hx) b_ks) fun u ww hxx ⟨B1, d1, ev, o_ks⟩ => ?_
  have djk : Dj B0 B1 := dj_new o_xs o_ks (Nat.le_refl _)
  subst ev
  have ax_ks := (hq.apart o_ks (Nat.le_refl _)).2
  have bx_ks := (ho.apart o_ks (Nat.le_refl _)).2
  replace o_ks := o_ks.mono hx.size
  replace hb := hb.bel hxx
  replace ho := ho.bel hxx
  replace hq := hq.bel hxx
  replace hx := hx.trans hxx
  replace o_xs := o_xs.bel hxx
  clear hxx
  conv => cbv
  (refine st_fld hE fINd4 fun p hp => ?_; (conv => cbv); refine st_put hr zInts hq hp (by simp) rfl fun wn hw hq2 => ?_; replace hx := hx.then (hw.bel hq hx.size); (try clear hq); (have hq := hq2); clear hq2; (simp only [List.set_cons_zero, List.set_cons_succ] at hq); clear hp)
  replace hb := hb.wr hw aq
  replace ho := ho.wr hw oq
  replace o_xs := o_xs.wr hw ax_xs
  replace o_ks := o_ks.wr hw ax_ks
  conv => cbv
  refine st_loadS hE tINd rfl hq.at ?_
  conv => cbv
  refine st_putS hr (by kernel_rfl) ho (add_zero _).symm (by simp) (by simp [Value.oneCell']) fun w5 hw5 ho5 => ?_
  simp only [List.take_zero, List.nil_append, List.length_cons, List.length_nil, List.drop_succ_cons, List.drop_nil, List.append_nil] at ho5
  conv => cbv
  refine st_cell hr tINd rfl ho5.at ?_
  rw [hR]; exact ⟨hx.then (hw5.bel ho hx.size), B0, n0, d0, B1, _, d1, rfl, o_xs.wr hw5 bx_xs, o_ks.wr hw5 bx_ks, djk⟩
set_option maxHeartbeats 1000000 in
theorem toNodeSO_f {w : World} {A : Option Addr} {n c : Nat} {pv : List PN} (h : RNs w A n pv) (hn : n ≤ 1048576) (hp_xs : ∀ p ∈ pv, p.xs.length ≤ 1048576) (hp_ks : ∀ p ∈ pv, p.ks.length ≤ 1048576) :
    FC Tryz.prog 50 [.slice A n c] w fun v w' => ∃ A1 c1 vs, v = .slice A1 n c1 ∧ vs.map (·.p) = pv ∧ RO 91 5 cN sbNode w.heap.size w' A1 n c1 vs ∧ ∀ w2, Above w.heap.size w' w2 → RNs w2 A1 n pv := by
  refine FC.intro (cs := []) Tryz.func50 (by kernel_rfl) fun E R hE hr hR => ?_
  have hl := h.len
  conv => cbv
  refine st_len hE sLNd fun x hx => ?_
  conv => cbv
  refine st_makeK hr sINd rfl (m := n) (by omega) (by omega) (by omega) fun A1 w1 hx1 h10 => ?_
  have h1 := h10 _ (Nat.le_refl _)
  rw [show (Value.agg ⟨zNd⟩).cells = ⟨cN v0N⟩ from rfl, made_fl (f := cN) v0N n 5 rfl (by omega)] at h1
  conv => cbv
  refine loop_rule hr (fun (s : Nat × Int × List VN) w' => s.1 ≤ n ∧ s.2.1 = (s.1 : Int) ∧ s.2.2.length = s.1 ∧ s.2.2.map (·.p) = pv.take s.1 ∧ Ext w w' ∧ Own w.heap.size 91 5 w' A1 n n ((s.2.2 ++ List.replicate (n - s.1) v0N).flatMap cN) ∧
      (∀ v ∈ s.2.2, Own w1.heap.size 9 1 w' v.A0 v.m0 v.c0 (v.p.xs.map (.string)) ∧ Own w1.heap.size 3 1 w' v.A1 v.m1 v.c1 (v.p.ks.map (.int .i64)) ∧ v.p.tx.size ≤ 9223372036854775807 ∧ (∀ u ∈ v.p.xs, u.size ≤ 9223372036854775807)) ∧ w1.heap.size ≤ w'.heap.size ∧ DJ A1 (s.2.2.map (adr sbNode)))
    (fun s => [(0, .slice A n c), (3, .slice A1 n n), (4, .int .i64 s.2.1)]) (fun s => n - s.1) (0, 0, [])
    (by simp [Fits, lk]) ⟨by simp, by simp, rfl, by simp, hx1, by simpa using h1, by simp, Nat.le_refl _, ⟨by simp, by simp, by simp⟩⟩ ?_
  rintro I hI ⟨i, ii, ds⟩ w' ⟨hi, hii, hdl, hdp, hxw, ho, hds, hsz, hdj⟩
  simp only at hi hii hdl hdp ho hds hdj
  obtain ⟨ii', hii'⟩ : ∃ z, z = ii + 1 := ⟨_, rfl⟩
  conv => cbv
  refine st_len hE sLNd fun x2 hx2 => ?_
  conv => cbv
  refine br (fun g2 => ?_) (fun g2 => ?_)
  · have g2 : i < n := by
      have : ii < x2 := by simpa [hE.cmp, cmpR] using g2
      omega
    have ei : E.ar .add .i64 ii 1 = ii' := by rw [hE.ar, hii']; exact wrap_in (by omega) (by omega)
    obtain ⟨a, v, hA, hg, hc, hok⟩ := (h.ext hxw).get g2
    have hb_xs : v.m0 ≤ 1048576 := by rw [← hok.r_xs.len]; exact hp_xs _ (List.mem_of_getElem? hg)
    have hb_ks : v.m1 ≤ 1048576 := by rw [← hok.r_ks.len]; exact hp_ks _ (List.mem_of_getElem? hg)
    obtain ⟨gb, rfl, _⟩ := ho.addr (by omega)
    conv => cbv
    refine st_idx hE sLNd hA (by omega) (by omega) fun q hq => ?_
    rw [show ii.toNat = i by omega] at hq
    conv => cbv
    refine st_loadS hE tLNd (vs := cN v) rfl (by rw [hq]; exact hc) ?_
    obtain ⟨cv, hcv⟩ : ∃ cv, cv = cN v := ⟨_, rfl⟩
    rw [← hcv]
    conv => cbv
    rw [hcv]
    refine st_f hr (toNodeO_f v hok hb_xs hb_ks) fun u w2 hx3 ⟨B0, n0, d0, B1, n1, d1, ev, o_xs, o_ks, djk⟩ => ?_
    subst ev
    rw [← hcv]

    have hdn : DJ (some ⟨gb, 0, none⟩) ((ds ++ [(⟨v.p, B0, n0, d0, B1, n1, d1⟩ : VN)]).map (adr sbNode)) := by
      rw [List.map_append]
      refine hdj.snoc (fun a ha => ?_) ?_ (fun l hl b hb a ha => ?_)
      · simp [adr, sbNode] at ha
        rcases ha with rfl | rfl
        · exact dj_new ho o_xs (Nat.le_refl _)
        · exact dj_new ho o_ks (Nat.le_refl _)
      · simp [adr, sbNode]; exact djk
      · obtain ⟨v2, hv2, rfl⟩ := List.mem_map.1 hl
        obtain ⟨k0, k1, _⟩ := hds v2 hv2
        simp [adr, sbNode] at ha hb
        rcases ha with rfl | rfl <;> rcases hb with rfl | rfl
        · exact dj_new k0 o_xs (Nat.le_refl _)
        · exact dj_new k0 o_ks (Nat.le_refl _)
        · exact dj_new k1 o_xs (Nat.le_refl _)
        · exact dj_new k1 o_ks (Nat.le_refl _)
    replace o_xs := o_xs.mono hsz
    replace o_ks := o_ks.mono hsz
    have ap : ∀ {e m5 c5 ys A5}, Own w1.heap.size e 1 w2 A5 m5 c5 ys → Apart A5 (some ⟨gb, 0, none⟩) := fun h5 => (h1.apart h5 (Nat.le_refl _)).2
    replace ho := ho.bel hx3
    have hds2 : ∀ v ∈ ds, Own w1.heap.size 9 1 w2 v.A0 v.m0 v.c0 (v.p.xs.map (.string)) ∧ Own w1.heap.size 3 1 w2 v.A1 v.m1 v.c1 (v.p.ks.map (.int .i64)) ∧ v.p.tx.size ≤ 9223372036854775807 ∧ (∀ u ∈ v.p.xs, u.size ≤ 9223372036854775807) := fun v hv => by
      obtain ⟨k0, k1, k2, k3⟩ := hds v hv
      exact ⟨k0.bel hx3, k1.bel hx3, k2, k3⟩
    replace hxw := hxw.trans hx3
    conv => cbv
    refine st_idx hE sINd rfl (by omega) (by omega) fun q1 hq1 => ?_
    rw [show ii.toNat = i by omega] at hq1
    conv => cbv
    obtain ⟨y, hy⟩ : ∃ y : VN, y = ⟨v.p, B0, n0, d0, B1, n1, d1⟩ := ⟨_, rfl⟩
    refine st_putS hr (vs := [.int .i64 v.p.o, .int .i64 v.p.z, .string v.p.tx, .slice B0 n0 d0, .slice B1 n1 d1]) (by kernel_rfl) ho (j := i * 5) hq1 (by rw [fl_len cN_len]; simp; omega) (by simp [Value.oneCell']) fun w3 hw3 ho3 => ?_
    rw [show ([.int .i64 v.p.o, .int .i64 v.p.z, .string v.p.tx, .slice B0 n0 d0, .slice B1 n1 d1] : List Value) = cN y by rw [hy]; rfl, fl_put cN_len _ i y (by simp; omega)] at ho3
    have hset : (ds ++ List.replicate (n - i) v0N).set i y = (ds ++ [y]) ++ List.replicate (n - (i + 1)) v0N := by
      rw [List.set_append_right _ _ (by omega), hdl, Nat.sub_self, show n - i = (n - (i + 1)) + 1 by omega, List.replicate_succ, List.set_cons_zero, List.append_assoc]; rfl
    rw [hset] at ho3
    conv => cbv
    simp only [ei]
    refine ⟨(i + 1, ii', ds ++ [y]), by simp [Fits, lk], hI _ _ ⟨by simp only; omega, by simp only; omega, by simp [hdl], ?_, hxw.then (hw3.bel ho hxw.size), ho3, ?_, ?_, by simp only; rw [hy]; exact hdn⟩, by simp only; omega⟩
    · simp only
      rw [List.map_append, hdp, List.take_add_one, hg, hy]; rfl
    · intro v2 hv
      rcases List.mem_append.1 hv with hv | hv
      · obtain ⟨k0, k1, k2, k3⟩ := hds2 v2 hv
        exact ⟨k0.wr hw3 (ap k0), k1.wr hw3 (ap k1), k2, k3⟩
      · simp at hv
        subst hv
        rw [hy]
        exact ⟨o_xs.wr hw3 (ap o_xs), o_ks.wr hw3 (ap o_ks), hok.s_tx, hok.r_xs.small⟩
    · have := hw3.size; have := hx3.size; omega
  · have g2 : i = n := by
      have : ¬ ii < x2 := by simpa [hE.cmp, cmpR] using g2
      omega
    subst g2
    rw [List.take_of_length_le (by omega)] at hdp
    simp only [Nat.sub_self, List.replicate_zero, List.append_nil] at ho
    conv => cbv
    rw [hR]; refine ⟨hxw, A1, i, ds, rfl, hdp, ⟨ho, fun v hv s hs => ?_, hdj⟩, fun w2 ha => ⟨ds, hdp, hdl, (ho.above ha).cells, fun v hv => ?_⟩⟩
    · obtain ⟨k0, k1, k2, k3⟩ := hds v hv
      simp only [sbNode, List.mem_cons, List.not_mem_nil, or_false] at hs
      rcases hs with rfl | rfl
      · exact k0.mono hx1.size
      · exact k1.mono hx1.size
    obtain ⟨k0, k1, k2, k3⟩ := hds v hv
    exact ⟨k2, ((k0.mono hx1.size).above ha).strs k3, ((k1.mono hx1.size).above ha).ints⟩
set_option maxHeartbeats 1000000 in
theorem toStmtSO_f {w : World} {A : Option Addr} {n c : Nat} {pv : List PS} (h : RSs w A n pv) (hn : n ≤ 1048576) :
    FC Tryz.prog 51 [.slice A n c] w fun v w' => ∃ A1 c1, v = .slice A1 n c1 ∧ Own w.heap.size 117 4 w' A1 n c1 (pv.flatMap cS) ∧ ∀ w2, Above w.heap.size w' w2 → RSs w2 A1 n pv := by
  refine FC.intro (cs := []) Tryz.func51 (by kernel_rfl) fun E R hE hr hR => ?_
  have hl := h.len
  conv => cbv
  refine st_len hE sLSd fun x hx => ?_
  conv => cbv
  refine st_makeK hr sISd rfl (m := n) (by omega) (by omega) (by omega) fun A1 w1 hx1 h10 => ?_
  have h1 := h10 _ (Nat.le_refl _)
  rw [show (Value.agg ⟨zSd⟩).cells = ⟨cS v0S⟩ from rfl, made_fl (f := cS) v0S n 4 rfl (by omega)] at h1
  conv => cbv
  refine loop_rule hr (fun (s : Nat × Int × List VS) w' => s.1 ≤ n ∧ s.2.1 = (s.1 : Int) ∧ s.2.2.length = s.1 ∧ s.2.2 = pv.take s.1 ∧ Ext w w' ∧ Own w.heap.size 117 4 w' A1 n n ((s.2.2 ++ List.replicate (n - s.1) v0S).flatMap cS) ∧
      (∀ v ∈ s.2.2, v.nm.size ≤ 9223372036854775807) ∧ w1.heap.size ≤ w'.heap.size)
    (fun s => [(0, .slice A n c), (3, .slice A1 n n), (4, .int .i64 s.2.1)]) (fun s => n - s.1) (0, 0, [])
    (by simp [Fits, lk]) ⟨by simp, by simp, rfl, by simp, hx1, by simpa using h1, by simp, Nat.le_refl _⟩ ?_
  rintro I hI ⟨i, ii, ds⟩ w' ⟨hi, hii, hdl, hdp, hxw, ho, hds, hsz⟩
  simp only at hi hii hdl hdp ho hds
  obtain ⟨ii', hii'⟩ : ∃ z, z = ii + 1 := ⟨_, rfl⟩
  conv => cbv
  refine st_len hE sLSd fun x2 hx2 => ?_
  conv => cbv
  refine br (fun g2 => ?_) (fun g2 => ?_)
  · have g2 : i < n := by
      have : ii < x2 := by simpa [hE.cmp, cmpR] using g2
      omega
    have ei : E.ar .add .i64 ii 1 = ii' := by rw [hE.ar, hii']; exact wrap_in (by omega) (by omega)
    obtain ⟨a, v, hA, hg, hc, hok⟩ := (h.ext hxw).get g2
    obtain ⟨gb, rfl, _⟩ := ho.addr (by omega)
    conv => cbv
    refine st_idx hE sLSd hA (by omega) (by omega) fun q hq => ?_
    rw [show ii.toNat = i by omega] at hq
    conv => cbv
    refine st_loadS hE tLSd (vs := cS v) rfl (by rw [hq]; exact hc) ?_
    obtain ⟨cv, hcv⟩ : ∃ cv, cv = cS v := ⟨_, rfl⟩
    rw [← hcv]
    conv => cbv
    rw [hcv]
    refine st_f hr (toStmt_f v hok) fun u w2 hx3 ev => ?_
    subst ev
    rw [← hcv]

    replace ho := ho.bel hx3
    have hds2 : ∀ v ∈ ds, v.nm.size ≤ 9223372036854775807 := fun v hv => by
      have k0 := hds v hv
      exact k0
    replace hxw := hxw.trans hx3
    conv => cbv
    refine st_idx hE sISd rfl (by omega) (by omega) fun q1 hq1 => ?_
    rw [show ii.toNat = i by omega] at hq1
    conv => cbv
    obtain ⟨y, hy⟩ : ∃ y : VS, y = v := ⟨_, rfl⟩
    refine st_putS hr (vs := [.int .i64 v.k, .string v.nm, .int .i64 v.c, .int .i64 v.g]) (by kernel_rfl) ho (j := i * 4) hq1 (by rw [fl_len cS_len]; simp; omega) (by simp [Value.oneCell']) fun w3 hw3 ho3 => ?_
    rw [show ([.int .i64 v.k, .string v.nm, .int .i64 v.c, .int .i64 v.g] : List Value) = cS y by rw [hy]; rfl, fl_put cS_len _ i y (by simp; omega)] at ho3
    have hset : (ds ++ List.replicate (n - i) v0S).set i y = (ds ++ [y]) ++ List.replicate (n - (i + 1)) v0S := by
      rw [List.set_append_right _ _ (by omega), hdl, Nat.sub_self, show n - i = (n - (i + 1)) + 1 by omega, List.replicate_succ, List.set_cons_zero, List.append_assoc]; rfl
    rw [hset] at ho3
    conv => cbv
    simp only [ei]
    refine ⟨(i + 1, ii', ds ++ [y]), by simp [Fits, lk], hI _ _ ⟨by simp only; omega, by simp only; omega, by simp [hdl], ?_, hxw.then (hw3.bel ho hxw.size), ho3, ?_, ?_⟩, by simp only; omega⟩
    · simp only
      rw [hdp, List.take_add_one, hg, hy]; rfl
    · intro v2 hv
      rcases List.mem_append.1 hv with hv | hv
      · have k0 := hds2 v2 hv
        exact k0
      · simp at hv
        subst hv
        rw [hy]
        exact hok.s_nm
    · have := hw3.size; have := hx3.size; omega
  · have g2 : i = n := by
      have : ¬ ii < x2 := by simpa [hE.cmp, cmpR] using g2
      omega
    subst g2
    rw [List.take_of_length_le (by omega)] at hdp
    simp only [Nat.sub_self, List.replicate_zero, List.append_nil] at ho
    conv => cbv
    rw [hR]; refine ⟨hxw, A1, i, rfl, by rw [← hdp]; exact ho, fun w2 ha => ⟨ds, hdp, hdl, (ho.above ha).cells, fun v hv => ?_⟩⟩
    have k0 := hds v hv
    exact ⟨k0⟩
theorem toTypedO_f {w : World} {A A2 A3 : Option Addr} {n c n2 c2 n3 c3 : Nat} {nv : List PN} {sv : List PS} {tyl : List Int} (h : TypR w A n A2 n2 A3 n3 c3 nv sv tyl) (hw : wtNs nv + wtSs sv ≤ 1048576) (hw3 : tyl.length ≤ 1048576) :
    FC Tryz.prog 20 [typV A n c A2 n2 c2 A3 n3 c3] w fun v w' => ∃ A1 c1 A4 c4 A5 c5 vs, v = typV A1 n c1 A4 n2 c4 A5 n3 c5 ∧ vs.map (·.p) = nv ∧ OT w.heap.size w' A1 n c1 A4 n2 c4 A5 n3 c5 vs sv tyl ∧ TypR w' A1 n A4 n2 A5 n3 c5 nv sv tyl := by
  refine FC.intro (cs := []) Tryz.func20 (by kernel_rfl) fun E R hE hr hR => ?_
  obtain ⟨b1, b2, b3⟩ := wt_b (nv := nv) (by omega)
  have b4 := wtSs_len sv
  have hl1 := h.pol.nodes.len
  have hl2 := h.pol.stmts.len
  have hl3 := h.tys.len
  conv => cbv
  refine st_box hr fun a w1 hx hb0 => ?_
  have hb := hb0 _ (Nat.le_refl _)
  conv => cbv
  refine st_alloc hr tITyp rfl fun o w2 hx2 ho0 => ?_
  have ho := ho0 _ hx.size
  have hb := hb.bel hx2
  have hx := hx.trans hx2
  conv => cbv
  refine st_alloc hr tITyp rfl fun q w3 hx3 hq0 => ?_
  have hq := hq0 _ hx.size
  have aq := (hb.apart (hq0 _ (Nat.le_refl _)) (Nat.le_refl _)).1
  have oq := (ho.apart (hq0 _ (Nat.le_refl _)) (Nat.le_refl _)).1
  have o0 := ho
  have hso := hx3.size
  have hb := hb.bel hx3
  have ho := ho.bel hx3
  have hx := hx.trans hx3
  clear hb0 ho0 hq0
  conv => cbv
  (refine st_fld hE fLTyp0 fun p hp => ?_; (conv => cbv); refine st_load hE cLNs (by rw [hp]; exact (hb).at _ _ rfl) ?_; clear hp; (conv => cbv))
  refine st_f hr (toNodeSO_f (h.pol.nodes.ext hx) (by omega) b2 b3) fun v w4 hx4 ⟨A4, c4, vs4, ev, hv4, r4, h4⟩ => ?_
  subst ev
  have hs4 := hx4.size
  have hx03 := hx.size
  have hsw4 := hx4.size
  have q0 := hq
  replace hb := hb.bel hx4
  replace ho := ho.bel hx4
  replace hq := hq.bel hx4
  replace hx := hx.trans hx4
  conv => cbv
  refine st_fld hE fITyp0 fun p hp => ?_
  conv => cbv
  refine st_put hr zINs hq hp (by simp) rfl fun wm hwm hq2 => ?_
  replace hx := hx.then (hwm.bel hq hx.size)
  have y4 : Above w3.heap.size w4 wm := hwm.above q0 (Nat.le_refl _)
  simp only [List.set_cons_zero, List.set_cons_succ] at hq2
  replace hq := hq2
  replace hb := hb.wr hwm aq
  replace ho := ho.wr hwm oq
  have hsz : w3.heap.size ≤ wm.heap.size := Nat.le_trans hs4 y4.size
  conv => cbv
  (refine st_fld hE fLTyp1 fun p hp => ?_; (conv => cbv); refine st_load hE cLSs (by rw [hp]; exact (hb).at _ _ rfl) ?_; clear hp; (conv => cbv))
  refine st_f hr (toStmtSO_f (h.pol.stmts.ext hx) (by omega)) fun v w6 hx6 ⟨A6, c6, ev, r6, h6⟩ => ?_
  have d46 : ∀ r ∈ roA sbNode A4 vs4, Dj r A6 := fun r hr g hg e => by
    have := (r4.lo r hr g hg).2
    have := (own_blk r6 g e).1
    have := y4.size
    omega
  subst ev
  replace hb := hb.bel hx6
  replace ho := ho.bel hx6
  replace hq := hq.bel hx6
  replace hx := hx.trans hx6
  replace y4 := y4.trans (hx6.above _)
  conv => cbv
  refine st_fld hE fITyp1 fun p2 hp2 => ?_
  conv => cbv
  refine st_put hr zISs hq hp2 (by simp) rfl fun w7 hw7 hq3 => ?_
  have y7 : Above w3.heap.size w6 w7 := hw7.above q0 (Nat.le_refl _)
  replace hx := hx.then (hw7.bel hq hx.size)
  replace hb := hb.wr hw7 aq
  replace ho := ho.wr hw7 oq
  simp only [List.set_cons_zero, List.set_cons_succ] at hq3
  replace y4 := y4.trans y7
  have hsz7 : w3.heap.size ≤ w7.heap.size := Nat.le_trans hsz (Nat.le_trans hx6.size y7.size)
  conv => cbv
  (refine st_fld hE fLTyp2 fun p hp => ?_; (conv => cbv); refine st_load hE cInts (by rw [hp]; exact (hb).at _ _ rfl) ?_; clear hp; (conv => cbv))
  refine st_f hr (toIntS_f (h.tys.ext hx) (by omega)) fun v w10 hx10 ⟨A10, c10, ev, h10⟩ => ?_
  have d410 : ∀ r ∈ roA sbNode A4 vs4, Dj r A10 := fun r hr g hg e => by
    have := (r4.lo r hr g hg).2
    have := (own_blk h10 g e).1
    have := y4.size
    omega
  have d610 : Dj A6 A10 := fun g hg e => by
    have := (own_blk r6 g hg).2
    have := (own_blk h10 g e).1
    have := y7.size
    omega
  subst ev
  replace hq3 := hq3.bel hx10
  replace ho := ho.bel hx10
  replace hx := hx.trans hx10
  replace y7 := y7.trans (hx10.above _)
  replace y4 := y4.trans (hx10.above _)
  conv => cbv
  refine st_fld hE fITyp2 fun p3 hp3 => ?_
  conv => cbv
  refine st_put hr zInts2 hq3 hp3 (by simp) rfl fun w11 hw11 hq4 => ?_
  have y11 : Above w3.heap.size w10 w11 := hw11.above q0 (Nat.le_refl _)
  replace hx := hx.then (hw11.bel hq3 hx.size)
  replace ho := ho.wr hw11 oq
  simp only [List.set_cons_zero, List.set_cons_succ] at hq4
  replace y4 := y4.trans y11
  replace y7 := y7.trans y11
  conv => cbv
  refine st_loadS hE tITyp rfl hq4.at ?_
  conv => cbv
  refine st_putS hr (by kernel_rfl) ho (add_zero _).symm (by simp) (by simp [Value.oneCell']) fun w8 hw8 ho8 => ?_
  simp only [List.take_zero, List.nil_append, List.length_cons, List.length_nil, List.drop_succ_cons, List.drop_nil, List.append_nil] at ho8
  have y8 : Above w3.heap.size w11 w8 := hw8.above o0 hso
  conv => cbv
  refine st_cell hr tITyp rfl ho8.at ?_
  rw [hR]; exact ⟨hx.then (hw8.bel ho hx.size), A4, c4, A6, c6, A10, c10, vs4, rfl, hv4, ⟨(r4.above (y4.trans y8)).low hx03, (r6.above ((y7.trans y8).mono hsz)).mono (Nat.le_trans hx03 hsz), (h10.above ((y11.trans y8).mono hsz7)).mono (Nat.le_trans hx03 hsz7), d46, d410, d610⟩, ⟨⟨h4 _ (y4.trans y8), h6 _ ((y7.trans y8).mono hsz)⟩, Own.ints (h10.above ((y11.trans y8).mono hsz7))⟩⟩
end Go.Proofs.YtgdnmpcaiaoaoaaGreatDoor
/- Marks of typed policies and of code. -/
namespace Go.Proofs.YtgdnmpcaiaoaoaaGreatDoor
open Go.Eng
set_option linter.unusedVariables false
set_option linter.unusedSimpArgs false
theorem CSt.weak {w w' : World} {R S : List (Option Addr)} (h : CSt w R w' R) (hs : ∀ x ∈ R, x ∈ S) : CSt w S w' S := ⟨h.os, h.tape, h.output, h.size, fun b hb hn => h.keep b hb fun x hx => hn x (hs x hx), fun x hx g hg => .inl ⟨x, hx, hg⟩⟩
theorem mkL_adr {α : Type} {mk : α → Int → α} {ct : α → Nat} {sb : α → List Sub} (h : ∀ v z, adr sb (mk v z) = adr sb v) : ∀ (l : List α) (z : Int), (mkL mk ct l z).flatMap (adr sb) = l.flatMap (adr sb)
  | [], _ => rfl
  | v :: l, z => by simp only [mkL, List.flatMap_cons, h, mkL_adr h l]
theorem roA_mk {α : Type} {mk : α → Int → α} {ct : α → Nat} {sb : α → List Sub} (h : ∀ v z, adr sb (mk v z) = adr sb v) (A : Option Addr) (l : List α) (z : Int) : roA sb A (mkL mk ct l z) = roA sb A l := by
  unfold roA; rw [mkL_adr h]
theorem roA_stmt (A : Option Addr) (l : List PS) : roA sbStmt A l = [A] := by unfold roA adr sbStmt; simp
theorem roA_ins (A : Option Addr) (l : List (Int × Int)) : roA sbIns A l = [A] := by unfold roA adr sbIns; simp
theorem dj_nil {α : Type} {sb : α → List Sub} (h : ∀ v, adr sb v = []) (A : Option Addr) (l : List α) : DJ A (l.map (adr sb)) := by
  have this : ∀ x ∈ l.map (adr sb), x = [] := fun x hx => by obtain ⟨v, _, rfl⟩ := List.mem_map.1 hx; exact h v
  refine ⟨fun x hx a ha => ?_, fun x hx => ?_, List.pairwise_iff_getElem.2 fun i j hi hj _ a ha => ?_⟩
  · have := this x hx; subst this; cases ha
  · have := this x hx; subst this; exact List.Pairwise.nil
  · have e := this _ (List.getElem_mem hi)
    rw [e] at ha; cases ha
theorem ro_stmt {B : Nat} {w : World} {A : Option Addr} {n c : Nat} {l : List PS} (h : Own B 117 4 w A n c (l.flatMap cS)) : RO 117 4 cS sbStmt B w A n c l :=
  ⟨h, by simp [sbStmt], dj_nil (fun _ => rfl) _ _⟩
theorem ro_ins {B : Nat} {w : World} {A : Option Addr} {n c : Nat} {l : List (Int × Int)} (h : Own B 129 2 w A n c (l.flatMap iC)) : RO 129 2 iC sbIns B w A n c l :=
  ⟨h, by simp [sbIns], dj_nil (fun _ => rfl) _ _⟩
/-- Rows of a typed policy. -/
def otA (A A2 A3 : Option Addr) (vs : List VN) : List (Option Addr) := roA sbNode A vs ++ [A2, A3]
def otK (vs : List VN) (sv : List PS) (n3 : Nat) : Nat := ctL ctNode vs + ctL ctStmt sv + n3
theorem OT.ext {B : Nat} {w w' : World} {A A2 A3 : Option Addr} {n c n2 c2 n3 c3 : Nat} {vs : List VN} {sv : List PS} {tyl : List Int} (h : OT B w A n c A2 n2 c2 A3 n3 c3 vs sv tyl) (hx : Ext w w') : OT B w' A n c A2 n2 c2 A3 n3 c3 vs sv tyl := ⟨h.nd.ext hx, h.st.bel hx, h.ty.bel hx, h.d12, h.d13, h.d23⟩
theorem OT.lo {B : Nat} {w : World} {A A2 A3 : Option Addr} {n c n2 c2 n3 c3 : Nat} {vs : List VN} {sv : List PS} {tyl : List Int} (h : OT B w A n c A2 n2 c2 A3 n3 c3 vs sv tyl) : ∀ r ∈ otA A A2 A3 vs, ∀ g, blk r = some g → B ≤ g ∧ g < w.heap.size := fun r hr g hg => by
  unfold otA at hr
  rcases List.mem_append.1 hr with hr | hr
  · exact h.nd.lo r hr g hg
  · simp at hr
    rcases hr with rfl | rfl
    · exact own_blk h.st g hg
    · exact own_blk h.ty g hg
theorem nodeA (v : VN) (z : Int) : adr sbNode (mkNode v z) = adr sbNode v := rfl
theorem valA (v : VV) (z : Int) : adr sbValue (mkValue v z) = adr sbValue v := rfl
set_option maxHeartbeats 1000000 in
theorem markTyped_g {w : World} {B : Nat} {A A2 A3 : Option Addr} {n c n2 c2 n3 c3 : Nat} {vs : List VN} {sv : List PS} {tyl : List Int} (h : OT B w A n c A2 n2 c2 A3 n3 c3 vs sv tyl) (k : Int) (hk : 0 ≤ k) (hkn : k + otK vs sv n3 < 9223372036854775807) :
    GC Tryz.prog 16 [typV A n c A2 n2 c2 A3 n3 c3, .int .i64 k] w fun v w' => v = .int .i64 (k + otK vs sv n3) ∧ OT B w' A n c A2 n2 c2 A3 n3 c3 (mkL mkNode ctNode vs k) (mkL mkStmt ctStmt sv (k + ctL ctNode vs)) (imarks (k + ctL ctNode vs + ctL ctStmt sv) n3) ∧ CSt w (otA A A2 A3 vs) w' (otA A A2 A3 vs) := by
  refine GC.intro (cs := []) Tryz.func16 (by kernel_rfl) fun E R hE hr hR => ?_
  have hkn' := hkn
  unfold otK at hkn'
  obtain ⟨k1, hk1⟩ : ∃ z : Int, z = k + ctL ctNode vs := ⟨_, rfl⟩
  obtain ⟨k2, hk2⟩ : ∃ z : Int, z = k1 + ctL ctStmt sv := ⟨_, rfl⟩
  obtain ⟨k3, hk3⟩ : ∃ z : Int, z = k2 + n3 := ⟨_, rfl⟩
  conv => cbv
  refine st_box hr fun a w1 hx hb0 => ?_
  have hb := hb0 _ (Nat.le_refl _)
  clear hb0
  have hlo := h.lo
  have da : ∀ r ∈ otA A A2 A3 vs, Dj r (some a) := fun r hr g hg e => by
    have := (hlo r hr g hg).2
    have := (own_blk hb g e).1
    omega
  replace h := h.ext hx
  conv => cbv
  (refine st_fld hE fITyp0 fun p hp => ?_; (conv => cbv); refine st_load hE cINs (by rw [hp]; exact (hb).at _ _ rfl) ?_; clear hp; (conv => cbv))
  have m1 := markNodeS_g h.nd k hk (by omega)
  rw [← hk1] at m1
  refine st_g hr m1 fun v w2 ⟨ev, hn2, hc2⟩ => ?_
  subst ev
  have hC2 : CSt w1 (otA A A2 A3 vs) w2 (otA A A2 A3 vs) := hc2.weak fun x hx => List.mem_append_left _ hx
  have hb2 := (hC2.own hb da).1
  have st2 := (hc2.own h.st h.d12).1
  have ty2 := (hc2.own h.ty h.d13).1
  conv => cbv
  (refine st_fld hE fITyp1 fun p hp => ?_; (conv => cbv); refine st_load hE cISs (by rw [hp]; exact (hb2).at _ _ rfl) ?_; clear hp; (conv => cbv))
  have m2 := markStmtS_g (ro_stmt st2) k1 (by omega) (by omega)
  rw [← hk2, roA_stmt] at m2
  refine st_g hr m2 fun v w3 ⟨ev, hs3, hc3⟩ => ?_
  subst ev
  have hC3 : CSt w2 (otA A A2 A3 vs) w3 (otA A A2 A3 vs) := hc3.weak fun x hx => by simp at hx; subst hx; simp [otA]
  have hb3 := (hC3.own hb2 da).1
  have nd3 := hn2.keepR hc3 fun r hr a ha => by
    simp at hr; subst hr
    rw [roA_mk nodeA] at ha
    exact (h.d12 a ha).symm
  have ty3 := (hc3.own ty2 fun r hr => by simp at hr; subst hr; exact h.d23).1
  conv => cbv
  (refine st_fld hE fITyp2 fun p hp => ?_; (conv => cbv); refine st_load hE cInts (by rw [hp]; exact (hb3).at _ _ rfl) ?_; clear hp; (conv => cbv))
  have m3 := markIntS_g ty3 k2 (by omega) (by omega)
  rw [← hk3] at m3
  refine st_g hr m3 fun v w4 ⟨ev, ho4, hw4⟩ => ?_
  subst ev
  have hC4 : CSt w3 (otA A A2 A3 vs) w4 (otA A A2 A3 vs) := CSt.of_wr hw4 (by simp [otA])
  have c4 : CSt w3 [A3] w4 [A3] := CSt.of_wr hw4 (by simp)
  conv => cbv
  rw [hR]
  refine ⟨?_, ⟨nd3.keepR c4 fun r hr a ha => ?_, ?_, ?_, ?_, ?_, h.d23⟩, (((CSt.of_ext hx _).trans hC2).trans hC3).trans hC4⟩
  · simp only [one, otK]; congr 1; push_cast; omega
  · simp at hr; subst hr
    rw [roA_mk nodeA] at ha
    exact (h.d13 a ha).symm
  · rw [← hk1]; exact (c4.own hs3.row fun r hr => by simp at hr; subst hr; exact h.d23.symm).1
  · rw [← hk1, ← hk2]; exact ho4
  · rw [roA_mk nodeA]; exact h.d12
  · rw [roA_mk nodeA]; exact h.d13
/-! ### Code -/
def cdA (P I : Option Addr) (vs : List VV) : List (Option Addr) := roA sbValue P vs ++ [I]
def cdK (vs : List VV) (is : List (Int × Int)) : Nat := ctL ctValue vs + ctL ctIns is
section
variable {B : Nat} {w w' : World} {P : Option Addr} {pn pc : Nat} {I : Option Addr} {n ic : Nat} {vs : List VV} {is : List (Int × Int)}
theorem CdO.ro (h : CdO B w P pn pc I n ic vs is) : RO 124 4 vC sbValue B w P pn pc vs := by
  refine ⟨h.rP, fun v hv s hs => ?_, ⟨fun l hl a ha => ?_, fun l hl => ?_, ?_⟩⟩
  · simp only [sbValue, List.mem_cons, List.not_mem_nil, or_false] at hs; subst hs; exact (h.nam v hv).1
  · obtain ⟨v, hv, rfl⟩ := List.mem_map.1 hl
    simp [adr, sbValue] at ha; subst ha; exact h.Pn v hv
  · obtain ⟨v, hv, rfl⟩ := List.mem_map.1 hl
    simp [adr, sbValue]
  · rw [List.pairwise_map]
    refine h.nn.imp fun h a ha b hb => ?_
    simp [adr, sbValue] at ha hb; subst ha; subst hb; exact h
theorem CdO.dI (h : CdO B w P pn pc I n ic vs is) : ∀ r ∈ roA sbValue P vs, Dj r I := fun r hr => by
  rcases List.mem_cons.1 hr with rfl | hr
  · exact h.PI
  · obtain ⟨v, hv, hr⟩ := List.mem_flatMap.1 hr
    simp [adr, sbValue] at hr; subst hr; exact (h.In v hv).symm
/-- Code whose rows lie apart. -/
structure CO (B : Nat) (w : World) (P : Option Addr) (pn pc : Nat) (I : Option Addr) (n ic : Nat) (vs : List VV) (is : List (Int × Int)) : Prop where
  pl : RO 124 4 vC sbValue B w P pn pc vs
  is : RO 129 2 iC sbIns B w I n ic is
  d : ∀ r ∈ roA sbValue P vs, Dj r I
theorem CdO.co (h : CdO B w P pn pc I n ic vs is) : CO B w P pn pc I n ic vs is := ⟨h.ro, ro_ins h.rI, h.dI⟩
theorem CO.ext (h : CO B w P pn pc I n ic vs is) (hx : Ext w w') : CO B w' P pn pc I n ic vs is := ⟨h.pl.ext hx, h.is.ext hx, h.d⟩
theorem CO.lo (h : CO B w P pn pc I n ic vs is) : ∀ r ∈ cdA P I vs, ∀ g, blk r = some g → B ≤ g ∧ g < w.heap.size := fun r hr g hg => by
  unfold cdA at hr
  rcases List.mem_append.1 hr with hr | hr
  · exact h.pl.lo r hr g hg
  · simp at hr; subst hr; exact own_blk h.is.row g hg
theorem CO.keepR (h : CO B w P pn pc I n ic vs is) {R : List (Option Addr)} (hc : CSt w R w' R) (hd : ∀ r ∈ R, ∀ a ∈ cdA P I vs, Dj r a) : CO B w' P pn pc I n ic vs is :=
  ⟨h.pl.keepR hc fun r hr a ha => hd r hr a (List.mem_append_left _ ha), h.is.keepR hc fun r hr a ha => hd r hr a (by rw [roA_ins] at ha; simp at ha; subst ha; simp [cdA]), h.d⟩
theorem CO.codeR (h : CO B w P pn pc I n ic vs is) (hs : ∀ v ∈ vs, v.p.tx.size ≤ 9223372036854775807 ∧ ∀ u ∈ v.p.xs, u.size ≤ 9223372036854775807) : CodeR w P pn I n (vs.map (·.p)) is :=
  ⟨⟨vs, rfl, h.pl.len vC_len (by omega), h.pl.row.cells, fun v hv => ⟨(h.pl.sub v hv ⟨v.A, v.m, v.c, 9, v.p.xs.map .string⟩ (by simp [sbValue])).strs (hs v hv).2, (hs v hv).1⟩⟩, ⟨h.is.len iC_len (by omega), h.is.row.cells⟩⟩
set_option maxHeartbeats 1000000 in
theorem markCode_g (h : CO B w P pn pc I n ic vs is) (sl k : Int) (hk : 0 ≤ k) (hkn : k + cdK vs is < 9223372036854775807) :
    GC Tryz.prog 23 [codV P pn pc sl I n ic, .int .i64 k] w fun v w' => v = .int .i64 (k + cdK vs is) ∧ CO B w' P pn pc I n ic (mkL mkValue ctValue vs k) (mkL mkIns ctIns is (k + ctL ctValue vs)) ∧ CSt w (cdA P I vs) w' (cdA P I vs) := by
  refine GC.intro (cs := []) Tryz.func23 (by kernel_rfl) fun E R hE hr hR => ?_
  have hkn' := hkn
  unfold cdK at hkn'
  obtain ⟨k1, hk1⟩ : ∃ z : Int, z = k + ctL ctValue vs := ⟨_, rfl⟩
  obtain ⟨k2, hk2⟩ : ∃ z : Int, z = k1 + ctL ctIns is := ⟨_, rfl⟩
  conv => cbv
  refine st_box hr fun a w1 hx hb0 => ?_
  have hb := hb0 _ (Nat.le_refl _)
  clear hb0
  have hlo := h.lo
  have da : ∀ r ∈ cdA P I vs, Dj r (some a) := fun r hr g hg e => by
    have := (hlo r hr g hg).2
    have := (own_blk hb g e).1
    omega
  replace h := h.ext hx
  conv => cbv
  (refine st_fld hE fIC0 fun p hp => ?_; (conv => cbv); refine st_load hE cIVs (by rw [hp]; exact (hb).at _ _ rfl) ?_; clear hp; (conv => cbv))
  have m1 := markValueS_g h.pl k hk (by omega)
  rw [← hk1] at m1
  refine st_g hr m1 fun v w2 ⟨ev, hn2, hc2⟩ => ?_
  subst ev
  have hC2 : CSt w1 (cdA P I vs) w2 (cdA P I vs) := hc2.weak fun x hx => List.mem_append_left _ hx
  have hb2 := (hC2.own hb da).1
  have is2 := h.is.keepR hc2 fun r hr a ha => by rw [roA_ins] at ha; simp at ha; subst ha; exact h.d r hr
  conv => cbv
  (refine st_fld hE fIC2 fun p hp => ?_; (conv => cbv); refine st_load hE cIIs (by rw [hp]; exact (hb2).at _ _ rfl) ?_; clear hp; (conv => cbv))
  have m2 := markInsS_g is2 k1 (by omega) (by omega)
  rw [← hk2, roA_ins] at m2
  refine st_g hr m2 fun v w3 ⟨ev, hs3, hc3⟩ => ?_
  subst ev
  have hC3 : CSt w2 (cdA P I vs) w3 (cdA P I vs) := hc3.weak fun x hx => by simp at hx; subst hx; simp [cdA]
  conv => cbv
  rw [hR]
  refine ⟨?_, ⟨hn2.keepR hc3 fun r hr a ha => ?_, by rw [← hk1]; exact hs3, by rw [roA_mk valA]; exact h.d⟩, ((CSt.of_ext hx _).trans hC2).trans hC3⟩
  · simp only [one, cdK]; congr 1; push_cast; omega
  · simp at hr; subst hr
    rw [roA_mk valA] at ha
    exact (h.d a ha).symm
set_option maxHeartbeats 1000000 in
theorem heldCode_f {k : Int} (h : CO B w P pn pc I n ic (mkL mkValue ctValue vs k) (mkL mkIns ctIns is (k + ctL ctValue vs))) (sl : Int) (hk : 0 ≤ k) (hkn : k + cdK vs is < 9223372036854775807) :
    FC Tryz.prog 24 [codV P pn pc sl I n ic, .int .i64 k] w fun v _ => v = .int .i64 (k + cdK vs is) := by
  refine FC.intro (cs := []) Tryz.func24 (by kernel_rfl) fun E R hE hr hR => ?_
  have hkn' := hkn
  unfold cdK at hkn'
  obtain ⟨k1, hk1⟩ : ∃ z : Int, z = k + ctL ctValue vs := ⟨_, rfl⟩
  obtain ⟨k2, hk2⟩ : ∃ z : Int, z = k1 + ctL ctIns is := ⟨_, rfl⟩
  rw [← hk1] at h
  conv => cbv
  refine st_box hr fun a w1 hx hb0 => ?_
  have hb := hb0 _ (Nat.le_refl _)
  clear hb0
  conv => cbv
  (refine st_fld hE fIC0 fun p hp => ?_; (conv => cbv); refine st_load hE cIVs (by rw [hp]; exact (hb).at _ _ rfl) ?_; clear hp; (conv => cbv))
  have m1 := heldValueS_f (h.ext hx).pl hk (by omega)
  rw [← hk1] at m1
  refine st_f hr m1 fun v w2 hx2 ev => ?_
  subst ev
  replace hb := hb.bel hx2
  replace hx := hx.trans hx2
  clear hx2
  conv => cbv
  refine br (fun g => absurd (show k1 < 0 by simpa [hE.cmp, cmpR] using g) (by omega)) (fun _ => ?_)
  conv => cbv
  (refine st_fld hE fIC2 fun p hp => ?_; (conv => cbv); refine st_load hE cIIs (by rw [hp]; exact (hb).at _ _ rfl) ?_; clear hp; (conv => cbv))
  have m2 := heldInsS_f (h.ext hx).is (by omega) (by omega)
  rw [← hk2] at m2
  refine st_f hr m2 fun v w3 hx3 ev => ?_
  subst ev
  conv => cbv
  refine br (fun g => absurd (show k2 < 0 by simpa [hE.cmp, cmpR] using g) (by omega)) (fun _ => ?_)
  conv => cbv
  rw [hR]
  refine ⟨hx.trans hx3, ?_⟩
  simp only [one, cdK]; congr 1; push_cast; omega
end
end Go.Proofs.YtgdnmpcaiaoaoaaGreatDoor
/- The law FnExactCompile. -/
namespace Go.Proofs.YtgdnmpcaiaoaoaaGreatDoor
open Go.Eng
set_option linter.unusedVariables false
set_option linter.unusedSimpArgs false
/-! ### How long code is -/
theorem poolR_mem : ∀ (l : List RI) (q : List PV) (p : PV), p ∈ poolR l q → p ∈ q ∨ RI.push p ∈ l
  | [], q, p, h => .inl h
  | .ins o a :: l, q, p, h => by
    rcases poolR_mem l q p h with h | h
    · exact .inl h
    · exact .inr (List.mem_cons_of_mem _ h)
  | .push v :: l, q, p, h => by
    simp only [poolR] at h
    cases hp : posV q v with
    | some i =>
      rw [hp] at h
      rcases poolR_mem l q p h with h | h
      · exact .inl h
      · exact .inr (List.mem_cons_of_mem _ h)
    | none =>
      rw [hp] at h
      rcases poolR_mem l _ p h with h | h
      · rcases List.mem_append.1 h with h | h
        · exact .inl h
        · simp at h; subst h; exact .inr (List.mem_cons_self ..)
      · exact .inr (List.mem_cons_of_mem _ h)
theorem refT_few : ∀ (t : Tr) (at_ : Nat), fewT t → ∀ p, RI.push p ∈ refT t at_ → p.xs.length ≤ 100000
  | .con k n tx xs _, at_, h, p, hp => by simp [refT] at hp; subst hp; simpa only [fewT] using h
  | .att n, at_, h, p, hp => by simp [refT] at hp
  | .lt n, at_, h, p, hp => by simp [refT] at hp
  | .nam .., at_, h, p, hp => by simp [refT] at hp
  | .op o [] _, at_, h, p, hp => by simp [refT] at hp
  | .op o [a] _, at_, h, p, hp => by
    simp only [fewT, fewTs] at h
    simp only [refT, List.mem_append, List.mem_cons, List.not_mem_nil, or_false, reduceCtorEq] at hp
    exact refT_few a _ h.1 p hp
  | .op o [a, b] _, at_, h, p, hp => by
    simp only [fewT, fewTs] at h
    rw [refT] at hp
    split at hp
    · simp only [List.mem_append, List.mem_cons, List.not_mem_nil, or_false, reduceCtorEq] at hp
      rcases hp with (hp | hp) | hp
      · exact refT_few a _ h.1 p hp
      · exact refT_few b _ h.2.1 p hp
      · cases hp; simp [boolP]
    · split at hp
      · simp only [List.mem_append, List.mem_cons, List.not_mem_nil, or_false, false_or, reduceCtorEq] at hp
        rcases hp with (hp | hp) | hp
        · exact refT_few a _ h.1 p hp
        · cases hp; simp [boolP]
        · exact refT_few b _ h.2.1 p hp
      · simp only [List.mem_append, List.mem_cons, List.not_mem_nil, or_false, reduceCtorEq] at hp
        rcases hp with hp | hp
        · exact refT_few a _ h.1 p hp
        · exact refT_few b _ h.2.1 p hp
  | .op o [a, b, c] _, at_, h, p, hp => by
    simp only [fewT, fewTs] at h
    simp only [refT, List.mem_append, List.mem_cons, List.not_mem_nil, or_false, reduceCtorEq] at hp
    rcases hp with (hp | hp) | hp
    · exact refT_few a _ h.1 p hp
    · exact refT_few b _ h.2.1 p hp
    · exact refT_few c _ h.2.2.1 p hp
  | .op o (a :: b :: c :: d :: l) _, at_, h, p, hp => by simp [refT] at hp
def fewC (s : CS) : Prop := ∀ p ∈ s.pool, p.xs.length ≤ 100000
theorem exP_few {t : Tr} (h : okT t) (hf : fewT t) {s : CS} (hs : fewC s) : fewC (exP t s) := by
  rw [exP_eq t s h]
  intro p hp
  rcases poolR_mem _ _ p hp with hp | hp
  · exact hs p hp
  · exact refT_few t _ hf p hp
theorem step_few {p : PS} {pt : PT} (h : StOK p pt) {sl : Int} {s : CS} (hs : fewC s) : fewC (stepP p pt sl s).2 := by
  obtain ⟨c, g⟩ := pt
  have hok := h.ok
  simp only [trs] at hok
  have fd : ∀ {x : CS}, fewC x → fewC (decP g x) := fun hx => by
    cases g with
    | none => exact hx
    | some t => exact exP_few (hok t (by simp)).1 (hok t (by simp)).2 hx
  have fin : ∀ {s1 : CS}, fewC s1 → fewC (if p.k = 1 then (sl + 1, putP 4 sl s1) else if p.k = 2 then (sl, markP s1.ins.length (decP g (putP 23 0 s1))) else (sl, decP g s1)).2 := fun {s1} f1 => by
    split
    · exact f1
    · split
      · exact fd (x := putP 23 0 s1) f1
      · exact fd f1
  cases c with
  | none => exact fin hs
  | some t => exact fin (exP_few (hok t (by simp)).1 (hok t (by simp)).2 hs)
theorem cmpP_bd : ∀ (l : List (PS × PT)) (sl : Int) (s : CS), (∀ q ∈ l, StOK q.1 q.2) → fewC s → (cmpP l sl s).2.ins.length ≤ s.ins.length + szTs (l.flatMap fun q => trs q.2) + 2 * l.length ∧ (cmpP l sl s).2.pool.length ≤ s.pool.length + szTs (l.flatMap fun q => trs q.2) + 2 * l.length ∧ fewC (cmpP l sl s).2
  | [], sl, s, _, hs => by simp [cmpP, szTs]; exact hs
  | (p, pt) :: l, sl, s, h, hs => by
    have h0 := h _ (List.mem_cons_self ..)
    have h1 := step_len h0 sl s
    have h2 := cmpP_bd l (stepP p pt sl s).1 (stepP p pt sl s).2 (fun q hq => h q (List.mem_cons_of_mem _ hq)) (step_few h0 hs)
    rw [cmpP_cons]
    simp only [List.flatMap_cons, szTs_append, List.length_cons]
    simp only at h1
    refine ⟨by omega, by omega, h2.2.2⟩
theorem zip_trs : ∀ {sv : List PS} {acc : List PT}, acc.length = sv.length → (sv.zip acc).flatMap (fun q => trs q.2) = acc.flatMap trs
  | [], [], _ => rfl
  | s :: sv, p :: acc, h => by simp only [List.zip_cons_cons, List.flatMap_cons]; rw [zip_trs (by simpa using h)]
  | [], _ :: _, h => by simp at h
  | _ :: _, [], h => by simp at h
theorem CodeP.bd {nv : List PN} {sv : List PS} {tyl : List Int} {x : Int × CS} (h : CodeP nv sv tyl x) : x.2.ins.length ≤ 20000 ∧ x.2.pool.length ≤ 20000 ∧ fewC x.2 := by
  rcases h with ⟨_, rfl⟩ | ⟨hw, acc, y, hT, rfl⟩
  · exact ⟨by simp, by simp, fun p hp => by simp at hp⟩
  · obtain ⟨k1, k2, k3, _⟩ := typed_ok hw hT
    have h1 := cmpP_bd (sv.zip acc) 0 ⟨[], []⟩ k1 (fun p hp => by simp at hp)
    rw [zip_trs k3, List.length_zip] at h1
    have h2 := szTs_pos (acc.flatMap trs)
    have h3 := hT.1
    simp only [List.length_nil] at h1
    exact ⟨by omega, by omega, h1.2.2⟩
theorem ctL_bd {α : Type} {ct : α → Nat} {C : Nat} : ∀ (l : List α), (∀ v ∈ l, ct v ≤ C) → ctL ct l ≤ l.length * C
  | [], _ => by simp [ctL]
  | v :: l, h => by
    have h1 := h v (List.mem_cons_self ..)
    have h2 := ctL_bd l fun u hu => h u (List.mem_cons_of_mem _ hu)
    rw [ctL, List.length_cons, Nat.add_mul]
    omega
theorem CO.cdK_bd {B : Nat} {w : World} {P : Option Addr} {pn pc : Nat} {I : Option Addr} {n ic : Nat} {vs : List VV} {s : CS} (h : CO B w P pn pc I n ic vs s.ins) (hp : vs.map (·.p) = s.pool) (h1 : s.ins.length ≤ 20000) (h2 : s.pool.length ≤ 20000) (h3 : fewC s) : cdK vs s.ins ≤ 3000000000 := by
  have hl : vs.length ≤ 20000 := by rw [← hp, List.length_map] at h2; exact h2
  have b1 := ctL_bd (ct := ctValue) (C := 100003) vs fun v hv => by
    have hm := (h.pl.sub v hv ⟨v.A, v.m, v.c, 9, v.p.xs.map .string⟩ (by simp [sbValue])).len
    simp only [List.length_map] at hm
    have := h3 v.p (by rw [← hp]; exact List.mem_map.2 ⟨v, hv, rfl⟩)
    unfold ctValue; omega
  have b2 := ctL_bd (ct := ctIns) (C := 2) s.ins fun v hv => by unfold ctIns; omega
  have : vs.length * 100003 ≤ 20000 * 100003 := Nat.mul_le_mul_right _ hl
  unfold cdK; omega
theorem OT.otK_bd {B : Nat} {w : World} {A A2 A3 : Option Addr} {n c n2 c2 n3 c3 : Nat} {vs : List VN} {sv : List PS} {tyl : List Int} (h : OT B w A n c A2 n2 c2 A3 n3 c3 vs sv tyl) (hw : wtNs (vs.map (·.p)) + wtSs sv ≤ 1048576) (hw3 : tyl.length ≤ 1048576) : otK vs sv n3 ≤ 1000000000000000 := by
  obtain ⟨b1, b2, b3⟩ := wt_b (nv := vs.map (·.p)) (by omega)
  have b4 := wtSs_len sv
  have hl : vs.length ≤ 1048576 := by rw [List.length_map] at b1; exact b1
  have c1 := ctL_bd (ct := ctNode) (C := 3000000) vs fun v hv => by
    have hm := (h.nd.sub v hv ⟨v.A0, v.m0, v.c0, 9, v.p.xs.map .string⟩ (by simp [sbNode])).len
    have hm1 := (h.nd.sub v hv ⟨v.A1, v.m1, v.c1, 3, v.p.ks.map (.int .i64)⟩ (by simp [sbNode])).len
    simp only [List.length_map] at hm hm1
    have := b2 v.p (List.mem_map.2 ⟨v, hv, rfl⟩)
    have := b3 v.p (List.mem_map.2 ⟨v, hv, rfl⟩)
    unfold ctNode; omega
  have c2 := ctL_bd (ct := ctStmt) (C := 4) sv fun v hv => by unfold ctStmt; omega
  have c3 := h.ty.len
  rw [List.length_map] at c3
  have : vs.length * 3000000 ≤ 1048576 * 3000000 := Nat.mul_le_mul_right _ hl
  unfold otK; omega
/-- Rows in blocks that lie apart. -/
theorem dj_bd {lo hi : Nat} {r X : Option Addr} (h1 : ∀ g, blk r = some g → lo ≤ g ∧ g < hi) (h2 : ∀ g, blk X = some g → g < lo ∨ hi ≤ g) : Dj r X := fun g hg e => by
  have := h1 g hg
  have := h2 g e
  omega
end Go.Proofs.YtgdnmpcaiaoaoaaGreatDoor
/- The law FnExactCompile. -/
namespace Go.Proofs.YtgdnmpcaiaoaoaaGreatDoor
open Go.Eng
set_option linter.unusedVariables false
set_option linter.unusedSimpArgs false
theorem CdO.small {B : Nat} {w : World} {P : Option Addr} {pn pc : Nat} {I : Option Addr} {n ic : Nat} {vs : List VV} {is : List (Int × Int)} (h : CdO B w P pn pc I n ic vs is) : ∀ v ∈ vs, v.p.tx.size ≤ 9223372036854775807 ∧ ∀ u ∈ v.p.xs, u.size ≤ 9223372036854775807 := fun v hv => ⟨(h.nam v hv).2.2, (h.nam v hv).2.1.small⟩
set_option maxHeartbeats 8000000 in
theorem lawCompile {A A2 A3 : Option Addr} {n c n2 c2 n3 c3 : Nat} {nv : List PN} {sv : List PS} {tyl : List Int} (w : World) (hT : STab w 4 words ∧ Tab w 6 constF ∧ Tab w 5 opF) (h0 : PolR w A n A2 n2 nv sv ∧ Ints w A3 n3 c3 tyl) (hn : n ≤ 9223372036854775807) (hn2 : n2 ≤ 9223372036854775807) :
    Law Tryz.prog 4 [typV A n c A2 n2 c2 A3 n3 c3] w := by
  have h : TypR w A n A2 n2 A3 n3 c3 nv sv tyl := ⟨h0.1, h0.2⟩
  clear h0
  refine FC.intro (cs := []) Tryz.func4 (by kernel_rfl) fun E R hE hr hR => ?_
  have en : ∀ z : Int, ¬ E.cmp .neq z z = true := fun z => by rw [hE.cmp]; simp [cmpR]
  conv => cbv
  refine st_box hr fun a0 w1 hx hb0 => ?_
  have hb := hb0 _ (Nat.le_refl _)
  have bA := own_blk hb
  have s01 := hx.size
  clear hb0
  conv => cbv
  refine st_loadS hE tLTyp rfl hb.at ?_
  conv => cbv
  refine st_f hr (szTyped_f (c := c) (c2 := c2) (h.ext hx) hn hn2) fun v w2 hx2 ⟨r, ev, _, hsz⟩ => ?_
  subst ev
  have s12 := hx2.size
  replace hb := hb.bel hx2
  replace hx := hx.trans hx2
  clear hx2
  conv => cbv
  refine br (fun g => ?_) (fun g => ?_)
  · conv => cbv
    rw [hR]; exact ⟨hx, rfl⟩
  have g : 0 ≤ r := by simpa [hE.cmp, cmpR] using g
  obtain ⟨hwt, hwt3⟩ := hsz g
  conv => cbv
  refine st_loadS hE tLTyp rfl hb.at ?_
  conv => cbv
  refine st_f hr (toTyped_f (c := c) (c2 := c2) (h.ext hx) hwt hwt3) fun v w3 hx3 ⟨A4, c4, A5, c5, A6, c6, ev, h3⟩ => ?_
  subst ev
  have s23 := hx3.size
  replace hb := hb.bel hx3
  replace hx := hx.trans hx3
  clear hx3
  conv => cbv
  refine st_f hr (specCompile_f (c := c4) (c2 := c5) h3 hn hn2) fun v w4 hx4 ⟨⟨sl, cs⟩, ⟨P, pn, pc, I, ni, ic, vs, ev, hcd, hvs⟩, hcp⟩ => ?_
  subst ev
  have s34 := hx4.size
  replace hb := hb.bel hx4
  replace hx := hx.trans hx4
  clear hx4 h3
  simp only at hcd hvs
  have hcb := hcp.bd
  simp only at hcb
  have hsm := hcd.small
  have hco := hcd.co
  have bW := hco.lo
  clear hcd
  conv => cbv
  refine st_alloc hr tIC rfl fun q4 w5 hx5 hq0 => ?_
  have hq := hq0 _ hx.size
  have hbq := (hb.apart (hq0 _ (Nat.le_refl _)) (Nat.le_refl _)).1
  have b4 := own_blk (hq0 _ (Nat.le_refl _))
  conv => cbv
  refine st_putS hr (by kernel_rfl) hq (add_zero _).symm (by simp) (by simp [Value.oneCell']) fun w6 hw6 hq4 => ?_
  simp only [List.take_zero, List.nil_append, List.length_cons, List.length_nil, List.drop_succ_cons, List.drop_nil, List.append_nil] at hq4
  have hx56 := hx5.then (hw6.bel (hq0 _ (Nat.le_refl _)) hx5.size)
  have s56 := hw6.size
  have s46 := hx56.size
  replace hb := (hb.bel hx5).wr hw6 hbq
  replace hco := hco.ext hx56
  replace hx := hx.trans hx56
  clear hx5 hq0 hw6 hq hx56 hbq
  -- x0
  conv => cbv
  refine st_loadS hE tLTyp rfl hb.at ?_
  conv => cbv
  refine st_f hr (toTypedO_f (c := c) (c2 := c2) (h.ext hx) hwt hwt3) fun v w7 hx7 ⟨A7, c7, A8, c8, A9, c9, us, ev, hus, hot, h5⟩ => ?_
  subst ev
  have s67 := hx7.size
  have bO := hot.lo
  replace hb := hb.bel hx7
  replace hq4 := hq4.bel hx7
  replace hco := hco.ext hx7
  replace hx := hx.trans hx7
  clear hx7
  conv => cbv
  refine st_alloc hr tITyp rfl fun q5 w8 hx8 hq0 => ?_
  have hq := hq0 _ hx.size
  have hbq := (hb.apart (hq0 _ (Nat.le_refl _)) (Nat.le_refl _)).1
  have h4q := (hq4.apart (hq0 _ (Nat.le_refl _)) (Nat.le_refl _)).1
  conv => cbv
  refine st_putS hr (by kernel_rfl) hq (add_zero _).symm (by simp) (by simp [Value.oneCell']) fun w9 hw9 hq5 => ?_
  simp only [List.take_zero, List.nil_append, List.length_cons, List.length_nil, List.drop_succ_cons, List.drop_nil, List.append_nil] at hq5
  have hx89 := hx8.then (hw9.bel (hq0 _ (Nat.le_refl _)) hx8.size)
  have s79 := hx89.size
  replace hb := (hb.bel hx8).wr hw9 hbq
  replace hq4 := (hq4.bel hx8).wr hw9 h4q
  replace hco := hco.ext hx89
  replace hot := hot.ext hx89
  replace h5 := h5.ext hx89
  replace hx := hx.trans hx89
  clear hx8 hq0 hw9 hq hx89 hbq h4q
  -- g0
  conv => cbv
  refine st_loadS hE tITyp rfl hq5.at ?_
  conv => cbv
  refine st_f hr (implCompile_f (c := c7) (c2 := c8) (hT.2.1.ext hx) (hT.1.ext hx) (hT.2.2.ext hx) h5 hn hn2) fun v w10 hx10 ⟨y, ⟨P1, pn1, pc1, I1, ni1, ic1, vs1, ev, hcd, hvs1⟩, hcp1⟩ => ?_
  subst ev
  obtain rfl := hcp1.unique hcp
  simp only at hcd hvs1
  have s910 := hx10.size
  have hsm1 := hcd.small
  have hco1 := hcd.co
  have bG := hco1.lo
  clear hcd
  replace hb := hb.bel hx10
  replace hq4 := hq4.bel hx10
  replace hq5 := hq5.bel hx10
  replace hco := hco.ext hx10
  replace hot := hot.ext hx10
  replace h5 := h5.ext hx10
  replace hx := hx.trans hx10
  clear hx10
  conv => cbv
  refine st_alloc hr tIC rfl fun q6 w11 hx11 hq0 => ?_
  have hq := hq0 _ hx.size
  have hbq := (hb.apart (hq0 _ (Nat.le_refl _)) (Nat.le_refl _)).1
  have h4q := (hq4.apart (hq0 _ (Nat.le_refl _)) (Nat.le_refl _)).1
  have h5q := (hq5.apart (hq0 _ (Nat.le_refl _)) (Nat.le_refl _)).1
  have b6 := own_blk (hq0 _ (Nat.le_refl _))
  conv => cbv
  refine st_putS hr (by kernel_rfl) hq (add_zero _).symm (by simp) (by simp [Value.oneCell']) fun w12 hw12 hq6 => ?_
  simp only [List.take_zero, List.nil_append, List.length_cons, List.length_nil, List.drop_succ_cons, List.drop_nil, List.append_nil] at hq6
  have hx112 := hx11.then (hw12.bel (hq0 _ (Nat.le_refl _)) hx11.size)
  replace hb := (hb.bel hx11).wr hw12 hbq
  replace hq4 := (hq4.bel hx11).wr hw12 h4q
  replace hq5 := (hq5.bel hx11).wr hw12 h5q
  replace hco := hco.ext hx112
  replace hco1 := hco1.ext hx112
  replace hot := hot.ext hx112
  replace h5 := h5.ext hx112
  replace hx := hx.trans hx112
  have s1012 := hx112.size
  clear hx11 hq0 hw12 hq hx112 hbq h4q h5q
  -- eqCode
  have lp : pn1 = pn ∧ ni1 = ni := by
    have e1 := hco.pl.len vC_len (by omega)
    have e2 := hco1.pl.len vC_len (by omega)
    have e3 := hco.is.len iC_len (by omega)
    have e4 := hco1.is.len iC_len (by omega)
    have e5 := congrArg List.length (hvs1.trans hvs.symm)
    rw [List.length_map, List.length_map] at e5
    omega
  obtain ⟨rfl, rfl⟩ := lp
  have len1 := hco.pl.row.le
  have len2 := hco.is.row.le
  have eqc : ∀ {wz : World} {Px Ix : Option Addr} {dx ex : Nat}, CodeR wz Px pn1 Ix ni1 cs.pool cs.ins → CodeR wz P pn1 I ni1 cs.pool cs.ins → FC Tryz.prog 22 [codeV Px pn1 dx sl Ix ni1 ex, codeV P pn1 pc sl I ni1 ic] wz fun v _ => v = .bool true := fun k1 k2 => eqCode_f k1 k2 len1 len2
  have cW : ∀ {wz : World}, CO w3.heap.size wz P pn1 pc I ni1 ic vs cs.ins → CodeR wz P pn1 I ni1 cs.pool cs.ins := fun k => by rw [← hvs]; exact k.codeR hsm
  have cG : CodeR w12 P1 pn1 I1 ni1 cs.pool cs.ins := by rw [← hvs1]; exact hco1.codeR hsm1
  conv => cbv
  refine st_loadS hE tIC rfl hq6.at ?_
  conv => cbv
  refine st_loadS hE tIC rfl hq4.at ?_
  conv => cbv
  refine st_f hr (eqc cG (cW hco)) fun v w13 hx13 ev => ?_
  subst ev
  have s1213 := hx13.size
  replace hb := hb.bel hx13
  replace hq4 := hq4.bel hx13
  replace hq5 := hq5.bel hx13
  replace hq6 := hq6.bel hx13
  replace hco := hco.ext hx13
  replace hco1 := hco1.ext hx13
  replace hot := hot.ext hx13
  replace h5 := h5.ext hx13
  replace hx := hx.trans hx13
  clear hx13
  conv => cbv
  refine draw_h [0, 1] [(2, false), (3, false), (4, true)] hr fol (by kernel_rfl) fun E' hE' w14 hs14 S hS => ?_
  have x14 := hs14.ext
  have s1314 := x14.size
  replace hb := hb.bel x14
  replace hq4 := hq4.bel x14
  replace hq5 := hq5.bel x14
  replace hq6 := hq6.bel x14
  replace hco := hco.ext x14
  replace hco1 := hco1.ext x14
  replace hot := hot.ext x14
  replace h5 := h5.ext x14
  replace hx := hx.trans x14
  clear x14
  conv => cbv
  refine st_loadS hE' tITyp rfl hq5.at ?_
  conv => cbv
  refine st_loadS hE' tLTyp rfl hb.at ?_
  conv => cbv
  refine st_f hr (toTyped_f (c := c) (c2 := c2) (h.ext hx) hwt hwt3) fun v w15 hx15 ⟨B7, d7, B8, d8, B9, d9, ev, h7⟩ => ?_
  subst ev
  refine ⟨hS _ hx15, ?_⟩
  conv => cbv
  refine st_f hr (eqTyped_f (c := c7) (c2 := c8) (d := d7) (d2 := d8) (h5.ext hx15) h7 hn hn2) fun v w16 hx16 ev => ?_
  subst ev
  have x16 := hx15.trans hx16
  refine ⟨hS _ x16, ?_⟩
  have s1416 := x16.size
  replace hb := hb.bel x16
  replace hq4 := hq4.bel x16
  replace hq5 := hq5.bel x16
  replace hq6 := hq6.bel x16
  replace hco := hco.ext x16
  replace hco1 := hco1.ext x16
  replace hot := hot.ext x16
  replace hx := hx.trans x16
  clear x16 hx15 hx16 h5 h7
  -- markTyped
  conv => cbv
  refine st_loadS hE tITyp rfl hq5.at ?_
  have kb := hot.otK_bd (by rw [hus]; exact hwt) hwt3
  have mt := markTyped_g hot 1 (by omega) (by omega)
  obtain ⟨k, hk⟩ : ∃ z : Int, z = 1 + otK us sv n3 := ⟨_, rfl⟩
  rw [← hk] at mt
  conv => cbv
  refine st_g hr mt fun v w17 ⟨ev, _, hC17⟩ => ?_
  subst ev
  have hs6 := hx.size
  have dO : ∀ {X : Option Addr}, (∀ g, blk X = some g → g < w6.heap.size ∨ w7.heap.size ≤ g) → ∀ r ∈ otA A7 A8 A9 us, Dj r X := fun h2 r hr => dj_bd (bO r hr) h2
  replace hb := (hC17.own hb (dO fun g hg => by have := bA g hg; omega)).1
  replace hq4 := (hC17.own hq4 (dO fun g hg => by have := b4 g hg; omega)).1
  replace hq6 := (hC17.own hq6 (dO fun g hg => by have := b6 g hg; omega)).1
  replace hco := hco.keepR hC17 fun r hr a ha => dO (fun g hg => by have := bW a ha g hg; omega) r hr
  replace hco1 := hco1.keepR hC17 fun r hr a ha => dO (fun g hg => by have := bG a ha g hg; omega) r hr
  have hw1 : w.heap.size ≤ w6.heap.size := by omega
  replace hx := hC17.ext0 hx fun r hr g hg => by have := bO r hr g hg; omega
  have s1617 := hC17.size
  clear hq5 hot hC17 mt
  conv => cbv
  refine br (fun g => absurd (show k < 0 by simpa [hE.cmp, cmpR] using g) (by omega)) (fun _ => ?_)
  have cG : CodeR w17 P1 pn1 I1 ni1 cs.pool cs.ins := by rw [← hvs1]; exact hco1.codeR hsm1
  conv => cbv
  refine st_loadS hE tIC rfl hq6.at ?_
  conv => cbv
  refine st_loadS hE tIC rfl hq4.at ?_
  conv => cbv
  refine st_f hr (eqc cG (cW hco)) fun v w18 hx18 ev => ?_
  subst ev
  have s1718 := hx18.size
  replace hb := hb.bel hx18
  replace hq4 := hq4.bel hx18
  replace hq6 := hq6.bel hx18
  replace hco := hco.ext hx18
  replace hco1 := hco1.ext hx18
  replace hx := hx.trans hx18
  clear hx18 cG
  -- markCode
  conv => cbv
  refine st_loadS hE tIC rfl hq6.at ?_
  have cb := hco1.cdK_bd hvs1 hcb.1 hcb.2.1 hcb.2.2
  have mc := markCode_g hco1 sl 1 (by omega) (by omega)
  obtain ⟨m, hm⟩ : ∃ z : Int, z = 1 + cdK vs1 cs.ins := ⟨_, rfl⟩
  rw [← hm] at mc
  conv => cbv
  refine st_g hr mc fun v w19 ⟨ev, hcm, hC19⟩ => ?_
  subst ev
  have dG : ∀ {X : Option Addr}, (∀ g, blk X = some g → g < w9.heap.size ∨ w10.heap.size ≤ g) → ∀ r ∈ cdA P1 I1 vs1, Dj r X := fun h2 r hr => dj_bd (bG r hr) h2
  replace hb := (hC19.own hb (dG fun g hg => by have := bA g hg; omega)).1
  replace hq4 := (hC19.own hq4 (dG fun g hg => by have := b4 g hg; omega)).1
  replace hq6 := (hC19.own hq6 (dG fun g hg => by have := b6 g hg; omega)).1
  replace hco := hco.keepR hC19 fun r hr a ha => dG (fun g hg => by have := bW a ha g hg; omega) r hr
  replace hx := hC19.ext0 hx fun r hr g hg => by have := bG r hr g hg; omega
  clear hC19 mc hco1
  conv => cbv
  refine st_loadS hE tIC rfl hq6.at ?_
  have hd1 := heldCode_f hcm sl (by omega) (by omega)
  rw [← hm] at hd1
  conv => cbv
  refine st_f hr hd1 fun v w20 hx20 ev => ?_
  subst ev
  replace hb := hb.bel hx20
  replace hq4 := hq4.bel hx20
  replace hq6 := hq6.bel hx20
  replace hco := hco.ext hx20
  replace hcm := hcm.ext hx20
  replace hx := hx.trans hx20
  clear hx20 hd1
  conv => cbv
  refine br (fun g => absurd (show m < 0 by simpa [hE.cmp, cmpR] using g) (by omega)) (fun _ => ?_)
  conv => cbv
  refine br (fun q => absurd q (en _)) (fun _ => ?_)
  -- h0
  conv => cbv
  refine st_loadS hE tLTyp rfl hb.at ?_
  conv => cbv
  refine st_f hr (toTyped_f (c := c) (c2 := c2) (h.ext hx) hwt hwt3) fun v w21 hx21 ⟨B1, d1, B2, d2, B3, d3, ev, h8⟩ => ?_
  subst ev
  replace hq4 := hq4.bel hx21
  replace hq6 := hq6.bel hx21
  replace hco := hco.ext hx21
  replace hcm := hcm.ext hx21
  replace hx := hx.trans hx21
  clear hx21 hb
  conv => cbv
  refine st_f hr (implCompile_f (c := d1) (c2 := d2) (hT.2.1.ext hx) (hT.1.ext hx) (hT.2.2.ext hx) h8 hn hn2) fun v w22 hx22 ⟨y, ⟨P2, pn2, pc2, I2, ni2, ic2, vs2, ev, hcd, hvs2⟩, hcp2⟩ => ?_
  subst ev
  obtain rfl := hcp2.unique hcp
  simp only at hcd hvs2
  have hsm2 := hcd.small
  have hco2 := hcd.co
  clear hcd
  replace hq4 := hq4.bel hx22
  replace hq6 := hq6.bel hx22
  replace hco := hco.ext hx22
  replace hcm := hcm.ext hx22
  replace hx := hx.trans hx22
  clear hx22
  conv => cbv
  refine st_alloc hr tIC rfl fun q10 w23 hx23 hq0 => ?_
  have hq := hq0 _ hx.size
  have h4q := (hq4.apart (hq0 _ (Nat.le_refl _)) (Nat.le_refl _)).1
  have h6q := (hq6.apart (hq0 _ (Nat.le_refl _)) (Nat.le_refl _)).1
  conv => cbv
  refine st_putS hr (by kernel_rfl) hq (add_zero _).symm (by simp) (by simp [Value.oneCell']) fun w24 hw24 hq10 => ?_
  simp only [List.take_zero, List.nil_append, List.length_cons, List.length_nil, List.drop_succ_cons, List.drop_nil, List.append_nil] at hq10
  have hx24 := hx23.then (hw24.bel (hq0 _ (Nat.le_refl _)) hx23.size)
  replace hq4 := (hq4.bel hx23).wr hw24 h4q
  replace hq6 := (hq6.bel hx23).wr hw24 h6q
  replace hco := hco.ext hx24
  replace hco2 := hco2.ext hx24
  replace hcm := hcm.ext hx24
  replace hx := hx.trans hx24
  clear hx23 hq0 hw24 hq hx24 h4q h6q
  have lp : pn2 = pn1 ∧ ni2 = ni1 := by
    have e1 := hco.pl.len vC_len (by omega)
    have e2 := hco2.pl.len vC_len (by omega)
    have e3 := hco.is.len iC_len (by omega)
    have e4 := hco2.is.len iC_len (by omega)
    have e5 := congrArg List.length (hvs2.trans hvs.symm)
    rw [List.length_map, List.length_map] at e5
    omega
  obtain ⟨rfl, rfl⟩ := lp
  have cH : CodeR w24 P2 pn2 I2 ni2 cs.pool cs.ins := by rw [← hvs2]; exact hco2.codeR hsm2
  conv => cbv
  refine st_loadS hE tIC rfl hq10.at ?_
  conv => cbv
  refine st_loadS hE tIC rfl hq4.at ?_
  conv => cbv
  refine st_f hr (eqc cH (cW hco)) fun v w25 hx25 ev => ?_
  subst ev
  replace hq6 := hq6.bel hx25
  replace hcm := hcm.ext hx25
  replace hx := hx.trans hx25
  clear hx25
  conv => cbv
  refine st_loadS hE tIC rfl hq6.at ?_
  have hd1 := heldCode_f hcm sl (by omega) (by omega)
  rw [← hm] at hd1
  conv => cbv
  refine st_f hr hd1 fun v w26 hx26 ev => ?_
  subst ev
  conv => cbv
  refine br (fun g => absurd (show m < 0 by simpa [hE.cmp, cmpR] using g) (by omega)) (fun _ => ?_)
  conv => cbv
  refine br (fun q => absurd q (en _)) (fun _ => ?_)
  conv => cbv
  rw [hR]; exact ⟨hx.trans hx26, rfl⟩
end Go.Proofs.YtgdnmpcaiaoaoaaGreatDoor
/- The closed facts of the row FnExactCompile, each a lemma of its own. -/
namespace Go.Proofs.YtgdnmpcaiaoaoaaGreatDoor
open Go.ChangeShapes Go.WideShapes
set_option linter.unusedVariables false
set_option maxRecDepth 100000 in
set_option maxHeartbeats 16000000 in
theorem jf_FnExactCompile : joinedFacts Tryz.pinned.checked.prog 4 Tryz.f4 Rows.fnExactCompileSpec Rows.fnExactCompileRow = true := by
  unfold joinedFacts
  simp only [Bool.and_eq_true]
  repeat' apply And.intro
  all_goals (as_aux_lemma => kernel_rfl)
end Go.Proofs.YtgdnmpcaiaoaoaaGreatDoor
