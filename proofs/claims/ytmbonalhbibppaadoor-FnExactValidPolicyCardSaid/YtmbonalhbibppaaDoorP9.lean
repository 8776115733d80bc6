/- The reference's l2shape and ValidPolicy (printed by gen_p9.py). -/
import Derived.Test.YtmbonalhbibppaaDoorP8
import Derived.Test.YtmbonalhbibppaaDoorP4
namespace Go.Proofs.YtmbonalhbibppaaDoor
open Go.Eng
set_option linter.unusedVariables false
set_option linter.unusedSimpArgs false
/-! ### What a valid policy is -/
def stmtP (last : Bool) (s : PS) : Prop :=
  if s.k = 1 then last = false ∧ ident s.nm ∧ 0 ≤ s.c ∧ s.g = -1
  else if s.k = 2 then last = false ∧ s.nm = ⟨#[]⟩ ∧ 0 ≤ s.c ∧ -1 ≤ s.g
  else if s.k = 3 then last = true ∧ s.nm = ⟨#[]⟩ ∧ s.c = -1 ∧ -1 ≤ s.g
  else False
def rootS (s : PS) : List Int := (if 0 ≤ s.c then [s.c] else []) ++ (if 0 ≤ s.g then [s.g] else [])
def roots (sv : List PS) : List Int := sv.flatMap rootS
def stmtsP (sv : List PS) : Prop := ∀ i s, sv[i]? = some s → stmtP (decide (i + 1 = sv.length)) s
def policyP (ty : Bool) (nv : List PN) (sv : List PS) : Prop :=
  nv.length ≤ 4000 ∧ 1 ≤ sv.length ∧ sv.length ≤ 600 ∧ (∀ p ∈ nv, fieldsP ty p) ∧ stmtsP sv ∧ ∃ ts, IsTs nv 0 nv.length (roots sv) ts ∧ ∀ t ∈ ts, dep t ≤ 64
theorem foldW_append (ns : List PN) (f : Nat) : ∀ (k1 k2 out : List Int), foldW ns f (k1 ++ k2) out = foldW ns f k2 (foldW ns f k1 out)
  | [], k2, out => rfl
  | k :: k1, k2, out => by rw [List.cons_append, foldW, foldW_append ns f k1 k2]; rfl
theorem roots_take {sv : List PS} {i : Nat} {s : PS} (h : sv[i]? = some s) : roots (sv.take (i + 1)) = roots (sv.take i) ++ rootS s := by
  unfold roots; rw [List.take_add_one, h, List.flatMap_append]; simp
theorem rg_eq {l : List Int} : (∀ (i : Nat) (z : Int), l[i]? = some z → z = i) → l = rg l.length := by
  intro h
  apply List.ext_getElem?
  intro i
  rcases Nat.lt_or_ge i l.length with hi | hi
  · have e := h i _ (List.getElem?_eq_getElem hi)
    rw [List.getElem?_eq_getElem hi, e]
    simp [rg, hi]
  · rw [List.getElem?_eq_none hi, List.getElem?_eq_none (by rw [rg_len]; exact hi)]
set_option maxHeartbeats 8000000 in
theorem l2shape_f {w : World} {A A2 : Option Addr} {n c n2 c2 : Nat} {nv : List PN} {sv : List PS} (h : PolR w A n A2 n2 nv sv) (hn : n ≤ 9223372036854775807) (hn2 : n2 ≤ 9223372036854775807) (ty : Bool) :
    FC Tryd.prog 33 [.slice A n c, .slice A2 n2 c2, .bool ty] w fun v _ => ∃ b : Bool, v = .bool b ∧ (b = true ↔ policyP ty nv sv) := by
  refine FC.intro (cs := []) Tryd.func33 (by kernel_rfl) fun E R hE hr hR => ?_
  have hl := h.nodes.len
  have hl2 := h.stmts.len
  obtain ⟨F, hF⟩ : ∃ F : Nat, F = 4001 := ⟨_, rfl⟩
  have no : ¬ policyP ty nv sv → ∀ w', Ext w w' → R (.bool false) w' := fun h w' hx => by rw [hR]; exact ⟨hx, false, rfl, by simp [h]⟩
  conv => cbv
  refine st_len hE sINd fun x1 hx1 => ?_
  conv => cbv
  refine br (fun g => ?_) (fun g => ?_)
  · have g : 4000 < x1 := by simpa [hE.cmp, cmpR] using g
    conv => cbv
    exact no (fun q => by have := q.1; omega) _ (Ext.refl _)
  have g1 : n ≤ 4000 := by simp [hE.cmp, cmpR] at g; omega
  clear g
  conv => cbv
  refine st_len hE sISd fun x2 hx2 => ?_
  conv => cbv
  refine br (fun g => ?_) (fun g => ?_)
  · have g : x2 < 1 := by simpa [hE.cmp, cmpR] using g
    conv => cbv
    exact no (fun q => by have := q.2.1; omega) _ (Ext.refl _)
  have g2 : 1 ≤ n2 := by simp [hE.cmp, cmpR] at g; omega
  clear g
  conv => cbv
  refine st_len hE sISd fun x3 hx3 => ?_
  conv => cbv
  refine br (fun g => ?_) (fun g => ?_)
  · have g : 600 < x3 := by simpa [hE.cmp, cmpR] using g
    conv => cbv
    exact no (fun q => by have := q.2.2.1; omega) _ (Ext.refl _)
  have g3 : n2 ≤ 600 := by simp [hE.cmp, cmpR] at g; omega
  clear g
  conv => cbv
  refine st_len hE sINd fun x4 hx4 => ?_
  conv => cbv
  -- the fields of all nodes
  refine loop_rule hr (fun (s : Nat × Int) w' => s.1 ≤ n ∧ s.2 = (s.1 : Int) ∧ Ext w w' ∧ ∀ p ∈ nv.take s.1, fieldsP ty p) (fun s => [(0, .slice A n c), (1, .slice A2 n2 c2), (2, .bool ty), (31, .slice A n c), (32, .int .i64 x4), (33, .int .i64 s.2)]) (fun s => n - s.1) (0, 0)
    (by simp [Fits, lk]) ⟨by simp, by simp, Ext.refl _, by simp⟩ ?_
  rintro I hI ⟨i, ii⟩ w' ⟨hi, hii, hx, hall⟩
  simp only at hi hii hall
  obtain ⟨ij, hij⟩ : ∃ z, z = ii + 1 := ⟨_, rfl⟩
  conv => cbv
  refine br (fun g => ?_) (fun g => ?_)
  · have g : i < n := by
      have : ii < x4 := by simpa [hE.cmp, cmpR] using g
      omega
    have ei : E.ar .add .i64 ii 1 = ij := by rw [hE.ar, hij]; exact wrap_in (by omega) (by omega)
    obtain ⟨a, v, hA, hg, hc, hok⟩ := (h.nodes.ext hx).get g
    conv => cbv
    refine st_idx hE sINd hA (by omega) (by omega) fun q hq => ?_
    rw [show ii.toNat = i by omega] at hq
    conv => cbv
    refine st_loadS hE tINd (vs := cN v) rfl (by rw [hq]; exact hc) ?_
    obtain ⟨cv, hcv⟩ : ∃ cv, cv = cN v := ⟨_, rfl⟩
    have hcl : cv.length = 5 := by rw [hcv]; rfl
    have hc1 : ∀ v ∈ cv, v.oneCell' = true := by rw [hcv]; simp [cN, Value.oneCell']
    rw [← hcv]
    conv => cbv
    refine st_alloc hr tINd rfl fun q2 w2 hx2 hq0 => ?_
    conv => cbv
    refine st_putS hr (by rw [hcl]; kernel_rfl) (hq0 _ hx.size) (add_zero _).symm (by simp [hcl]) hc1 fun w3 hw3 hq3 => ?_
    have hq4 : Box w.heap.size 137 5 w3 q2 cv := by
      have e : zNd.take 0 ++ cv ++ zNd.drop (0 + cv.length) = cv := by rw [hcl]; simp
      rwa [e] at hq3
    have hx3 := hx2.then (hw3.bel (hq0 _ (Nat.le_refl _)) hx2.size)
    conv => cbv
    refine st_loadS hE tINd hcl hq4.at ?_
    conv => cbv
    rw [hcv]
    refine st_f hr (l2fields_f v (hok.ext hx3) ty) fun u w4 hx4' ⟨b, ev, hb⟩ => ?_
    subst ev
    have hx4 := (hx.trans hx3).trans hx4'
    conv => cbv
    cases b with
    | false =>
      conv => cbv
      exact no (fun q => absurd (hb.2 (q.2.2.2.1 _ (List.mem_of_getElem? hg))) (by simp)) _ hx4
    | true =>
      conv => cbv
      simp only [ei]
      refine ⟨(i + 1, ij), by simp [Fits, lk], hI _ _ ⟨by simp only; omega, by simp only; omega, hx4, fun p hp => ?_⟩, by simp only; omega⟩
      simp only at hp
      rw [List.take_add_one, hg] at hp
      rcases List.mem_append.1 hp with hp | hp
      · exact hall p hp
      · simp at hp; subst hp; exact hb.1 rfl
  have g : i = n := by
    have : ¬ ii < x4 := by simpa [hE.cmp, cmpR] using g
    omega
  rw [List.take_of_length_le (by omega)] at hall
  conv => cbv
  clear hI I hij ij hii hi
  have hk3 : ∀ p ∈ nv, p.ks.length ≤ 3 := fun p hp => by have := (hall p hp).1; have := kidsF_le p.o; omega
  refine st_len hE sISd fun x5 hx5 => ?_
  conv => cbv
  -- the statements, and what they write down
  refine loop_rulec [22] hr (fun (s : Nat × Int × Option Addr × Nat × Nat) w' => s.1 ≤ n2 ∧ s.2.1 = (s.1 : Int) ∧ Ext w w' ∧ Own w.heap.size 3 1 w' s.2.2.1 s.2.2.2.1 s.2.2.2.2 ((foldW nv F (roots (sv.take s.1)) []).map (.int .i64)) ∧ s.2.2.2.1 ≤ 25000 + 2 * s.1 ∧ ∀ j t, j < s.1 → sv[j]? = some t → stmtP (decide (j + 1 = sv.length)) t)
    (fun s => [(0, .slice A n c), (1, .slice A2 n2 c2), (9, .slice s.2.2.1 s.2.2.2.1 s.2.2.2.2), (42, .slice A2 n2 c2), (43, .int .i64 x5), (44, .int .i64 s.2.1)]) (fun s => n2 - s.1) (0, 0, none, 0, 0)
    (by simp [Fits, lk]) ⟨by simp, by simp, hx, Own.nil, by simp, fun j t h => by simp only at h; omega⟩ ?_
  clear hx
  rintro I hI ⟨i, ii, A5, n5, c5⟩ w' ⟨hi, hii, hx, ho, hn5, hst⟩
  simp only at hi hii ho hn5 hst
  obtain ⟨ij, hij⟩ : ∃ z, z = ii + 1 := ⟨_, rfl⟩
  obtain ⟨im, him⟩ : ∃ z : Int, z = n2 - 1 := ⟨_, rfl⟩
  conv => cbv
  refine br (fun g => ?_) (fun g => ?_)
  · have g : i < n2 := by
      have : ii < x5 := by simpa [hE.cmp, cmpR] using g
      omega
    have ei : E.ar .add .i64 ii 1 = ij := by rw [hE.ar, hij]; exact wrap_in (by omega) (by omega)
    obtain ⟨a, v, hA, hg, hc, hok⟩ := (h.stmts.ext hx).get g
    obtain ⟨k, nm, cc, gg⟩ := v
    have s_nm := hok.s_nm
    simp only at s_nm
    conv => cbv
    refine st_idx hE sISd hA (by omega) (by omega) fun q hq => ?_
    rw [show ii.toNat = i by omega] at hq
    conv => cbv
    refine st_loadS hE tISd (vs := [.int .i64 k, .string nm, .int .i64 cc, .int .i64 gg]) rfl (by rw [hq]; exact hc) ?_
    conv => cbv
    refine st_alloc hr tISd rfl fun q2 w2 hx2 hq0 => ?_
    conv => cbv
    refine st_putS hr (by kernel_rfl) (hq0 _ hx.size) (add_zero _).symm (by simp) (by simp [Value.oneCell']) fun w3 hw3 hq3 => ?_
    simp only [List.take_zero, List.nil_append, List.length_cons, List.length_nil, List.drop_succ_cons, List.drop_nil, List.append_nil] at hq3
    have hxy := hx2.then (hw3.bel (hq0 _ (Nat.le_refl _)) hx2.size)
    replace hx := hx.trans hxy
    have apq : Apart A5 (some q2) ∧ Apart (some q2) A5 := ho.apart (hq0 _ (Nat.le_refl _)) (Nat.le_refl _)
    replace ho := ho.bel hxy
    clear hq0 hw3 hx2
    conv => cbv
    refine st_len hE sISd fun x6 hx6 => ?_
    have em : E.ar .sub .i64 x6 1 = im := by rw [hE.ar, show arR .sub .i64 x6 1 = IntKind.i64.wrap (x6 - 1) from rfl, wrap_in (by omega) (by omega)]; omega
    obtain ⟨la, hla⟩ : ∃ la, la = E.cmp .eql ii im := ⟨_, rfl⟩
    have hla2 : la = decide (i + 1 = sv.length) := by rw [hla, hE.cmp, Bool.eq_iff_iff]; simp [cmpR]; omega
    conv => cbv
    simp only [em, ← hla]
    refine cut_rule [] [] hr (fun (s : Bool) w9 => Ext w3 w9 ∧ (s = true ↔ stmtP la ⟨k, nm, cc, gg⟩)) (fun s => [(0, .slice A n c), (1, .slice A2 n2 c2), (9, .slice A5 n5 c5), (11, .pointer (some q2)), (13, .bool s), (42, .slice A2 n2 c2), (43, .int .i64 x5), (44, .int .i64 ii)]) (fun J hJ => ?_) ?_
    · cases la with
      | true =>
        conv => cbv
        (refine st_fld hE fISd0 fun p hp => ?_; (conv => cbv); refine st_load hE cInt (by rw [hp]; exact (hq3).at _ _ rfl) ?_; clear hp; (conv => cbv))
        refine br (fun g5 => ?_) (fun g5 => ?_)
        · have g5 : k = 1 := by simpa [hE.cmp, cmpR] using g5
          conv => cbv
          exact ⟨false, by simp [Fits, lk], hJ _ _ ⟨Ext.refl _, by unfold stmtP; rw [if_pos g5]; simp⟩⟩
        have k1 : k ≠ 1 := by simpa [hE.cmp, cmpR] using g5
        clear g5
        conv => cbv
        refine br (fun g5 => ?_) (fun g5 => ?_)
        · have g5 : k = 2 := by simpa [hE.cmp, cmpR] using g5
          conv => cbv
          exact ⟨false, by simp [Fits, lk], hJ _ _ ⟨Ext.refl _, by unfold stmtP; rw [if_neg k1, if_pos g5]; simp⟩⟩
        have k2 : k ≠ 2 := by simpa [hE.cmp, cmpR] using g5
        clear g5
        conv => cbv
        refine br (fun g5 => ?_) (fun g5 => ?_)
        · have g5 : k = 3 := by simpa [hE.cmp, cmpR] using g5
          conv => cbv
          (refine st_fld hE fISd1 fun p hp => ?_; (conv => cbv); refine st_load hE cStr (by rw [hp]; exact (hq3).at _ _ rfl) ?_; clear hp; (conv => cbv))
          refine br (fun t1 => ?_) (fun t1 => ?_)
          · have t1 : nm = ⟨#[]⟩ := (scq hE _ _).1 t1
            conv => cbv
            (refine st_fld hE fISd2 fun p hp => ?_; (conv => cbv); refine st_load hE cInt (by rw [hp]; exact (hq3).at _ _ rfl) ?_; clear hp; (conv => cbv))
            refine br (fun t2 => ?_) (fun t2 => ?_)
            · have t2 : cc = -1 := by simpa [hE.cmp, cmpR] using t2
              conv => cbv
              (refine st_fld hE fISd3 fun p hp => ?_; (conv => cbv); refine st_load hE cInt (by rw [hp]; exact (hq3).at _ _ rfl) ?_; clear hp; (conv => cbv))
              obtain ⟨q4, hq4⟩ : ∃ q4, q4 = E.cmp .geq gg (-1) := ⟨_, rfl⟩
              have hq5 : q4 = true ↔ -1 ≤ gg := by rw [hq4, hE.cmp]; simp [cmpR]
              simp only [← hq4]
              exact ⟨q4, by simp [Fits, lk], hJ _ _ ⟨Ext.refl _, by rw [hq5]; unfold stmtP; rw [if_neg k1, if_neg k2, if_pos g5]; simp [t1, t2]⟩⟩
            · have t2 : ¬ (cc = -1) := by simpa [hE.cmp, cmpR] using t2
              conv => cbv
              exact ⟨false, by simp [Fits, lk], hJ _ _ ⟨Ext.refl _, by unfold stmtP; rw [if_neg k1, if_neg k2, if_pos g5]; simp [t1, t2]⟩⟩
          · have t1 : nm ≠ ⟨#[]⟩ := fun e => t1 ((scq hE _ _).2 e)
            conv => cbv
            exact ⟨false, by simp [Fits, lk], hJ _ _ ⟨Ext.refl _, by unfold stmtP; rw [if_neg k1, if_neg k2, if_pos g5]; simp [t1]⟩⟩
        have k3 : k ≠ 3 := by simpa [hE.cmp, cmpR] using g5
        clear g5
        conv => cbv
        exact ⟨false, by simp [Fits, lk], hJ _ _ ⟨Ext.refl _, by unfold stmtP; rw [if_neg k1, if_neg k2, if_neg k3]; simp⟩⟩
      | false =>
        conv => cbv
        (refine st_fld hE fISd0 fun p hp => ?_; (conv => cbv); refine st_load hE cInt (by rw [hp]; exact (hq3).at _ _ rfl) ?_; clear hp; (conv => cbv))
        refine br (fun g5 => ?_) (fun g5 => ?_)
        · have g5 : k = 1 := by simpa [hE.cmp, cmpR] using g5
          conv => cbv
          (refine st_fld hE fISd1 fun p hp => ?_; (conv => cbv); refine st_load hE cStr (by rw [hp]; exact (hq3).at _ _ rfl) ?_; clear hp; (conv => cbv))
          refine st_f hr (l2ident_f nm s_nm _) fun u w6 hx6 ⟨b, ev, hbq⟩ => ?_
          subst ev
          have hq6 := hq3.bel hx6
          cases b with
          | false =>
            have hbq : ¬ ident nm := fun q => absurd (hbq.2 q) (by simp)
            conv => cbv
            exact ⟨false, by simp [Fits, lk], hJ _ _ ⟨hx6, by unfold stmtP; rw [if_pos g5]; simp [hbq]⟩⟩
          | true =>
            have hbq := hbq.1 rfl
            conv => cbv
            (refine st_fld hE fISd2 fun p hp => ?_; (conv => cbv); refine st_load hE cInt (by rw [hp]; exact (hq6).at _ _ rfl) ?_; clear hp; (conv => cbv))
            refine br (fun t2 => ?_) (fun t2 => ?_)
            · have t2 : 0 ≤ cc := by simpa [hE.cmp, cmpR] using t2
              conv => cbv
              (refine st_fld hE fISd3 fun p hp => ?_; (conv => cbv); refine st_load hE cInt (by rw [hp]; exact (hq6).at _ _ rfl) ?_; clear hp; (conv => cbv))
              obtain ⟨q4, hq4⟩ : ∃ q4, q4 = E.cmp .eql gg (-1) := ⟨_, rfl⟩
              have hq5 : q4 = true ↔ gg = -1 := by rw [hq4, hE.cmp]; simp [cmpR]
              simp only [← hq4]
              exact ⟨q4, by simp [Fits, lk], hJ _ _ ⟨hx6, by rw [hq5]; unfold stmtP; rw [if_pos g5]; simp [hbq, t2]⟩⟩
            · have t2 : ¬ (0 ≤ cc) := by simpa [hE.cmp, cmpR] using t2
              conv => cbv
              exact ⟨false, by simp [Fits, lk], hJ _ _ ⟨hx6, by unfold stmtP; rw [if_pos g5]; simp [hbq, t2]⟩⟩
        have k1 : k ≠ 1 := by simpa [hE.cmp, cmpR] using g5
        clear g5
        conv => cbv
        refine br (fun g5 => ?_) (fun g5 => ?_)
        · have g5 : k = 2 := by simpa [hE.cmp, cmpR] using g5
          conv => cbv
          (refine st_fld hE fISd1 fun p hp => ?_; (conv => cbv); refine st_load hE cStr (by rw [hp]; exact (hq3).at _ _ rfl) ?_; clear hp; (conv => cbv))
          refine br (fun t1 => ?_) (fun t1 => ?_)
          · have t1 : nm = ⟨#[]⟩ := (scq hE _ _).1 t1
            conv => cbv
            (refine st_fld hE fISd2 fun p hp => ?_; (conv => cbv); refine st_load hE cInt (by rw [hp]; exact (hq3).at _ _ rfl) ?_; clear hp; (conv => cbv))
            refine br (fun t2 => ?_) (fun t2 => ?_)
            · have t2 : 0 ≤ cc := by simpa [hE.cmp, cmpR] using t2
              conv => cbv
              (refine st_fld hE fISd3 fun p hp => ?_; (conv => cbv); refine st_load hE cInt (by rw [hp]; exact (hq3).at _ _ rfl) ?_; clear hp; (conv => cbv))
              obtain ⟨q4, hq4⟩ : ∃ q4, q4 = E.cmp .geq gg (-1) := ⟨_, rfl⟩
              have hq5 : q4 = true ↔ -1 ≤ gg := by rw [hq4, hE.cmp]; simp [cmpR]
              simp only [← hq4]
              exact ⟨q4, by simp [Fits, lk], hJ _ _ ⟨Ext.refl _, by rw [hq5]; unfold stmtP; rw [if_neg k1, if_pos g5]; simp [t1, t2]⟩⟩
            · have t2 : ¬ (0 ≤ cc) := by simpa [hE.cmp, cmpR] using t2
              conv => cbv
              exact ⟨false, by simp [Fits, lk], hJ _ _ ⟨Ext.refl _, by unfold stmtP; rw [if_neg k1, if_pos g5]; simp [t1, t2]⟩⟩
          · have t1 : nm ≠ ⟨#[]⟩ := fun e => t1 ((scq hE _ _).2 e)
            conv => cbv
            exact ⟨false, by simp [Fits, lk], hJ _ _ ⟨Ext.refl _, by unfold stmtP; rw [if_neg k1, if_pos g5]; simp [t1]⟩⟩
        have k2 : k ≠ 2 := by simpa [hE.cmp, cmpR] using g5
        clear g5
        conv => cbv
        refine br (fun g5 => ?_) (fun g5 => ?_)
        · have g5 : k = 3 := by simpa [hE.cmp, cmpR] using g5
          conv => cbv
          exact ⟨false, by simp [Fits, lk], hJ _ _ ⟨Ext.refl _, by unfold stmtP; rw [if_neg k1, if_neg k2, if_pos g5]; simp⟩⟩
        have k3 : k ≠ 3 := by simpa [hE.cmp, cmpR] using g5
        clear g5
        conv => cbv
        exact ⟨false, by simp [Fits, lk], hJ _ _ ⟨Ext.refl _, by unfold stmtP; rw [if_neg k1, if_neg k2, if_neg k3]; simp⟩⟩
    · rintro b w9 ⟨hx9, hb⟩
      replace hx := hx.trans hx9
      replace ho := ho.bel hx9
      replace hq3 := hq3.bel hx9
      have hol0 := ho.len
      rw [List.length_map, Nat.mul_one] at hol0
      clear hx9
      cases b with
      | false =>
        have hb : ¬ stmtP la ⟨k, nm, cc, gg⟩ := fun q => absurd (hb.2 q) (by simp)
        conv => cbv
        exact no (fun q => hb (by rw [hla2]; exact q.2.2.2.2.1 i _ hg)) _ hx
      | true =>
        have hb := hb.1 rfl
        conv => cbv
        (refine st_fld hE fISd2 fun p hp => ?_; (conv => cbv); refine st_load hE cInt (by rw [hp]; exact (hq3).at _ _ rfl) ?_; clear hp; (conv => cbv))
        refine br (fun r1 => ?_) (fun r1 => ?_)
        · have r1 : 0 ≤ cc := by simpa [hE.cmp, cmpR] using r1
          conv => cbv
          (refine st_fld hE fISd2 fun p hp => ?_; (conv => cbv); refine st_load hE cInt (by rw [hp]; exact (hq3).at _ _ rfl) ?_; clear hp; (conv => cbv))
          have wl1 := walk_len hk3 F cc (foldW nv F (roots (sv.take i)) [])
          refine st_g hr (l2walk_g h.nodes hk3 g1 F (by omega) cc _ _ _ _ (foldW nv F (roots (sv.take i)) []) (by omega) hx ho (by omega)) fun u ww1 ⟨AX1, nX1, cX1, ev, hxx, hoo, hgro⟩ => ?_
          subst ev
          have hol1 := hoo.len
          rw [List.length_map, Nat.mul_one] at hol1
          clear hx ho
          have hx := hxx
          have ho := hoo
          clear hxx hoo
          have hqq := hq3.wr hgro.wr apq.2
          conv => cbv
          (refine st_fld hE fISd3 fun p hp => ?_; (conv => cbv); refine st_load hE cInt (by rw [hp]; exact (hqq).at _ _ rfl) ?_; clear hp; (conv => cbv))
          refine br (fun r2 => ?_) (fun r2 => ?_)
          · have r2 : 0 ≤ gg := by simpa [hE.cmp, cmpR] using r2
            conv => cbv
            (refine st_fld hE fISd3 fun p hp => ?_; (conv => cbv); refine st_load hE cInt (by rw [hp]; exact (hqq).at _ _ rfl) ?_; clear hp; (conv => cbv))
            have wl2 := walk_len hk3 F gg (walkF nv F cc (foldW nv F (roots (sv.take i)) []))
            refine st_g hr (l2walk_g h.nodes hk3 g1 F (by omega) gg _ _ _ _ (walkF nv F cc (foldW nv F (roots (sv.take i)) [])) (by omega) hx ho (by omega)) fun u ww2 ⟨AX2, nX2, cX2, ev, hxx, hoo, hgro⟩ => ?_
            subst ev
            have hol2 := hoo.len
            rw [List.length_map, Nat.mul_one] at hol2
            clear hx ho
            have hx := hxx
            have ho := hoo
            clear hxx hoo
            conv => cbv
            simp only [ei]
            refine ⟨(i + 1, ij, AX2, nX2, cX2), by simp [Fits, lk], hI _ _ ⟨by simp only; omega, by simp only; omega, hx, ?_, by simp only; omega, fun j t hj ht => ?_⟩, by simp only; omega⟩
            · simp only
              rw [roots_take hg, foldW_append]
              unfold rootS
              simp only [r1, r2, if_true, if_false, List.append_nil, List.nil_append, foldW]
              exact ho
            · simp only at hj
              rcases Nat.lt_or_ge j i with e | e
              · exact hst j t e ht
              · obtain rfl : j = i := by omega
                rw [hg] at ht; cases ht
                rw [← hla2]; exact hb
          · have r2 : ¬ 0 ≤ gg := by simpa [hE.cmp, cmpR] using r2
            conv => cbv
            simp only [ei]
            refine ⟨(i + 1, ij, AX1, nX1, cX1), by simp [Fits, lk], hI _ _ ⟨by simp only; omega, by simp only; omega, hx, ?_, by simp only; omega, fun j t hj ht => ?_⟩, by simp only; omega⟩
            · simp only
              rw [roots_take hg, foldW_append]
              unfold rootS
              simp only [r1, r2, if_true, if_false, List.append_nil, List.nil_append, foldW]
              exact ho
            · simp only at hj
              rcases Nat.lt_or_ge j i with e | e
              · exact hst j t e ht
              · obtain rfl : j = i := by omega
                rw [hg] at ht; cases ht
                rw [← hla2]; exact hb
        · have r1 : ¬ 0 ≤ cc := by simpa [hE.cmp, cmpR] using r1
          have hqq := hq3
          conv => cbv
          (refine st_fld hE fISd3 fun p hp => ?_; (conv => cbv); refine st_load hE cInt (by rw [hp]; exact (hqq).at _ _ rfl) ?_; clear hp; (conv => cbv))
          refine br (fun r2 => ?_) (fun r2 => ?_)
          · have r2 : 0 ≤ gg := by simpa [hE.cmp, cmpR] using r2
            conv => cbv
            (refine st_fld hE fISd3 fun p hp => ?_; (conv => cbv); refine st_load hE cInt (by rw [hp]; exact (hqq).at _ _ rfl) ?_; clear hp; (conv => cbv))
            have wl2 := walk_len hk3 F gg (foldW nv F (roots (sv.take i)) [])
            refine st_g hr (l2walk_g h.nodes hk3 g1 F (by omega) gg _ _ _ _ (foldW nv F (roots (sv.take i)) []) (by omega) hx ho (by omega)) fun u ww2 ⟨AX2, nX2, cX2, ev, hxx, hoo, hgro⟩ => ?_
            subst ev
            have hol2 := hoo.len
            rw [List.length_map, Nat.mul_one] at hol2
            clear hx ho
            have hx := hxx
            have ho := hoo
            clear hxx hoo
            conv => cbv
            simp only [ei]
            refine ⟨(i + 1, ij, AX2, nX2, cX2), by simp [Fits, lk], hI _ _ ⟨by simp only; omega, by simp only; omega, hx, ?_, by simp only; omega, fun j t hj ht => ?_⟩, by simp only; omega⟩
            · simp only
              rw [roots_take hg, foldW_append]
              unfold rootS
              simp only [r1, r2, if_true, if_false, List.append_nil, List.nil_append, foldW]
              exact ho
            · simp only at hj
              rcases Nat.lt_or_ge j i with e | e
              · exact hst j t e ht
              · obtain rfl : j = i := by omega
                rw [hg] at ht; cases ht
                rw [← hla2]; exact hb
          · have r2 : ¬ 0 ≤ gg := by simpa [hE.cmp, cmpR] using r2
            conv => cbv
            simp only [ei]
            refine ⟨(i + 1, ij, A5, n5, c5), by simp [Fits, lk], hI _ _ ⟨by simp only; omega, by simp only; omega, hx, ?_, by simp only; omega, fun j t hj ht => ?_⟩, by simp only; omega⟩
            · simp only
              rw [roots_take hg, foldW_append]
              unfold rootS
              simp only [r1, r2, if_true, if_false, List.append_nil, List.nil_append, foldW]
              exact ho
            · simp only at hj
              rcases Nat.lt_or_ge j i with e | e
              · exact hst j t e ht
              · obtain rfl : j = i := by omega
                rw [hg] at ht; cases ht
                rw [← hla2]; exact hb
  have g : i = n2 := by
    have : ¬ ii < x5 := by simpa [hE.cmp, cmpR] using g
    omega
  subst g
  rw [List.take_of_length_le (by omega)] at ho
  have hol0 := ho.len
  rw [List.length_map, Nat.mul_one] at hol0
  have hst2 : stmtsP sv := fun j t ht => hst j t (by have := (List.getElem?_eq_some_iff.1 ht).1; omega) ht
  obtain ⟨L, hL⟩ : ∃ L, L = foldW nv F (roots sv) [] := ⟨_, rfl⟩
  rw [← hL] at ho hol0
  have hkk : ∀ p ∈ nv, (p.ks.length : Int) = kidsF p.o := fun p hp => (hall p hp).1
  have toL : (∃ ts, IsTs nv 0 nv.length (roots sv) ts ∧ ∀ t ∈ ts, dep t ≤ 64) → L = rg nv.length := by
    rintro ⟨ts, h1, _⟩
    rw [hL]
    exact walk_of h1 (Nat.le_refl _) F fun k hk => by have := (h1.roots k hk).2; omega
  conv => cbv
  clear hI I hij ij him im
  refine st_len hE tInts fun x7 hx7 => ?_
  conv => cbv
  refine st_len hE sINd fun x8 hx8 => ?_
  conv => cbv
  refine br (fun g => ?_) (fun g => ?_)
  · have g : x7 ≠ x8 := by simpa [hE.cmp, cmpR] using g
    conv => cbv
    exact no (fun q => g (by have := toL q.2.2.2.2.2; rw [this, rg_len] at hol0; omega)) _ hx
  have g : x7 = x8 := by simpa [hE.cmp, cmpR] using g
  have hLn : L.length = nv.length := by omega
  conv => cbv
  refine st_len hE tInts fun x9 hx9 => ?_
  conv => cbv
  refine loop_rule hr (fun (s : Nat × Int) w2 => s.1 ≤ n5 ∧ s.2 = (s.1 : Int) ∧ w2 = w' ∧ ∀ j z, j < s.1 → L[j]? = some z → z = j)
    (fun s => [(0, .slice A n c), (1, .slice A2 i c2), (136, .slice A5 n5 c5), (137, .int .i64 x9), (138, .int .i64 s.2)]) (fun s => n5 - s.1) (0, 0)
    (by simp [Fits, lk]) ⟨by simp, by simp, rfl, fun j z h => by simp only at h; omega⟩ ?_
  rintro I hI ⟨j, jj⟩ w2 ⟨hj, hjj, hw2, hlj⟩
  simp only at hj hjj hlj
  subst hw2
  obtain ⟨jk, hjk⟩ : ∃ z, z = jj + 1 := ⟨_, rfl⟩
  conv => cbv
  refine br (fun g4 => ?_) (fun g4 => ?_)
  · have g4 : j < n5 := by
      have : jj < x9 := by simpa [hE.cmp, cmpR] using g4
      omega
    have ej : E.ar .add .i64 jj 1 = jk := by rw [hE.ar, hjk]; exact wrap_in (by omega) (by omega)
    conv => cbv
    refine st_int hE tInts ho.ints (k := j) (by omega) g4 fun p u hu hp => ?_
    conv => cbv
    refine st_load hE cInt hp ?_
    conv => cbv
    refine br (fun g5 => ?_) (fun g5 => ?_)
    · have g5 : jj ≠ u := by simpa [hE.cmp, cmpR] using g5
      conv => cbv
      exact no (fun q => g5 (by have := toL q.2.2.2.2.2; rw [this] at hu; have := (rg_get hu).1; omega)) _ hx
    · have g5 : jj = u := by simpa [hE.cmp, cmpR] using g5
      conv => cbv
      simp only [ej]
      refine ⟨(j + 1, jk), by simp [Fits, lk], hI _ _ ⟨by simp only; omega, by simp only; omega, rfl, fun q z h1 h2 => ?_⟩, by simp only; omega⟩
      simp only at h1
      rcases Nat.lt_or_ge q j with e | e
      · exact hlj q z e h2
      · obtain rfl : q = j := by omega
        rw [hu] at h2; cases h2; omega
  have g4 : j = n5 := by
    have : ¬ jj < x9 := by simpa [hE.cmp, cmpR] using g4
    omega
  have hLr : L = rg nv.length := by
    have := rg_eq (l := L) fun q z hq => hlj q z (by have := (List.getElem?_eq_some_iff.1 hq).1; omega) hq
    rw [hLn] at this; exact this
  obtain ⟨b0, ts, hb0, hts⟩ := walk_conv hkk (M := nv.length) F (roots sv) 0 (by rw [show rg 0 = [] from rfl, ← hL, hLr]; exact List.prefix_refl _)
  have eb : b0 = nv.length := by
    have := congrArg List.length hb0
    rw [rg_len, show rg 0 = [] from rfl, ← hL] at this; omega
  subst eb
  conv => cbv
  clear hI I hjk jk hlj hj hjj g4
  refine st_len hE sISd fun x10 hx10 => ?_
  conv => cbv
  refine loop_rule hr (fun (s : Nat × Int) w2 => s.1 ≤ i ∧ s.2 = (s.1 : Int) ∧ Ext w w2 ∧ ∀ j z, j < s.1 → sv[j]? = some z → ∀ k ∈ rootS z, ∀ a b t, IsTs nv a b [k] [t] → dep t ≤ 64)
    (fun s => [(0, .slice A n c), (147, .slice A2 i c2), (148, .int .i64 x10), (149, .int .i64 s.2)]) (fun s => i - s.1) (0, 0)
    (by simp [Fits, lk]) ⟨by simp, by simp, hx, fun j z h => by simp only at h; omega⟩ ?_
  clear hx ho
  rintro I hI ⟨j, jj⟩ w2 ⟨hj, hjj, hx, hdj⟩
  simp only at hj hjj hdj
  obtain ⟨jk, hjk⟩ : ∃ z, z = jj + 1 := ⟨_, rfl⟩
  conv => cbv
  refine br (fun g4 => ?_) (fun g4 => ?_)
  · have g4 : j < i := by
      have : jj < x10 := by simpa [hE.cmp, cmpR] using g4
      omega
    have ej : E.ar .add .i64 jj 1 = jk := by rw [hE.ar, hjk]; exact wrap_in (by omega) (by omega)
    obtain ⟨a, v, hA, hg, hc, hok⟩ := (h.stmts.ext hx).get g4
    obtain ⟨k, nm, cc, gg⟩ := v
    have hin : ∀ k ∈ rootS ⟨k, nm, cc, gg⟩, k ∈ roots sv := fun k hk => List.mem_flatMap.2 ⟨_, List.mem_of_getElem? hg, hk⟩
    -- the tree of a root
    have tr : ∀ q : Int, q ∈ roots sv → ∃ (qn : Nat) (a b : Nat) (t : Tr), q = qn ∧ IsTs nv a b [(qn : Int)] [t] ∧ t ∈ ts := fun q hq => by
      obtain ⟨m, hm⟩ := List.mem_iff_getElem?.1 hq
      obtain ⟨t, a', b', h1, h2⟩ := hts.at hm
      have h3 := (hts.roots q hq).1
      exact ⟨q.toNat, a', b', t, by omega, by rw [show ((q.toNat : Nat) : Int) = q by omega]; exact h2, List.mem_of_getElem? h1⟩
    conv => cbv
    refine st_idx hE sISd hA (by omega) (by omega) fun q hq => ?_
    rw [show jj.toNat = j by omega] at hq
    conv => cbv
    refine st_loadS hE tISd (vs := [.int .i64 k, .string nm, .int .i64 cc, .int .i64 gg]) rfl (by rw [hq]; exact hc) ?_
    conv => cbv
    refine st_alloc hr tISd rfl fun q2 w3 hx3 hq0 => ?_
    conv => cbv
    refine st_putS hr (by kernel_rfl) (hq0 _ hx.size) (add_zero _).symm (by simp) (by simp [Value.oneCell']) fun w4 hw4 hq3 => ?_
    simp only [List.take_zero, List.nil_append, List.length_cons, List.length_nil, List.drop_succ_cons, List.drop_nil, List.append_nil] at hq3
    replace hx := hx.trans (hx3.then (hw4.bel (hq0 _ (Nat.le_refl _)) hx3.size))
    clear hq0 hw4 hx3 hq hc hok
    have bad : ∀ q : Int, q ∈ rootS ⟨k, nm, cc, gg⟩ → ∀ t ∈ ts, 64 < dep t → ∀ w', Ext w w' → R (.bool false) w' := fun q hq t ht hd => no fun p => by
      obtain ⟨ts', h1, h2⟩ := p.2.2.2.2.2
      have := hts.uniqT h1
      rw [← this] at h2
      have := h2 t ht; omega
    have go : (∀ q ∈ rootS ⟨k, nm, cc, gg⟩, ∀ a b t, IsTs nv a b [q] [t] → dep t ≤ 64) → ∀ w2, Ext w w2 → I (j + 1, jk) w2 := fun hd w2 h2 => hI _ _ ⟨by simp only; omega, by simp only; omega, h2, fun q z h1 h3 => by
      simp only at h1
      rcases Nat.lt_or_ge q j with e | e
      · exact hdj q z e h3
      · obtain rfl : q = j := by omega
        rw [hg] at h3; cases h3; exact hd⟩
    conv => cbv
    (refine st_fld hE fISd2 fun p hp => ?_; (conv => cbv); refine st_load hE cInt (by rw [hp]; exact (hq3).at _ _ rfl) ?_; clear hp; (conv => cbv))
    refine br (fun m2 => ?_) (fun m2 => ?_)
    · have m2 : 0 ≤ cc := by simpa [hE.cmp, cmpR] using m2
      obtain ⟨qn2, qa2, qb2, t2, qe2, qt2, qm2⟩ := tr cc (hin cc (by unfold rootS; simp [m2]))
      conv => cbv
      (refine st_fld hE fISd2 fun p hp => ?_; (conv => cbv); refine st_load hE cInt (by rw [hp]; exact (hq3).at _ _ rfl) ?_; clear hp; (conv => cbv))
      rw [qe2]
      refine st_qi hE (l2depth_q (h.nodes.ext hx) g1 qn2 qa2 qb2 t2 qt2) fun d2 hd2 ww2 hss2 => ?_
      have hx2 := hx.trans hss2.ext
      have hq3 := hq3.bel hss2.ext
      rw [← qe2]
      conv => cbv
      refine br (fun u2 => ?_) (fun u2 => ?_)
      · have u2 : 64 < d2 := by simpa [hE.cmp, cmpR] using u2
        conv => cbv
        exact bad cc (by unfold rootS; simp [m2]) t2 qm2 (by omega) _ hx2
      have u2 : ¬ 64 < d2 := by simpa [hE.cmp, cmpR] using u2
      have dd2 : ∀ a b t, IsTs nv a b [cc] [t] → dep t ≤ 64 := fun a b t ht => by
        rw [qe2] at ht
        have := qt2.uniqT ht
        simp at this
        rw [← this]; omega
      conv => cbv
      (refine st_fld hE fISd3 fun p hp => ?_; (conv => cbv); refine st_load hE cInt (by rw [hp]; exact (hq3).at _ _ rfl) ?_; clear hp; (conv => cbv))
      refine br (fun m3 => ?_) (fun m3 => ?_)
      · have m3 : 0 ≤ gg := by simpa [hE.cmp, cmpR] using m3
        obtain ⟨qn3, qa3, qb3, t3, qe3, qt3, qm3⟩ := tr gg (hin gg (by unfold rootS; simp [m3]))
        conv => cbv
        (refine st_fld hE fISd3 fun p hp => ?_; (conv => cbv); refine st_load hE cInt (by rw [hp]; exact (hq3).at _ _ rfl) ?_; clear hp; (conv => cbv))
        rw [qe3]
        refine st_qi hE (l2depth_q (h.nodes.ext hx2) g1 qn3 qa3 qb3 t3 qt3) fun d3 hd3 ww3 hss3 => ?_
        have hx3 := hx2.trans hss3.ext
        have hq3 := hq3.bel hss3.ext
        rw [← qe3]
        conv => cbv
        refine br (fun u3 => ?_) (fun u3 => ?_)
        · have u3 : 64 < d3 := by simpa [hE.cmp, cmpR] using u3
          conv => cbv
          exact bad gg (by unfold rootS; simp [m3]) t3 qm3 (by omega) _ hx3
        have u3 : ¬ 64 < d3 := by simpa [hE.cmp, cmpR] using u3
        have dd3 : ∀ a b t, IsTs nv a b [gg] [t] → dep t ≤ 64 := fun a b t ht => by
          rw [qe3] at ht
          have := qt3.uniqT ht
          simp at this
          rw [← this]; omega
        conv => cbv
        simp only [ej]
        refine ⟨(j + 1, jk), by simp [Fits, lk], go (fun q hq => ?_) _ hx3, by simp only; omega⟩
        unfold rootS at hq
        simp only [m2, m3, if_true, List.mem_append, List.mem_singleton] at hq
        rcases hq with rfl | rfl
        · exact dd2
        · exact dd3
      · have m3 : ¬ 0 ≤ gg := by simpa [hE.cmp, cmpR] using m3
        conv => cbv
        simp only [ej]
        refine ⟨(j + 1, jk), by simp [Fits, lk], go (fun q hq => ?_) _ hx2, by simp only; omega⟩
        unfold rootS at hq
        simp only [m2, m3, if_true, if_false, List.append_nil, List.mem_singleton] at hq
        subst hq
        exact dd2
    · have m2 : ¬ 0 ≤ cc := by simpa [hE.cmp, cmpR] using m2
      conv => cbv
      (refine st_fld hE fISd3 fun p hp => ?_; (conv => cbv); refine st_load hE cInt (by rw [hp]; exact (hq3).at _ _ rfl) ?_; clear hp; (conv => cbv))
      refine br (fun m3 => ?_) (fun m3 => ?_)
      · have m3 : 0 ≤ gg := by simpa [hE.cmp, cmpR] using m3
        obtain ⟨qn3, qa3, qb3, t3, qe3, qt3, qm3⟩ := tr gg (hin gg (by unfold rootS; simp [m3]))
        conv => cbv
        (refine st_fld hE fISd3 fun p hp => ?_; (conv => cbv); refine st_load hE cInt (by rw [hp]; exact (hq3).at _ _ rfl) ?_; clear hp; (conv => cbv))
        rw [qe3]
        refine st_qi hE (l2depth_q (h.nodes.ext hx) g1 qn3 qa3 qb3 t3 qt3) fun d3 hd3 ww3 hss3 => ?_
        have hx3 := hx.trans hss3.ext
        have hq3 := hq3.bel hss3.ext
        rw [← qe3]
        conv => cbv
        refine br (fun u3 => ?_) (fun u3 => ?_)
        · have u3 : 64 < d3 := by simpa [hE.cmp, cmpR] using u3
          conv => cbv
          exact bad gg (by unfold rootS; simp [m3]) t3 qm3 (by omega) _ hx3
        have u3 : ¬ 64 < d3 := by simpa [hE.cmp, cmpR] using u3
        have dd3 : ∀ a b t, IsTs nv a b [gg] [t] → dep t ≤ 64 := fun a b t ht => by
          rw [qe3] at ht
          have := qt3.uniqT ht
          simp at this
          rw [← this]; omega
        conv => cbv
        simp only [ej]
        refine ⟨(j + 1, jk), by simp [Fits, lk], go (fun q hq => ?_) _ hx3, by simp only; omega⟩
        unfold rootS at hq
        simp only [m2, m3, if_true, if_false, List.nil_append, List.mem_singleton] at hq
        subst hq
        exact dd3
      · have m3 : ¬ 0 ≤ gg := by simpa [hE.cmp, cmpR] using m3
        conv => cbv
        simp only [ej]
        refine ⟨(j + 1, jk), by simp [Fits, lk], go (fun q hq => ?_) _ hx, by simp only; omega⟩
        unfold rootS at hq
        simp only [m2, m3, if_false, List.append_nil, List.not_mem_nil] at hq
  have g4 : j = i := by
    have : ¬ jj < x10 := by simpa [hE.cmp, cmpR] using g4
    omega
  conv => cbv
  rw [hR]; refine ⟨hx, true, rfl, fun _ => ⟨by omega, by omega, by omega, hall, hst2, ts, hts, fun t ht => ?_⟩, fun _ => rfl⟩
  obtain ⟨q, hq, a', b', ht'⟩ := hts.of_mem ht
  obtain ⟨z, hz1, hz2⟩ := List.mem_flatMap.1 hq
  obtain ⟨m, hm⟩ := List.mem_iff_getElem?.1 hz1
  exact hdj m z (by have := (List.getElem?_eq_some_iff.1 hm).1; omega) hm q hz2 a' b' t ht'
theorem specValidPolicy_f {w : World} {A A2 : Option Addr} {n c n2 c2 : Nat} {nv : List PN} {sv : List PS} (h : PolR w A n A2 n2 nv sv) (hn : n ≤ 9223372036854775807) (hn2 : n2 ≤ 9223372036854775807) :
    FC Tryd.prog 9 [polV A n c A2 n2 c2] w fun v _ => ∃ b : Bool, v = .bool b ∧ (b = true ↔ policyP false nv sv) := by
  refine FC.intro (cs := []) Tryd.func9 (by kernel_rfl) fun E R hE hr hR => ?_
  conv => cbv
  refine st_box hr fun a w1 hx hb0 => ?_
  have hb := hb0 _ (Nat.le_refl _)
  conv => cbv
  (refine st_fld hE fIPol0 fun p hp => ?_; (conv => cbv); refine st_load hE cINs (by rw [hp]; exact (hb).at _ _ rfl) ?_; clear hp; (conv => cbv))
  (refine st_fld hE fIPol1 fun p hp => ?_; (conv => cbv); refine st_load hE cISs (by rw [hp]; exact (hb).at _ _ rfl) ?_; clear hp; (conv => cbv))
  refine st_f hr (l2shape_f (c := c) (c2 := c2) (h.ext hx) hn hn2 false) fun v w2 hx2 ⟨b, ev, hb2⟩ => ?_
  subst ev
  conv => cbv
  rw [hR]; exact ⟨hx.trans hx2, b, rfl, hb2⟩
end Go.Proofs.YtmbonalhbibppaaDoor
