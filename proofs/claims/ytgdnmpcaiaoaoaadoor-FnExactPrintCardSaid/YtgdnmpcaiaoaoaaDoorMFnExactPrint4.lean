/- Texts that the law FnExactPrint leans on, part 4 of 4: contracts of the functions that it reaches and plain lemmas. Each holds under the conditions that it states. -/
import Derived.Test.YtgdnmpcaiaoaoaaDoorMFnExactPrint3
import Derived.Lib.LaidTab
/- The program's printed walked (printed by gen_k3.py). -/
namespace Go.Proofs.YtgdnmpcaiaoaoaaDoor
open Go.Eng
set_option linter.unusedVariables false
set_option linter.unusedSimpArgs false
theorem vf_ext {P : Program} {f : FuncId} {args : List Value} {w w' : World} {v : Value} (h : VF P f args w v) (hx : Ext w w') : VF P f args w' v := ⟨h.1, fun w1 hx1 => h.2 w1 (hx.trans hx1)⟩
mutual
/-- Operators have their kids. -/
def okP : Tr → Prop
  | .op o kids _ => (kids.length : Int) = kidsF o ∧ 1 ≤ kids.length ∧ okPs kids
  | _ => True
def okPs : List Tr → Prop
  | [] => True
  | t :: l => okP t ∧ okPs l
end
theorem okPs_at : ∀ {l : List Tr} {j : Nat} {t : Tr}, okPs l → l[j]? = some t → okP t
  | u :: l, 0, t, h, e => by simp at e; subst e; simp only [okPs] at h; exact h.1
  | u :: l, j + 1, t, h, e => by simp only [okPs] at h; exact okPs_at h.2 (by simpa using e)
theorem shortTs_at : ∀ {l : List Tr} {j : Nat} {t : Tr}, shortTs l → l[j]? = some t → shortT t
  | u :: l, 0, t, h, e => by simp at e; subst e; simp only [shortTs] at h; exact h.1
  | u :: l, j + 1, t, h, e => by simp only [shortTs] at h; exact shortTs_at h.2 (by simpa using e)
theorem pos_at : ∀ {l : List Tr} {j : Nat} {t : Tr}, l[j]? = some t → (po t).length ≤ (pos l).length
  | u :: l, 0, t, e => by simp at e; subst e; simp only [pos, List.length_append]; omega
  | u :: l, j + 1, t, e => by simp only [pos, List.length_append]; have := pos_at (l := l) (j := j) (t := t) (by simpa using e); omega
/-- The table of signs. -/
def signF : List (Int × Value) := (List.range 16).map fun (i : Nat) => ((i : Int) + 11, .string (signO ((i : Int) + 11)))
theorem signF_iff (k : Int) (z : Value) : (k, z) ∈ signF ↔ 11 ≤ k ∧ k ≤ 26 ∧ z = .string (signO k) := by
  unfold signF
  simp only [List.mem_map, List.mem_range, Prod.mk.injEq]
  constructor
  · rintro ⟨i, hi, rfl, rfl⟩; exact ⟨by omega, by omega, rfl⟩
  · rintro ⟨h1, h2, rfl⟩; exact ⟨(k - 11).toNat, by omega, by omega, by rw [show (((k - 11).toNat : Nat) : Int) + 11 = k by omega]⟩
theorem cMapS : Cel Tryd.prog 84 := ⟨_, Tryd.underlying84, by simp, by simp⟩
set_option maxHeartbeats 16000000 in
theorem printed_v {w0 : World} (hp : PowK w0) (hT : NTab w0 0 signF) : ∀ (n : Nat) (t : Tr) (v : Value) (lv : Int), dep t ≤ n → TreeV (fun b => b < w0.heap.size) w0 t v → okP t → shortT t → (po t).length ≤ 100000 → 0 ≤ lv → lv ≤ 100 → VF Tryd.prog 16 [v, .int .i64 lv] w0 (.string (prT t lv)) := by
  intro n
  induction n with
  | zero => intro t v lv h; cases t <;> simp [dep] at h
  | succ n ih =>
    intro t v lv hd ht hok hsh hpo hl1 hl2
    refine VF.intro (cs := [25]) Tryd.func16 (by kernel_rfl) fun w hx0 E R hE hr hR => ?_
    have hlevv := fun w1 (hx1 : Ext w w1) => vf_ext (levelOf_v ht) (hx0.trans hx1)
    obtain ⟨ow, how⟩ : ∃ z, z = levT t := ⟨_, rfl⟩
    rw [← how] at hlevv
    conv => cbv
    refine cut_rule [16] [] hr (fun (s : ByteArray) w' => Ext w w' ∧ par (levT t) lv s = prT t lv ∧ s.size ≤ 1000000000000) (fun s => [(0, v), (1, .int .i64 lv), (5, .string s)]) (fun J hJ => ?_) ?_
    · conv => cbv
      cases t with
      | con k z tx xs at_ =>
        simp only [TreeV] at ht
        obtain ⟨A, m, c, rfl, hst, hin, htx⟩ := ht
        simp only [shortT, shortC] at hsh
        refine st_ta hE (taCoCo k z at_ tx A m c) ?_
        conv => cbv
        refine st_alloc hr tCoT rfl fun q4 w1 hx1 hq0 => ?_
        conv => cbv
        refine st_putS hr (by kernel_rfl) (hq0 _ (Nat.le_refl _)) (add_zero _).symm (by simp) (by simp [Value.oneCell']) fun w2 hw2 hq4 => ?_
        simp only [List.take_zero, List.nil_append, List.length_cons, List.length_nil, List.drop_succ_cons, List.drop_nil, List.append_nil] at hq4
        have hx := hx1.then (hw2.bel (hq0 _ (Nat.le_refl _)) hx1.size)
        clear hq0 hw2 hx1
        conv => cbv
        refine st_fld hE fCoT0 fun p hp2 => ?_
        conv => cbv
        refine st_loadS hE tIV (vs := [.int .i64 k, .int .i64 z, .string tx, .slice A m c]) rfl (fun j u hu => by
          rw [hp2, add_add, Nat.zero_add]
          refine hq4.at j u ?_
          have hj := (List.getElem?_eq_some_iff.1 hu).1
          rw [show ([.int .i64 k, .int .i64 z, .string tx, .slice A m c, .int .i64 at_] : List Value) = [.int .i64 k, .int .i64 z, .string tx, .slice A m c] ++ [.int .i64 at_] from rfl, List.getElem?_append_left hj]
          exact hu) ?_
        conv => cbv
        obtain ⟨s, hs⟩ : ∃ s, s = constS k z tx xs := ⟨_, rfl⟩
        have hv := constText_v (k := k) (tabIs_ext hp (hx0.trans hx)) ((hst.ext hx0).ext hx) hsh.1 hsh.2.1 hsh.2.2.1 hsh.2.2.2
        rw [← hs] at hv
        refine st_v hr hv fun w3 hx3 => ?_
        conv => cbv
        refine ⟨s, by simp [Fits, lk], hJ _ _ ⟨hx.trans hx3, by simp only [levT, prT, hs], ?_⟩⟩
        have := constS_size (k := k) hsh.1 hsh.2.1 hsh.2.2.1 hsh.2.2.2
        rw [hs]; omega
      | nam tx at_ =>
        simp only [TreeV] at ht
        obtain ⟨rfl, htx⟩ := ht
        simp only [shortT, shortC] at hsh
        refine st_ta hE (taNaCo tx at_) ?_
        conv => cbv
        refine st_ta hE (taNaNa tx at_) ?_
        conv => cbv
        refine st_alloc hr tNaT rfl fun q4 w1 hx1 hq0 => ?_
        conv => cbv
        refine st_putS hr (by kernel_rfl) (hq0 _ (Nat.le_refl _)) (add_zero _).symm (by simp) (by simp [Value.oneCell']) fun w2 hw2 hq4 => ?_
        simp only [List.take_zero, List.nil_append, List.length_cons, List.length_nil, List.drop_succ_cons, List.drop_nil, List.append_nil] at hq4
        have hx := hx1.then (hw2.bel (hq0 _ (Nat.le_refl _)) hx1.size)
        clear hq0 hw2 hx1
        conv => cbv
        (refine st_fld hE fNaT0 fun p hp => ?_; (conv => cbv); refine st_load hE cStr (by rw [hp]; exact (hq4).at _ _ rfl) ?_; clear hp; (conv => cbv))
        exact ⟨tx, by simp [Fits, lk], hJ _ _ ⟨hx, by simp only [levT, prT], by omega⟩⟩
      | att z =>
        simp only [TreeV] at ht
        subst ht
        refine st_ta hE (taAtCo z) ?_
        conv => cbv
        refine st_ta hE (taAtNa z) ?_
        conv => cbv
        refine st_ta hE (taAtOp z) ?_
        conv => cbv
        exact ⟨⟨#[]⟩, by simp [Fits, lk], hJ _ _ ⟨Ext.refl w, by simp only [levT, prT], Nat.zero_le _⟩⟩
      | lt z =>
        simp only [TreeV] at ht
        subst ht
        refine st_ta hE (taLtCo z) ?_
        conv => cbv
        refine st_ta hE (taLtNa z) ?_
        conv => cbv
        refine st_ta hE (taLtOp z) ?_
        conv => cbv
        exact ⟨⟨#[]⟩, by simp [Fits, lk], hJ _ _ ⟨Ext.refl w, by simp only [levT, prT], Nat.zero_le _⟩⟩
      | op o kids at_ =>
        simp only [TreeV] at ht
        obtain ⟨A, m, c, vs, rfl, hvl, hmc, hm, hcl, hin, hts⟩ := ht
        simp only [okP] at hok
        obtain ⟨hk1, hk2, hk3⟩ := hok
        simp only [shortT] at hsh
        simp only [dep] at hd
        have hkl := hts.len
        have hpl : (pos kids).length ≤ 100000 := by simp only [po, List.length_append] at hpo; omega
        have hlow : levT (.op o kids at_) = levO o := rfl
        rw [hlow] at how
        replace hcl := hcl.ext hx0
        have kid : ∀ (j : Nat) (t' : Tr) (v' : Value) (l : Int), kids[j]? = some t' → vs[j]? = some v' → 0 ≤ l → l ≤ 100 → ∃ u, u = prT t' l ∧ u.size ≤ 250000000 ∧ ∀ w1, Ext w w1 → VF Tryd.prog 16 [v', .int .i64 l] w1 (.string u) := fun j t' v' l h1 h2 h3 h4 =>
          ⟨_, rfl, by have := prT_size t' l (shortTs_at hsh h1); have := pos_at h1; omega, fun w1 hx1 => vf_ext (ih t' v' l (by have := deps_mem (List.mem_of_getElem? h1); omega) (hts.get j t' v' h1 h2) (okPs_at hk3 h1) (shortTs_at hsh h1) (by have := pos_at h1; omega) h3 h4) (hx0.trans hx1)⟩
        refine st_ta hE (taOpCo o at_ A m c) ?_
        conv => cbv
        refine st_ta hE (taOpNa o at_ A m c) ?_
        conv => cbv
        refine st_ta hE (taOpOp o at_ A m c) ?_
        conv => cbv
        refine st_alloc hr tOpT rfl fun q4 w1 hx1 hq0 => ?_
        conv => cbv
        refine st_putS hr (by kernel_rfl) (hq0 _ (Nat.le_refl _)) (add_zero _).symm (by simp) (by simp [Value.oneCell']) fun w2 hw2 hq4 => ?_
        simp only [List.take_zero, List.nil_append, List.length_cons, List.length_nil, List.drop_succ_cons, List.drop_nil, List.append_nil] at hq4
        have hx := hx1.then (hw2.bel (hq0 _ (Nat.le_refl _)) hx1.size)
        clear hq0 hw2 hx1
        conv => cbv
        refine st_v hr (hlevv w2 hx) fun w3 hx3 => ?_
        replace hq4 := hq4.bel hx3
        replace hx := hx.trans hx3
        clear hx3
        conv => cbv
        (refine st_fld hE fOp0 fun p hp => ?_; (conv => cbv); refine st_load hE cInt (by rw [hp]; exact (hq4).at _ _ rfl) ?_; clear hp; (conv => cbv))
        refine br (fun g => ?_) (fun g => ?_)
        · have g : o = 27 := by simpa [hE.cmp, cmpR] using g
          have hkn : kids.length = 3 := by subst g; have e : kidsF 27 = 3 := by decide
                                           omega
          obtain ⟨t0, t1, t2, rfl⟩ : ∃ t0 t1 t2, kids = [t0, t1, t2] := by
            match kids, hkn with
            | [a, b, c], _ => exact ⟨a, b, c, rfl⟩
          simp only [List.length_cons, List.length_nil] at hkl
          obtain ⟨v0, hv0⟩ : ∃ v0, vs[0]? = some v0 := ⟨_, List.getElem?_eq_getElem (by omega)⟩
          obtain ⟨v1, hv1⟩ : ∃ v1, vs[1]? = some v1 := ⟨_, List.getElem?_eq_getElem (by omega)⟩
          obtain ⟨v2, hv2⟩ : ∃ v2, vs[2]? = some v2 := ⟨_, List.getElem?_eq_getElem (by omega)⟩
          obtain ⟨u0, eu0, su0, k0⟩ := kid 0 t0 v0 0 rfl hv0 (by omega) (by omega)
          obtain ⟨u1, eu1, su1, k1⟩ := kid 1 t1 v1 0 rfl hv1 (by omega) (by omega)
          obtain ⟨u2, eu2, su2, k2⟩ := kid 2 t2 v2 0 rfl hv2 (by omega) (by omega)
          conv => cbv
          refine draw_x hr fol (by kernel_rfl) fun E' hE' hX => ?_
          conv => cbv
          (refine st_fld hE' fOp1 fun p hp => ?_; (conv => cbv); refine st_load hE' cTrs (by rw [hp]; exact (hq4).at _ _ rfl) ?_; clear hp; (conv => cbv))
          refine st_elem hE' sTrs (hcl.ext hx) hvl.symm (by omega) (by omega) fun p v' hv hp2 => ?_
          rw [show (0 : Int).toNat = 0 from rfl, hv0] at hv
          cases hv
          conv => cbv
          refine st_load hE' cTr hp2 ?_
          clear hp2
          conv => cbv
          refine st_vx hX (k0 _ hx) ?_
          conv => cbv
          refine st_cat hE' (catK (m := 3) (by decide) su0 (by decide)) fun x1 hx1 => ?_
          have s1 := catL hx1 (m := 3) (by decide) su0
          conv => cbv
          refine st_cat hE' (catK s1 (n := 6) (by decide) (by decide)) fun x2 hx2 => ?_
          have s2 := catL hx2 s1 (n := 6) (by decide)
          conv => cbv
          (refine st_fld hE' fOp1 fun p hp => ?_; (conv => cbv); refine st_load hE' cTrs (by rw [hp]; exact (hq4).at _ _ rfl) ?_; clear hp; (conv => cbv))
          refine st_elem hE' sTrs (hcl.ext hx) hvl.symm (by omega) (by omega) fun p v' hv hp2 => ?_
          rw [show (1 : Int).toNat = 1 from rfl, hv1] at hv
          cases hv
          conv => cbv
          refine st_load hE' cTr hp2 ?_
          clear hp2
          conv => cbv
          refine st_vx hX (k1 _ hx) ?_
          conv => cbv
          refine st_cat hE' (catK s2 su1 (by decide)) fun x3 hx3 => ?_
          have s3 := catL hx3 s2 su1
          conv => cbv
          refine st_cat hE' (catK s3 (n := 6) (by decide) (by decide)) fun x4 hx4 => ?_
          have s4 := catL hx4 s3 (n := 6) (by decide)
          conv => cbv
          (refine st_fld hE' fOp1 fun p hp => ?_; (conv => cbv); refine st_load hE' cTrs (by rw [hp]; exact (hq4).at _ _ rfl) ?_; clear hp; (conv => cbv))
          refine st_elem hE' sTrs (hcl.ext hx) hvl.symm (by omega) (by omega) fun p v' hv hp2 => ?_
          rw [show (2 : Int).toNat = 2 from rfl, hv2] at hv
          cases hv
          conv => cbv
          refine st_load hE' cTr hp2 ?_
          clear hp2
          conv => cbv
          refine st_vx hX (k2 _ hx) ?_
          conv => cbv
          refine st_cat hE' (catK s4 su2 (by decide)) fun x5 hx5 => ?_
          have s5 := catL hx5 s4 su2
          conv => cbv
          intro w4 hx4'
          conv => cbv
          refine ⟨x5, by simp [Fits, lk], hJ _ _ ⟨hx.trans hx4', ?_, by omega⟩⟩
          rw [hlow, prT, lvsO, if_pos g]
          simp only [prTs, bodyO]
          rw [hx5, hx4, hx3, hx2, hx1, eu0, eu1, eu2]
        have g27 : o ≠ 27 := by simpa [hE.cmp, cmpR] using g
        clear g
        conv => cbv
        refine br (fun g => ?_) (fun g => ?_)
        · have g : o = 9 := by simpa [hE.cmp, cmpR] using g
          have hkn : kids.length = 1 := by subst g; have e : kidsF 9 = 1 := by decide
                                           omega
          obtain ⟨t0, rfl⟩ : ∃ t0, kids = [t0] := by
            match kids, hkn with
            | [a], _ => exact ⟨a, rfl⟩
          simp only [List.length_cons, List.length_nil] at hkl
          obtain ⟨v0, hv0⟩ : ∃ v0, vs[0]? = some v0 := ⟨_, List.getElem?_eq_getElem (by omega)⟩
          obtain ⟨u0, eu0, su0, k0⟩ := kid 0 t0 v0 3 rfl hv0 (by omega) (by omega)
          conv => cbv
          (refine st_fld hE fOp1 fun p hp => ?_; (conv => cbv); refine st_load hE cTrs (by rw [hp]; exact (hq4).at _ _ rfl) ?_; clear hp; (conv => cbv))
          refine st_elem hE sTrs (hcl.ext hx) hvl.symm (by omega) (by omega) fun p v' hv hp2 => ?_
          rw [show (0 : Int).toNat = 0 from rfl, hv0] at hv
          cases hv
          conv => cbv
          refine st_load hE cTr hp2 ?_
          clear hp2
          conv => cbv
          refine st_v hr (k0 _ hx) fun w4 hx4 => ?_
          conv => cbv
          refine st_cat hE (catK (m := 4) (by decide) su0 (by decide)) fun x1 hx1 => ?_
          have s1 := catL hx1 (m := 4) (by decide) su0
          conv => cbv
          refine ⟨x1, by simp [Fits, lk], hJ _ _ ⟨hx.trans hx4, ?_, by omega⟩⟩
          rw [hlow, prT, lvsO, if_neg g27, if_pos g]
          simp only [prTs, bodyO]
          rw [if_pos g, hx1, eu0]
        have g9 : o ≠ 9 := by simpa [hE.cmp, cmpR] using g
        clear g
        conv => cbv
        refine br (fun g => ?_) (fun g => ?_)
        · have g : o = 8 := by simpa [hE.cmp, cmpR] using g
          have hkn : kids.length = 1 := by subst g; have e : kidsF 8 = 1 := by decide
                                           omega
          obtain ⟨t0, rfl⟩ : ∃ t0, kids = [t0] := by
            match kids, hkn with
            | [a], _ => exact ⟨a, rfl⟩
          simp only [List.length_cons, List.length_nil] at hkl
          obtain ⟨v0, hv0⟩ : ∃ v0, vs[0]? = some v0 := ⟨_, List.getElem?_eq_getElem (by omega)⟩
          obtain ⟨u0, eu0, su0, k0⟩ := kid 0 t0 v0 7 rfl hv0 (by omega) (by omega)
          conv => cbv
          (refine st_fld hE fOp1 fun p hp => ?_; (conv => cbv); refine st_load hE cTrs (by rw [hp]; exact (hq4).at _ _ rfl) ?_; clear hp; (conv => cbv))
          refine st_elem hE sTrs (hcl.ext hx) hvl.symm (by omega) (by omega) fun p v' hv hp2 => ?_
          rw [show (0 : Int).toNat = 0 from rfl, hv0] at hv
          cases hv
          conv => cbv
          refine st_load hE cTr hp2 ?_
          clear hp2
          conv => cbv
          refine st_v hr (k0 _ hx) fun w4 hx4 => ?_
          conv => cbv
          refine st_cat hE (catK (m := 1) (by decide) su0 (by decide)) fun x1 hx1 => ?_
          have s1 := catL hx1 (m := 1) (by decide) su0
          conv => cbv
          refine ⟨x1, by simp [Fits, lk], hJ _ _ ⟨hx.trans hx4, ?_, by omega⟩⟩
          rw [hlow, prT, lvsO, if_neg g27, if_neg g9, if_pos g]
          simp only [prTs, bodyO]
          rw [if_neg g9, if_pos g, hx1, eu0]
        have g8 : o ≠ 8 := by simpa [hE.cmp, cmpR] using g
        clear g
        conv => cbv
        refine br (fun g => ?_) (fun g => ?_)
        · have g : o = 10 := by simpa [hE.cmp, cmpR] using g
          have hkn : kids.length = 1 := by subst g; have e : kidsF 10 = 1 := by decide
                                           omega
          obtain ⟨t0, rfl⟩ : ∃ t0, kids = [t0] := by
            match kids, hkn with
            | [a], _ => exact ⟨a, rfl⟩
          simp only [List.length_cons, List.length_nil] at hkl
          obtain ⟨v0, hv0⟩ : ∃ v0, vs[0]? = some v0 := ⟨_, List.getElem?_eq_getElem (by omega)⟩
          obtain ⟨u0, eu0, su0, k0⟩ := kid 0 t0 v0 0 rfl hv0 (by omega) (by omega)
          conv => cbv
          (refine st_fld hE fOp1 fun p hp => ?_; (conv => cbv); refine st_load hE cTrs (by rw [hp]; exact (hq4).at _ _ rfl) ?_; clear hp; (conv => cbv))
          refine st_elem hE sTrs (hcl.ext hx) hvl.symm (by omega) (by omega) fun p v' hv hp2 => ?_
          rw [show (0 : Int).toNat = 0 from rfl, hv0] at hv
          cases hv
          conv => cbv
          refine st_load hE cTr hp2 ?_
          clear hp2
          conv => cbv
          refine st_v hr (k0 _ hx) fun w4 hx4 => ?_
          conv => cbv
          refine st_cat hE (catK (m := 5) (by decide) su0 (by decide)) fun x1 hx1 => ?_
          have s1 := catL hx1 (m := 5) (by decide) su0
          conv => cbv
          refine st_cat hE (catK s1 (n := 1) (by decide) (by decide)) fun x2 hx2 => ?_
          have s2 := catL hx2 s1 (n := 1) (by decide)
          conv => cbv
          refine ⟨x2, by simp [Fits, lk], hJ _ _ ⟨hx.trans hx4, ?_, by omega⟩⟩
          rw [hlow, prT, lvsO, if_neg g27, if_neg g9, if_neg g8, if_pos g]
          simp only [prTs, bodyO]
          rw [if_neg g9, if_neg g8, hx2, hx1, eu0]
        have g10 : o ≠ 10 := by simpa [hE.cmp, cmpR] using g
        clear g
        have ho : 11 ≤ o ∧ o ≤ 26 := by unfold kidsF at hk1; (repeat' split at hk1) <;> omega
        have hkn : kids.length = 2 := by unfold kidsF at hk1; (repeat' split at hk1) <;> omega
        obtain ⟨t0, t1, rfl⟩ : ∃ t0 t1, kids = [t0, t1] := by
          match kids, hkn with
          | [a, b], _ => exact ⟨a, b, rfl⟩
        simp only [List.length_cons, List.length_nil] at hkl
        obtain ⟨v0, hv0⟩ : ∃ v0, vs[0]? = some v0 := ⟨_, List.getElem?_eq_getElem (by omega)⟩
        obtain ⟨v1, hv1⟩ : ∃ v1, vs[1]? = some v1 := ⟨_, List.getElem?_eq_getElem (by omega)⟩
        have hob : 0 ≤ ow ∧ ow ≤ 8 := by rw [how]; unfold levO; (repeat' split) <;> omega
        conv => cbv
        refine cut_rule [] [] hr (fun (l : Int) w' => Ext w w' ∧ Box w.heap.size 82 3 w' q4 [.int .i64 o, .slice A m c, .int .i64 at_] ∧ l = (if levO o = 4 then 5 else levO o)) (fun l => [(0, .iface 82 (.agg ⟨[.int .i64 o, .slice A m c, .int .i64 at_]⟩)), (1, .int .i64 lv), (8, .pointer (some q4)), (9, .int .i64 ow), (10, .int .i64 l)]) (fun J2 hJ2 => ?_) ?_
        · conv => cbv
          refine br (fun g => ?_) (fun g => ?_)
          · have g : ow = 4 := by simpa [hE.cmp, cmpR] using g
            conv => cbv
            exact ⟨5, by simp [Fits, lk], hJ2 _ _ ⟨hx, hq4, by rw [if_pos (by omega)]⟩⟩
          · have g : ow ≠ 4 := by simpa [hE.cmp, cmpR] using g
            conv => cbv
            exact ⟨ow, by simp [Fits, lk], hJ2 _ _ ⟨hx, hq4, by rw [if_neg (by omega), how]⟩⟩
        clear hx hq4
        rintro l w4 ⟨hx, hq4, el⟩
        have hlb : 0 ≤ l ∧ l ≤ 8 := by rw [el]; split <;> omega
        obtain ⟨ow1, eow1⟩ : ∃ z : Int, z = ow + 1 := ⟨_, rfl⟩
        have ear : E.ar .add .i64 ow 1 = ow1 := by rw [hE.ar, eow1]; exact wrap_in (by omega) (by omega)
        obtain ⟨u0, eu0, su0, k0⟩ := kid 0 t0 v0 l rfl hv0 (by omega) (by omega)
        obtain ⟨u1, eu1, su1, k1⟩ := kid 1 t1 v1 ow1 rfl hv1 (by omega) (by omega)
        obtain ⟨bm, es, clock, m1, m2, m3, m4⟩ := (hT.ext (hx0.trans hx)).ex
        conv => cbv
        refine draw_x hr fol (by kernel_rfl) fun E' hE' hX => ?_
        have ear' : E'.ar .add .i64 ow 1 = ow1 := by rw [hE'.ar, eow1]; exact wrap_in (by omega) (by omega)
        conv => cbv
        (refine st_fld hE' fOp1 fun p hp => ?_; (conv => cbv); refine st_load hE' cTrs (by rw [hp]; exact (hq4).at _ _ rfl) ?_; clear hp; (conv => cbv))
        refine st_elem hE' sTrs (hcl.ext hx) hvl.symm (by omega) (by omega) fun p v' hv hp2 => ?_
        rw [show (0 : Int).toNat = 0 from rfl, hv0] at hv
        cases hv
        conv => cbv
        refine st_load hE' cTr hp2 ?_
        clear hp2
        conv => cbv
        refine st_vx hX (k0 _ hx) ?_
        conv => cbv
        refine st_cat hE' (catK su0 (n := 1) (by decide) (by decide)) fun x1 hx1 => ?_
        have s1 := catL hx1 su0 (n := 1) (by decide)
        conv => cbv
        refine st_load hE' cMapS m1 ?_
        conv => cbv
        (refine st_fld hE' fOp0 fun p hp => ?_; (conv => cbv); refine st_load hE' cInt (by rw [hp]; exact (hq4).at _ _ rfl) ?_; clear hp; (conv => cbv))
        refine st_ntab hE' Tryd.underlying84 uInt (z0 := .string ⟨#[]⟩) (by kernel_rfl) m2 m3 m4 fun z hz => ?_
        have hz : z = .string (signO o) := by
          rcases hz with hz | ⟨_, hz⟩
          · exact ((signF_iff o z).1 hz).2.2
          · exact absurd ((signF_iff o _).2 ⟨ho.1, ho.2, rfl⟩) (hz _)
        subst hz
        obtain ⟨sg, hsg⟩ : ∃ s, s = signO o := ⟨_, rfl⟩
        have ssg : sg.size ≤ 6 := by rw [hsg]; exact signO_size o
        rw [← hsg]
        conv => cbv
        refine st_cat hE' (catK s1 ssg (by decide)) fun x2 hx2 => ?_
        have s2 := catL hx2 s1 ssg
        conv => cbv
        refine st_cat hE' (catK s2 (n := 1) (by decide) (by decide)) fun x3 hx3 => ?_
        have s3 := catL hx3 s2 (n := 1) (by decide)
        conv => cbv
        (refine st_fld hE' fOp1 fun p hp => ?_; (conv => cbv); refine st_load hE' cTrs (by rw [hp]; exact (hq4).at _ _ rfl) ?_; clear hp; (conv => cbv))
        refine st_elem hE' sTrs (hcl.ext hx) hvl.symm (by omega) (by omega) fun p v' hv hp2 => ?_
        rw [show (1 : Int).toNat = 1 from rfl, hv1] at hv
        cases hv
        conv => cbv
        refine st_load hE' cTr hp2 ?_
        clear hp2
        conv => cbv
        simp only [ear']
        refine st_vx hX (k1 _ hx) ?_
        conv => cbv
        refine st_cat hE' (catK s3 su1 (by decide)) fun x4 hx4 => ?_
        have s4 := catL hx4 s3 su1
        conv => cbv
        intro w5 hx5
        conv => cbv
        refine ⟨x4, by simp [Fits, lk], hJ _ _ ⟨hx.trans hx5, ?_, by omega⟩⟩
        rw [hlow, prT, lvsO, if_neg g27, if_neg g9, if_neg g8, if_neg g10]
        simp only [prTs, bodyO]
        rw [hx4, hx3, hx2, hx1, eu0, eu1, hsg, el, eow1, how]
    · rintro s w1 ⟨hx, hps, hsz⟩
      conv => cbv
      refine st_v hr (hlevv w1 hx) fun w2 hx2 => ?_
      conv => cbv
      refine br (fun g => ?_) (fun g => ?_)
      · have g : ow < lv := by simpa [hE.cmp, cmpR] using g
        conv => cbv
        refine st_cat hE (catK (m := 1) (by decide) hsz (by decide)) fun x1 hx1 => ?_
        have s1 := catL hx1 (m := 1) (by decide) hsz
        conv => cbv
        refine st_cat hE (catK s1 (n := 1) (by decide) (by decide)) fun x2 hx2' => ?_
        conv => cbv
        rw [hR]
        exact ⟨by rw [← hps, par, if_pos (by omega), hx2', hx1]; rfl, hx.trans hx2⟩
      · have g : ¬ ow < lv := by simpa [hE.cmp, cmpR] using g
        conv => cbv
        rw [hR]
        exact ⟨by rw [← hps, par, if_neg (by omega)]; rfl, hx.trans hx2⟩
end Go.Proofs.YtgdnmpcaiaoaoaaDoor
/- Tables from whole numbers to strings, and the library's table of powers, out of a row's condition. -/
namespace Go.Proofs.YtgdnmpcaiaoaoaaDoor
open Go.ChangeShapes Go.WideShapes Go.ChangeAt Go.RowKit Go.Eng
set_option maxRecDepth 100000
section
variable {H : Type} {enc : TypeId × Value → H} {P : Program} {base : Nat} {held : Bool} {fuel : Nat}
theorem elem_string {W : World} {sp : Nat → Bool} {n : Nat} {e : TypeId} (he : P.underlying e = some .string) {v : Value} {z : DataW H × List MemPlace} (h : Go.WideElems.elemAt enc P W base sp held n e v = some z) {l : List UInt8} (hz : z.1 = .lit (.string l)) : v = .string ⟨⟨l⟩⟩ := by
  unfold Go.WideElems.elemAt at h
  split at h
  · rename_i hf
    obtain ⟨c, h1, h2, _⟩ := DataW.trod_string he h
    rw [h2] at hz
    simp at hz
    subst hz
    cases v <;> simp [Value.cells] at h1
    · exact congrArg _ h1
    all_goals (first | (exfalso; revert hf; simp [Value.formed, he]; done) | skip)
  · cases h
/-- A table of strings that is laid in a variable. -/
theorem ntab_of_trod {n : String} {g : Nat} {t k e : TypeId} {cs : Array Value} {sp : Nat → Bool} {L : List (Lit × DataW H)} {p : List MemPlace} {W : World} (hg : P.globalNamed n = some g) (ht : P.underlying t = some (.map k e)) (hk : P.underlying k = some (.int .i64)) (he : P.underlying e = some .string)
    (hv : W.var? P n = some cs) (hd : DataW.trod enc P W base sp held fuel t cs.toList = some (.map L, p)) (f : List (Int × ByteArray)) (hL : L = f.map fun q => (Lit.int .i64 q.1, .lit (.string q.2.data.toList))) : NTab W g (f.map fun q => (q.1, .string q.2)) := by
  rcases Go.WideElems.open_map ht hd with ⟨_, h0⟩ | ⟨b, es, clock, m, _, hcs, hb, _, F, hx⟩
  · cases h0
  · have hx1 : L = (es.toList.map (Go.WideElems.rg P k (Go.WideElems.elemAt enc P W base sp held m e))).foldr DataW.insert [] := by
      have := congrArg Prod.fst hx
      simpa using this
    obtain ⟨l⟩ := cs
    simp only at hcs
    subst hcs
    refine ⟨b, es, clock, by simpa using World.var?_cell hg hv 0, hb, fun y hy => ?_, fun kk z hq => ?_⟩
    · obtain ⟨r, hr⟩ := F.reads y hy
      have h1 := Go.WideElems.rd_key hr
      obtain ⟨z, h2, h3⟩ := Go.WideElems.rd_val hr
      have hm : r ∈ L := by rw [hx1, mem_insAll, ← Go.WideElems.rg_of hr]; exact List.mem_map.2 ⟨y, hy, rfl⟩
      rw [hL] at hm
      obtain ⟨q, hq1, hq2⟩ := List.mem_map.1 hm
      rw [← hq2] at h1 h3
      exact ⟨q.1, keyInt hk h1, List.mem_map.2 ⟨q, hq1, by rw [elem_string he h2 h3.symm]⟩⟩
    · obtain ⟨q, hq1, hq2⟩ := List.mem_map.1 hq
      cases hq2
      have hm : (Lit.int .i64 q.1, DataW.lit (.string q.2.data.toList)) ∈ L := by rw [hL]; exact List.mem_map.2 ⟨q, hq1, rfl⟩
      rw [hx1, mem_insAll] at hm
      obtain ⟨y, hy, hy2⟩ := List.mem_map.1 hm
      obtain ⟨r, hr⟩ := F.reads y hy
      rw [Go.WideElems.rg_of hr] at hy2
      have h1 := Go.WideElems.rd_key hr
      obtain ⟨z, h2, h3⟩ := Go.WideElems.rd_val hr
      rw [hy2] at h1 h3
      exact ⟨y, hy, keyInt hk h1, elem_string he h2 h3.symm⟩
end
def signB : List (Int × ByteArray) := [(11, ⟨#[43]⟩), (12, ⟨#[45]⟩), (13, ⟨#[42]⟩), (14, ⟨#[47]⟩), (15, ⟨#[37]⟩), (16, ⟨#[124]⟩), (17, ⟨#[38]⟩), (18, ⟨#[92]⟩), (19, ⟨#[61, 61]⟩), (20, ⟨#[33, 61]⟩), (21, ⟨#[60]⟩), (22, ⟨#[60, 61]⟩), (23, ⟨#[105, 110]⟩), (24, ⟨#[119, 105, 116, 104, 105, 110]⟩), (25, ⟨#[97, 110, 100]⟩), (26, ⟨#[111, 114]⟩)]
theorem signF_eq : (signB.map fun q => (q.1, Value.string q.2)) = signF := by rfl
theorem powK_of_trod {H : Type} {enc : TypeId × Value → H} {W : World} {base fuel : Nat} {sp : Nat → Bool} {held : Bool} {g : Nat} {t : TypeId} {cs : Array Value} {p : List MemPlace} (hg : Tryd.prog.globalNamed "internal/strconv.uint64pow10" = some g) (ht : (Tryd.prog.globals[g]?).map (·.type) = some t)
    (hv : W.var? Tryd.prog "internal/strconv.uint64pow10" = some cs) (hd : DataW.trod enc Tryd.prog W base sp held fuel t cs.toList = some (Lib.tabData .u64 Lib.pow10Tab, p)) : PowK W := by
  obtain rfl := Option.some.inj ((show Tryd.prog.globalNamed "internal/strconv.uint64pow10" = some 3 by kernel_rfl).symm.trans hg)
  obtain ⟨t', e, n, hty, ht', he, hce, hct⟩ : ∃ t e n, (Tryd.prog.globals[3]?).map (·.type) = some t ∧ Tryd.prog.underlying t = some (.array n e) ∧ Tryd.prog.underlying e = some (.int .u64) ∧ Tryd.prog.cellsOf e = 1 ∧ Tryd.prog.cellsOf t = n :=
    ⟨137, 130, 20, by kernel_rfl, by kernel_rfl, by kernel_rfl, by kernel_rfl, by kernel_rfl⟩
  obtain rfl := Option.some.inj (hty.symm.trans ht)
  unfold PowK Lib.TabIs
  rw [hv, ← Lib.cells_of_tab ht' he hce hct hd]
end Go.Proofs.YtgdnmpcaiaoaoaaDoor
/- The reference's l3attr, l3attrType, l3row and l3type (printed by gen_t2.py). -/
namespace Go.Proofs.YtgdnmpcaiaoaoaaDoor
open Go.Eng
set_option linter.unusedVariables false
set_option linter.unusedSimpArgs false
end Go.Proofs.YtgdnmpcaiaoaoaaDoor
/- The reference's lets and l3node walked. -/
namespace Go.Proofs.YtgdnmpcaiaoaoaaDoor
open Go.Eng
set_option linter.unusedVariables false
set_option linter.unusedSimpArgs false
/-- The reference's lets, that are read. -/
structure LetsR (w : World) (p : Addr) (names : List ByteArray) (tys : List Int) : Prop where
  ex : ∃ NA nn nc TA tn tc, w.cell? (p.add 0) = some (.slice NA nn nc) ∧ w.cell? (p.add 1) = some (.slice TA tn tc) ∧ Strs w NA nn nc names ∧ Ints w TA tn tc tys
  eq : names.length = tys.length
  le : tys.length ≤ 600
  nz : ∀ y ∈ tys, y ≠ 0
theorem LetsR.ext {w w' : World} {p : Addr} {names : List ByteArray} {tys : List Int} (h : LetsR w p names tys) (hx : Ext w w') : LetsR w' p names tys := by
  obtain ⟨NA, nn, nc, TA, tn, tc, h1, h2, h3, h4⟩ := h.ex
  exact ⟨⟨NA, nn, nc, TA, tn, tc, hx.cell h1, hx.cell h2, h3.ext hx, h4.ext hx⟩, h.eq, h.le, h.nz⟩
end Go.Proofs.YtgdnmpcaiaoaoaaDoor
/- The check of a policy's statements in plain words; the reference's l3tree walked. -/
namespace Go.Proofs.YtgdnmpcaiaoaoaaDoor
open Go.Eng
set_option linter.unusedVariables false
set_option linter.unusedSimpArgs false
/-- What is known so far: the types, the lets. -/
structure CK where
  acc : List Int
  names : List ByteArray
  tys : List Int
def ckC (s : PS) (x : CK) : Option Tr → (Int × Int) ⊕ CK
  | none => .inr x
  | some t =>
    if (walkL x.names x.tys (po t) x.acc).2 ≠ 0 then .inl ((walkL x.names x.tys (po t) x.acc).2, ((walkL x.names x.tys (po t) x.acc).1.length : Int))
    else if s.k = 1 then (if (resN x.names s.nm).isSome = true then .inl (8, ((walkL x.names x.tys (po t) x.acc).1.length : Int) - 1) else .inr ⟨(walkL x.names x.tys (po t) x.acc).1, x.names ++ [s.nm], x.tys ++ [(tyT x.names x.tys t).1]⟩)
    else if (tyT x.names x.tys t).1 ≠ 1 then .inl (9, ((walkL x.names x.tys (po t) x.acc).1.length : Int) - 1) else .inr ⟨(walkL x.names x.tys (po t) x.acc).1, x.names, x.tys⟩
def ckG (x : CK) : Option Tr → (Int × Int) ⊕ CK
  | none => .inr x
  | some t =>
    if (walkL x.names x.tys (po t) x.acc).2 ≠ 0 then .inl ((walkL x.names x.tys (po t) x.acc).2, ((walkL x.names x.tys (po t) x.acc).1.length : Int))
    else if (tyT x.names x.tys t).1 ≠ 4 then .inl (9, ((walkL x.names x.tys (po t) x.acc).1.length : Int) - 1) else .inr ⟨(walkL x.names x.tys (po t) x.acc).1, x.names, x.tys⟩
def ckS : List (PS × PT) → CK → (Int × Int) ⊕ CK
  | [], x => .inr x
  | q :: l, x => match ckC q.1 x q.2.c with
    | .inl f => .inl f
    | .inr y => match ckG y q.2.g with
      | .inl f => .inl f
      | .inr z => ckS l z
section
variable {E : Sym} {w : World} {K : Value → World → Prop} {d : Option Tmp} {ty : TypeId} {pos : String} {aft : Array Edge} {g : Option (Nat × Bool)} {bq : Bool}
end
end Go.Proofs.YtgdnmpcaiaoaoaaDoor
/- What the reference's l3check holds in memory. -/
namespace Go.Proofs.YtgdnmpcaiaoaoaaDoor
open Go.Eng
set_option linter.unusedVariables false
set_option linter.unusedSimpArgs false
theorem own_blk {B : Nat} {e : TypeId} {k : Nat} {w : World} {A : Option Addr} {m c : Nat} {xs : List Value} (h : Own B e k w A m c xs) : ∀ g, blk A = some g → B ≤ g ∧ g < w.heap.size := fun g hg => by
  obtain rfl | ⟨g', rfl, h1, h2⟩ := h.blk
  · simp [Eng.blk, Value.ownBlock] at hg
  · simp [Eng.blk, Value.ownBlock] at hg; omega
/-- The three boxes. -/
structure LB (w0s ws : Nat) (pl q9 q6 : Addr) : Prop where
  p : w0s ≤ pl.block ∧ pl.block < ws
  f : w0s ≤ q9.block ∧ q9.block < ws
  r : w0s ≤ q6.block ∧ q6.block < ws
  ep : blk (some pl) = some pl.block
  ef : blk (some q9) = some q9.block
  er : blk (some q6) = some q6.block
  pf : pl.block ≠ q9.block
  pr : pl.block ≠ q6.block
  fr : q9.block ≠ q6.block
section
variable {w0s ws : Nat} {w w' : World} {pl q9 q6 : Addr} {bx fx : List Value} {x : CK} {A NA TA : Option Addr} {c nc tc : Nat}
/-- What holds of the lets. -/
structure XK (x : CK) : Prop where
  eq : x.names.length = x.tys.length
  le : x.tys.length ≤ 600
  nz : ∀ y ∈ x.tys, y ≠ 0
  ss : ∀ s ∈ x.names, s.size ≤ 9223372036854775807
end
end Go.Proofs.YtgdnmpcaiaoaoaaDoor
/- A region that draws its order, as in draw_t; what is only moved need not be waited for. No condition. -/
namespace Go.Eng
set_option linter.unusedVariables false
set_option linter.unusedSimpArgs false
def wpAnyU (P : Program) (md : Region.Mode) (ops : Array Oper) (Q : Exit → Act → World → Prop) (S : World → Prop) (l : List Nat) : Nat → Array Bool → Act → World → Prop
  | 0, listed, a, w => Region.ready md ops listed = [] ∧ Q .normal a w
  | fuel + 1, listed, a, w => (Region.ready md ops listed = [] → Q .normal a w) ∧
    ∀ i ∈ Region.ready md ops listed, wpOp P ops Q i (fun a' w' => (needS md ops l i = true → S w → S w') ∧ wpAnyU P md ops Q S l fuel (listed.setIfInBounds i true) a' w') a w
section
variable {P : Program} {ops : Array Oper} {Q : Exit → Act → World → Prop} {md : Region.Mode} {S : World → Prop} {l : List Nat}
end
def calmAt (ops : Array Oper) (i : Nat) : Bool := match ops[i]? with
  | some o => match o.op with
    | .move _ => true
    | _ => false
  | none => false
def planU1 (ops : Array Oper) (l0 : List Nat) : List Nat → List (Nat × Bool) → Array Bool → Bool
  | [], l2, listed => planT2 ops l0 l2 listed
  | k :: l, l2, listed => (l0.contains k || calmAt ops k) && Region.free .any ops listed k && (Region.ready .any ops listed).contains k && planU1 ops l0 l l2 (listed.setIfInBounds k true)
def planU (ops : Array Oper) (l0 l1 : List Nat) (l2 : List (Nat × Bool)) : Bool :=
  Region.noSelect ops && Nat.beq (l1.length + l2.length) ops.size && planU1 ops l0 l1 l2 (Array.replicate ops.size false)
section
variable {P : Program} {Pn : List PanicEntry → World → Prop} {n : Nat}
end
end Go.Eng
/- The reference's l3check walked. -/
namespace Go.Proofs.YtgdnmpcaiaoaoaaDoor
open Go.Eng
set_option linter.unusedVariables false
set_option linter.unusedSimpArgs false
section
variable {E : Sym} {w : World} {K : Value → World → Prop} {d : Option Tmp} {ty : TypeId} {pos : String} {aft : Array Edge} {g : Option (Nat × Bool)} {bq : Bool}
end
/-- Each statement has its trees. -/
def Match (sv : List PS) (pts : List PT) : Prop := pts.length = sv.length ∧ ∀ (j : Nat) (s : PS) (p : PT), sv[j]? = some s → pts[j]? = some p → (p.c.isSome = true ↔ 0 ≤ s.c) ∧ (p.g.isSome = true ↔ 0 ≤ s.g)
end Go.Proofs.YtgdnmpcaiaoaoaaDoor
/- Well-typed policies, in plain words; the reference's WellTyped walked. -/
namespace Go.Proofs.YtgdnmpcaiaoaoaaDoor
open Go.Eng
set_option linter.unusedVariables false
set_option linter.unusedSimpArgs false
/-- The statements' trees out of the trees in their order. -/
def ptsOf : List PS → List Tr → List PT
  | [], _ => []
  | s :: l, ts =>
    let c := if 0 ≤ s.c then ts.head? else none
    let t1 := if 0 ≤ s.c then ts.tail else ts
    let g := if 0 ≤ s.g then t1.head? else none
    let t2 := if 0 ≤ s.g then t1.tail else t1
    ⟨c, g⟩ :: ptsOf l t2
theorem match_cons {s : PS} {sv : List PS} {p : PT} {pts : List PT} : Match (s :: sv) (p :: pts) ↔ ((p.c.isSome = true ↔ 0 ≤ s.c) ∧ (p.g.isSome = true ↔ 0 ≤ s.g)) ∧ Match sv pts := by
  unfold Match
  constructor
  · rintro ⟨h1, h2⟩
    exact ⟨h2 0 s p rfl rfl, by simpa using h1, fun j t q h3 h4 => h2 (j + 1) t q (by simpa using h3) (by simpa using h4)⟩
  · rintro ⟨h1, h2, h3⟩
    refine ⟨by simp [h2], fun j t q h4 h5 => ?_⟩
    cases j with
    | zero => simp at h4 h5; subst h4; subst h5; exact h1
    | succ j => exact h3 j t q (by simpa using h4) (by simpa using h5)
/-- What a well-typed policy is. -/
def wellP (nv : List PN) (sv : List PS) (tyl : List Int) : Prop := policyP true nv sv ∧ ∃ pts x, Match sv pts ∧ IsTs nv 0 nv.length (roots sv) (pts.flatMap trs) ∧ ckS (sv.zip pts) ⟨[], [], []⟩ = .inr x ∧ x.acc = tyl
end Go.Proofs.YtgdnmpcaiaoaoaaDoor
/- The program's typeOf of the operators 25 to 27. -/
namespace Go.Proofs.YtgdnmpcaiaoaoaaDoor
open Go.Eng
set_option linter.unusedVariables false
set_option linter.unusedSimpArgs false
end Go.Proofs.YtgdnmpcaiaoaoaaDoor
/- The program's checker in memory; its put, wrong and top walked. -/
namespace Go.Proofs.YtgdnmpcaiaoaoaaDoor
open Go.Eng
set_option linter.unusedVariables false
set_option linter.unusedSimpArgs false
/-- A row that has grown, and a box that was written. -/
structure Gr2 (w : World) (q : Addr) (A : Option Addr) (w' : World) (A' : Option Addr) : Prop where
  os : w'.os = w.os
  tape : w'.tape = w.tape
  output : w'.output = w.output
  size : w.heap.size ≤ w'.heap.size
  block : ∀ k, k < w.heap.size → k ≠ q.block → some k ≠ blk A → w'.heap[k]? = w.heap[k]?
  at_ : blk A' = blk A ∨ ∃ b, blk A' = some b ∧ w.heap.size ≤ b
theorem Gr2.refl (w : World) (q : Addr) (A : Option Addr) : Gr2 w q A w A := ⟨rfl, rfl, rfl, Nat.le_refl _, fun _ _ _ _ => rfl, .inl rfl⟩
theorem Gr2.trans {a b c : World} {q : Addr} {A B C : Option Addr} (h : Gr2 a q A b B) (k : Gr2 b q B c C) : Gr2 a q A c C := by
  refine ⟨k.os.trans h.os, k.tape.trans h.tape, k.output.trans h.output, Nat.le_trans h.size k.size, fun i hi hq hn => ?_, ?_⟩
  · rw [k.block i (Nat.lt_of_lt_of_le hi h.size) hq (by
      rcases h.at_ with e | ⟨b0, e, hb⟩
      · rw [e]; exact hn
      · rw [e]; intro q; cases q; omega), h.block i hi hq hn]
  · rcases k.at_ with e | ⟨b0, e, hb⟩
    · rw [e]; exact h.at_
    · exact .inr ⟨b0, e, Nat.le_trans h.size hb⟩
theorem Gr2.bel {w0 w w' : World} {q : Addr} {A A' : Option Addr} {ws m c : Nat} {xs : List Value} (h : Gr2 w q A w' A') (hx : Ext w0 w) (hq : w0.heap.size ≤ q.block) (hA : Own ws 3 1 w A m c xs) (hw : w0.heap.size ≤ ws) : Ext w0 w' :=
  hx.then ⟨h.os, h.tape, h.output, h.size, fun k hk => h.block k (by have := hx.size; omega) (by omega) (fun e => by
    have := own_blk hA k e.symm
    omega)⟩
theorem own_keep {B : Nat} {e : TypeId} {k : Nat} {w w' : World} {A : Option Addr} {m c : Nat} {xs : List Value} (h : Own B e k w A m c xs) (hk : ∀ g, blk A = some g → w'.heap[g]? = w.heap[g]?) : Own B e k w' A m c xs := by
  refine ⟨h.1, ?_⟩
  rcases h.2 with h1 | ⟨g, cap, cur, h1, h2, h3, h4⟩
  · exact .inl h1
  · refine .inr ⟨g, cap, cur, h1, h2, ?_, h4⟩
    simp only [Value.slice.injEq] at h1
    rw [hk g (by rw [h1.1]; rfl)]
    exact h3
theorem Gr2.own {w w' : World} {q : Addr} {A A' X : Option Addr} (h : Gr2 w q A w' A') {B k m c : Nat} {e : TypeId} {xs : List Value} (hx : Own B e k w X m c xs) (hq : blk X ≠ some q.block) (ha : Apart X A) : Own B e k w' X m c xs :=
  own_keep hx fun g hg => h.block g (own_blk hx g hg).2 (fun e => hq (by rw [hg, e])) (fun e => by
    rcases ha with rfl | ha
    · simp [Eng.blk, Value.ownBlock] at hg
    · exact ha (by rw [hg]; exact e))
/-- The checker's blocks. -/
structure KB (w0s ws : Nat) (q : Addr) (bm : Nat) : Prop where
  hq : w0s ≤ q.block ∧ q.block < ws
  eq : blk (some q) = some q.block
  m : w0s ≤ bm ∧ bm < ws
  qm : bm ≠ q.block
  le : w0s ≤ ws
section
variable {w0s ws : Nat} {w w' : World} {q : Addr} {bm : Nat} {f : List (ByteArray × Value)} {tys acc : List Int} {TA A : Option Addr} {tn tc na c : Nat}
section
variable {E : Sym} {K : Value → World → Prop} {d : Option Tmp} {ty : TypeId} {pos : String} {aft : Array Edge} {g : Option (Nat × Bool)} {bq : Bool}
end
end
end Go.Proofs.YtgdnmpcaiaoaoaaDoor
/- The program's attributes and newChecker walked; what names stand for. -/
namespace Go.Proofs.YtgdnmpcaiaoaoaaDoor
open Go.Eng
set_option linter.unusedVariables false
set_option linter.unusedSimpArgs false
def atV (i : Int) : Value := .iface 126 (.agg ⟨[.int .i64 i]⟩)
def ltV (i : Int) : Value := .iface 127 (.agg ⟨[.int .i64 i]⟩)
def lsL (v : Int → Value) : List ByteArray → Nat → List (ByteArray × Value)
  | [], _ => []
  | s :: l, i => (s, v i) :: lsL v l (i + 1)
/-- The names with what they stand for, in the order in which they come. -/
def fN (names : List ByteArray) : List (ByteArray × Value) := lsL atV attrs 0 ++ lsL ltV names 0
/-! ### The attributes -/
def aC (x : ByteArray × Int × FuncId) : List Value := [.string x.1, .int .i64 x.2.1, .func (.func x.2.2) #[] #[]]
section
variable {E : Sym} {w : World} {K : Value → World → Prop} {d : Option Tmp} {ty : TypeId} {pos : String} {aft : Array Edge} {g : Option (Nat × Bool)} {bq : Bool}
end
end Go.Proofs.YtgdnmpcaiaoaoaaDoor
/- The assertions of the program, with what stands before. -/
/- The program's checker.check of attributes, lets, constants and names walked. -/
namespace Go.Proofs.YtgdnmpcaiaoaoaaDoor
open Go.Eng
set_option linter.unusedVariables false
set_option linter.unusedSimpArgs false
/-- Where a tree of the checker may lie. -/
def DN (D : Nat → Prop) (w w' : World) (A' : Option Addr) (b : Nat) : Prop := D b ∨ (w.heap.size ≤ b ∧ b < w'.heap.size ∧ blk A' ≠ some b)
section
variable {w0s ws : Nat} {w : World} {q : Addr} {bm : Nat} {names : List ByteArray} {tys acc : List Int} {TA A : Option Addr} {tn tc na c : Nat}
end
end Go.Proofs.YtgdnmpcaiaoaoaaDoor
/- The program's checker.check of operators; of all trees. -/
namespace Go.Proofs.YtgdnmpcaiaoaoaaDoor
open Go.Eng
set_option linter.unusedVariables false
set_option linter.unusedSimpArgs false
mutual
/-- What check may be asked about. -/
def goodT (L : Nat) : Tr → Prop
  | .att n => 0 ≤ n ∧ n < 6
  | .lt n => 0 ≤ n ∧ n < L
  | .op o kids _ => (kids.length : Int) = kidsF o ∧ 1 ≤ kids.length ∧ goodTs L kids
  | _ => True
def goodTs (L : Nat) : List Tr → Prop
  | [] => True
  | t :: l => goodT L t ∧ goodTs L l
end
/-- Blocks of D, and those that have come since w0 but for these. -/
def DX (D : Nat → Prop) (w0 w : World) (ex : List (Option Nat)) (b : Nat) : Prop := D b ∨ (w0.heap.size ≤ b ∧ b < w.heap.size ∧ some b ∉ ex)
section
variable {w0s ws : Nat} {w : World} {q : Addr} {bm : Nat} {names : List ByteArray} {tys acc0 : List Int} {TA A : Option Addr} {tn tc : Nat} {D : Nat → Prop} {o at_ : Int} {kids : List Tr} {A0 : Option Addr} {m c0 : Nat} {q13 q14 : Addr} {j : Nat} {w' w2 : World} {At : Option Addr} {na c : Nat} {acc : List Int} {Ad : Option Addr} {cd : Nat} {ks : List Int} {Ak : Option Addr} {ck : Nat} {vs : List Value}
end
end Go.Proofs.YtgdnmpcaiaoaoaaDoor
/- The program's checker.check of all trees walked. -/
namespace Go.Proofs.YtgdnmpcaiaoaoaaDoor
open Go.Eng
set_option linter.unusedVariables false
set_option linter.unusedSimpArgs false
end Go.Proofs.YtgdnmpcaiaoaoaaDoor
/- What the checker's work on statements leaves as it was. -/
namespace Go.Proofs.YtgdnmpcaiaoaoaaDoor
open Go.Eng
set_option linter.unusedVariables false
set_option linter.unusedSimpArgs false
/-- Blocks that stand while the checker works: what there was before it, and what has come since but for its rows. -/
def DT (w0s ws : Nat) (w : World) (A TA : Option Addr) (b : Nat) : Prop := b < w0s ∨ (ws ≤ b ∧ b < w.heap.size ∧ blk A ≠ some b ∧ blk TA ≠ some b)
/-- A step of the checker. -/
structure Stp (w0 : World) (ws : Nat) (w : World) (A TA : Option Addr) (w' : World) (A' TA' : Option Addr) : Prop where
  ext : Ext w0 w'
  keep : ∀ b, DT w0.heap.size ws w A TA b → w'.heap[b]? = w.heap[b]? ∧ DT w0.heap.size ws w' A' TA' b
  size : w.heap.size ≤ w'.heap.size
theorem Stp.trans {w0 a b c : World} {ws : Nat} {A TA B TB C TC : Option Addr} (h : Stp w0 ws a A TA b B TB) (k : Stp w0 ws b B TB c C TC) : Stp w0 ws a A TA c C TC :=
  ⟨k.ext, fun x hx => by
    obtain ⟨h1, h2⟩ := h.keep x hx
    obtain ⟨k1, k2⟩ := k.keep x h2
    exact ⟨k1.trans h1, k2⟩, Nat.le_trans h.size k.size⟩
section
variable {w0 w w' : World} {ws : Nat} {q : Addr} {bm : Nat} {f : List (ByteArray × Value)} {tys acc : List Int} {TA A A' : Option Addr} {tn tc na c : Nat}
end
end Go.Proofs.YtgdnmpcaiaoaoaaDoor
/- The program's checker.stmt walked. -/
namespace Go.Proofs.YtgdnmpcaiaoaoaaDoor
open Go.Eng
set_option linter.unusedVariables false
set_option linter.unusedSimpArgs false
theorem fSt0 : Fld Tryd.prog 49 0 0 := ⟨by kernel_rfl⟩
theorem fSt1 : Fld Tryd.prog 49 1 1 := ⟨by kernel_rfl⟩
/-- A statement checked. -/
def ckP (s : PS) (x : CK) (p : PT) : (Int × Int) ⊕ CK := match ckC s x p.c with
  | .inl f => .inl f
  | .inr y => ckG y p.g
end Go.Proofs.YtgdnmpcaiaoaoaaDoor
/- The program's checker.stmt walked. -/
namespace Go.Proofs.YtgdnmpcaiaoaoaaDoor
open Go.Eng
set_option linter.unusedVariables false
set_option linter.unusedSimpArgs false
def poO : Option Tr → Nat
  | some t => (po t).length
  | none => 0
end Go.Proofs.YtgdnmpcaiaoaoaaDoor
/- Statements whose trees the program reads and checks, in plain words: the typed policy's leaves, and what makes a policy well-typed. -/
namespace Go.Proofs.YtgdnmpcaiaoaoaaDoor
open Go.Eng
set_option linter.unusedVariables false
set_option linter.unusedSimpArgs false
/-- The leaves that a typed policy may have behind l lets. -/
def leafT (l : Nat) (p : PN) : Prop := if p.o = 6 then p.tx = ⟨#[]⟩ ∧ p.xs = [] ∧ 0 ≤ p.z ∧ p.z < 6 else if p.o = 7 then p.tx = ⟨#[]⟩ ∧ p.xs = [] ∧ 0 ≤ p.z ∧ p.z < l else cOK p
theorem cOK_o {p : PN} (h : cOK p) : p.o = 1 ∨ p.o = 2 ∨ p.o = 3 ∨ p.o = 4 := by
  unfold cOK at h
  rcases h with h | h | h | h
  · exact .inl h.1
  · exact .inr (.inl h.1)
  · exact .inr (.inr (.inl h.1))
  · exact .inr (.inr (.inr h.1))
/-- The constants' kinds, and lets that are there. -/
def topK : Tr → Prop
  | .con k _ _ _ _ => k ≠ 0
  | .lt n => 0 ≤ n
  | _ => True
theorem ists_good {ns : List PN} {lf : PN → Prop} {L : Nat} (h6 : ∀ p, lf p → p.o = 6 → 0 ≤ p.z ∧ p.z < 6) (h7 : ∀ p, lf p → p.o = 7 → 0 ≤ p.z ∧ p.z < L) {a b : Nat} {ks : List Int} {ts : List Tr} (h : IsTs ns a b ks ts) : (∀ q p, a ≤ q → q < b → ns[q]? = some p → nodeOK lf p) → goodTs L ts ∧ ∀ t ∈ ts, topK t := by
  induction h with
  | nil a => intro _; exact ⟨by simp only [goodTs], by simp⟩
  | @cons a b k p ks kids ts hp hk h1 h2 i1 i2 =>
    intro hok
    have e1 := h1.le
    have e2 := h2.le
    obtain ⟨g1, g2⟩ := i1 fun q p h1 h2 => hok q p h1 (by omega)
    obtain ⟨g3, g4⟩ := i2 fun q p h1 h2 => hok q p (by omega) h2
    have hn := hok k p e1 (by omega) hp
    have hkl := h1.len
    have hT : goodT L (mkT p k kids) ∧ topK (mkT p k kids) := by
      unfold mkT
      split
      · rename_i h0
        have hl := hn.1 h0
        unfold leafF
        split
        · simp only [goodT, topK]; trivial
        · split
          · rename_i h; simp only [goodT, topK]; exact ⟨h6 p hl h, trivial⟩
          · split
            · rename_i h; simp only [goodT, topK]; exact ⟨h7 p hl h, (h7 p hl h).1⟩
            · simp only [goodT, topK]
              refine ⟨trivial, ?_⟩
              unfold knd; (repeat' split) <;> omega
      · rename_i h0
        simp only [goodT, topK]
        exact ⟨⟨by omega, by omega, g1⟩, trivial⟩
    refine ⟨by simp only [goodTs]; exact ⟨hT.1, g3⟩, fun t ht => ?_⟩
    rcases List.mem_cons.1 ht with rfl | ht
    · exact hT.2
    · exact g4 t ht
/-- Statements with trees of which check can speak, behind L lets. -/
def GoodS (L : Nat) : List (PS × PT) → Prop
  | [] => True
  | (s, p) :: l => stmtP l.isEmpty s ∧ ((p.c.isSome = true ↔ 0 ≤ s.c) ∧ (p.g.isSome = true ↔ 0 ≤ s.g)) ∧ (∀ t ∈ trs p, goodT L t ∧ topK t) ∧ GoodS (if s.k = 1 then L + 1 else L) l
theorem goodTs_mem {L : Nat} : ∀ {l : List Tr} {t : Tr}, goodTs L l → t ∈ l → goodT L t
  | u :: l, t, h, e => by
    simp only [goodTs] at h
    rcases List.mem_cons.1 e with rfl | e
    · exact h.1
    · exact goodTs_mem h.2 e
/-- Everything that trees has found. -/
theorem runS_full {ns : List PN} {lp : Nat → PN → Prop} (h6 : ∀ l p, lp l p → p.o = 6 → 0 ≤ p.z ∧ p.z < 6) (h7 : ∀ l p, lp l p → p.o = 7 → 0 ≤ p.z ∧ p.z < l) : ∀ (l : List PS) {i j lets : Nat} {acc acc' : List PT}, runS ns lp l i lets acc = some (acc', j) →
    ∃ pts, acc' = acc ++ pts ∧ Match l pts ∧ IsTs ns i j (roots l) (pts.flatMap trs) ∧ (∀ t ∈ pts.flatMap trs, dep t ≤ 64) ∧ GoodS lets (l.zip pts)
  | [], i, j, lets, acc, acc', h => by
    rw [runS] at h
    cases h
    exact ⟨[], by simp, ⟨rfl, by simp⟩, by simpa [roots] using IsTs.nil i, by simp, trivial⟩
  | s :: l, i, j, lets, acc, acc', h => by
    rw [runS] at h
    cases hm : stmtM ns (lp lets) l.isEmpty i s with
    | none => rw [hm] at h; cases h
    | some x =>
      obtain ⟨p, m⟩ := x
      rw [hm] at h
      simp only at h
      obtain ⟨a1, a2, a3, a4, a5⟩ := stmtM_iff.1 hm
      obtain ⟨pts, b1, b2, b3, b4, b5⟩ := runS_full h6 h7 l h
      obtain ⟨g1, g2⟩ := ists_good (h6 lets) (h7 lets) a3 a5
      have hg : p.g.isSome = true ↔ 0 ≤ s.g := by
        have hl := a3.len
        obtain ⟨c, g⟩ := p
        simp only at a2
        rw [rootS_eq, List.length_append] at hl
        unfold rootO at hl
        simp only [trs] at hl
        by_cases e : 0 ≤ s.c
        · rw [if_pos e] at hl
          cases c with
          | none => exact absurd (a2.2 e) (by simp)
          | some t =>
            by_cases e2 : 0 ≤ s.g
            · rw [if_pos e2] at hl
              cases g with
              | none => simp at hl
              | some t2 => simp [e2]
            · rw [if_neg e2] at hl
              cases g with
              | none => simp; omega
              | some t2 => simp at hl
        · rw [if_neg e] at hl
          cases c with
          | some t => exact absurd (a2.1 rfl) e
          | none =>
            by_cases e2 : 0 ≤ s.g
            · rw [if_pos e2] at hl
              cases g with
              | none => simp at hl
              | some t2 => simp [e2]
            · rw [if_neg e2] at hl
              cases g with
              | none => simp; omega
              | some t2 => simp at hl
      have ez : (l.zip pts).isEmpty = l.isEmpty := by
        have := b2.1
        cases l with
        | nil => rfl
        | cons x l => cases pts with
          | nil => simp at this
          | cons y pts => rfl
      refine ⟨p :: pts, by rw [b1]; simp, match_cons.2 ⟨⟨a2, hg⟩, b2⟩, ?_, ?_, ?_⟩
      · rw [roots_cons, List.flatMap_cons]; exact a3.append b3
      · intro t ht
        rw [List.flatMap_cons] at ht
        rcases List.mem_append.1 ht with ht | ht
        · exact a4 t ht
        · exact b4 t ht
      · rw [List.zip_cons_cons, GoodS]
        exact ⟨by rw [ez]; exact a1, ⟨a2, hg⟩, fun t ht => ⟨goodTs_mem g1 ht, g2 t ht⟩, b5⟩
theorem leafU_6 (l : Nat) (p : PN) (h : leafU p) (h6 : p.o = 6) : 0 ≤ p.z ∧ p.z < 6 := by
  unfold leafU at h; rw [if_neg (by omega)] at h
  have := cOK_o h.1; omega
theorem leafU_7 (l : Nat) (p : PN) (h : leafU p) (h7 : p.o = 7) : 0 ≤ p.z ∧ p.z < l := by
  unfold leafU at h; rw [if_neg (by omega)] at h
  have := cOK_o h.1; omega
end Go.Proofs.YtgdnmpcaiaoaoaaDoor
/- The program's checkAll walked. -/
namespace Go.Proofs.YtgdnmpcaiaoaoaaDoor
open Go.Eng
set_option linter.unusedVariables false
set_option linter.unusedSimpArgs false
/-- The statements' trees with their names put right. -/
def resS : List (PS × PT) → CK → List PT
  | [], _ => []
  | (s, p) :: l, x => match ckP s x p with
    | .inl _ => []
    | .inr y => ⟨p.c.map (resT x.names), p.g.map (resT y.names)⟩ :: resS l y
def spOf (es : List SV) : List (PS × PT) := es.map fun e => (e.s, e.p)
def poS (es : List SV) : Nat := (pos (es.flatMap fun e => trs e.p)).length
/-- Statements with their trees, in memory. -/
structure SVs (w : World) (A : Option Addr) (m c : Nat) (es : List SV) : Prop where
  len : es.length = m
  cap : m ≤ c
  cells : Cells w A (es.flatMap fV)
  trees : ES (fun b => b < w.heap.size) w es
theorem SVs.ext {w w' : World} {A : Option Addr} {m c : Nat} {es : List SV} (h : SVs w A m c es) (hx : Ext w w') : SVs w' A m c es :=
  ⟨h.len, h.cap, h.cells.ext hx, h.trees.keep (fun b hb => hx.block b hb) (fun b hb => Nat.lt_of_lt_of_le hb hx.size)⟩
theorem LaidS.svs {w : World} {A : Option Addr} {m c : Nat} {sv : List PS} {acc : List PT} (h : LaidS w A m c sv acc) : ∃ es, SVs w A m c es ∧ spOf es = sv.zip acc ∧ es.map (·.p) = acc ∧ es.map (·.s) = sv := by
  obtain ⟨es, h1, h2, h3, h4, h5, h6, h7⟩ := h
  have hs : es.map (·.s) = sv := by
    apply List.ext_getElem?
    intro i
    rw [List.getElem?_map]
    cases hi : es[i]? with
    | none =>
      have := List.getElem?_eq_none_iff.1 hi
      rw [List.getElem?_eq_none (by omega)]; rfl
    | some e => rw [(h6 i e hi).2]; rfl
  refine ⟨es, ⟨h1, h3, h5, h7⟩, ?_, h4, hs⟩
  rw [← hs, ← h4]
  unfold spOf
  rw [List.zip_map']
/-- Blocks where the trees of the new list may lie. -/
def DO (w0s ws : Nat) (w : World) (A TA B : Option Addr) (b : Nat) : Prop := b < w0s ∨ (ws ≤ b ∧ b < w.heap.size ∧ blk A ≠ some b ∧ blk TA ≠ some b ∧ blk B ≠ some b)
end Go.Proofs.YtgdnmpcaiaoaoaaDoor
/- The trees of statements, one by one, in plain words. -/
namespace Go.Proofs.YtgdnmpcaiaoaoaaDoor
open Go.Eng
set_option linter.unusedVariables false
set_option linter.unusedSimpArgs false
theorem one_form {nv : List PN} {a b : Nat} {z : Int} {t : Tr} (h : IsTs nv a b [z] [t]) : ∃ k : Nat, z = (k : Int) ∧ IsTs nv a (k + 1) [(k : Int)] [t] := by
  obtain ⟨kn, p, kids, e, e2, _⟩ := h.one
  subst e; subst e2
  exact ⟨kn, rfl, h⟩
theorem tree_opt {nv : List PN} {a N : Nat} {top : Int} {o : Option Tr} {rs : List Int} {ts : List Tr} (hm : o.isSome = true ↔ 0 ≤ top) (h : IsTs nv a N (rootO top ++ rs) (o.toList ++ ts)) : (∀ t, o = some t → ∃ k a', top = ((k : Nat) : Int) ∧ IsTs nv a' (k + 1) [(k : Int)] [t]) ∧ ∃ b, IsTs nv b N rs ts := by
  cases o with
  | none =>
    have : ¬ 0 ≤ top := fun q => by simpa using hm.2 q
    unfold rootO at h
    rw [if_neg this] at h
    exact ⟨(by simp), a, by simpa using h⟩
  | some t =>
    have : 0 ≤ top := hm.1 rfl
    unfold rootO at h
    rw [if_pos this] at h
    obtain ⟨e, ts1, ts2, he, h1, h2⟩ := h.split
    have hl := h1.len
    match ts1, hl with
    | [t1], _ =>
      simp at he
      obtain ⟨rfl, rfl⟩ := he
      obtain ⟨k, e1, e2⟩ := one_form h1
      exact ⟨fun t' ht' => by cases ht'; exact ⟨k, a, e1, e2⟩, e, h2⟩
theorem tree_at {nv : List PN} {N : Nat} : ∀ {sv : List PS} {pts : List PT} {a : Nat}, Match sv pts → IsTs nv a N (roots sv) (pts.flatMap trs) → ∀ (j : Nat) (s : PS) (p : PT), sv[j]? = some s → pts[j]? = some p →
    (∀ t, p.c = some t → ∃ k a', s.c = ((k : Nat) : Int) ∧ IsTs nv a' (k + 1) [(k : Int)] [t]) ∧ ∀ t, p.g = some t → ∃ k a', s.g = ((k : Nat) : Int) ∧ IsTs nv a' (k + 1) [(k : Int)] [t]
  | s :: sv, ⟨c, g⟩ :: pts, a, hm, h, j, s', p', h1, h2 => by
    have hm1 := match_cons.1 hm
    obtain ⟨⟨m1, m2⟩, m3⟩ := hm1
    have h' : IsTs nv a N (rootO s.c ++ (rootO s.g ++ roots sv)) (c.toList ++ (g.toList ++ pts.flatMap trs)) := by
      rw [roots_cons, rootS_eq, List.flatMap_cons] at h; simpa [trs] using h
    obtain ⟨k1, b, h3⟩ := tree_opt m1 h'
    obtain ⟨k2, b2, h4⟩ := tree_opt m2 h3
    cases j with
    | zero => simp at h1 h2; subst h1; subst h2; exact ⟨k1, k2⟩
    | succ j => exact tree_at m3 h4 j s' p' (by simpa using h1) (by simpa using h2)
  | [], _, _, _, _, j, s, p, h1, _ => by simp at h1
  | _ :: _, [], _, hm, _, _, _, _, _, _ => by have := hm.1; simp at this
end Go.Proofs.YtgdnmpcaiaoaoaaDoor
/- The program's Print: the text of statements in plain words, and the walk. -/
namespace Go.Proofs.YtgdnmpcaiaoaoaaDoor
open Go.Eng
set_option linter.unusedVariables false
set_option linter.unusedSimpArgs false
def prO : Option Tr → ByteArray
  | none => ⟨#[]⟩
  | some t => prT t 0
def decO : Option Tr → ByteArray
  | none => ⟨#[100, 101, 110, 121]⟩
  | some t => ⟨#[103, 114, 97, 110, 116, 32]⟩ ++ prT t 0
/-- The text of a statement. -/
def prS (s : PS) (p : PT) : ByteArray :=
  if s.k = 1 then ⟨#[108, 101, 116, 32]⟩ ++ s.nm ++ ⟨#[32, 61, 32]⟩ ++ prO p.c ++ ⟨#[59, 10]⟩
  else if s.k = 2 then ⟨#[119, 104, 101, 110, 32]⟩ ++ prO p.c ++ ⟨#[32, 61, 62, 32]⟩ ++ decO p.g ++ ⟨#[59, 10]⟩
  else ⟨#[101, 108, 115, 101, 32]⟩ ++ decO p.g ++ ⟨#[59, 10]⟩
def prL : List (PS × PT) → ByteArray
  | [] => ⟨#[]⟩
  | (s, p) :: l => prS s p ++ prL l
theorem cat_nil (s : ByteArray) : s ++ (⟨#[]⟩ : ByteArray) = s := by apply ByteArray.ext; simp
theorem prL_append : ∀ l r : List (PS × PT), prL (l ++ r) = prL l ++ prL r
  | [], r => by rw [List.nil_append, prL, append_empty]
  | (s, p) :: l, r => by rw [List.cons_append, prL, prL, prL_append l r, ByteArray.append_assoc]
theorem prL_snoc (l : List (PS × PT)) (s : PS) (p : PT) : prL (l ++ [(s, p)]) = prL l ++ prS s p := by
  rw [prL_append, prL, prL, cat_nil]
/-- A tree that may be printed. -/
structure PrT (t : Tr) : Prop where
  ok : okP t
  sh : shortT t
  dp : dep t ≤ 64
  po : (Proofs.YtgdnmpcaiaoaoaaDoor.po t).length ≤ 4000
theorem PrT.size {t : Tr} (h : PrT t) (lv : Int) : (prT t lv).size ≤ 10000000 := by
  have := prT_size t lv h.sh
  have := h.po
  omega
theorem nm_size {s : ByteArray} (h : s = ⟨#[]⟩) : s.size ≤ 32 := by rw [h]; exact Nat.zero_le _
theorem shortC_leaf {p : PN} (hf : fits p.z) (h : leafU p) (i : Int) : shortT (leafF p i) := by
  unfold leafU at h
  unfold leafF
  split at h
  · rename_i e
    rw [if_pos e]
    simp only [shortT, shortC]
    exact h.2.1.2.1
  · rename_i e
    rw [if_neg e]
    have ho := cOK_o h.1
    rw [if_neg (by omega), if_neg (by omega)]
    simp only [shortT, shortC]
    rcases h.1 with ⟨_, h1, h2⟩ | ⟨_, _, h1, h2⟩ | ⟨_, _, h1, h2⟩ | ⟨_, _, h1, h2⟩
    · exact ⟨nm_size h1, hf, by rw [h2]; simp, by rw [h2]; simp⟩
    · exact ⟨h1.2, hf, by rw [h2]; simp, by rw [h2]; simp⟩
    · exact ⟨nm_size h1, hf, by rw [h2]; simp, by rw [h2]; simp⟩
    · exact ⟨nm_size h1, hf, h2.2.2, fun s hs => (h2.1 s hs).2.2⟩
theorem ists_pr {ns : List PN} (hf : ∀ p ∈ ns, fits p.z) {a b : Nat} {ks : List Int} {ts : List Tr} (h : IsTs ns a b ks ts) : (∀ q p, a ≤ q → q < b → ns[q]? = some p → nodeOK leafU p) → okPs ts ∧ shortTs ts := by
  induction h with
  | nil a => intro _; exact ⟨by simp only [okPs], by simp only [shortTs]⟩
  | @cons a b k p ks kids ts hp hk h1 h2 i1 i2 =>
    intro hok
    have e1 := h1.le
    have e2 := h2.le
    obtain ⟨g1, g2⟩ := i1 fun q p h1 h2 => hok q p h1 (by omega)
    obtain ⟨g3, g4⟩ := i2 fun q p h1 h2 => hok q p (by omega) h2
    have hn := hok k p e1 (by omega) hp
    have hkl := h1.len
    have hT : okP (mkT p k kids) ∧ shortT (mkT p k kids) := by
      unfold mkT
      split
      · rename_i h0
        refine ⟨?_, shortC_leaf (hf p (List.mem_of_getElem? hp)) (hn.1 h0) _⟩
        unfold leafF
        (repeat' split) <;> simp only [okP]
      · rename_i h0
        simp only [okP, shortT]
        exact ⟨⟨by omega, by omega, g1⟩, g2⟩
    exact ⟨by simp only [okPs]; exact ⟨hT.1, g3⟩, by simp only [shortTs]; exact ⟨hT.2, g4⟩⟩
theorem okPs_mem {l : List Tr} {t : Tr} (h : okPs l) (ht : t ∈ l) : okP t := by
  obtain ⟨j, hj⟩ := List.mem_iff_getElem?.1 ht; exact okPs_at h hj
theorem shortTs_mem {l : List Tr} {t : Tr} (h : shortTs l) (ht : t ∈ l) : shortT t := by
  obtain ⟨j, hj⟩ := List.mem_iff_getElem?.1 ht; exact shortTs_at h hj
theorem pos_mem {l : List Tr} {t : Tr} (ht : t ∈ l) : (po t).length ≤ (pos l).length := by
  obtain ⟨j, hj⟩ := List.mem_iff_getElem?.1 ht; exact pos_at hj
/-- The statements of a valid policy, with their trees: all may be printed. -/
structure PrL (nv : List PN) (sv : List PS) (acc : List PT) : Prop where
  m : Match sv acc
  ts : IsTs nv 0 nv.length (roots sv) (acc.flatMap trs)
  st : stmtsP sv
  pr : ∀ t ∈ acc.flatMap trs, PrT t
  n : sv.length ≤ 600
theorem prL_of {nv : List PN} {sv : List PS} (hf : ∀ p ∈ nv, fits p.z) (hP : policyP false nv sv) : ∃ acc, runS nv (fun _ => leafU) sv 0 0 [] = some (acc, nv.length) ∧ PrL nv sv acc := by
  obtain ⟨h1, h2, h3, acc, h4⟩ := policyU_iff.1 hP
  obtain ⟨p1, p2, p3, p4, p5, p6⟩ := hP
  obtain ⟨pts, e, m, ts, dp, gs⟩ := runS_full leafU_6 leafU_7 sv h4
  rw [List.nil_append] at e
  subst e
  have hn : ∀ q p, 0 ≤ q → q < nv.length → nv[q]? = some p → nodeOK leafU p := fun q p h1 h2 hp => (fieldsU_iff (ts.node q p h1 h2 hp)).1 (p4 p (List.mem_of_getElem? hp))
  obtain ⟨k1, k2⟩ := ists_pr hf ts hn
  have hl := ts.pos.1
  exact ⟨acc, h4, ⟨m, ts, p5, fun t ht => ⟨okPs_mem k1 ht, shortTs_mem k2 ht, dp t ht, by have := pos_mem ht; omega⟩, h3⟩⟩
theorem PrL.c {nv : List PN} {sv : List PS} {acc : List PT} (h : PrL nv sv acc) {j : Nat} {p : PT} (hp : acc[j]? = some p) {t : Tr} (ht : p.c = some t) : PrT t :=
  h.pr t (List.mem_flatMap.2 ⟨p, List.mem_of_getElem? hp, by unfold trs; rw [ht]; simp⟩)
theorem PrL.g {nv : List PN} {sv : List PS} {acc : List PT} (h : PrL nv sv acc) {j : Nat} {p : PT} (hp : acc[j]? = some p) {t : Tr} (ht : p.g = some t) : PrT t :=
  h.pr t (List.mem_flatMap.2 ⟨p, List.mem_of_getElem? hp, by unfold trs; rw [ht]; simp⟩)
theorem PrL.z {nv : List PN} {sv : List PS} {acc : List PT} (h : PrL nv sv acc) {j : Nat} {s : PS} {p : PT} (hs : sv[j]? = some s) (hp : acc[j]? = some p) : (s.k = 1 ∨ s.k = 2 ∨ s.k = 3) ∧ (s.k = 1 ∨ s.k = 2 → ∃ t, p.c = some t) ∧ s.nm.size ≤ 32 ∧ (p.c.isSome = true ↔ 0 ≤ s.c) ∧ (p.g.isSome = true ↔ 0 ≤ s.g) := by
  have hst := stmtP_iff.1 (h.st j s hs)
  obtain ⟨⟨⟨g1, g1'⟩, g2, g3, g4, g5, g6⟩, q1, q2⟩ := hst
  have hm := h.m.2 j s p hs hp
  refine ⟨by omega, fun e => ?_, ?_, hm⟩
  · have : s.c ≠ -1 := fun q => by have := g3.2 q; omega
    have := hm.1.2 (by omega)
    exact Option.isSome_iff_exists.1 this
  · by_cases e : s.k = 1
    · exact (g6 e).2.1
    · exact nm_size (g5 e)
end Go.Proofs.YtgdnmpcaiaoaoaaDoor
/- The program's Print walked. -/
namespace Go.Proofs.YtgdnmpcaiaoaoaaDoor
open Go.Eng
set_option linter.unusedVariables false
set_option linter.unusedSimpArgs false
/-- What Print answers. -/
def PrintP (nv : List PN) (sv : List PS) (s : ByteArray) : Prop := (¬ policyP false nv sv ∧ s = ⟨#[]⟩) ∨ (policyP false nv sv ∧ ∃ acc, runS nv (fun _ => leafU) sv 0 0 [] = some (acc, nv.length) ∧ s = prL (sv.zip acc))
theorem PrintP.unique {nv : List PN} {sv : List PS} {x y : ByteArray} (h : PrintP nv sv x) (k : PrintP nv sv y) : x = y := by
  rcases h with ⟨h1, rfl⟩ | ⟨h1, acc, ha, rfl⟩ <;> rcases k with ⟨k1, rfl⟩ | ⟨k1, acc2, hb, rfl⟩
  · rfl
  · exact absurd k1 h1
  · exact absurd h1 k1
  · have := ha.symm.trans hb
    cases this; rfl
theorem TreeV.ifc {D : Nat → Prop} {w : World} {t : Tr} {v : Value} (h : TreeV D w t v) : ∃ u x, v = .iface u x := by
  cases t <;> simp only [TreeV] at h
  · obtain ⟨A, m, c, rfl, _⟩ := h; exact ⟨_, _, rfl⟩
  · exact ⟨_, _, h.1⟩
  · exact ⟨_, _, h⟩
  · exact ⟨_, _, h⟩
  · obtain ⟨A, m, c, vs, rfl, _⟩ := h; exact ⟨_, _, rfl⟩
set_option maxHeartbeats 16000000 in
theorem implPrint_f {w : World} (hp : PowK w) (hS : NTab w 0 signF) (hT : Tab w 2 constF) (hR0 : STab w 1 words) {A A2 : Option Addr} {n c n2 c2 : Nat} {nv : List PN} {sv : List PS} (h : PolR w A n A2 n2 nv sv) (hn : n ≤ 9223372036854775807) (hn2 : n2 ≤ 9223372036854775807) (hf : ∀ p ∈ nv, fits p.z) :
    FC Tryd.prog 7 [polV A n c A2 n2 c2] w fun v w' => ∃ s, v = .string s ∧ PrintP nv sv s := by
  refine FC.intro (cs := [11]) Tryd.func7 (by kernel_rfl) fun E R hE hr hR => ?_
  conv => cbv
  refine st_box hr fun a w1 hx hb0 => ?_
  have hb := hb0 _ (Nat.le_refl _)
  clear hb0
  conv => cbv
  refine st_loadS hE tIPol rfl hb.at ?_
  conv => cbv
  refine st_f hr (policyTrees_f (c := c) (c2 := c2) (hT.ext hx) (hR0.ext hx) (h.ext hx) hn hn2) fun v w2 hx2 ⟨B, m, d, b, ev, h1, h2⟩ => ?_
  subst ev
  replace hx := hx.trans hx2
  clear hb hx2
  cases b with
  | false =>
    conv => cbv
    rw [hR]; exact ⟨hx, _, rfl, .inl ⟨fun q => by simpa using h1.2 q, rfl⟩⟩
  | true =>
  have hP := h1.1 rfl
  obtain ⟨acc, hrun, hlaid⟩ := h2 rfl
  obtain ⟨acc', hrun', hpl⟩ := prL_of hf hP
  obtain rfl : acc' = acc := by have := hrun'.symm.trans hrun; cases this; rfl
  obtain ⟨es, hes, hsp, hep, hesv⟩ := hlaid.svs
  have hlen := hes.len
  have hm6 : m ≤ 600 := by
    have := hpl.n
    rw [← hesv, List.length_map] at this
    omega
  obtain ⟨FIN, hFIN⟩ : ∃ s, s = prL (sv.zip acc') := ⟨_, rfl⟩
  replace hR : ∀ w', Ext w w' → R (.string FIN) w' := fun w' hx => by rw [hR]; exact ⟨hx, FIN, rfl, .inr ⟨hP, acc', hrun, hFIN⟩⟩
  conv => cbv
  refine st_len hE sSt fun x1 hx1' => ?_
  conv => cbv
  refine loop_rulec [11] hr (fun (s : Nat × Int × ByteArray) w' => s.1 ≤ m ∧ s.2.1 = (s.1 : Int) ∧ Ext w2 w' ∧ s.2.2 = prL ((spOf es).take s.1) ∧ s.2.2.size ≤ s.1 * 100000000)
    (fun s => [(5, .string s.2.2), (16, .slice B m d), (17, .int .i64 x1), (18, .int .i64 s.2.1)]) (fun s => m - s.1) (0, 0, ⟨#[]⟩)
    (by simp [Fits, lk]) ⟨by simp, by simp, Ext.refl _, by simp [prL], Nat.zero_le _⟩ ?_
  rintro J hJ ⟨j, jj, out⟩ w' ⟨hj, hjj, hxl, hout, hsz⟩
  simp only at hj hjj hout hsz
  obtain ⟨jk, hjk⟩ : ∃ z, z = jj + 1 := ⟨_, rfl⟩
  conv => cbv
  refine br (fun g => ?_) (fun g => ?_)
  · have g : j < m := by
      have : jj < x1 := by simpa [hE.cmp, cmpR] using g
      omega
    have ej : E.ar .add .i64 jj 1 = jk := by rw [hE.ar, hjk]; exact wrap_in (by omega) (by omega)
    obtain ⟨e, he⟩ : ∃ e, es[j]? = some e := ⟨_, List.getElem?_eq_getElem (by omega)⟩
    have hpj : acc'[j]? = some e.p := by rw [← hep, List.getElem?_map, he]; rfl
    have hsj : sv[j]? = some e.s := by rw [← hesv, List.getElem?_map, he]; rfl
    obtain ⟨aA0, hA0, hcell⟩ := fl_at fV_len (hes.cells.ext hxl) (by omega) he
    have htr := hes.trees e (List.mem_of_getElem? he)
    have o1 := htr.1.one
    have o2 := htr.2.one
    obtain ⟨hk, hkc, hnm, hmc, hmg⟩ := hpl.z hsj hpj
    have hpc : ∀ t, e.p.c = some t → PrT t := fun t ht => hpl.c hpj ht
    have hpg : ∀ t, e.p.g = some t → PrT t := fun t ht => hpl.g hpj ht
    have hnext : prL ((spOf es).take (j + 1)) = out ++ prS e.s e.p := by
      have : (spOf es)[j]? = some (e.s, e.p) := by unfold spOf; rw [List.getElem?_map, he]; rfl
      rw [List.take_add_one, this, Option.toList_some, prL_snoc, hout]
    obtain ⟨⟨k, nm, sc, sg⟩, ⟨pc, pg⟩, cv, gv, ii⟩ := e
    simp only at hk hkc hnm hpc hpg hnext o1 o2 htr hmc hmg
    have PRT : ∀ {t : Tr} {v : Value}, PrT t → TreeV (fun b => b < w2.heap.size) w2 t v → ∃ u, u = prT t 0 ∧ u.size ≤ 10000000 ∧ ∀ w1, Ext w2 w1 → VF Tryd.prog 16 [v, .int .i64 0] w1 (.string u) := fun {t v} ht hv =>
      ⟨_, rfl, ht.size 0, fun w1 hx1 => vf_ext (printed_v (tabIs_ext hp hx) (hS.ext hx) 64 t v 0 ht.dp hv ht.ok ht.sh (by have := ht.po; omega) (by omega) (by omega)) hx1⟩
    conv => cbv
    refine st_idx hE sSt hA0 (by omega) (by omega) fun p hp => ?_
    rw [show jj.toNat = j by omega] at hp
    conv => cbv
    refine st_loadS hE tSt (vs := [.int .i64 k, .string nm, cv, gv, .int .i64 ii]) rfl (by rw [hp]; exact hcell) ?_
    conv => cbv
    refine st_alloc hr tSt rfl fun q6 w3 hx3 hq0 => ?_
    conv => cbv
    refine st_putS hr (by kernel_rfl) (hq0 _ (Nat.le_refl _)) (add_zero _).symm (by simp [zSt]) (by
      intro y hy
      simp only [List.mem_cons, List.not_mem_nil, or_false] at hy
      rcases hy with rfl | rfl | rfl | rfl | rfl <;> first | rfl | assumption) fun w4 hw4 h6 => ?_
    simp only [zSt, List.take_zero, List.nil_append, List.length_cons, List.length_nil, List.drop_succ_cons, List.drop_nil, List.append_nil] at h6
    have hx4 := hxl.trans (hx3.then (hw4.bel (hq0 _ (Nat.le_refl _)) hx3.size))
    clear hx3 hq0 hw4 hp hcell hxl
    conv => cbv
    refine cut_rule [] [] hr (fun (dc : ByteArray) w5 => Ext w2 w5 ∧ Box w'.heap.size 49 5 w5 q6 [.int .i64 k, .string nm, cv, gv, .int .i64 ii] ∧ dc = decO pg ∧ dc.size ≤ 10000010) (fun dc => [(5, .string out), (7, .pointer (some q6)), (8, .string dc), (16, .slice B m d), (17, .int .i64 x1), (18, .int .i64 jj)]) (fun J2 hJ2 => ?_) ?_
    · conv => cbv
      (refine st_fld hE fSt3 fun p hp => ?_; (conv => cbv); refine st_load hE cTr (by rw [hp]; exact (h6).at _ _ rfl) ?_; clear hp; (conv => cbv))
      cases pg with
      | none =>
        have hgv : gv = .nilIface := htr.2
        subst hgv
        refine st_neNil hE Tryd.underlying47 ?_
        conv => cbv
        exact ⟨⟨#[100, 101, 110, 121]⟩, by simp [Fits, lk], hJ2 _ _ ⟨hx4, h6, rfl, by decide⟩⟩
      | some t =>
        have htv : TreeV _ _ t gv := htr.2
        obtain ⟨u, v2, rfl⟩ := htv.ifc
        refine st_neSome hE Tryd.underlying47 ?_
        conv => cbv
        (refine st_fld hE fSt3 fun p hp => ?_; (conv => cbv); refine st_load hE cTr (by rw [hp]; exact (h6).at _ _ rfl) ?_; clear hp; (conv => cbv))
        obtain ⟨u, eu, su, ku⟩ := PRT (hpg t rfl) htv
        refine st_v hr (ku _ hx4) fun w5 hx5 => ?_
        conv => cbv
        refine st_cat hE (catK (m := 6) (by decide) su (by decide)) fun y1 hy1 => ?_
        have s1 := catL hy1 (m := 6) (by decide) su
        conv => cbv
        exact ⟨y1, by simp [Fits, lk], hJ2 _ _ ⟨hx4.trans hx5, h6.bel hx5, by rw [hy1, eu]; rfl, by omega⟩⟩
    clear hx4 h6
    rintro dc w5 ⟨hx5, h6, hdc, sdc⟩
    obtain ⟨ob, hob⟩ : ∃ ob, ob = j * 100000000 := ⟨_, rfl⟩
    have hjm : ob ≤ 60000000000 := by omega
    rw [← hob] at hsz
    have fin : ∀ (o2 : ByteArray) w6, Ext w5 w6 → o2 = out ++ prS ⟨k, nm, sc, sg⟩ ⟨pc, pg⟩ → o2.size ≤ ob + 30000000 → ∃ s : Nat × Int × ByteArray, Fits ((fun (s : Nat × Int × ByteArray) => [(5, Value.string s.2.2), (16, .slice B m d), (17, .int .i64 x1), (18, .int .i64 s.2.1)]) s) [(5, .string o2), (16, .slice B m d), (17, .int .i64 x1), (18, .int .i64 jk)] ∧ J s w6 ∧ m - s.1 < m - j := fun o2 w6 hx6 e hz =>
      ⟨(j + 1, jk, o2), by simp [Fits, lk], hJ _ _ ⟨by simp only; omega, by simp only; omega, hx5.trans hx6, by rw [hnext, e], by simp only; omega⟩, by simp only; omega⟩
    conv => cbv
    (refine st_fld hE fSt0 fun p hp => ?_; (conv => cbv); refine st_load hE cInt (by rw [hp]; exact (h6).at _ _ rfl) ?_; clear hp; (conv => cbv))
    refine br (fun g1 => ?_) (fun g1 => ?_)
    · have g1 : k = 1 := by simpa [hE.cmp, cmpR] using g1
      obtain ⟨t, rfl⟩ := hkc (.inl g1)
      obtain ⟨u, eu, su, ku⟩ := PRT (hpc t rfl) (show TreeV _ _ t cv from htr.1)
      conv => cbv
      refine draw_x hr fol (by kernel_rfl) fun E' hE' hX => ?_
      conv => cbv
      (refine st_fld hE' fSt1 fun p hp => ?_; (conv => cbv); refine st_load hE' cStr (by rw [hp]; exact (h6).at _ _ rfl) ?_; clear hp; (conv => cbv))
      refine st_cat hE' (catK (m := 4) (by decide) hnm (by decide)) fun y1 hy1 => ?_
      have s1 := catL hy1 (m := 4) (by decide) hnm
      conv => cbv
      refine st_cat hE' (catK s1 (n := 3) (by decide) (by decide)) fun y2 hy2 => ?_
      have s2 := catL hy2 s1 (n := 3) (by decide)
      conv => cbv
      (refine st_fld hE' fSt2 fun p hp => ?_; (conv => cbv); refine st_load hE' cTr (by rw [hp]; exact (h6).at _ _ rfl) ?_; clear hp; (conv => cbv))
      refine st_vx hX (ku _ hx5) ?_
      conv => cbv
      refine st_cat hE' (catK s2 su (by decide)) fun y3 hy3 => ?_
      have s3 := catL hy3 s2 su
      conv => cbv
      refine st_cat hE' (catK s3 (n := 2) (by decide) (by decide)) fun y4 hy4 => ?_
      have s4 := catL hy4 s3 (n := 2) (by decide)
      conv => cbv
      replace s4 : y4.size ≤ 30000000 := Nat.le_trans s4 (by decide)
      refine st_cat hE' (catK hsz s4 (by omega)) fun y5 hy5 => ?_
      have s5 := catL hy5 hsz s4
      conv => cbv
      intro w6 hx6
      conv => cbv
      simp only [ej]
      obtain ⟨s, f1, f2, f3⟩ := fin y5 w6 hx6 (by rw [hy5, hy4, hy3, hy2, hy1, eu]; unfold prS; rw [if_pos g1]; rfl) s5
      exact ⟨s, by simp [Fits, lk] at f1 ⊢; exact f1, f2, f3⟩
    have g1 : k ≠ 1 := by simpa [hE.cmp, cmpR] using g1
    conv => cbv
    refine br (fun g2 => ?_) (fun g2 => ?_)
    · have g2 : k = 2 := by simpa [hE.cmp, cmpR] using g2
      obtain ⟨t, rfl⟩ := hkc (.inr g2)
      obtain ⟨u, eu, su, ku⟩ := PRT (hpc t rfl) (show TreeV _ _ t cv from htr.1)
      conv => cbv
      (refine st_fld hE fSt2 fun p hp => ?_; (conv => cbv); refine st_load hE cTr (by rw [hp]; exact (h6).at _ _ rfl) ?_; clear hp; (conv => cbv))
      refine st_v hr (ku _ hx5) fun w6 hx6 => ?_
      conv => cbv
      refine st_cat hE (catK (m := 5) (by decide) su (by decide)) fun y1 hy1 => ?_
      have s1 := catL hy1 (m := 5) (by decide) su
      conv => cbv
      refine st_cat hE (catK s1 (n := 4) (by decide) (by decide)) fun y2 hy2 => ?_
      have s2 := catL hy2 s1 (n := 4) (by decide)
      conv => cbv
      refine st_cat hE (catK s2 sdc (by decide)) fun y3 hy3 => ?_
      have s3 := catL hy3 s2 sdc
      conv => cbv
      refine st_cat hE (catK s3 (n := 2) (by decide) (by decide)) fun y4 hy4 => ?_
      have s4 := catL hy4 s3 (n := 2) (by decide)
      conv => cbv
      replace s4 : y4.size ≤ 30000000 := Nat.le_trans s4 (by decide)
      refine st_cat hE (catK hsz s4 (by omega)) fun y5 hy5 => ?_
      have s5 := catL hy5 hsz s4
      conv => cbv
      simp only [ej]
      obtain ⟨s, f1, f2, f3⟩ := fin y5 w6 hx6 (by rw [hy5, hy4, hy3, hy2, hy1, eu, hdc]; unfold prS; rw [if_neg g1, if_pos g2]; rfl) s5
      exact ⟨s, by simp [Fits, lk] at f1 ⊢; exact f1, f2, f3⟩
    have g2 : k ≠ 2 := by simpa [hE.cmp, cmpR] using g2
    conv => cbv
    refine br (fun g3 => ?_) (fun g3 => ?_)
    · conv => cbv
      refine st_cat hE (catK (m := 5) (by decide) sdc (by decide)) fun y1 hy1 => ?_
      have s1 := catL hy1 (m := 5) (by decide) sdc
      conv => cbv
      refine st_cat hE (catK s1 (n := 2) (by decide) (by decide)) fun y2 hy2 => ?_
      have s2 := catL hy2 s1 (n := 2) (by decide)
      conv => cbv
      replace s2 : y2.size ≤ 30000000 := Nat.le_trans s2 (by decide)
      refine st_cat hE (catK hsz s2 (by omega)) fun y5 hy5 => ?_
      have s5 := catL hy5 hsz s2
      conv => cbv
      simp only [ej]
      obtain ⟨s, f1, f2, f3⟩ := fin y5 w5 (Ext.refl _) (by rw [hy5, hy2, hy1, hdc]; unfold prS; rw [if_neg g1, if_neg g2]) s5
      exact ⟨s, by simp [Fits, lk] at f1 ⊢; exact f1, f2, f3⟩
    · have g3 : k ≠ 3 := by simpa [hE.cmp, cmpR] using g3
      omega
  · have g : j = m := by
      have : ¬ jj < x1 := by simpa [hE.cmp, cmpR] using g
      omega
    conv => cbv
    have : out = FIN := by rw [hout, hFIN, ← hsp, List.take_of_length_le (by unfold spOf; rw [List.length_map]; omega)]
    rw [this]
    exact hR _ (hx.trans hxl)
end Go.Proofs.YtgdnmpcaiaoaoaaDoor
/- The reference's l2op, l2sign, l2put walked (printed by gen_k6.py). -/
namespace Go.Proofs.YtgdnmpcaiaoaoaaDoor
open Go.Eng
set_option linter.unusedVariables false
set_option linter.unusedSimpArgs false
def sgL : List ByteArray := (List.range 16).map fun (i : Nat) => signO ((i : Int) + 11)
theorem sgL_at {i : Nat} (h : i < 16) : sgL[i]? = some (signO ((i : Int) + 11)) := by
  unfold sgL; rw [List.getElem?_map, List.getElem?_range h]; rfl
theorem sgL_len : sgL.length = 16 := by unfold sgL; simp
theorem sgL_vals : sgL.map Value.string = [.string ⟨#[43]⟩, .string ⟨#[45]⟩, .string ⟨#[42]⟩, .string ⟨#[47]⟩, .string ⟨#[37]⟩, .string ⟨#[124]⟩, .string ⟨#[38]⟩, .string ⟨#[92]⟩, .string ⟨#[61, 61]⟩, .string ⟨#[33, 61]⟩, .string ⟨#[60]⟩, .string ⟨#[60, 61]⟩, .string ⟨#[105, 110]⟩, .string ⟨#[119, 105, 116, 104, 105, 110]⟩, .string ⟨#[97, 110, 100]⟩, .string ⟨#[111, 114]⟩] := by rfl
theorem sgL_short : ∀ s ∈ sgL, s.size ≤ 9223372036854775807 := fun s hs => by
  unfold sgL at hs
  obtain ⟨i, _, rfl⟩ := List.mem_map.1 hs
  have := signO_size ((i : Int) + 11)
  omega
/-- The operator of a sign. -/
def opS (s : ByteArray) : Int := match posF sgL s with
  | some i => (i : Int) + 11
  | none => 0
theorem posF_skip {l : List ByteArray} {s x : ByteArray} {j : Nat} (hx : l[j]? = some x) (hn : s ≠ x) (h : posF l s = (posF (l.drop j) s).map (· + j)) : posF l s = (posF (l.drop (j + 1)) s).map (· + (j + 1)) := by
  rw [h, drop_cons hx, posF, if_neg (fun e => hn e.symm), Option.map_map]
  congr 1
  funext i
  simp only [Function.comp]; omega
set_option maxHeartbeats 4000000 in
theorem l2op_v (s : ByteArray) (w : World) : VF Tryd.prog 43 [.string s] w (.int .i64 (opS s)) := by
  refine VF.intro (cs := []) Tryd.func43 (by kernel_rfl) fun w hx0 E R hE hr hR => ?_
  have fin : ∀ z w', Ext w w' → z = opS s → R (.int .i64 z) w' := fun z w' hx e => by rw [hR, e]; exact ⟨rfl, hx⟩
  conv => cbv
  refine st_lits hr tStrs rfl (vs := [.string ⟨#[43]⟩, .string ⟨#[45]⟩, .string ⟨#[42]⟩, .string ⟨#[47]⟩, .string ⟨#[37]⟩, .string ⟨#[124]⟩, .string ⟨#[38]⟩, .string ⟨#[92]⟩, .string ⟨#[61, 61]⟩, .string ⟨#[33, 61]⟩, .string ⟨#[60]⟩, .string ⟨#[60, 61]⟩, .string ⟨#[105, 110]⟩, .string ⟨#[119, 105, 116, 104, 105, 110]⟩, .string ⟨#[97, 110, 100]⟩, .string ⟨#[111, 114]⟩]) (m := 16) rfl (by omega) (by omega) rfl (by simp [Value.cells]) fun A w1 hx ho => ?_
  rw [← sgL_vals] at ho
  have hst := (ho _ (Nat.le_refl _)).strs sgL_short
  clear ho
  conv => cbv
  refine st_len hE tStrs fun x hx' => ?_
  conv => cbv
  refine loop_rule hr (fun (q : Nat × Int) w' => q.1 ≤ 16 ∧ q.2 = (q.1 : Int) ∧ Ext w1 w' ∧ posF sgL s = (posF (sgL.drop q.1) s).map (· + q.1)) (fun q => [(0, .string s), (5, .slice A 16 16), (6, .int .i64 x), (7, .int .i64 q.2)]) (fun q => 16 - q.1) (0, 0)
    (by simp [Fits, lk]) ⟨by simp, by simp, Ext.refl _, by simp⟩ ?_
  rintro J hJ ⟨j, jj⟩ w' ⟨hj, hjj, hxl, hpos⟩
  simp only at hj hjj hpos
  obtain ⟨jk, hjk⟩ : ∃ z, z = jj + 1 := ⟨_, rfl⟩
  have ej : E.ar .add .i64 jj 1 = jk := by rw [hE.ar, hjk]; exact wrap_in (by omega) (by omega)
  conv => cbv
  refine br (fun g => ?_) (fun g => ?_)
  · have g : j < 16 := by
      have : jj < x := by simpa [hE.cmp, cmpR] using g
      omega
    obtain ⟨jl, hjl⟩ : ∃ z, z = 11 + jj := ⟨_, rfl⟩
    have el : E.ar .add .i64 11 jj = jl := by rw [hE.ar, hjl]; exact wrap_in (by omega) (by omega)
    conv => cbv
    refine st_str hE tStrs (hst.ext hxl) hjj g fun p u hsx hz hp => ?_
    conv => cbv
    refine st_load hE cStr hp ?_
    conv => cbv
    refine br (fun g2 => ?_) (fun g2 => ?_)
    · have g2 : s = u := by
        have h : E.scmp .eql s u = true := g2
        rw [hE.scmp] at h
        exact (scmp_eql s u).1 h
      conv => cbv
      simp only [el]
      refine fin _ _ (hx.trans hxl) ?_
      rw [drop_cons hsx, posF, if_pos g2.symm] at hpos
      unfold opS; rw [hpos]; simp only [Option.map_some]; omega
    · have g2 : s ≠ u := by
        intro e
        have h : ¬ E.scmp .eql s u = true := g2
        rw [hE.scmp] at h
        exact h ((scmp_eql s u).2 e)
      conv => cbv
      simp only [ej]
      exact ⟨(j + 1, jk), by simp [Fits, lk], hJ _ _ ⟨by simp only; omega, by simp only; omega, hxl, posF_skip hsx g2 hpos⟩, by simp only; omega⟩
  · have g : j = 16 := by
      have : ¬ jj < x := by simpa [hE.cmp, cmpR] using g
      omega
    conv => cbv
    refine fin _ _ (hx.trans hxl) ?_
    rw [List.drop_eq_nil_of_le (by rw [sgL_len]; omega), posF] at hpos
    unfold opS; rw [hpos]; rfl
theorem opS_at {i : Nat} (h : i < 16) : opS (signO ((i : Int) + 11)) = (i : Int) + 11 := by
  have : ∀ i ∈ List.range 16, opS (signO ((i : Int) + 11)) = (i : Int) + 11 := by decide +kernel
  exact this i (List.mem_range.2 h)
set_option maxHeartbeats 4000000 in
theorem l2sign_v {o : Int} (ho : 11 ≤ o ∧ o ≤ 26) (w : World) : VF Tryd.prog 25 [.int .i64 o] w (.string (signO o)) := by
  refine VF.intro (cs := []) Tryd.func25 (by kernel_rfl) fun w hx0 E R hE hr hR => ?_
  have fin : ∀ s w', Ext w w' → s = signO o → R (.string s) w' := fun z w' hx e => by rw [hR, e]; exact ⟨rfl, hx⟩
  conv => cbv
  refine st_lits hr tStrs rfl (vs := [.string ⟨#[43]⟩, .string ⟨#[45]⟩, .string ⟨#[42]⟩, .string ⟨#[47]⟩, .string ⟨#[37]⟩, .string ⟨#[124]⟩, .string ⟨#[38]⟩, .string ⟨#[92]⟩, .string ⟨#[61, 61]⟩, .string ⟨#[33, 61]⟩, .string ⟨#[60]⟩, .string ⟨#[60, 61]⟩, .string ⟨#[105, 110]⟩, .string ⟨#[119, 105, 116, 104, 105, 110]⟩, .string ⟨#[97, 110, 100]⟩, .string ⟨#[111, 114]⟩]) (m := 16) rfl (by omega) (by omega) rfl (by simp [Value.cells]) fun A w1 hx ho0 => ?_
  rw [← sgL_vals] at ho0
  have hst := (ho0 _ (Nat.le_refl _)).strs sgL_short
  clear ho0
  conv => cbv
  refine st_len hE tStrs fun x hx' => ?_
  conv => cbv
  refine loop_rule hr (fun (q : Nat × Int) w' => (q.1 : Int) ≤ o - 11 ∧ q.2 = (q.1 : Int) ∧ Ext w1 w') (fun q => [(0, .int .i64 o), (5, .slice A 16 16), (6, .int .i64 x), (7, .int .i64 q.2)]) (fun q => 16 - q.1) (0, 0)
    (by simp [Fits, lk]) ⟨by simp only; omega, by simp, Ext.refl _⟩ ?_
  rintro J hJ ⟨j, jj⟩ w' ⟨hj, hjj, hxl⟩
  simp only at hj hjj
  obtain ⟨jk, hjk⟩ : ∃ z, z = jj + 1 := ⟨_, rfl⟩
  have ej : E.ar .add .i64 jj 1 = jk := by rw [hE.ar, hjk]; exact wrap_in (by omega) (by omega)
  conv => cbv
  refine br (fun g => ?_) (fun g => ?_)
  · conv => cbv
    refine st_str hE tStrs (hst.ext hxl) hjj (by omega) fun p u hsx hz hp => ?_
    rw [sgL_at (by omega)] at hsx
    have hu : signO ((j : Int) + 11) = u := Option.some.inj hsx
    have ho2 := opS_at (i := j) (by omega)
    rw [hu] at ho2
    conv => cbv
    refine st_load hE cStr hp ?_
    conv => cbv
    obtain ⟨z, hz2⟩ : ∃ z, z = opS u := ⟨_, rfl⟩
    have hv := l2op_v u w'
    rw [← hz2] at hv ho2
    refine st_v hr hv fun w2 hx2 => ?_
    conv => cbv
    refine br (fun g2 => ?_) (fun g2 => ?_)
    · have g2 : z = o := by simpa [hE.cmp, cmpR] using g2
      conv => cbv
      exact fin _ _ ((hx.trans hxl).trans hx2) (by rw [← hu, ← g2, ho2])
    · have g2 : z ≠ o := by simpa [hE.cmp, cmpR] using g2
      conv => cbv
      simp only [ej]
      exact ⟨(j + 1, jk), by simp [Fits, lk], hJ _ _ ⟨by simp only; omega, by simp only; omega, hxl.trans hx2⟩, by simp only; omega⟩
  · have : ¬ jj < x := by simpa [hE.cmp, cmpR] using g
    omega
theorem levT_mk {p : PN} (hn : nodeOK leafU p) (hk0 : 0 ≤ kidsF p.o) (i : Int) (kids : List Tr) : levT (mkT p i kids) = levO p.o := by
  unfold mkT
  split
  · rename_i h0
    have hl := hn.1 h0
    have h17 : 1 ≤ p.o ∧ p.o ≤ 7 := by unfold kidsF at h0; (repeat' split at h0) <;> omega
    rw [levT_leaf (by unfold leafF; intro o k a; (repeat' split) <;> simp)]
    unfold levO
    (repeat' split) <;> omega
  · rfl
set_option maxHeartbeats 32000000 in
theorem l2put_v {w0 : World} {AN : Option Addr} {N cN' : Nat} {nv : List PN} (hN : RNs w0 AN N nv) (hNb : N ≤ 4000) (hf : ∀ p ∈ nv, fits p.z) (hok : ∀ p ∈ nv, nodeOK leafU p) : ∀ (k a b : Nat) (t : Tr), IsTs nv a b [(k : Int)] [t] → (po t).length ≤ 100000 → ∀ lv : Int, 0 ≤ lv → lv ≤ 100 →
    VF Tryd.prog 12 [.slice AN N cN', .int .i64 (k : Int), .int .i64 lv] w0 (.string (prT t lv)) := by
  intro k
  induction k using Nat.strongRecOn with
  | _ k ih =>
  intro a b t ht hpo
  have hpr := ists_pr hf ht (fun q p _ _ hq => hok p (List.mem_of_getElem? hq))
  obtain ⟨hpo1, hpo2⟩ := hpr
  simp only [okPs, shortTs, and_true] at hpo1 hpo2
  have hNl := hN.len
  obtain ⟨_, p, kids, hkn, _, hpk, hpl, hks, et⟩ := ht.one
  have hkn : k = _ := Int.ofNat.inj hkn
  subst hkn
  have et : t = mkT p k kids := by simpa using et
  have hkl := (List.getElem?_eq_some_iff.1 hpk).1
  have hnp := hok p (List.mem_of_getElem? hpk)
  have hlev : levT t = levO p.o := by rw [et]; exact levT_mk hnp (by omega) _ _
  have hob : 0 ≤ levO p.o ∧ levO p.o ≤ 8 := by unfold levO; (repeat' split) <;> omega
  have hleaf : kidsF p.o = 0 → shortT (leafF p k) := fun h0 => shortC_leaf (hf p (List.mem_of_getElem? hpk)) (hnp.1 h0) _
  have main : ∀ lv : Int, 0 ≤ lv → lv ≤ levO p.o → VF Tryd.prog 12 [.slice AN N cN', .int .i64 (k : Int), .int .i64 lv] w0 (.string (prT t lv)) := by
    intro lv hl1 hl2
    refine VF.intro (cs := [31]) Tryd.func12 (by kernel_rfl) fun w hx0 E R hE hr hR => ?_
    have fin : ∀ s w', Ext w w' → s = prT t lv → R (.string s) w' := fun z w' hx e => by rw [hR, e]; exact ⟨rfl, hx⟩
    obtain ⟨aN, v, hA, hg, hc, hokn⟩ := hN.get (i := k) (by omega)
    rw [hpk] at hg
    have hg : p = v.p := Option.some.inj hg
    obtain ⟨⟨o, z, tx, xs, ks⟩, A0, m0, c0, A1, m1, c1⟩ := v
    simp only at hg
    subst hg
    have r_ks := (hokn.ext hx0).r_ks
    have r_xs := (hokn.ext hx0).r_xs
    simp only at r_ks r_xs hpl hks hlev hob hl2 hleaf hnp hA hc
    have hksl := r_ks.len
    have hxsl := r_xs.len
    have hkdl := hks.len
    have hz := hf _ (List.mem_of_getElem? hpk)
    simp only at hz
    obtain ⟨kk, hkk⟩ : ∃ kk : Int, kk = k := ⟨_, rfl⟩
    rw [← hkk]
    -- the kids' texts
    have kid : ∀ (j : Nat) (l : Int), j < m1 → 0 ≤ l → l ≤ 100 → ∃ (c : Int) (tj : Tr) (u : ByteArray), ks[j]? = some c ∧ kids[j]? = some tj ∧ u = prT tj l ∧ u.size ≤ 250000000 ∧ ∀ w1, Ext w w1 → VF Tryd.prog 12 [.slice AN N cN', .int .i64 c, .int .i64 l] w1 (.string u) := fun j l hj h3 h4 => by
      obtain ⟨c, hcj⟩ : ∃ c, ks[j]? = some c := ⟨_, List.getElem?_eq_getElem (by omega)⟩
      obtain ⟨t', a', b', ht', hI'⟩ := hks.at hcj
      have hur := hks.roots c (List.mem_of_getElem? hcj)
      obtain ⟨un, hun⟩ : ∃ un : Nat, c = (un : Int) := ⟨c.toNat, by omega⟩
      have hk0 : kidsF o ≠ 0 := by omega
      have etk : t = .op o kids k := by rw [et]; unfold mkT; rw [if_neg hk0]
      rw [etk] at hpo hpo2
      simp only [po, List.length_append] at hpo
      simp only [shortT] at hpo2
      have h5 := pos_at ht'
      subst hun
      have hrec := ih un (by omega) a' b' t' hI' (by omega) l h3 h4
      exact ⟨_, t', _, hcj, ht', rfl, by have := prT_size t' l (shortTs_at hpo2 ht'); omega, fun w1 hx1 => vf_ext hrec (hx0.trans hx1)⟩
    have opT : kidsF o ≠ 0 → prT t lv = bodyO o (prTs kids (lvsO o)) := fun h0 => by
      have etk : t = .op o kids k := by rw [et]; unfold mkT; rw [if_neg h0]
      rw [etk, prT, par, if_neg (by omega)]
    have leT : kidsF o = 0 → t = leafF ⟨o, z, tx, xs, ks⟩ k := fun h0 => by rw [et]; unfold mkT; rw [if_pos h0]
    conv => cbv
    refine st_idx hE sINd hA (by omega) (by omega) fun q hq => ?_
    rw [show kk.toNat = k by omega] at hq
    conv => cbv
    refine st_loadS hE tINd (vs := [.int .i64 o, .int .i64 z, .string tx, .slice A0 m0 c0, .slice A1 m1 c1]) rfl (by rw [hq]; exact fun j u hu => hx0.cell (hc j u hu)) ?_
    conv => cbv
    refine st_alloc hr tINd rfl fun q5 w2 hx2 hq0 => ?_
    conv => cbv
    refine st_putS hr (by kernel_rfl) (hq0 _ (Nat.le_refl _)) (add_zero _).symm (by simp) (by simp [Value.oneCell']) fun w3 hw3 hq5 => ?_
    simp only [List.take_zero, List.nil_append, List.length_cons, List.length_nil, List.drop_succ_cons, List.drop_nil, List.append_nil] at hq5
    have hx := hx2.then (hw3.bel (hq0 _ (Nat.le_refl _)) hx2.size)
    clear hq0 hw3 hx2 hq
    conv => cbv
    (refine st_fld hE fINd0 fun p hp => ?_; (conv => cbv); refine st_load hE cInt (by rw [hp]; exact (hq5).at _ _ rfl) ?_; clear hp; (conv => cbv))
    obtain ⟨ow, how⟩ : ∃ z, z = levO o := ⟨_, rfl⟩
    have hlv2 := l2level_v o w3
    rw [← how] at hlv2 hob hl2
    refine st_v hr hlv2 fun w4 hx4 => ?_
    replace hq5 := hq5.bel hx4
    replace hx := hx.trans hx4
    clear hx4
    conv => cbv
    refine br (fun g => ?_) (fun g => ?_)
    · have g : ow < lv := by simpa [hE.cmp, cmpR] using g
      omega
    clear g
    conv => cbv
    (refine st_fld hE fINd0 fun p hp => ?_; (conv => cbv); refine st_load hE cInt (by rw [hp]; exact (hq5).at _ _ rfl) ?_; clear hp; (conv => cbv))
    refine br (fun g => ?_) (fun g => ?_)
    · have g : o = 1 := by simpa [hE.cmp, cmpR] using g
      have h0 : kidsF o = 0 := by rw [g]; decide
      have hsh := hleaf h0
      have e8 : ow = 8 := by rw [how, g]; decide
      have etl := leT h0
      have lf : leafF ⟨o, z, tx, xs, ks⟩ k = .con 2 z tx xs k := by unfold leafF; simp only [g]; rfl
      rw [lf] at etl hsh
      simp only [shortT, shortC] at hsh
      have ept : prT t lv = decS z := by
        rw [etl]; simp only [prT, par]; rw [if_neg (by omega)]; rfl
      conv => cbv
      (refine st_fld hE fINd1 fun p hp => ?_; (conv => cbv); refine st_load hE cI64 (by rw [hp]; exact (hq5).at _ _ rfl) ?_; clear hp; (conv => cbv))
      obtain ⟨s, hs⟩ : ∃ s, s = decS z := ⟨_, rfl⟩
      have hv := l1decimal_v hz w4
      rw [← hs] at hv
      refine st_v hr hv fun w5 hx5 => ?_
      conv => cbv
      exact fin _ _ (hx.trans hx5) (by rw [ept, hs])
    have g1 : o ≠ 1 := by simpa [hE.cmp, cmpR] using g
    clear g
    conv => cbv
    refine br (fun g => ?_) (fun g => ?_)
    · have g : o = 2 := by simpa [hE.cmp, cmpR] using g
      have h0 : kidsF o = 0 := by rw [g]; decide
      have hsh := hleaf h0
      have e8 : ow = 8 := by rw [how, g]; decide
      have etl := leT h0
      have lf : leafF ⟨o, z, tx, xs, ks⟩ k = .con 3 z tx xs k := by unfold leafF; simp only [g]; rfl
      rw [lf] at etl hsh
      simp only [shortT, shortC] at hsh
      have ept : prT t lv = quo tx := by
        rw [etl]; simp only [prT, par]; rw [if_neg (by omega)]; rfl
      conv => cbv
      (refine st_fld hE fINd2 fun p hp => ?_; (conv => cbv); refine st_load hE cStr (by rw [hp]; exact (hq5).at _ _ rfl) ?_; clear hp; (conv => cbv))
      refine st_cat hE (catK (m := 1) (by decide) hsh.1 (by decide)) fun y1 hy1 => ?_
      have s1 := catL hy1 (m := 1) (by decide) hsh.1
      conv => cbv
      refine st_cat hE (catK s1 (n := 1) (by decide) (by decide)) fun y2 hy2 => ?_
      conv => cbv
      exact fin _ _ hx (by rw [ept, hy2, hy1]; rfl)
    have g2 : o ≠ 2 := by simpa [hE.cmp, cmpR] using g
    clear g
    conv => cbv
    refine br (fun g => ?_) (fun g => ?_)
    · have g : o = 3 := by simpa [hE.cmp, cmpR] using g
      have h0 : kidsF o = 0 := by rw [g]; decide
      have hsh := hleaf h0
      have e8 : ow = 8 := by rw [how, g]; decide
      have etl := leT h0
      have lf : leafF ⟨o, z, tx, xs, ks⟩ k = .con 1 z tx xs k := by unfold leafF; simp only [g]; rfl
      rw [lf] at etl hsh
      simp only [shortT, shortC] at hsh
      have ept : prT t lv = (if z = 1 then ⟨#[116, 114, 117, 101]⟩ else ⟨#[102, 97, 108, 115, 101]⟩) := by
        rw [etl]; simp only [prT, par]; rw [if_neg (by omega)]; rfl
      conv => cbv
      (refine st_fld hE fINd1 fun p hp => ?_; (conv => cbv); refine st_load hE cI64 (by rw [hp]; exact (hq5).at _ _ rfl) ?_; clear hp; (conv => cbv))
      refine br (fun g2 => ?_) (fun g2 => ?_)
      · have g2 : z = 1 := by simpa [hE.cmp, cmpR] using g2
        conv => cbv
        exact fin _ _ hx (by rw [ept, if_pos g2])
      · have g2 : z ≠ 1 := by simpa [hE.cmp, cmpR] using g2
        conv => cbv
        exact fin _ _ hx (by rw [ept, if_neg g2])
    have g3 : o ≠ 3 := by simpa [hE.cmp, cmpR] using g
    clear g
    conv => cbv
    refine br (fun g => ?_) (fun g => ?_)
    · have g : o = 5 := by simpa [hE.cmp, cmpR] using g
      have h0 : kidsF o = 0 := by rw [g]; decide
      have hsh := hleaf h0
      have e8 : ow = 8 := by rw [how, g]; decide
      have etl := leT h0
      have lf : leafF ⟨o, z, tx, xs, ks⟩ k = .nam tx k := by unfold leafF; simp only [g]; rfl
      rw [lf] at etl hsh
      simp only [shortT, shortC] at hsh
      have ept : prT t lv = tx := by
        rw [etl]; simp only [prT, par]; rw [if_neg (by omega)]; 
      conv => cbv
      (refine st_fld hE fINd2 fun p hp => ?_; (conv => cbv); refine st_load hE cStr (by rw [hp]; exact (hq5).at _ _ rfl) ?_; clear hp; (conv => cbv))
      exact fin _ _ hx ept.symm
    have g5 : o ≠ 5 := by simpa [hE.cmp, cmpR] using g
    clear g
    conv => cbv
    refine br (fun g => ?_) (fun g => ?_)
    · have g : o = 4 := by simpa [hE.cmp, cmpR] using g
      have h0 : kidsF o = 0 := by rw [g]; decide
      have hsh := hleaf h0
      have e8 : ow = 8 := by rw [how, g]; decide
      have etl := leT h0
      have lf : leafF ⟨o, z, tx, xs, ks⟩ k = .con 4 z tx xs k := by unfold leafF; simp only [g]; rfl
      rw [lf] at etl hsh
      simp only [shortT, shortC] at hsh
      have ept : prT t lv = ⟨#[123]⟩ ++ joinG ⟨#[44, 32]⟩ (xs.map quo) ++ ⟨#[125]⟩ := by
        rw [etl]; simp only [prT, par]; rw [if_neg (by omega)]; rfl
      conv => cbv
      (refine st_fld hE fINd3 fun p hp => ?_; (conv => cbv); refine st_load hE cStrs (by rw [hp]; exact (hq5).at _ _ rfl) ?_; clear hp; (conv => cbv))
      refine st_len hE tStrs fun x hx' => ?_
      conv => cbv
      refine br (fun g2 => ?_) (fun g2 => ?_)
      · have g2 : x = 0 := by simpa [hE.cmp, cmpR] using g2
        have : xs = [] := List.eq_nil_of_length_eq_zero (by omega)
        conv => cbv
        exact fin _ _ hx (by rw [ept, this]; rfl)
      · have g2 : x ≠ 0 := by simpa [hE.cmp, cmpR] using g2
        have hne : xs ≠ [] := fun e => by rw [e] at hxsl; simp at hxsl; omega
        have hlt := letters_le hsh.2.2.2
        have hbd : letters xs + (⟨#[34, 44, 32, 34]⟩ : ByteArray).size * xs.length ≤ 3000 := by
          have e : (⟨#[34, 44, 32, 34]⟩ : ByteArray).size = 4 := rfl
          rw [e]; have := hsh.2.2.1; omega
        conv => cbv
        (refine st_fld hE fINd3 fun p hp => ?_; (conv => cbv); refine st_load hE cStrs (by rw [hp]; exact (hq5).at _ _ rfl) ?_; clear hp; (conv => cbv))
        obtain ⟨js, hjs⟩ : ∃ s, s = joinG ⟨#[34, 44, 32, 34]⟩ xs := ⟨_, rfl⟩
        have hjz : js.size ≤ 3000 := by rw [hjs]; exact Nat.le_trans (joinG_size _ _) hbd
        have hv := l1join_k (sp := ⟨#[34, 44, 32, 34]⟩) (c := c0) (r_xs.ext hx) (Nat.le_trans hbd (by decide))
        rw [← hjs] at hv
        refine st_q hE hv fun w5 hs5 => ?_
        conv => cbv
        refine st_cat hE (catK (m := 2) (by decide) hjz (by decide)) fun y1 hy1 => ?_
        have s1 := catL hy1 (m := 2) (by decide) hjz
        conv => cbv
        refine st_cat hE (catK s1 (n := 2) (by decide) (by decide)) fun y2 hy2 => ?_
        conv => cbv
        exact fin _ _ (hx.trans hs5.ext) (by rw [ept, ← set_text xs hne, hy2, hy1, hjs])
    have g4 : o ≠ 4 := by simpa [hE.cmp, cmpR] using g
    clear g
    conv => cbv
    have hk0 : kidsF o ≠ 0 := fun h0 => by
      have hl := hnp.1 h0
      unfold leafU at hl
      simp only at hl
      rw [if_neg (by omega)] at hl
      have := cOK_o hl.1
      simp only at this
      omega
    refine br (fun g => ?_) (fun g => ?_)
    · have g : o = 27 := by simpa [hE.cmp, cmpR] using g
      have hkn : kids.length = 3 := by subst g; have e : kidsF 27 = 3 := by decide
                                       omega
      obtain ⟨i0, t0, u0, kc0, kt0, eu0, su0, k0⟩ := kid 0 0 (by omega) (by omega) (by omega)
      obtain ⟨i1, t1, u1, kc1, kt1, eu1, su1, k1⟩ := kid 1 0 (by omega) (by omega) (by omega)
      obtain ⟨i2, t2, u2, kc2, kt2, eu2, su2, k2⟩ := kid 2 0 (by omega) (by omega) (by omega)
      have hkl3 : kids = [t0, t1, t2] := by
        match kids, hkn with
        | [a, b, c], _ => simp at kt0 kt1 kt2; rw [kt0, kt1, kt2]
      conv => cbv
      refine draw_x hr fol (by kernel_rfl) fun E' hE' hX => ?_
      conv => cbv
      (refine st_fld hE' fINd4 fun p hp => ?_; (conv => cbv); refine st_load hE' cInts (by rw [hp]; exact (hq5).at _ _ rfl) ?_; clear hp; (conv => cbv))
      refine st_int hE' tInts (r_ks.ext hx) (k := 0) rfl (by omega) fun p1 u hu hp1 => ?_
      rw [kc0] at hu
      cases hu
      conv => cbv
      refine st_load hE' cInt hp1 ?_
      clear hp1
      conv => cbv
      refine st_vx hX (k0 _ hx) ?_
      conv => cbv
      refine st_cat hE' (catK (m := 3) (by decide) su0 (by decide)) fun x1 hx1 => ?_
      have s1 := catL hx1 (m := 3) (by decide) su0
      conv => cbv
      refine st_cat hE' (catK s1 (n := 6) (by decide) (by decide)) fun x2 hx2 => ?_
      have s2 := catL hx2 s1 (n := 6) (by decide)
      conv => cbv
      (refine st_fld hE' fINd4 fun p hp => ?_; (conv => cbv); refine st_load hE' cInts (by rw [hp]; exact (hq5).at _ _ rfl) ?_; clear hp; (conv => cbv))
      refine st_int hE' tInts (r_ks.ext hx) (k := 1) rfl (by omega) fun p1 u hu hp1 => ?_
      rw [kc1] at hu
      cases hu
      conv => cbv
      refine st_load hE' cInt hp1 ?_
      clear hp1
      conv => cbv
      refine st_vx hX (k1 _ hx) ?_
      conv => cbv
      refine st_cat hE' (catK s2 su1 (by decide)) fun x3 hx3 => ?_
      have s3 := catL hx3 s2 su1
      conv => cbv
      refine st_cat hE' (catK s3 (n := 6) (by decide) (by decide)) fun x4 hx4 => ?_
      have s4 := catL hx4 s3 (n := 6) (by decide)
      conv => cbv
      (refine st_fld hE' fINd4 fun p hp => ?_; (conv => cbv); refine st_load hE' cInts (by rw [hp]; exact (hq5).at _ _ rfl) ?_; clear hp; (conv => cbv))
      refine st_int hE' tInts (r_ks.ext hx) (k := 2) rfl (by omega) fun p1 u hu hp1 => ?_
      rw [kc2] at hu
      cases hu
      conv => cbv
      refine st_load hE' cInt hp1 ?_
      clear hp1
      conv => cbv
      refine st_vx hX (k2 _ hx) ?_
      conv => cbv
      refine st_cat hE' (catK s4 su2 (by decide)) fun x5 hx5 => ?_
      have s5 := catL hx5 s4 su2
      conv => cbv
      intro w5 hx6
      conv => cbv
      refine fin _ _ (hx.trans hx6) ?_
      rw [opT hk0, lvsO, if_pos g, hkl3]
      simp only [prTs, bodyO]
      rw [hx5, hx4, hx3, hx2, hx1, eu0, eu1, eu2]
    have g27 : o ≠ 27 := by simpa [hE.cmp, cmpR] using g
    clear g
    conv => cbv
    refine br (fun g => ?_) (fun g => ?_)
    · have g : o = 9 := by simpa [hE.cmp, cmpR] using g
      have hkn : kids.length = 1 := by subst g; have e : kidsF 9 = 1 := by decide
                                       omega
      obtain ⟨i0, t0, u0, kc0, kt0, eu0, su0, k0⟩ := kid 0 3 (by omega) (by omega) (by omega)
      have hkl3 : kids = [t0] := by
        match kids, hkn with
        | [a], _ => simp at kt0; rw [kt0]
      conv => cbv
      (refine st_fld hE fINd4 fun p hp => ?_; (conv => cbv); refine st_load hE cInts (by rw [hp]; exact (hq5).at _ _ rfl) ?_; clear hp; (conv => cbv))
      refine st_int hE tInts (r_ks.ext hx) (k := 0) rfl (by omega) fun p1 u hu hp1 => ?_
      rw [kc0] at hu
      cases hu
      conv => cbv
      refine st_load hE cInt hp1 ?_
      clear hp1
      conv => cbv
      refine st_v hr (k0 _ hx) fun w5 hx5 => ?_
      conv => cbv
      refine st_cat hE (catK (m := 4) (by decide) su0 (by decide)) fun x1 hx1 => ?_
      have s1 := catL hx1 (m := 4) (by decide) su0
      conv => cbv
      refine fin _ _ (hx.trans hx5) ?_
      rw [opT hk0, lvsO, if_neg g27, if_pos g, hkl3]
      simp only [prTs, bodyO]
      rw [if_pos g, hx1, eu0]
    have g9 : o ≠ 9 := by simpa [hE.cmp, cmpR] using g
    clear g
    conv => cbv
    refine br (fun g => ?_) (fun g => ?_)
    · have g : o = 8 := by simpa [hE.cmp, cmpR] using g
      have hkn : kids.length = 1 := by subst g; have e : kidsF 8 = 1 := by decide
                                       omega
      obtain ⟨i0, t0, u0, kc0, kt0, eu0, su0, k0⟩ := kid 0 7 (by omega) (by omega) (by omega)
      have hkl3 : kids = [t0] := by
        match kids, hkn with
        | [a], _ => simp at kt0; rw [kt0]
      conv => cbv
      (refine st_fld hE fINd4 fun p hp => ?_; (conv => cbv); refine st_load hE cInts (by rw [hp]; exact (hq5).at _ _ rfl) ?_; clear hp; (conv => cbv))
      refine st_int hE tInts (r_ks.ext hx) (k := 0) rfl (by omega) fun p1 u hu hp1 => ?_
      rw [kc0] at hu
      cases hu
      conv => cbv
      refine st_load hE cInt hp1 ?_
      clear hp1
      conv => cbv
      refine st_v hr (k0 _ hx) fun w5 hx5 => ?_
      conv => cbv
      refine st_cat hE (catK (m := 1) (by decide) su0 (by decide)) fun x1 hx1 => ?_
      have s1 := catL hx1 (m := 1) (by decide) su0
      conv => cbv
      refine fin _ _ (hx.trans hx5) ?_
      rw [opT hk0, lvsO, if_neg g27, if_neg g9, if_pos g, hkl3]
      simp only [prTs, bodyO]
      rw [if_neg g9, if_pos g, hx1, eu0]
    have g8 : o ≠ 8 := by simpa [hE.cmp, cmpR] using g
    clear g
    conv => cbv
    refine br (fun g => ?_) (fun g => ?_)
    · have g : o = 10 := by simpa [hE.cmp, cmpR] using g
      have hkn : kids.length = 1 := by subst g; have e : kidsF 10 = 1 := by decide
                                       omega
      obtain ⟨i0, t0, u0, kc0, kt0, eu0, su0, k0⟩ := kid 0 0 (by omega) (by omega) (by omega)
      have hkl3 : kids = [t0] := by
        match kids, hkn with
        | [a], _ => simp at kt0; rw [kt0]
      conv => cbv
      (refine st_fld hE fINd4 fun p hp => ?_; (conv => cbv); refine st_load hE cInts (by rw [hp]; exact (hq5).at _ _ rfl) ?_; clear hp; (conv => cbv))
      refine st_int hE tInts (r_ks.ext hx) (k := 0) rfl (by omega) fun p1 u hu hp1 => ?_
      rw [kc0] at hu
      cases hu
      conv => cbv
      refine st_load hE cInt hp1 ?_
      clear hp1
      conv => cbv
      refine st_v hr (k0 _ hx) fun w5 hx5 => ?_
      conv => cbv
      refine st_cat hE (catK (m := 5) (by decide) su0 (by decide)) fun x1 hx1 => ?_
      have s1 := catL hx1 (m := 5) (by decide) su0
      conv => cbv
      refine st_cat hE (catK s1 (n := 1) (by decide) (by decide)) fun x2 hx2 => ?_
      conv => cbv
      refine fin _ _ (hx.trans hx5) ?_
      rw [opT hk0, lvsO, if_neg g27, if_neg g9, if_neg g8, if_pos g, hkl3]
      simp only [prTs, bodyO]
      rw [if_neg g9, if_neg g8, hx2, hx1, eu0]
    have g10 : o ≠ 10 := by simpa [hE.cmp, cmpR] using g
    clear g
    conv => cbv
    have ho : 11 ≤ o ∧ o ≤ 26 := by unfold kidsF at hpl hk0; (repeat' split at hpl) <;> omega
    have hkn : kids.length = 2 := by unfold kidsF at hpl; (repeat' split at hpl) <;> omega
    refine cut_rule [] [] hr (fun (l : Int) w' => Ext w w' ∧ Box w.heap.size 61 5 w' q5 [.int .i64 o, .int .i64 z, .string tx, .slice A0 m0 c0, .slice A1 m1 c1] ∧ l = (if levO o = 4 then 5 else levO o)) (fun l => [(0, .slice AN N cN'), (7, .pointer (some q5)), (8, .int .i64 ow), (9, .int .i64 l)]) (fun J2 hJ2 => ?_) ?_
    · conv => cbv
      refine br (fun g => ?_) (fun g => ?_)
      · have g : ow = 4 := by simpa [hE.cmp, cmpR] using g
        conv => cbv
        exact ⟨5, by simp [Fits, lk], hJ2 _ _ ⟨hx, hq5, by rw [if_pos (by omega)]⟩⟩
      · have g : ow ≠ 4 := by simpa [hE.cmp, cmpR] using g
        conv => cbv
        exact ⟨ow, by simp [Fits, lk], hJ2 _ _ ⟨hx, hq5, by rw [if_neg (by omega), how]⟩⟩
    clear hx hq5
    rintro l w5 ⟨hx, hq5, el⟩
    have hlb : 0 ≤ l ∧ l ≤ 8 := by rw [el]; split <;> omega
    obtain ⟨ow1, eow1⟩ : ∃ z : Int, z = ow + 1 := ⟨_, rfl⟩
    obtain ⟨i0, t0, u0, kc0, kt0, eu0, su0, k0⟩ := kid 0 l (by omega) (by omega) (by omega)
    obtain ⟨i1, t1, u1, kc1, kt1, eu1, su1, k1⟩ := kid 1 ow1 (by omega) (by omega) (by omega)
    have hkl3 : kids = [t0, t1] := by
      match kids, hkn with
      | [a, b], _ => simp at kt0 kt1; rw [kt0, kt1]
    obtain ⟨sg, hsg⟩ : ∃ s, s = signO o := ⟨_, rfl⟩
    have ssg : sg.size ≤ 6 := by rw [hsg]; exact signO_size o
    have hsv := l2sign_v ho w5
    rw [← hsg] at hsv
    conv => cbv
    refine draw_x hr fol (by kernel_rfl) fun E' hE' hX => ?_
    have ear' : E'.ar .add .i64 ow 1 = ow1 := by rw [hE'.ar, eow1]; exact wrap_in (by omega) (by omega)
    conv => cbv
    (refine st_fld hE' fINd4 fun p hp => ?_; (conv => cbv); refine st_load hE' cInts (by rw [hp]; exact (hq5).at _ _ rfl) ?_; clear hp; (conv => cbv))
    refine st_int hE' tInts (r_ks.ext hx) (k := 0) rfl (by omega) fun p1 u hu hp1 => ?_
    rw [kc0] at hu
    cases hu
    conv => cbv
    refine st_load hE' cInt hp1 ?_
    clear hp1
    conv => cbv
    refine st_vx hX (k0 _ hx) ?_
    conv => cbv
    refine st_cat hE' (catK su0 (n := 1) (by decide) (by decide)) fun x1 hx1 => ?_
    have s1 := catL hx1 su0 (n := 1) (by decide)
    conv => cbv
    (refine st_fld hE' fINd0 fun p hp => ?_; (conv => cbv); refine st_load hE' cInt (by rw [hp]; exact (hq5).at _ _ rfl) ?_; clear hp; (conv => cbv))
    refine st_vx hX hsv ?_
    conv => cbv
    refine st_cat hE' (catK s1 ssg (by decide)) fun x2 hx2 => ?_
    have s2 := catL hx2 s1 ssg
    conv => cbv
    refine st_cat hE' (catK s2 (n := 1) (by decide) (by decide)) fun x3 hx3 => ?_
    have s3 := catL hx3 s2 (n := 1) (by decide)
    conv => cbv
    (refine st_fld hE' fINd4 fun p hp => ?_; (conv => cbv); refine st_load hE' cInts (by rw [hp]; exact (hq5).at _ _ rfl) ?_; clear hp; (conv => cbv))
    refine st_int hE' tInts (r_ks.ext hx) (k := 1) rfl (by omega) fun p1 u hu hp1 => ?_
    rw [kc1] at hu
    cases hu
    conv => cbv
    refine st_load hE' cInt hp1 ?_
    clear hp1
    conv => cbv
    simp only [ear']
    refine st_vx hX (k1 _ hx) ?_
    conv => cbv
    refine st_cat hE' (catK s3 su1 (by decide)) fun x4 hx4 => ?_
    conv => cbv
    intro w6 hx6
    conv => cbv
    refine fin _ _ (hx.trans hx6) ?_
    rw [opT hk0, lvsO, if_neg g27, if_neg g9, if_neg g8, if_neg g10, hkl3]
    simp only [prTs, bodyO]
    rw [hx4, hx3, hx2, hx1, eu0, eu1, hsg, el, eow1, how]
  -- within brackets
  intro lv hl1 hl2
  by_cases hlv : lv ≤ levO p.o
  · exact main lv hl1 hlv
  refine VF.intro (cs := [31]) Tryd.func12 (by kernel_rfl) fun w hx0 E R hE hr hR => ?_
  have hm := vf_ext (main 0 (by omega) hob.1) hx0
  obtain ⟨s, hs⟩ : ∃ s, s = prT t 0 := ⟨_, rfl⟩
  rw [← hs] at hm
  have hss : s.size ≤ 250000000 := by rw [hs]; have := prT_size t 0 hpo2; omega
  have hpt : prT t lv = ⟨#[40]⟩ ++ s ++ ⟨#[41]⟩ := by
    have e0 : ∀ (l : Int) (x : ByteArray), par (levT t) 0 x = x := fun l x => by unfold par; rw [if_neg (by omega)]
    have e1 : ∀ (x : ByteArray), par (levT t) lv x = ⟨#[40]⟩ ++ x ++ ⟨#[41]⟩ := fun x => by unfold par; rw [if_pos (by omega)]
    rw [hs]
    cases t with
    | op o kids at_ => rw [prT, prT]; rw [show levO o = levT (.op o kids at_) from rfl, e1, e0 0]
    | con k n tx xs at_ => rw [prT, prT]; rw [show (8 : Int) = levT (.con k n tx xs at_) from rfl, e1, e0 0]
    | nam tx at_ => rw [prT, prT]; rw [show (8 : Int) = levT (.nam tx at_) from rfl, e1, e0 0]
    | att n => simp only [prT]; rw [show (8 : Int) = levT (.att n) from rfl, e1, e0 0]
    | lt n => simp only [prT]; rw [show (8 : Int) = levT (.lt n) from rfl, e1, e0 0]
  obtain ⟨aN, v, hA, hg, hc, hokn⟩ := hN.get (i := k) (by omega)
  rw [hpk] at hg
  have hg : p = v.p := Option.some.inj hg
  obtain ⟨⟨o, z, tx, xs, ks⟩, A0, m0, c0, A1, m1, c1⟩ := v
  simp only at hg
  subst hg
  simp only at hob hlv
  obtain ⟨kk, hkk⟩ : ∃ kk : Int, kk = k := ⟨_, rfl⟩
  rw [← hkk] at hm ⊢
  conv => cbv
  refine st_idx hE sINd hA (by omega) (by omega) fun q hq => ?_
  rw [show kk.toNat = k by omega] at hq
  conv => cbv
  refine st_loadS hE tINd (vs := [.int .i64 o, .int .i64 z, .string tx, .slice A0 m0 c0, .slice A1 m1 c1]) rfl (by rw [hq]; exact fun j u hu => hx0.cell (hc j u hu)) ?_
  conv => cbv
  refine st_alloc hr tINd rfl fun q5 w2 hx2 hq0 => ?_
  conv => cbv
  refine st_putS hr (by kernel_rfl) (hq0 _ (Nat.le_refl _)) (add_zero _).symm (by simp) (by simp [Value.oneCell']) fun w3 hw3 hq5 => ?_
  simp only [List.take_zero, List.nil_append, List.length_cons, List.length_nil, List.drop_succ_cons, List.drop_nil, List.append_nil] at hq5
  have hx := hx2.then (hw3.bel (hq0 _ (Nat.le_refl _)) hx2.size)
  clear hq0 hw3 hx2 hq
  conv => cbv
  (refine st_fld hE fINd0 fun p hp => ?_; (conv => cbv); refine st_load hE cInt (by rw [hp]; exact (hq5).at _ _ rfl) ?_; clear hp; (conv => cbv))
  obtain ⟨ow, how⟩ : ∃ z, z = levO o := ⟨_, rfl⟩
  have hlv2 := l2level_v o w3
  rw [← how] at hlv2
  refine st_v hr hlv2 fun w4 hx4 => ?_
  replace hx := hx.trans hx4
  clear hx4
  conv => cbv
  refine br (fun g => ?_) (fun g => ?_)
  · conv => cbv
    refine st_v hr (vf_ext hm hx) fun w5 hx5 => ?_
    conv => cbv
    refine st_cat hE (catK (m := 1) (by decide) hss (by decide)) fun x1 hx1 => ?_
    have s1 := catL hx1 (m := 1) (by decide) hss
    conv => cbv
    refine st_cat hE (catK s1 (n := 1) (by decide) (by decide)) fun x2 hx2 => ?_
    conv => cbv
    rw [hR]
    exact ⟨by rw [hpt, hx2, hx1]; rfl, hx.trans hx5⟩
  · have g : ¬ ow < lv := by simpa [hE.cmp, cmpR] using g
    omega
end Go.Proofs.YtgdnmpcaiaoaoaaDoor
/- The reference's Print walked. -/
namespace Go.Proofs.YtgdnmpcaiaoaoaaDoor
open Go.Eng
set_option linter.unusedVariables false
set_option linter.unusedSimpArgs false
/-- A statement's text ahead of what is granted. -/
def prH (s : PS) (p : PT) : ByteArray :=
  if s.k = 1 then ⟨#[108, 101, 116, 32]⟩ ++ s.nm ++ ⟨#[32, 61, 32]⟩ ++ prO p.c
  else if s.k = 2 then ⟨#[119, 104, 101, 110, 32]⟩ ++ prO p.c ++ ⟨#[32, 61, 62, 32]⟩
  else ⟨#[101, 108, 115, 101, 32]⟩
theorem prS_eq (s : PS) (p : PT) : prS s p = prH s p ++ (if s.k = 1 then ⟨#[]⟩ else decO p.g) ++ ⟨#[59, 10]⟩ := by
  unfold prS prH
  by_cases h1 : s.k = 1
  · rw [if_pos h1, if_pos h1, if_pos h1, cat_nil]
  · rw [if_neg h1, if_neg h1, if_neg h1]
    by_cases h2 : s.k = 2
    · rw [if_pos h2, if_pos h2]
    · rw [if_neg h2, if_neg h2]
set_option maxHeartbeats 16000000 in
theorem specPrint_f {w : World} {A A2 : Option Addr} {n c n2 c2 : Nat} {nv : List PN} {sv : List PS} (h : PolR w A n A2 n2 nv sv) (hn : n ≤ 9223372036854775807) (hn2 : n2 ≤ 9223372036854775807) (hf : ∀ p ∈ nv, fits p.z) :
    FC Tryd.prog 5 [polV A n c A2 n2 c2] w fun v w' => ∃ s, v = .string s ∧ PrintP nv sv s := by
  refine FC.intro (cs := [13]) Tryd.func5 (by kernel_rfl) fun E R hE hr hR => ?_
  conv => cbv
  refine st_box hr fun a w1 hx hb0 => ?_
  have hb := hb0 _ (Nat.le_refl _)
  clear hb0
  conv => cbv
  refine st_loadS hE tIPol rfl hb.at ?_
  conv => cbv
  refine st_f hr (specValidPolicy_f (c := c) (c2 := c2) (h.ext hx) hn hn2) fun v w2 hx2 ⟨b, ev, h1⟩ => ?_
  subst ev
  replace hb := hb.bel hx2
  replace hx := hx.trans hx2
  clear hx2
  cases b with
  | false =>
    conv => cbv
    rw [hR]; exact ⟨hx, _, rfl, .inl ⟨fun q => by simpa using h1.2 q, rfl⟩⟩
  | true =>
  have hP := h1.1 rfl
  obtain ⟨acc, hrun, hpl⟩ := prL_of hf hP
  obtain ⟨p1, p2, p3, p4, p5, p6⟩ := hP
  have hNl := h.nodes.len
  have hSl := h.stmts.len
  have hok : ∀ p ∈ nv, nodeOK leafU p := fun p hp => by
    obtain ⟨q, hq⟩ := List.mem_iff_getElem?.1 hp
    exact (fieldsU_iff (hpl.ts.node q p (Nat.zero_le _) (List.getElem?_eq_some_iff.1 hq).1 hq)).1 (p4 p hp)
  obtain ⟨FIN, hFIN⟩ : ∃ s, s = prL (sv.zip acc) := ⟨_, rfl⟩
  replace hR : ∀ w', Ext w w' → R (.string FIN) w' := fun w' hx => by rw [hR]; exact ⟨hx, FIN, rfl, .inr ⟨h1.1 rfl, acc, hrun, hFIN⟩⟩
  have hal := hpl.m.1
  have hlow := hx.size
  have PRT : ∀ {t : Tr} {z : Int}, PrT t → (∃ (k : Nat) (a' : Nat), z = (k : Int) ∧ IsTs nv a' (k + 1) [(k : Int)] [t]) → ∃ u, u = prT t 0 ∧ u.size ≤ 10000000 ∧ ∀ w1, Ext w w1 → VF Tryd.prog 12 [.slice A n c, .int .i64 z, .int .i64 0] w1 (.string u) := fun {t z} ht ⟨k, a', e, hI⟩ =>
    ⟨_, rfl, ht.size 0, fun w1 hx1 => by rw [e]; exact vf_ext (l2put_v h.nodes (by omega) hf hok k a' (k + 1) t hI (by have := ht.po; omega) 0 (by omega) (by omega)) hx1⟩
  conv => cbv
  (refine st_fld hE fIPol1 fun p hp => ?_; (conv => cbv); refine st_load hE cISs (by rw [hp]; exact (hb).at _ _ rfl) ?_; clear hp; (conv => cbv))
  refine st_len hE sISd fun x1 hx1' => ?_
  conv => cbv
  refine loop_rulec [13, 17] hr (fun (s : Nat × Int × ByteArray) w' => s.1 ≤ n2 ∧ s.2.1 = (s.1 : Int) ∧ Ext w w' ∧ Box w.heap.size 31 2 w' a [.slice A n c, .slice A2 n2 c2] ∧ s.2.2 = prL ((sv.zip acc).take s.1) ∧ s.2.2.size ≤ s.1 * 100000000)
    (fun s => [(1, .pointer (some a)), (3, .string s.2.2), (10, .slice A2 n2 c2), (11, .int .i64 x1), (12, .int .i64 s.2.1)]) (fun s => n2 - s.1) (0, 0, ⟨#[]⟩)
    (by simp [Fits, lk]) ⟨by simp, by simp, hx, hb, by simp [prL], Nat.zero_le _⟩ ?_
  clear hx hb
  rintro J hJ ⟨j, jj, out⟩ w' ⟨hj, hjj, hx, hb, hout, hsz⟩
  simp only at hj hjj hout hsz
  obtain ⟨jk, hjk⟩ : ∃ z, z = jj + 1 := ⟨_, rfl⟩
  conv => cbv
  refine br (fun g => ?_) (fun g => ?_)
  · have g : j < n2 := by
      have : jj < x1 := by simpa [hE.cmp, cmpR] using g
      omega
    have ej : E.ar .add .i64 jj 1 = jk := by rw [hE.ar, hjk]; exact wrap_in (by omega) (by omega)
    obtain ⟨aS, s, hAs, hsj, hcs, _⟩ := h.stmts.get (i := j) g
    obtain ⟨p, hpj⟩ : ∃ p, acc[j]? = some p := ⟨_, List.getElem?_eq_getElem (by omega)⟩
    obtain ⟨hk, hkc, hnm, hmc, hmg⟩ := hpl.z hsj hpj
    have hpc : ∀ t, p.c = some t → PrT t := fun t ht => hpl.c hpj ht
    have hpg : ∀ t, p.g = some t → PrT t := fun t ht => hpl.g hpj ht
    obtain ⟨htc, htg⟩ := tree_at hpl.m hpl.ts j s p hsj hpj
    have hnext : prL ((sv.zip acc).take (j + 1)) = out ++ prS s p := by
      have : (sv.zip acc)[j]? = some (s, p) := List.getElem?_zip_eq_some.2 ⟨hsj, hpj⟩
      rw [List.take_add_one, this, Option.toList_some, prL_snoc, hout]
    obtain ⟨k, nm, sc, sg⟩ := s
    obtain ⟨pc, pg⟩ := p
    simp only at hk hkc hnm hpc hpg hnext hmc hmg htc htg
    conv => cbv
    refine st_idx hE sISd hAs (by omega) (by omega) fun p hp => ?_
    rw [show jj.toNat = j by omega] at hp
    conv => cbv
    refine st_loadS hE tISd (vs := [.int .i64 k, .string nm, .int .i64 sc, .int .i64 sg]) rfl (by rw [hp]; exact fun i u hu => hx.cell (hcs i u hu)) ?_
    conv => cbv
    refine st_alloc hr tISd rfl fun q6 w3 hx3 hq0 => ?_
    conv => cbv
    refine st_putS hr (by kernel_rfl) (hq0 _ (Nat.le_refl _)) (add_zero _).symm (by simp) (by simp [Value.oneCell']) fun w4 hw4 h6 => ?_
    simp only [List.take_zero, List.nil_append, List.length_cons, List.length_nil, List.drop_succ_cons, List.drop_nil, List.append_nil] at h6
    have hx34 := hx3.then (hw4.bel (hq0 _ (Nat.le_refl _)) hx3.size)
    replace hx := hx.trans hx34
    replace hb := hb.bel hx34
    clear hx3 hq0 hw4 hp hx34
    obtain ⟨ob, hob⟩ : ∃ ob, ob = j * 100000000 := ⟨_, rfl⟩
    have hjm : ob ≤ 60000000000 := by omega
    rw [← hob] at hsz
    conv => cbv
    refine cut_rule [] [17] hr (fun (o2 : ByteArray) w5 => Ext w w5 ∧ Box w'.heap.size 39 4 w5 q6 [.int .i64 k, .string nm, .int .i64 sc, .int .i64 sg] ∧ Box w.heap.size 31 2 w5 a [.slice A n c, .slice A2 n2 c2] ∧ o2 = out ++ prH ⟨k, nm, sc, sg⟩ ⟨pc, pg⟩ ∧ o2.size ≤ ob + 20000000) (fun o2 => [(1, .pointer (some a)), (3, .string o2), (5, .pointer (some q6)), (10, .slice A2 n2 c2), (11, .int .i64 x1), (12, .int .i64 jj)]) (fun J2 hJ2 => ?_) ?_
    · conv => cbv
      (refine st_fld hE fISd0 fun p hp => ?_; (conv => cbv); refine st_load hE cInt (by rw [hp]; exact (h6).at _ _ rfl) ?_; clear hp; (conv => cbv))
      refine br (fun g1 => ?_) (fun g1 => ?_)
      · have g1 : k = 1 := by simpa [hE.cmp, cmpR] using g1
        obtain ⟨t, rfl⟩ := hkc (.inl g1)
        obtain ⟨u, eu, su, ku⟩ := PRT (hpc t rfl) (htc t rfl)
        conv => cbv
        refine draw_x hr fol (by kernel_rfl) fun E' hE' hX => ?_
        conv => cbv
        (refine st_fld hE' fISd1 fun p hp => ?_; (conv => cbv); refine st_load hE' cStr (by rw [hp]; exact (h6).at _ _ rfl) ?_; clear hp; (conv => cbv))
        refine st_cat hE' (catK (m := 4) (by decide) hnm (by decide)) fun y1 hy1 => ?_
        have s1 := catL hy1 (m := 4) (by decide) hnm
        conv => cbv
        refine st_cat hE' (catK s1 (n := 3) (by decide) (by decide)) fun y2 hy2 => ?_
        have s2 := catL hy2 s1 (n := 3) (by decide)
        conv => cbv
        (refine st_fld hE' fIPol0 fun p hp => ?_; (conv => cbv); refine st_load hE' cINs (by rw [hp]; exact (hb).at _ _ rfl) ?_; clear hp; (conv => cbv))
        (refine st_fld hE' fISd2 fun p hp => ?_; (conv => cbv); refine st_load hE' cInt (by rw [hp]; exact (h6).at _ _ rfl) ?_; clear hp; (conv => cbv))
        refine st_vx hX (ku _ hx) ?_
        conv => cbv
        refine st_cat hE' (catK s2 su (by decide)) fun y3 hy3 => ?_
        have s3 := catL hy3 s2 su
        replace s3 : y3.size ≤ 20000000 := Nat.le_trans s3 (by decide)
        conv => cbv
        refine st_cat hE' (catK hsz s3 (by omega)) fun y5 hy5 => ?_
        have s5 := catL hy5 hsz s3
        conv => cbv
        intro w6 hx6
        conv => cbv
        exact ⟨y5, by simp [Fits, lk], hJ2 _ _ ⟨hx.trans hx6, h6.bel hx6, hb.bel hx6, by rw [hy5, hy3, hy2, hy1, eu]; unfold prH; rw [if_pos g1]; rfl, s5⟩⟩
      have g1 : k ≠ 1 := by simpa [hE.cmp, cmpR] using g1
      conv => cbv
      refine br (fun g2 => ?_) (fun g2 => ?_)
      · have g2 : k = 2 := by simpa [hE.cmp, cmpR] using g2
        obtain ⟨t, rfl⟩ := hkc (.inr g2)
        obtain ⟨u, eu, su, ku⟩ := PRT (hpc t rfl) (htc t rfl)
        conv => cbv
        (refine st_fld hE fIPol0 fun p hp => ?_; (conv => cbv); refine st_load hE cINs (by rw [hp]; exact (hb).at _ _ rfl) ?_; clear hp; (conv => cbv))
        (refine st_fld hE fISd2 fun p hp => ?_; (conv => cbv); refine st_load hE cInt (by rw [hp]; exact (h6).at _ _ rfl) ?_; clear hp; (conv => cbv))
        refine st_v hr (ku _ hx) fun w6 hx6 => ?_
        conv => cbv
        refine st_cat hE (catK (m := 5) (by decide) su (by decide)) fun y1 hy1 => ?_
        have s1 := catL hy1 (m := 5) (by decide) su
        conv => cbv
        refine st_cat hE (catK s1 (n := 4) (by decide) (by decide)) fun y2 hy2 => ?_
        have s2 := catL hy2 s1 (n := 4) (by decide)
        replace s2 : y2.size ≤ 20000000 := Nat.le_trans s2 (by decide)
        conv => cbv
        refine st_cat hE (catK hsz s2 (by omega)) fun y5 hy5 => ?_
        have s5 := catL hy5 hsz s2
        conv => cbv
        exact ⟨y5, by simp [Fits, lk], hJ2 _ _ ⟨hx.trans hx6, h6.bel hx6, hb.bel hx6, by rw [hy5, hy2, hy1, eu]; unfold prH; rw [if_neg g1, if_pos g2]; rfl, s5⟩⟩
      have g2 : k ≠ 2 := by simpa [hE.cmp, cmpR] using g2
      conv => cbv
      refine st_cat hE (catK hsz (n := 5) (by decide) (by omega)) fun y5 hy5 => ?_
      have s5 := catL hy5 hsz (n := 5) (by decide)
      conv => cbv
      exact ⟨y5, by simp [Fits, lk], hJ2 _ _ ⟨hx, h6, hb, by rw [hy5]; unfold prH; rw [if_neg g1, if_neg g2], by omega⟩⟩
    clear hx h6 hb
    rintro o2 w5 ⟨hx, h6, hb, ho2, so2⟩
    conv => cbv
    refine cut_rule [] [] hr (fun (o3 : ByteArray) w6 => Ext w w6 ∧ Box w.heap.size 31 2 w6 a [.slice A n c, .slice A2 n2 c2] ∧ o3 = out ++ (prH ⟨k, nm, sc, sg⟩ ⟨pc, pg⟩ ++ (if k = 1 then ⟨#[]⟩ else decO pg)) ∧ o3.size ≤ ob + 50000000) (fun o3 => [(1, .pointer (some a)), (3, .string o3), (10, .slice A2 n2 c2), (11, .int .i64 x1), (12, .int .i64 jj)]) (fun J2 hJ2 => ?_) ?_
    · conv => cbv
      (refine st_fld hE fISd0 fun p hp => ?_; (conv => cbv); refine st_load hE cInt (by rw [hp]; exact (h6).at _ _ rfl) ?_; clear hp; (conv => cbv))
      refine br (fun g1 => ?_) (fun g1 => ?_)
      · have g1 : k ≠ 1 := by simpa [hE.cmp, cmpR] using g1
        conv => cbv
        (refine st_fld hE fISd3 fun p hp => ?_; (conv => cbv); refine st_load hE cInt (by rw [hp]; exact (h6).at _ _ rfl) ?_; clear hp; (conv => cbv))
        refine br (fun g2 => ?_) (fun g2 => ?_)
        · have g2 : 0 ≤ sg := by simpa [hE.cmp, cmpR] using g2
          obtain ⟨t, rfl⟩ := Option.isSome_iff_exists.1 (hmg.2 g2)
          obtain ⟨u, eu, su, ku⟩ := PRT (hpg t rfl) (htg t rfl)
          conv => cbv
          (refine st_fld hE fIPol0 fun p hp => ?_; (conv => cbv); refine st_load hE cINs (by rw [hp]; exact (hb).at _ _ rfl) ?_; clear hp; (conv => cbv))
          (refine st_fld hE fISd3 fun p hp => ?_; (conv => cbv); refine st_load hE cInt (by rw [hp]; exact (h6).at _ _ rfl) ?_; clear hp; (conv => cbv))
          refine st_v hr (ku _ hx) fun w6 hx6 => ?_
          conv => cbv
          refine st_cat hE (catK (m := 6) (by decide) su (by decide)) fun y1 hy1 => ?_
          have s1 := catL hy1 (m := 6) (by decide) su
          replace s1 : y1.size ≤ 20000000 := Nat.le_trans s1 (by decide)
          conv => cbv
          refine st_cat hE (catK so2 s1 (by omega)) fun y5 hy5 => ?_
          have s5 := catL hy5 so2 s1
          conv => cbv
          exact ⟨y5, by simp [Fits, lk], hJ2 _ _ ⟨hx.trans hx6, hb.bel hx6, by rw [hy5, hy1, eu, ho2, if_neg g1, ByteArray.append_assoc, decO], by omega⟩⟩
        · have g2 : ¬ 0 ≤ sg := by simpa [hE.cmp, cmpR] using g2
          have hpn : pg = none := by
            cases pg with
            | none => rfl
            | some t => exact absurd (hmg.1 rfl) g2
          subst hpn
          conv => cbv
          refine st_cat hE (catK so2 (n := 4) (by decide) (by omega)) fun y5 hy5 => ?_
          have s5 := catL hy5 so2 (n := 4) (by decide)
          conv => cbv
          exact ⟨y5, by simp [Fits, lk], hJ2 _ _ ⟨hx, hb, by rw [hy5, ho2, if_neg g1, ByteArray.append_assoc, decO], by omega⟩⟩
      · have g1 : k = 1 := by simpa [hE.cmp, cmpR] using g1
        conv => cbv
        exact ⟨o2, by simp [Fits, lk], hJ2 _ _ ⟨hx, hb, by rw [ho2, if_pos g1, cat_nil], by omega⟩⟩
    clear hx h6 hb
    rintro o3 w6 ⟨hx, hb, ho3, so3⟩
    conv => cbv
    refine st_cat hE (catK so3 (n := 2) (by decide) (by omega)) fun y5 hy5 => ?_
    have s5 := catL hy5 so3 (n := 2) (by decide)
    conv => cbv
    simp only [ej]
    refine ⟨(j + 1, jk, y5), by simp [Fits, lk], hJ _ _ ⟨by simp only; omega, by simp only; omega, hx, hb, ?_, by simp only; omega⟩, by simp only; omega⟩
    simp only
    rw [hnext, hy5, ho3, prS_eq, ByteArray.append_assoc]
  · have g : j = n2 := by
      have : ¬ jj < x1 := by simpa [hE.cmp, cmpR] using g
      omega
    conv => cbv
    have : out = FIN := by rw [hout, hFIN, List.take_of_length_le (by rw [List.length_zip]; omega)]
    rw [this]
    exact hR _ hx
end Go.Proofs.YtgdnmpcaiaoaoaaDoor
/- The law FnExactPrint walked. -/
namespace Go.Proofs.YtgdnmpcaiaoaoaaDoor
open Go.Eng
set_option linter.unusedVariables false
set_option linter.unusedSimpArgs false
set_option maxHeartbeats 2000000 in
theorem lawPrint {A A2 : Option Addr} {n c n2 c2 : Nat} {nv : List PN} {sv : List PS} (w : World) (hT : PowK w ∧ STab w 1 words ∧ Tab w 2 constF ∧ NTab w 0 signF) (h : PolR w A n A2 n2 nv sv) (hn : n ≤ 9223372036854775807) (hn2 : n2 ≤ 9223372036854775807) (hf : ∀ p ∈ nv, fits p.z) :
    Law Tryd.prog 3 [polV A n c A2 n2 c2] w := by
  refine FC.intro (cs := []) Tryd.func3 (by kernel_rfl) fun E R hE hr hR => ?_
  conv => cbv
  refine st_box hr fun a0 w1 hx hb0 => ?_
  have hb := hb0 _ (Nat.le_refl _)
  clear hb0
  conv => cbv
  refine st_loadS hE tLPol rfl hb.at ?_
  conv => cbv
  refine st_f hr (szPolicy_f (c := c) (c2 := c2) (h.ext hx) hn hn2) fun v w2 hx2 ⟨r, ev, hsz⟩ => ?_
  subst ev
  replace hb := hb.bel hx2
  replace hx := hx.trans hx2
  clear hx2
  conv => cbv
  refine br (fun g => ?_) (fun g => ?_)
  · conv => cbv
    rw [hR]; exact ⟨hx, rfl⟩
  have g : 0 ≤ r := by simpa [hE.cmp, cmpR] using g
  have hwt := hsz g
  conv => cbv
  refine st_loadS hE tLPol rfl hb.at ?_
  conv => cbv
  refine st_f hr (toPolicy_f (c := c) (c2 := c2) (h.ext hx) hwt) fun v w3 hx3 ⟨A3, c3, A4, c4, ev, h3⟩ => ?_
  subst ev
  replace hb := hb.bel hx3
  replace hx := hx.trans hx3
  clear hx3
  conv => cbv
  refine st_f hr (specPrint_f (c := c3) (c2 := c4) h3 hn hn2 hf) fun v w4 hx4 ⟨v0, ev, hv0⟩ => ?_
  subst ev
  replace hb := hb.bel hx4
  replace hx := hx.trans hx4
  clear hx4 h3
  conv => cbv
  refine st_loadS hE tLPol rfl hb.at ?_
  conv => cbv
  refine st_f hr (toPolicy_f (c := c) (c2 := c2) (h.ext hx) hwt) fun v w5 hx5 ⟨A5, c5, A6, c6, ev, h5⟩ => ?_
  subst ev
  replace hb := hb.bel hx5
  replace hx := hx.trans hx5
  clear hx5
  conv => cbv
  refine st_alloc hr tIPol rfl fun q w6 hx6 hq0 => ?_
  have hq := hq0 _ hx.size
  have hbq := (hb.apart (hq0 _ (Nat.le_refl _)) (Nat.le_refl _)).1
  conv => cbv
  refine st_putS hr (by kernel_rfl) hq (add_zero _).symm (by simp) (by simp [Value.oneCell']) fun w7 hw7 hq2 => ?_
  simp only [List.take_zero, List.nil_append, List.length_cons, List.length_nil, List.drop_succ_cons, List.drop_nil, List.append_nil] at hq2
  replace h5 := h5.ext (hx6.then (hw7.bel (hq0 _ (Nat.le_refl _)) hx6.size))
  replace hb := (hb.bel hx6).wr hw7 hbq
  replace hx := hx.trans (hx6.then (hw7.bel (hq0 _ (Nat.le_refl _)) hx6.size))
  clear hx6 hq0 hw7 hq
  conv => cbv
  refine st_loadS hE tIPol rfl hq2.at ?_
  conv => cbv
  refine st_f hr (implPrint_f (c := c5) (c2 := c6) (tabIs_ext hT.1 hx) (hT.2.2.2.ext hx) (hT.2.2.1.ext hx) (hT.2.1.ext hx) h5 hn hn2 hf) fun v w8 hx8 ⟨v1, ev, hv1⟩ => ?_
  subst ev
  obtain rfl : v1 = v0 := hv1.unique hv0
  replace hb := hb.bel hx8
  replace hq2 := hq2.bel hx8
  replace h5 := h5.ext hx8
  replace hx := hx.trans hx8
  clear hx8
  conv => cbv
  refine br (fun q => ?_) (fun q => ?_)
  · have q : E.scmp .neq v1 v1 = true := q
    rw [hE.scmp] at q
    exact absurd rfl ((scmp_neq v1 v1).1 q)
  clear q
  conv => cbv
  refine draw_h [0, 1] [(2, false), (3, false), (4, true)] hr fol (by kernel_rfl) fun E' hE' w9 hs9 S hS => ?_
  replace hb := hb.bel hs9.ext
  replace hq2 := hq2.bel hs9.ext
  replace h5 := h5.ext hs9.ext
  replace hx := hx.trans hs9.ext
  conv => cbv
  refine st_loadS hE' tIPol rfl hq2.at ?_
  conv => cbv
  refine st_loadS hE' tLPol rfl hb.at ?_
  conv => cbv
  refine st_f hr (toPolicy_f (c := c) (c2 := c2) (h.ext hx) hwt) fun v w10 hx10 ⟨A7, c7, A8, c8, ev, h7⟩ => ?_
  subst ev
  refine ⟨hS _ hx10, ?_⟩
  conv => cbv
  refine st_f hr (eqPolicy_f (c := c5) (c2 := c6) (c3 := c7) (c4 := c8) (h5.ext hx10) h7 hn hn2) fun v w11 hx11 ev => ?_
  subst ev
  refine ⟨hS _ (hx10.trans hx11), ?_⟩
  conv => cbv
  rw [hR]; exact ⟨(hx.trans hx10).trans hx11, rfl⟩
end Go.Proofs.YtgdnmpcaiaoaoaaDoor
