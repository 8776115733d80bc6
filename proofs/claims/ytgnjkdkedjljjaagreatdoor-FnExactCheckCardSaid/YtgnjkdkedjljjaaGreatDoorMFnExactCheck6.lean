/- Texts that the law FnExactCheck leans on, part 6 of 7: contracts of the functions that it reaches and plain lemmas. Each holds under the conditions that it states. -/
import Derived.Test.YtgnjkdkedjljjaaGreatDoorMFnExactCheck5
import Derived.LaidEql
import Derived.Stop.Asserts
import Derived.Laws.Externs
set_option maxHeartbeats 16000000
set_option linter.unusedVariables false
set_option linter.unusedSimpArgs false
namespace Go.Proofs.YtgnjkdkedjljjaaGreatDoor
open Go.Eng
set_option linter.unusedVariables false
set_option linter.unusedSimpArgs false
def sbValue (v : VV) : List Sub := [⟨v.A, v.m, v.c, 9, v.p.xs.map .string⟩]
def mkValue (v : VV) (z : Int) : VV := ⟨⟨z, z + 1, mkText (z + 2), marks (z + 3) v.m⟩, v.A, v.m, v.c⟩
def ctValue (v : VV) : Nat := 3 + v.m
def sbIns (v : (Int × Int)) : List Sub := []
def mkIns (v : (Int × Int)) (z : Int) : (Int × Int) := (z, z + 1)
def ctIns (v : (Int × Int)) : Nat := 2
def sbNode (v : VN) : List Sub := [⟨v.A0, v.m0, v.c0, 9, v.p.xs.map .string⟩, ⟨v.A1, v.m1, v.c1, 3, v.p.ks.map (.int .i64)⟩]
def mkNode (v : VN) (z : Int) : VN := ⟨⟨z, z + 1, mkText (z + 2), marks (z + 3) v.m0, imarks (z + 3 + v.m0) v.m1⟩, v.A0, v.m0, v.c0, v.A1, v.m1, v.c1⟩
def ctNode (v : VN) : Nat := 3 + v.m0 + v.m1
theorem markNodeS_g {w : World} {B : Nat} {A : Option Addr} {n c : Nat} {vs : List VN} (h : RO 90 5 cN sbNode B w A n c vs) (k0 : Int) (hk : 0 ≤ k0) (hkn : k0 + ctL ctNode vs < 9223372036854775807) :
  GC Tryz.prog 55 [.slice A n c, .int .i64 k0] w fun v w' => v = .int .i64 (k0 + ctL ctNode vs) ∧ RO 90 5 cN sbNode B w' A n c (mkL mkNode ctNode vs k0) ∧ CSt w (roA sbNode A vs) w' (roA sbNode A vs) := by
 refine GC.intro (cs := []) Tryz.func55 (by kernel_rfl) fun E R hE hr hR => ?_
 have hl : vs.length = n := h.len cN_len (by omega)
 have hnle := h.row.le
 conv => cbv
 refine loop_rule hr (fun (s : Nat × Int × Int) w' => s.1 ≤ n ∧ s.2.1 = k0 + ctL ctNode (vs.take s.1) ∧ s.2.2 = s.1 ∧ RO 90 5 cN sbNode B w' A n c (mkL mkNode ctNode (vs.take s.1) k0 ++ vs.drop s.1) ∧ CSt w (roA sbNode A vs) w' (roA sbNode A vs)) (fun s => [(0, .slice A n c), (1, .int .i64 s.2.1), (5, .int .i64 s.2.2)]) (fun s => n - s.1) (0, k0, 0)
  (by simp [Fits, lk]) ⟨by simp, by simp [ctL], by simp, by simpa [mkL] using h, CSt.refl _ _⟩ ?_
 rintro I hI ⟨i, z, ii⟩ w' ⟨hi, hz, hii, ho, hC⟩
 simp only at hi hz hii ho
 obtain ⟨ii', hii'⟩ : ∃ z, z = ii + 1 := ⟨_, rfl⟩
 conv => cbv
 refine st_len hE sINd fun x hx => ?_
 conv => cbv
 refine br (fun h1 => ?_) (fun h1 => ?_)
 ·have h1 : i < n := by have : ii < x := by simpa [hE.cmp, cmpR] using h1
                        omega
  have ei : E.ar .add .i64 ii 1 = ii' := by rw [hii']; exact inc' hE (by omega) (by omega)
  obtain ⟨y, hy⟩ : ∃ y, vs[i]? = some y := ⟨_, g2_ (by omega)⟩
  have hct := ctL_take (ct := ctNode) hy
  have hcl := ctL_le (ct := ctNode) vs (i + 1)
  have hcur := mkL_mid (mk := mkNode) (ct := ctNode) k0 hy
  have hfin := mkL_set (mk := mkNode) (ct := ctNode) k0 hy
  have hcy : ctNode y = 3 + y.m0 + y.m1 := rfl
  have hmem : ∀ a ∈ adr sbNode y, a ∈ roA sbNode A vs := fun a ha => List.mem_cons_of_mem _ (List.mem_flatMap.2 ⟨y, m1_ hy, ha⟩)
  obtain ⟨cur, hcr⟩ : ∃ cur, cur = mkL mkNode ctNode (vs.take i) k0 ++ vs.drop i := ⟨_, rfl⟩
  rw [← hcr] at ho hcur hfin
  have hcl2 : cur.length = n := ho.len cN_len (by omega)
  obtain ⟨⟨f0, f1, f2, x0, x1⟩, A0, m0, c0, A1, m1, c1⟩ := y
  simp only at hcy
  obtain ⟨gb, rfl, _⟩ := ho.row.addr (by omega)
  conv => cbv
  refine st_idx hE sINd rfl (by omega) (by omega) fun q hq => ?_
  rw [show ii.toNat = i by omega] at hq
  conv => cbv
  refine st_fld hE fINd0 fun p hp => ?_
  conv => cbv
  refine st_put hr (by kernel_rfl) ho.row (j := i * 5 + 0) (by rw [hp, hq, add_add]) (by rw [fl_len cN_len]; omega) rfl fun w3 hw3 ho3 => ?_
  replace ho := RO.put cN_len (x := ⟨⟨f0, f1, f2, x0, x1⟩, A0, m0, c0, A1, m1, c1⟩) (y := ⟨⟨z, f1, f2, x0, x1⟩, A0, m0, c0, A1, m1, c1⟩) ho hcur (by omega) rfl rfl hw3 ho3
  replace hC := hC.trans (CSt.of_wr hw3 (List.mem_cons_self ..))
  clear ho3 hw3 hp hq
  obtain ⟨z0, hz0⟩ : ∃ q, q = z + 1 := ⟨_, rfl⟩
  have e0 : E.ar .add .i64 z 1 = z0 := by rw [hz0, inc' hE (by omega) (by omega)]
  conv => cbv
  simp only [e0]
  conv => cbv
  conv => cbv
  refine st_idx hE sINd rfl (by omega) (by omega) fun q hq => ?_
  rw [show ii.toNat = i by omega] at hq
  conv => cbv
  refine st_fld hE fINd1 fun p hp => ?_
  conv => cbv
  refine st_put hr (by kernel_rfl) ho.row (j := i * 5 + 1) (by rw [hp, hq, add_add]) (by rw [fl_len cN_len, List.length_set]; omega) rfl fun w3 hw3 ho3 => ?_
  replace ho := RO.put cN_len (x := ⟨⟨z, f1, f2, x0, x1⟩, A0, m0, c0, A1, m1, c1⟩) (y := ⟨⟨z, z0, f2, x0, x1⟩, A0, m0, c0, A1, m1, c1⟩) ho (List.getElem?_set_self (by omega)) (by omega) rfl rfl hw3 ho3
  rw [List.set_set] at ho
  replace hC := hC.trans (CSt.of_wr hw3 (List.mem_cons_self ..))
  clear ho3 hw3 hp hq
  obtain ⟨z1, hz1⟩ : ∃ q, q = z0 + 1 := ⟨_, rfl⟩
  have e1 : E.ar .add .i64 z0 1 = z1 := by rw [hz1, inc' hE (by omega) (by omega)]
  conv => cbv
  simp only [e1]
  conv => cbv
  obtain ⟨u2, hu2⟩ : ∃ u, u = mkText z1 := ⟨_, rfl⟩
  refine st_v hr (v := .string u2) (by rw [hu2]; exact markText_v z1 _ (by omega)) fun w2 hx2 => ?_
  replace hC := hC.trans (CSt.of_ext hx2 _)
  replace ho := ho.ext hx2
  clear hx2
  conv => cbv
  refine st_idx hE sINd rfl (by omega) (by omega) fun q hq => ?_
  rw [show ii.toNat = i by omega] at hq
  conv => cbv
  refine st_fld hE fINd2 fun p hp => ?_
  conv => cbv
  refine st_put hr (by kernel_rfl) ho.row (j := i * 5 + 2) (by rw [hp, hq, add_add]) (by rw [fl_len cN_len, List.length_set]; omega) rfl fun w3 hw3 ho3 => ?_
  replace ho := RO.put cN_len (x := ⟨⟨z, z0, f2, x0, x1⟩, A0, m0, c0, A1, m1, c1⟩) (y := ⟨⟨z, z0, u2, x0, x1⟩, A0, m0, c0, A1, m1, c1⟩) ho (List.getElem?_set_self (by omega)) (by omega) rfl rfl hw3 ho3
  rw [List.set_set] at ho
  replace hC := hC.trans (CSt.of_wr hw3 (List.mem_cons_self ..))
  clear ho3 hw3 hp hq
  obtain ⟨z2, hz2⟩ : ∃ q, q = z1 + 1 := ⟨_, rfl⟩
  have e2 : E.ar .add .i64 z1 1 = z2 := by rw [hz2, inc' hE (by omega) (by omega)]
  conv => cbv
  simp only [e2]
  conv => cbv
  obtain ⟨aK, hAK, hcell⟩ := fl_at cN_len ho.row.cells (by omega) (show (cur.set i ⟨⟨z, z0, u2, x0, x1⟩, A0, m0, c0, A1, m1, c1⟩)[i]? = some ⟨⟨z, z0, u2, x0, x1⟩, A0, m0, c0, A1, m1, c1⟩ from List.getElem?_set_self (by omega))
  cases hAK
  refine st_idx hE sINd rfl (by omega) (by omega) fun q hq => ?_
  rw [show ii.toNat = i by omega] at hq
  conv => cbv
  refine st_fld hE fINd3 fun p hp => ?_
  conv => cbv
  refine st_load hE cStrs (by rw [hp, hq]; exact hcell 3 _ rfl) ?_
  conv => cbv
  clear hp hq hcell
  have hs0 := ho.sub ⟨⟨z, z0, u2, x0, x1⟩, A0, m0, c0, A1, m1, c1⟩ (m1_ (List.getElem?_set_self (by omega))) ⟨A0, m0, c0, 9, x0.map .string⟩ (by simp [sbNode])
  simp only at hs0
  have hm0 := markStringS_g hs0 z2 (by omega) (by omega)
  obtain ⟨z3, hz3⟩ : ∃ q : Int, q = z2 + (m0 : Int) := ⟨_, rfl⟩
  rw [← hz3] at hm0
  refine st_g hr hm0 fun v w4 ⟨ev, ho4, hw4⟩ => ?_
  subst ev
  replace ho := RO.putS (q := 0) (s := ⟨A0, m0, c0, 9, x0.map .string⟩) (s' := ⟨A0, m0, c0, 9, (marks z2 m0).map .string⟩) (x := ⟨⟨z, z0, u2, x0, x1⟩, A0, m0, c0, A1, m1, c1⟩) (y := ⟨⟨z, z0, u2, (marks z2 m0), x1⟩, A0, m0, c0, A1, m1, c1⟩) ho (List.getElem?_set_self (by omega)) rfl rfl rfl rfl hw4 ho4
  rw [List.set_set] at ho
  replace hC := hC.trans (CSt.of_wr hw4 (hmem _ (by simp [adr, sbNode])))
  clear ho4 hw4 hs0 hm0
  conv => cbv
  obtain ⟨aK, hAK, hcell⟩ := fl_at cN_len ho.row.cells (by omega) (show (cur.set i ⟨⟨z, z0, u2, (marks z2 m0), x1⟩, A0, m0, c0, A1, m1, c1⟩)[i]? = some ⟨⟨z, z0, u2, (marks z2 m0), x1⟩, A0, m0, c0, A1, m1, c1⟩ from List.getElem?_set_self (by omega))
  cases hAK
  refine st_idx hE sINd rfl (by omega) (by omega) fun q hq => ?_
  rw [show ii.toNat = i by omega] at hq
  conv => cbv
  refine st_fld hE fINd4 fun p hp => ?_
  conv => cbv
  refine st_load hE cInts1 (by rw [hp, hq]; exact hcell 4 _ rfl) ?_
  conv => cbv
  clear hp hq hcell
  have hs1 := ho.sub ⟨⟨z, z0, u2, (marks z2 m0), x1⟩, A0, m0, c0, A1, m1, c1⟩ (m1_ (List.getElem?_set_self (by omega))) ⟨A1, m1, c1, 3, x1.map (.int .i64)⟩ (by simp [sbNode])
  simp only at hs1
  have hm1 := markIntS_g hs1 z3 (by omega) (by omega)
  obtain ⟨z4, hz4⟩ : ∃ q : Int, q = z3 + (m1 : Int) := ⟨_, rfl⟩
  rw [← hz4] at hm1
  refine st_g hr hm1 fun v w4 ⟨ev, ho4, hw4⟩ => ?_
  subst ev
  replace ho := RO.putS (q := 1) (s := ⟨A1, m1, c1, 3, x1.map (.int .i64)⟩) (s' := ⟨A1, m1, c1, 3, (imarks z3 m1).map (.int .i64)⟩) (x := ⟨⟨z, z0, u2, (marks z2 m0), x1⟩, A0, m0, c0, A1, m1, c1⟩) (y := ⟨⟨z, z0, u2, (marks z2 m0), (imarks z3 m1)⟩, A0, m0, c0, A1, m1, c1⟩) ho (List.getElem?_set_self (by omega)) rfl rfl rfl rfl hw4 ho4
  rw [List.set_set] at ho
  replace hC := hC.trans (CSt.of_wr hw4 (hmem _ (by simp [adr, sbNode])))
  clear ho4 hw4 hs1 hm1
  conv => cbv
  simp only [ei]
  refine ⟨(i + 1, z4, ii'), by simp [Fits, lk], hI _ _ ⟨by simp only; omega, by simp only; rw [hct]; simp only [ctNode]; omega, by simp only; omega, ?_, hC⟩, by simp only; omega⟩
  simp only
  rw [← hfin]
  have ey : (⟨⟨z, z0, u2, (marks z2 m0), (imarks z3 m1)⟩, A0, m0, c0, A1, m1, c1⟩ : VN) = mkNode ⟨⟨f0, f1, f2, x0, x1⟩, A0, m0, c0, A1, m1, c1⟩ (k0 + ctL ctNode (vs.take i)) := by
   simp only [mkNode, hu2, VN.mk.injEq, PN.mk.injEq]
   rw [← hz]
   simp only [hz0, hz1, hz2, hz3, hz4, Int.add_assoc, and_self, and_true, true_and]
   try simp
   try (congr 1; omega)
  rw [← ey]
  exact ho
 ·have h1 : i = n := by
   have : ¬ ii < x := by simpa [hE.cmp, cmpR] using h1
   omega
  subst h1
  rw [List.drop_of_length_le (by omega), a7_, g3_ (by omega)] at ho
  rw [g3_ (by omega)] at hz
  conv => cbv
  rw [hR]; exact ⟨by rw [hz]; rfl, ho, hC⟩
theorem heldNodeS_f {w : World} {B : Nat} {A : Option Addr} {n c : Nat} {vs : List VN} {k0 : Int} (h : RO 90 5 cN sbNode B w A n c (mkL mkNode ctNode vs k0)) (hk : 0 ≤ k0) (hkn : k0 + ctL ctNode vs < 9223372036854775807) :
  FC Tryz.prog 58 [.slice A n c, .int .i64 k0] w fun v _ => v = .int .i64 (k0 + ctL ctNode vs) := by
 refine FC.intro (cs := []) Tryz.func58 (by kernel_rfl) fun E R hE hr hR => ?_
 have ec : ∀ z : Int, ¬ E.cmp .neq z z = true := fun z => by rw [hE.cmp]; simp [cmpR]
 have hnle := h.row.le
 have hl : vs.length = n := by have := h.len cN_len (by omega); rwa [mkL_len] at this
 conv => cbv
 refine loop_rule hr (fun (s : Nat × Int × Int) w' => s.1 ≤ n ∧ s.2.1 = k0 + ctL ctNode (vs.take s.1) ∧ s.2.2 = s.1 ∧ Ext w w') (fun s => [(0, .slice A n c), (1, .int .i64 s.2.1), (5, .int .i64 s.2.2)]) (fun s => n - s.1) (0, k0, 0)
  (by simp [Fits, lk]) ⟨by simp, by simp [ctL], by simp, Ext.refl _⟩ ?_
 rintro I hI ⟨i, z, ii⟩ w' ⟨hi, hz, hii, hx⟩
 simp only at hi hz hii
 obtain ⟨ii', hii'⟩ : ∃ z, z = ii + 1 := ⟨_, rfl⟩
 conv => cbv
 refine st_len hE sINd fun x hxl => ?_
 conv => cbv
 refine br (fun h1 => ?_) (fun h1 => ?_)
 ·have h1 : i < n := by have : ii < x := by simpa [hE.cmp, cmpR] using h1
                        omega
  have ei : E.ar .add .i64 ii 1 = ii' := by rw [hii']; exact inc' hE (by omega) (by omega)
  obtain ⟨v0, hv0⟩ : ∃ y, vs[i]? = some y := ⟨_, g2_ (by omega)⟩
  have hct := ctL_take (ct := ctNode) hv0
  have hcl := ctL_le (ct := ctNode) vs (i + 1)
  have hg := mkL_get (mk := mkNode) (ct := ctNode) k0 hv0
  have hcy : ctNode v0 = 3 + v0.m0 + v0.m1 := rfl
  rw [← hz] at hg
  obtain ⟨y, hy⟩ : ∃ y, y = mkNode v0 z := ⟨_, rfl⟩
  rw [← hy] at hg
  have hsub := h.sub y (m1_ hg)
  obtain ⟨aK, hAK, _⟩ := fl_at cN_len (h.row.cells.ext hx) (by omega) hg
  have hc : ∀ w2, Ext w w2 → ∀ j v, (cN y)[j]? = some v → w2.cell? ((aK.add (i * 5)).add j) = some v := fun w2 hx2 => by
   obtain ⟨a', hA', hc'⟩ := fl_at cN_len (h.row.cells.ext hx2) (by omega) hg
   rw [hAK] at hA'; cases hA'; exact hc'
  obtain ⟨⟨f0, f1, f2, x0, x1⟩, A0, m0, c0, A1, m1, c1⟩ := y
  simp only [mkNode, VN.mk.injEq, PN.mk.injEq] at hy
  obtain ⟨⟨d0, d1, d2, d3, d4⟩, rA0, rm0, rc0, rA1, rm1, rc1⟩ := hy
  have g0 : f0 = z := by omega
  conv => cbv
  refine st_idx hE sINd hAK (by omega) (by omega) fun q hq => ?_
  rw [show ii.toNat = i by omega] at hq
  conv => cbv
  refine st_fld hE fINd0 fun p hp => ?_
  conv => cbv
  refine st_load hE cInt (v := .int .i64 z) (by rw [hp, hq, ← g0]; exact hc _ hx _ _ rfl) ?_
  conv => cbv
  refine br (fun g => absurd g (ec _)) (fun _ => ?_)
  obtain ⟨z0, hz0⟩ : ∃ q, q = z + 1 := ⟨_, rfl⟩
  have e0 : E.ar .add .i64 z 1 = z0 := by rw [hz0, inc' hE (by omega) (by omega)]
  conv => cbv
  simp only [e0]
  have g1 : f1 = z0 := by omega
  conv => cbv
  refine st_idx hE sINd hAK (by omega) (by omega) fun q hq => ?_
  rw [show ii.toNat = i by omega] at hq
  conv => cbv
  refine st_fld hE fINd1 fun p hp => ?_
  conv => cbv
  refine st_load hE cI64 (v := .int .i64 z0) (by rw [hp, hq, ← g1]; exact hc _ hx _ _ rfl) ?_
  conv => cbv
  refine br (fun g => absurd g (ec _)) (fun _ => ?_)
  obtain ⟨z1, hz1⟩ : ∃ q, q = z0 + 1 := ⟨_, rfl⟩
  have e1 : E.ar .add .i64 z0 1 = z1 := by rw [hz1, inc' hE (by omega) (by omega)]
  conv => cbv
  simp only [e1]
  have g2 : f2 = mkText z1 := by rw [d2]; congr 1; omega
  conv => cbv
  refine draw_x hr fol (by kernel_rfl) fun E' hE' hX => ?_
  conv => cbv
  refine st_idx hE' sINd hAK (by omega) (by omega) fun q hq => ?_
  rw [show ii.toNat = i by omega] at hq
  conv => cbv
  refine st_fld hE' fINd2 fun p hp => ?_
  conv => cbv
  refine st_load hE' cStr (v := .string f2) (by rw [hp, hq]; exact hc _ hx _ _ rfl) ?_
  conv => cbv
  refine st_vx hX (v := .string f2) (by rw [g2]; exact markText_v z1 _ (by omega)) ?_
  conv => cbv
  intro w2 hx2
  replace hx := hx.trans hx2
  have hne : ¬ E'.scmp .neq f2 f2 = true := by rw [hE'.scmp, scmp_neq]; simp
  clear hx2
  conv => cbv
  refine br (fun h2 => absurd h2 hne) (fun _ => ?_)
  clear hne hE' hX
  obtain ⟨z2, hz2⟩ : ∃ q, q = z1 + 1 := ⟨_, rfl⟩
  have e2 : E.ar .add .i64 z1 1 = z2 := by rw [hz2, inc' hE (by omega) (by omega)]
  conv => cbv
  simp only [e2]
  have g3 : x0 = marks z2 m0 := by rw [d3, rm0]; congr 1; omega
  have hs0 := hsub ⟨A0, m0, c0, 9, x0.map .string⟩ (by simp [sbNode])
  simp only at hs0
  rw [g3] at hs0
  conv => cbv
  refine st_idx hE sINd hAK (by omega) (by omega) fun q hq => ?_
  rw [show ii.toNat = i by omega] at hq
  conv => cbv
  refine st_fld hE fINd3 fun p hp => ?_
  conv => cbv
  refine st_load hE cStrs (v := .slice A0 m0 c0) (by rw [hp, hq]; exact hc _ hx _ _ rfl) ?_
  conv => cbv
  have hh0 := heldStringS_v (k := z2) ((hs0.strs (marks_small (by omega))).ext hx) (by omega) (by omega)
  obtain ⟨z3, hz3⟩ : ∃ q : Int, q = z2 + (m0 : Int) := ⟨_, rfl⟩
  rw [← hz3] at hh0
  refine st_v hr hh0 fun w2 hx2 => ?_
  replace hx := hx.trans hx2
  clear hx2
  conv => cbv
  refine br (fun g => absurd (show z3 < 0 by simpa [hE.cmp, cmpR] using g) (by omega)) (fun _ => ?_)
  have g4 : x1 = imarks z3 m1 := by rw [d4, rm1]; congr 1; omega
  have hs1 := hsub ⟨A1, m1, c1, 3, x1.map (.int .i64)⟩ (by simp [sbNode])
  simp only at hs1
  rw [g4] at hs1
  conv => cbv
  refine st_idx hE sINd hAK (by omega) (by omega) fun q hq => ?_
  rw [show ii.toNat = i by omega] at hq
  conv => cbv
  refine st_fld hE fINd4 fun p hp => ?_
  conv => cbv
  refine st_load hE cInts1 (v := .slice A1 m1 c1) (by rw [hp, hq]; exact hc _ hx _ _ rfl) ?_
  conv => cbv
  have hh1 := heldIntS_v (k := z3) (ints_of_own (hs1.bel hx)) (by omega) (by omega)
  obtain ⟨z4, hz4⟩ : ∃ q : Int, q = z3 + (m1 : Int) := ⟨_, rfl⟩
  rw [← hz4] at hh1
  refine st_v hr hh1 fun w2 hx2 => ?_
  replace hx := hx.trans hx2
  clear hx2
  conv => cbv
  refine br (fun g => absurd (show z4 < 0 by simpa [hE.cmp, cmpR] using g) (by omega)) (fun _ => ?_)
  conv => cbv
  simp only [ei]
  exact ⟨(i + 1, z4, ii'), by simp [Fits, lk], hI _ _ ⟨by simp only; omega, by simp only; rw [hct, hcy]; omega, by simp only; omega, hx⟩, by simp only; omega⟩
 ·have h1 : i = n := by
   have : ¬ ii < x := by simpa [hE.cmp, cmpR] using h1
   omega
  subst h1
  rw [g3_ (by omega)] at hz
  conv => cbv
  rw [hR]; exact ⟨hx, by rw [hz]; rfl⟩
def sbStmt (v : PS) : List Sub := []
def mkStmt (v : PS) (z : Int) : PS := ⟨z, mkText (z + 1), z + 2, z + 3⟩
def ctStmt (v : PS) : Nat := 4
theorem markStmtS_g {w : World} {B : Nat} {A : Option Addr} {n c : Nat} {vs : List PS} (h : RO 155 4 cS sbStmt B w A n c vs) (k0 : Int) (hk : 0 ≤ k0) (hkn : k0 + ctL ctStmt vs < 9223372036854775807) :
  GC Tryz.prog 56 [.slice A n c, .int .i64 k0] w fun v w' => v = .int .i64 (k0 + ctL ctStmt vs) ∧ RO 155 4 cS sbStmt B w' A n c (mkL mkStmt ctStmt vs k0) ∧ CSt w (roA sbStmt A vs) w' (roA sbStmt A vs) := by
 refine GC.intro (cs := []) Tryz.func56 (by kernel_rfl) fun E R hE hr hR => ?_
 have hl : vs.length = n := h.len cS_len (by omega)
 have hnle := h.row.le
 conv => cbv
 refine loop_rule hr (fun (s : Nat × Int × Int) w' => s.1 ≤ n ∧ s.2.1 = k0 + ctL ctStmt (vs.take s.1) ∧ s.2.2 = s.1 ∧ RO 155 4 cS sbStmt B w' A n c (mkL mkStmt ctStmt (vs.take s.1) k0 ++ vs.drop s.1) ∧ CSt w (roA sbStmt A vs) w' (roA sbStmt A vs)) (fun s => [(0, .slice A n c), (1, .int .i64 s.2.1), (5, .int .i64 s.2.2)]) (fun s => n - s.1) (0, k0, 0)
  (by simp [Fits, lk]) ⟨by simp, by simp [ctL], by simp, by simpa [mkL] using h, CSt.refl _ _⟩ ?_
 rintro I hI ⟨i, z, ii⟩ w' ⟨hi, hz, hii, ho, hC⟩
 simp only at hi hz hii ho
 obtain ⟨ii', hii'⟩ : ∃ z, z = ii + 1 := ⟨_, rfl⟩
 conv => cbv
 refine st_len hE sISd fun x hx => ?_
 conv => cbv
 refine br (fun h1 => ?_) (fun h1 => ?_)
 ·have h1 : i < n := by have : ii < x := by simpa [hE.cmp, cmpR] using h1
                        omega
  have ei : E.ar .add .i64 ii 1 = ii' := by rw [hii']; exact inc' hE (by omega) (by omega)
  obtain ⟨y, hy⟩ : ∃ y, vs[i]? = some y := ⟨_, g2_ (by omega)⟩
  have hct := ctL_take (ct := ctStmt) hy
  have hcl := ctL_le (ct := ctStmt) vs (i + 1)
  have hcur := mkL_mid (mk := mkStmt) (ct := ctStmt) k0 hy
  have hfin := mkL_set (mk := mkStmt) (ct := ctStmt) k0 hy
  have hcy : ctStmt y = 4 := rfl
  have hmem : ∀ a ∈ adr sbStmt y, a ∈ roA sbStmt A vs := fun a ha => List.mem_cons_of_mem _ (List.mem_flatMap.2 ⟨y, m1_ hy, ha⟩)
  obtain ⟨cur, hcr⟩ : ∃ cur, cur = mkL mkStmt ctStmt (vs.take i) k0 ++ vs.drop i := ⟨_, rfl⟩
  rw [← hcr] at ho hcur hfin
  have hcl2 : cur.length = n := ho.len cS_len (by omega)
  obtain ⟨f0, f1, f2, f3⟩ := y
  obtain ⟨gb, rfl, _⟩ := ho.row.addr (by omega)
  conv => cbv
  refine st_idx hE sISd rfl (by omega) (by omega) fun q hq => ?_
  rw [show ii.toNat = i by omega] at hq
  conv => cbv
  refine st_fld hE fISd0 fun p hp => ?_
  conv => cbv
  refine st_put hr (by kernel_rfl) ho.row (j := i * 4 + 0) (by rw [hp, hq, add_add]) (by rw [fl_len cS_len]; omega) rfl fun w3 hw3 ho3 => ?_
  replace ho := RO.put cS_len (x := ⟨f0, f1, f2, f3⟩) (y := ⟨z, f1, f2, f3⟩) ho hcur (by omega) rfl rfl hw3 ho3
  replace hC := hC.trans (CSt.of_wr hw3 (List.mem_cons_self ..))
  clear ho3 hw3 hp hq
  obtain ⟨z0, hz0⟩ : ∃ q, q = z + 1 := ⟨_, rfl⟩
  have e0 : E.ar .add .i64 z 1 = z0 := by rw [hz0, inc' hE (by omega) (by omega)]
  conv => cbv
  simp only [e0]
  conv => cbv
  obtain ⟨u1, hu1⟩ : ∃ u, u = mkText z0 := ⟨_, rfl⟩
  refine st_v hr (v := .string u1) (by rw [hu1]; exact markText_v z0 _ (by omega)) fun w2 hx2 => ?_
  replace hC := hC.trans (CSt.of_ext hx2 _)
  replace ho := ho.ext hx2
  clear hx2
  conv => cbv
  refine st_idx hE sISd rfl (by omega) (by omega) fun q hq => ?_
  rw [show ii.toNat = i by omega] at hq
  conv => cbv
  refine st_fld hE fISd1 fun p hp => ?_
  conv => cbv
  refine st_put hr (by kernel_rfl) ho.row (j := i * 4 + 1) (by rw [hp, hq, add_add]) (by rw [fl_len cS_len, List.length_set]; omega) rfl fun w3 hw3 ho3 => ?_
  replace ho := RO.put cS_len (x := ⟨z, f1, f2, f3⟩) (y := ⟨z, u1, f2, f3⟩) ho (List.getElem?_set_self (by omega)) (by omega) rfl rfl hw3 ho3
  rw [List.set_set] at ho
  replace hC := hC.trans (CSt.of_wr hw3 (List.mem_cons_self ..))
  clear ho3 hw3 hp hq
  obtain ⟨z1, hz1⟩ : ∃ q, q = z0 + 1 := ⟨_, rfl⟩
  have e1 : E.ar .add .i64 z0 1 = z1 := by rw [hz1, inc' hE (by omega) (by omega)]
  conv => cbv
  simp only [e1]
  conv => cbv
  conv => cbv
  refine st_idx hE sISd rfl (by omega) (by omega) fun q hq => ?_
  rw [show ii.toNat = i by omega] at hq
  conv => cbv
  refine st_fld hE fISd2 fun p hp => ?_
  conv => cbv
  refine st_put hr (by kernel_rfl) ho.row (j := i * 4 + 2) (by rw [hp, hq, add_add]) (by rw [fl_len cS_len, List.length_set]; omega) rfl fun w3 hw3 ho3 => ?_
  replace ho := RO.put cS_len (x := ⟨z, u1, f2, f3⟩) (y := ⟨z, u1, z1, f3⟩) ho (List.getElem?_set_self (by omega)) (by omega) rfl rfl hw3 ho3
  rw [List.set_set] at ho
  replace hC := hC.trans (CSt.of_wr hw3 (List.mem_cons_self ..))
  clear ho3 hw3 hp hq
  obtain ⟨z2, hz2⟩ : ∃ q, q = z1 + 1 := ⟨_, rfl⟩
  have e2 : E.ar .add .i64 z1 1 = z2 := by rw [hz2, inc' hE (by omega) (by omega)]
  conv => cbv
  simp only [e2]
  conv => cbv
  conv => cbv
  refine st_idx hE sISd rfl (by omega) (by omega) fun q hq => ?_
  rw [show ii.toNat = i by omega] at hq
  conv => cbv
  refine st_fld hE fISd3 fun p hp => ?_
  conv => cbv
  refine st_put hr (by kernel_rfl) ho.row (j := i * 4 + 3) (by rw [hp, hq, add_add]) (by rw [fl_len cS_len, List.length_set]; omega) rfl fun w3 hw3 ho3 => ?_
  replace ho := RO.put cS_len (x := ⟨z, u1, z1, f3⟩) (y := ⟨z, u1, z1, z2⟩) ho (List.getElem?_set_self (by omega)) (by omega) rfl rfl hw3 ho3
  rw [List.set_set] at ho
  replace hC := hC.trans (CSt.of_wr hw3 (List.mem_cons_self ..))
  clear ho3 hw3 hp hq
  obtain ⟨z3, hz3⟩ : ∃ q, q = z2 + 1 := ⟨_, rfl⟩
  have e3 : E.ar .add .i64 z2 1 = z3 := by rw [hz3, inc' hE (by omega) (by omega)]
  conv => cbv
  simp only [e3]
  conv => cbv
  simp only [ei]
  refine ⟨(i + 1, z3, ii'), by simp [Fits, lk], hI _ _ ⟨by simp only; omega, by simp only; rw [hct]; simp only [ctStmt]; omega, by simp only; omega, ?_, hC⟩, by simp only; omega⟩
  simp only
  rw [← hfin]
  have ey : (⟨z, u1, z1, z2⟩ : PS) = mkStmt ⟨f0, f1, f2, f3⟩ (k0 + ctL ctStmt (vs.take i)) := by
   simp only [mkStmt, hu1, PS.mk.injEq]
   rw [← hz]
   simp only [hz0, hz1, hz2, hz3, Int.add_assoc, and_self, and_true, true_and]
   try simp
   try (congr 1; omega)
  rw [← ey]
  exact ho
 ·have h1 : i = n := by
   have : ¬ ii < x := by simpa [hE.cmp, cmpR] using h1
   omega
  subst h1
  rw [List.drop_of_length_le (by omega), a7_, g3_ (by omega)] at ho
  rw [g3_ (by omega)] at hz
  conv => cbv
  rw [hR]; exact ⟨by rw [hz]; rfl, ho, hC⟩
theorem heldStmtS_f {w : World} {B : Nat} {A : Option Addr} {n c : Nat} {vs : List PS} {k0 : Int} (h : RO 155 4 cS sbStmt B w A n c (mkL mkStmt ctStmt vs k0)) (hk : 0 ≤ k0) (hkn : k0 + ctL ctStmt vs < 9223372036854775807) :
  FC Tryz.prog 59 [.slice A n c, .int .i64 k0] w fun v _ => v = .int .i64 (k0 + ctL ctStmt vs) := by
 refine FC.intro (cs := []) Tryz.func59 (by kernel_rfl) fun E R hE hr hR => ?_
 have ec : ∀ z : Int, ¬ E.cmp .neq z z = true := fun z => by rw [hE.cmp]; simp [cmpR]
 have hnle := h.row.le
 have hl : vs.length = n := by have := h.len cS_len (by omega); rwa [mkL_len] at this
 conv => cbv
 refine loop_rule hr (fun (s : Nat × Int × Int) w' => s.1 ≤ n ∧ s.2.1 = k0 + ctL ctStmt (vs.take s.1) ∧ s.2.2 = s.1 ∧ Ext w w') (fun s => [(0, .slice A n c), (1, .int .i64 s.2.1), (5, .int .i64 s.2.2)]) (fun s => n - s.1) (0, k0, 0)
  (by simp [Fits, lk]) ⟨by simp, by simp [ctL], by simp, Ext.refl _⟩ ?_
 rintro I hI ⟨i, z, ii⟩ w' ⟨hi, hz, hii, hx⟩
 simp only at hi hz hii
 obtain ⟨ii', hii'⟩ : ∃ z, z = ii + 1 := ⟨_, rfl⟩
 conv => cbv
 refine st_len hE sISd fun x hxl => ?_
 conv => cbv
 refine br (fun h1 => ?_) (fun h1 => ?_)
 ·have h1 : i < n := by have : ii < x := by simpa [hE.cmp, cmpR] using h1
                        omega
  have ei : E.ar .add .i64 ii 1 = ii' := by rw [hii']; exact inc' hE (by omega) (by omega)
  obtain ⟨v0, hv0⟩ : ∃ y, vs[i]? = some y := ⟨_, g2_ (by omega)⟩
  have hct := ctL_take (ct := ctStmt) hv0
  have hcl := ctL_le (ct := ctStmt) vs (i + 1)
  have hg := mkL_get (mk := mkStmt) (ct := ctStmt) k0 hv0
  have hcy : ctStmt v0 = 4 := rfl
  rw [← hz] at hg
  obtain ⟨y, hy⟩ : ∃ y, y = mkStmt v0 z := ⟨_, rfl⟩
  rw [← hy] at hg
  have hsub := h.sub y (m1_ hg)
  obtain ⟨aK, hAK, _⟩ := fl_at cS_len (h.row.cells.ext hx) (by omega) hg
  have hc : ∀ w2, Ext w w2 → ∀ j v, (cS y)[j]? = some v → w2.cell? ((aK.add (i * 4)).add j) = some v := fun w2 hx2 => by
   obtain ⟨a', hA', hc'⟩ := fl_at cS_len (h.row.cells.ext hx2) (by omega) hg
   rw [hAK] at hA'; cases hA'; exact hc'
  obtain ⟨f0, f1, f2, f3⟩ := y
  simp only [mkStmt, PS.mk.injEq] at hy
  obtain ⟨d0, d1, d2, d3⟩ := hy
  have g0 : f0 = z := by omega
  conv => cbv
  refine st_idx hE sISd hAK (by omega) (by omega) fun q hq => ?_
  rw [show ii.toNat = i by omega] at hq
  conv => cbv
  refine st_fld hE fISd0 fun p hp => ?_
  conv => cbv
  refine st_load hE cInt (v := .int .i64 z) (by rw [hp, hq, ← g0]; exact hc _ hx _ _ rfl) ?_
  conv => cbv
  refine br (fun g => absurd g (ec _)) (fun _ => ?_)
  obtain ⟨z0, hz0⟩ : ∃ q, q = z + 1 := ⟨_, rfl⟩
  have e0 : E.ar .add .i64 z 1 = z0 := by rw [hz0, inc' hE (by omega) (by omega)]
  conv => cbv
  simp only [e0]
  have g1 : f1 = mkText z0 := by rw [d1]; congr 1; omega
  conv => cbv
  refine draw_x hr fol (by kernel_rfl) fun E' hE' hX => ?_
  conv => cbv
  refine st_idx hE' sISd hAK (by omega) (by omega) fun q hq => ?_
  rw [show ii.toNat = i by omega] at hq
  conv => cbv
  refine st_fld hE' fISd1 fun p hp => ?_
  conv => cbv
  refine st_load hE' cStr (v := .string f1) (by rw [hp, hq]; exact hc _ hx _ _ rfl) ?_
  conv => cbv
  refine st_vx hX (v := .string f1) (by rw [g1]; exact markText_v z0 _ (by omega)) ?_
  conv => cbv
  intro w2 hx2
  replace hx := hx.trans hx2
  have hne : ¬ E'.scmp .neq f1 f1 = true := by rw [hE'.scmp, scmp_neq]; simp
  clear hx2
  conv => cbv
  refine br (fun h2 => absurd h2 hne) (fun _ => ?_)
  clear hne hE' hX
  obtain ⟨z1, hz1⟩ : ∃ q, q = z0 + 1 := ⟨_, rfl⟩
  have e1 : E.ar .add .i64 z0 1 = z1 := by rw [hz1, inc' hE (by omega) (by omega)]
  conv => cbv
  simp only [e1]
  have g2 : f2 = z1 := by omega
  conv => cbv
  refine st_idx hE sISd hAK (by omega) (by omega) fun q hq => ?_
  rw [show ii.toNat = i by omega] at hq
  conv => cbv
  refine st_fld hE fISd2 fun p hp => ?_
  conv => cbv
  refine st_load hE cInt (v := .int .i64 z1) (by rw [hp, hq, ← g2]; exact hc _ hx _ _ rfl) ?_
  conv => cbv
  refine br (fun g => absurd g (ec _)) (fun _ => ?_)
  obtain ⟨z2, hz2⟩ : ∃ q, q = z1 + 1 := ⟨_, rfl⟩
  have e2 : E.ar .add .i64 z1 1 = z2 := by rw [hz2, inc' hE (by omega) (by omega)]
  conv => cbv
  simp only [e2]
  have g3 : f3 = z2 := by omega
  conv => cbv
  refine st_idx hE sISd hAK (by omega) (by omega) fun q hq => ?_
  rw [show ii.toNat = i by omega] at hq
  conv => cbv
  refine st_fld hE fISd3 fun p hp => ?_
  conv => cbv
  refine st_load hE cInt (v := .int .i64 z2) (by rw [hp, hq, ← g3]; exact hc _ hx _ _ rfl) ?_
  conv => cbv
  refine br (fun g => absurd g (ec _)) (fun _ => ?_)
  obtain ⟨z3, hz3⟩ : ∃ q, q = z2 + 1 := ⟨_, rfl⟩
  have e3 : E.ar .add .i64 z2 1 = z3 := by rw [hz3, inc' hE (by omega) (by omega)]
  conv => cbv
  simp only [e3]
  conv => cbv
  simp only [ei]
  exact ⟨(i + 1, z3, ii'), by simp [Fits, lk], hI _ _ ⟨by simp only; omega, by simp only; rw [hct, hcy]; omega, by simp only; omega, hx⟩, by simp only; omega⟩
 ·have h1 : i = n := by
   have : ¬ ii < x := by simpa [hE.cmp, cmpR] using h1
   omega
  subst h1
  rw [g3_ (by omega)] at hz
  conv => cbv
  rw [hR]; exact ⟨hx, by rw [hz]; rfl⟩
theorem eqTyped_f {w : World} {A A2 A3 B B2 B3 : Option Addr} {n c n2 c2 n3 c3 d d2 d3 : Nat} {nv : List PN} {sv : List PS} {tyl : List Int} (h : TypR w A n A2 n2 A3 n3 c3 nv sv tyl) (h' : TypR w B n B2 n2 B3 n3 d3 nv sv tyl) (hn : n ≤ 9223372036854775807) (hn2 : n2 ≤ 9223372036854775807) :
  FC Tryz.prog 11 [typV A n c A2 n2 c2 A3 n3 c3, typV B n d B2 n2 d2 B3 n3 d3] w fun v _ => v = .bool true := by
 refine FC.intro (cs := []) Tryz.func11 (by kernel_rfl) fun E R hE hr hR => ?_
 conv => cbv
 refine st_box hr fun a w1 hx ha0 => ?_
 have ha := ha0 _ (n1_ _)
 conv => cbv
 refine st_box hr fun b w2 hx2 hb0 => ?_
 have hb := hb0 _ hx.size
 replace ha := ha.bel hx2
 replace hx := hx.trans hx2
 clear ha0 hb0
 conv => cbv
 (refine st_fld hE fITyp0 fun p hp => ?_; (conv => cbv); refine st_load hE cINs (by rw [hp]; exact (ha).at _ _ rfl) ?_; (conv => cbv))
 (refine st_fld hE fITyp0 fun p hp => ?_; (conv => cbv); refine st_load hE cINs (by rw [hp]; exact (hb).at _ _ rfl) ?_; (conv => cbv))
 refine st_f hr (eqNodeS_f (h.pol.nodes.ext hx) (h'.pol.nodes.ext hx) hn) fun v w3 hx3 ev => ?_
 subst ev
 replace ha := ha.bel hx3
 replace hb := hb.bel hx3
 replace hx := hx.trans hx3
 conv => cbv
 (refine st_fld hE fITyp1 fun p hp => ?_; (conv => cbv); refine st_load hE cISs (by rw [hp]; exact (ha).at _ _ rfl) ?_; (conv => cbv))
 (refine st_fld hE fITyp1 fun p hp => ?_; (conv => cbv); refine st_load hE cISs (by rw [hp]; exact (hb).at _ _ rfl) ?_; (conv => cbv))
 refine st_f hr (eqStmtS_f (h.pol.stmts.ext hx) (h'.pol.stmts.ext hx) hn2) fun v w4 hx4 ev => ?_
 subst ev
 replace ha := ha.bel hx4
 replace hb := hb.bel hx4
 replace hx := hx.trans hx4
 conv => cbv
 (refine st_fld hE fITyp2 fun p hp => ?_; (conv => cbv); refine st_load hE cInts (by rw [hp]; exact (ha).at _ _ rfl) ?_; (conv => cbv))
 (refine st_fld hE fITyp2 fun p hp => ?_; (conv => cbv); refine st_load hE cInts (by rw [hp]; exact (hb).at _ _ rfl) ?_; (conv => cbv))
 refine st_qb hE (eqIntS_q (h.tys.ext hx) (h'.tys.ext hx)) fun b hb2 w5 hs5 => ?_
 obtain rfl : b = true := hb2.2 rfl
 conv => cbv
 rw [hR]; exact ⟨hx.trans hs5.ext, rfl⟩
theorem DJ.snoc {A : Option Addr} {ls : List (List (Option Addr))} {n : List (Option Addr)} (h : DJ A ls) (h1 : ∀ a ∈ n, Dj A a) (h2 : n.Pairwise Dj) (h3 : ∀ l ∈ ls, ∀ b ∈ n, ∀ a ∈ l, Dj a b) : DJ A (ls ++ [n]) := by
 refine ⟨fun l hl => ?_, fun l hl => ?_, List.pairwise_append.2 ⟨h.pw, by simp, fun la hla lb hlb a ha b hb => ?_⟩⟩
 ·rcases List.mem_append.1 hl with hl | hl
  ·exact h.rowd l hl
  ·simp at hl; subst hl; exact h1
 ·rcases List.mem_append.1 hl with hl | hl
  ·exact h.own l hl
  ·simp at hl; subst hl; exact h2
 ·simp at hlb; subst hlb; exact h3 la hla b hb a ha
structure OT (B : Nat) (w : World) (A : Option Addr) (n c : Nat) (A2 : Option Addr) (n2 c2 : Nat) (A3 : Option Addr) (n3 c3 : Nat) (vs : List VN) (sv : List PS) (tyl : List Int) : Prop where
 nd : RO 90 5 cN sbNode B w A n c vs
 st : Own B 155 4 w A2 n2 c2 (sv.flatMap cS)
 ty : Own B 3 1 w A3 n3 c3 (tyl.map (.int .i64))
 d12 : ∀ r ∈ roA sbNode A vs, Dj r A2
 d13 : ∀ r ∈ roA sbNode A vs, Dj r A3
 d23 : Dj A2 A3
theorem RO.above {α : Type} {e : TypeId} {k : Nat} {f : α → List Value} {sb : α → List Sub} {B : Nat} {w w' : World} {A : Option Addr} {n c : Nat} {vs : List α} (h : RO e k f sb B w A n c vs) (ha : Above B w w') : RO e k f sb B w' A n c vs := ⟨h.row.above ha, fun v hv s hs => (h.sub v hv s hs).above ha, h.dj⟩
theorem toNodeO_f {w : World} (v : VN) (h : OKN w v) (b_xs : v.m0 ≤ 1048576) (b_ks : v.m1 ≤ 1048576) :
  FC Tryz.prog 97 [.agg ⟨cN v⟩] w fun u w' => ∃ B0 n0 d0 B1 n1 d1, u = .agg ⟨[.int .i64 v.p.o, .int .i64 v.p.z, .string v.p.tx, .slice B0 n0 d0, .slice B1 n1 d1]⟩ ∧ Own w.heap.size 9 1 w' B0 n0 d0 (v.p.xs.map (.string)) ∧ Own w.heap.size 3 1 w' B1 n1 d1 (v.p.ks.map (.int .i64)) ∧ Dj B0 B1 := by
 refine FC.intro (cs := []) Tryz.func97 (by kernel_rfl) fun E R hE hr hR => ?_
 obtain ⟨⟨o, z, tx, xs, ks⟩, A0, m0, c0, A1, m1, c1⟩ := v
 have r_xs := h.r_xs
 have r_ks := h.r_ks
 clear h
 simp only at r_xs b_xs r_ks b_ks hR
 conv => cbv
 refine st_box hr fun a w1 hx hb0 => ?_
 have hb := hb0 _ (n1_ _)
 conv => cbv
 refine st_alloc hr tINd rfl fun oo w2 hx2 ho0 => ?_
 have ho := ho0 _ hx.size
 have hb := hb.bel hx2
 have hx := hx.trans hx2
 conv => cbv
 refine st_alloc hr tINd rfl fun q w3 hx3 hq0 => ?_
 have hq := hq0 _ hx.size
 have aq := (hb.apart (hq0 _ (n1_ _)) (n1_ _)).1
 have oq := (ho.apart (hq0 _ (n1_ _)) (n1_ _)).1
 have hb := hb.bel hx3
 have ho := ho.bel hx3
 have hx := hx.trans hx3
 clear hb0 ho0 hq0
 conv => cbv
 (refine st_fld hE fLNd0 fun p hp => ?_; (conv => cbv); refine st_load hE cInt (by rw [hp]; exact (hb).at _ _ rfl) ?_; (conv => cbv))
 (refine st_fld hE fINd0 fun p hp => ?_; (conv => cbv); refine st_put hr zInt hq hp (by simp) rfl fun wn hw hq2 => ?_; replace hx := hx.then (hw.bel hq hx.size); (try clear hq); (have hq := hq2); clear hq2; (simp only [b4_, b5_] at hq); clear hp)
 replace hb := hb.wr hw aq
 replace ho := ho.wr hw oq
 conv => cbv
 (refine st_fld hE fLNd1 fun p hp => ?_; (conv => cbv); refine st_load hE cI64 (by rw [hp]; exact (hb).at _ _ rfl) ?_; (conv => cbv))
 (refine st_fld hE fINd1 fun p hp => ?_; (conv => cbv); refine st_put hr zI64 hq hp (by simp) rfl fun wn hw hq2 => ?_; replace hx := hx.then (hw.bel hq hx.size); (try clear hq); (have hq := hq2); clear hq2; (simp only [b4_, b5_] at hq); clear hp)
 replace hb := hb.wr hw aq
 replace ho := ho.wr hw oq
 conv => cbv
 (refine st_fld hE fLNd2 fun p hp => ?_; (conv => cbv); refine st_load hE cStr (by rw [hp]; exact (hb).at _ _ rfl) ?_; (conv => cbv))
 (refine st_fld hE fINd2 fun p hp => ?_; (conv => cbv); refine st_put hr zStr hq hp (by simp) rfl fun wn hw hq2 => ?_; replace hx := hx.then (hw.bel hq hx.size); (try clear hq); (have hq := hq2); clear hq2; (simp only [b4_, b5_] at hq); clear hp)
 replace hb := hb.wr hw aq
 replace ho := ho.wr hw oq
 conv => cbv
 (refine st_fld hE fLNd3 fun p hp => ?_; (conv => cbv); refine st_load hE cStrs (by rw [hp]; exact (hb).at _ _ rfl) ?_; (conv => cbv))
 refine st_f hr (toStringS_f (r_xs.ext hx) b_xs) fun u ww hxx ⟨B0, n0, d0, ev, hcp, o_xs⟩ => ?_
 clear hcp
 subst ev
 have ax_xs := (hq.apart o_xs (n1_ _)).2
 have bx_xs := (ho.apart o_xs (n1_ _)).2
 replace o_xs := o_xs.mono hx.size
 replace hb := hb.bel hxx
 replace ho := ho.bel hxx
 replace hq := hq.bel hxx
 replace hx := hx.trans hxx
 clear hxx
 conv => cbv
 (refine st_fld hE fINd3 fun p hp => ?_; (conv => cbv); refine st_put hr zStrs hq hp (by simp) rfl fun wn hw hq2 => ?_; replace hx := hx.then (hw.bel hq hx.size); (try clear hq); (have hq := hq2); clear hq2; (simp only [b4_, b5_] at hq); clear hp)
 replace hb := hb.wr hw aq
 replace ho := ho.wr hw oq
 replace o_xs := o_xs.wr hw ax_xs
 conv => cbv
 (refine st_fld hE fLNd4 fun p hp => ?_; (conv => cbv); refine st_load hE cInts (by rw [hp]; exact (hb).at _ _ rfl) ?_; (conv => cbv))
 refine st_f hr (toIntS_f (r_ks.ext hx) b_ks) fun u ww hxx ⟨B1, d1, ev, o_ks⟩ => ?_
 have djk : Dj B0 B1 := dj_new o_xs o_ks (n1_ _)
 subst ev
 have ax_ks := (hq.apart o_ks (n1_ _)).2
 have bx_ks := (ho.apart o_ks (n1_ _)).2
 replace o_ks := o_ks.mono hx.size
 replace hb := hb.bel hxx
 replace ho := ho.bel hxx
 replace hq := hq.bel hxx
 replace hx := hx.trans hxx
 replace o_xs := o_xs.bel hxx
 clear hxx
 conv => cbv
 (refine st_fld hE fINd4 fun p hp => ?_; (conv => cbv); refine st_put hr zInts hq hp (by simp) rfl fun wn hw hq2 => ?_; replace hx := hx.then (hw.bel hq hx.size); (try clear hq); (have hq := hq2); clear hq2; (simp only [b4_, b5_] at hq); clear hp)
 replace hb := hb.wr hw aq
 replace ho := ho.wr hw oq
 replace o_xs := o_xs.wr hw ax_xs
 replace o_ks := o_ks.wr hw ax_ks
 conv => cbv
 refine st_loadS hE tINd rfl hq.at ?_
 conv => cbv
 refine st_putS hr (by kernel_rfl) ho (add_zero _).symm (by simp) (by simp [Value.oneCell']) fun w5 hw5 ho5 => ?_
 simp only [a1_, a2_, a3_, a4_, a5_, a6_, a7_] at ho5
 conv => cbv
 refine st_cell hr tINd rfl ho5.at ?_
 rw [hR]; exact ⟨hx.then (hw5.bel ho hx.size), B0, n0, d0, B1, _, d1, rfl, o_xs.wr hw5 bx_xs, o_ks.wr hw5 bx_ks, djk⟩
theorem toNodeSO_f {w : World} {A : Option Addr} {n c : Nat} {pv : List PN} (h : RNs w A n pv) (hn : n ≤ 1048576) (hp_xs : ∀ p ∈ pv, p.xs.length ≤ 1048576) (hp_ks : ∀ p ∈ pv, p.ks.length ≤ 1048576) :
  FC Tryz.prog 46 [.slice A n c] w fun v w' => ∃ A1 c1 vs, v = .slice A1 n c1 ∧ vs.map (·.p) = pv ∧ RO 90 5 cN sbNode w.heap.size w' A1 n c1 vs ∧ ∀ w2, Above w.heap.size w' w2 → RNs w2 A1 n pv := by
 refine FC.intro (cs := []) Tryz.func46 (by kernel_rfl) fun E R hE hr hR => ?_
 have hl := h.len
 conv => cbv
 refine st_len hE sLNd fun x hx => ?_
 conv => cbv
 refine st_makeK hr sINd rfl (m := n) (by omega) (by omega) (by omega) fun A1 w1 hx1 h10 => ?_
 have h1 := h10 _ (n1_ _)
 rw [show (Value.agg ⟨zNd⟩).cells = ⟨cN v0N⟩ from rfl, made_fl (f := cN) v0N n 5 rfl (by omega)] at h1
 conv => cbv
 refine loop_rule hr (fun (s : Nat × Int × List VN) w' => s.1 ≤ n ∧ s.2.1 = (s.1 : Int) ∧ s.2.2.length = s.1 ∧ s.2.2.map (·.p) = pv.take s.1 ∧ Ext w w' ∧ Own w.heap.size 90 5 w' A1 n n ((s.2.2 ++ List.replicate (n - s.1) v0N).flatMap cN) ∧
   (∀ v ∈ s.2.2, Own w1.heap.size 9 1 w' v.A0 v.m0 v.c0 (v.p.xs.map (.string)) ∧ Own w1.heap.size 3 1 w' v.A1 v.m1 v.c1 (v.p.ks.map (.int .i64)) ∧ v.p.tx.size ≤ 9223372036854775807 ∧ (∀ u ∈ v.p.xs, u.size ≤ 9223372036854775807)) ∧ w1.heap.size ≤ w'.heap.size ∧ DJ A1 (s.2.2.map (adr sbNode)))
  (fun s => [(0, .slice A n c), (3, .slice A1 n n), (4, .int .i64 s.2.1)]) (fun s => n - s.1) (0, 0, [])
  (by simp [Fits, lk]) ⟨by simp, by simp, rfl, by simp, hx1, by simpa using h1, by simp, n1_ _, ⟨by simp, by simp, by simp⟩⟩ ?_
 rintro I hI ⟨i, ii, ds⟩ w' ⟨hi, hii, hdl, hdp, hxw, ho, hds, hsz, hdj⟩
 simp only at hi hii hdl hdp ho hds hdj
 obtain ⟨ii', hii'⟩ : ∃ z, z = ii + 1 := ⟨_, rfl⟩
 conv => cbv
 refine st_len hE sLNd fun x2 hx2 => ?_
 conv => cbv
 refine br (fun g2 => ?_) (fun g2 => ?_)
 ·have g2 : i < n := by
   have : ii < x2 := by simpa [hE.cmp, cmpR] using g2
   omega
  have ei : E.ar .add .i64 ii 1 = ii' := by rw [hE.ar, hii']; exact wrap_in (by omega) (by omega)
  obtain ⟨a, v, hA, hg, hc, hok⟩ := (h.ext hxw).get g2
  have hb_xs : v.m0 ≤ 1048576 := by rw [← hok.r_xs.len]; exact hp_xs _ (m1_ hg)
  have hb_ks : v.m1 ≤ 1048576 := by rw [← hok.r_ks.len]; exact hp_ks _ (m1_ hg)
  obtain ⟨gb, rfl, _⟩ := ho.addr (by omega)
  conv => cbv
  refine st_idx hE sLNd hA (by omega) (by omega) fun q hq => ?_
  rw [show ii.toNat = i by omega] at hq
  conv => cbv
  refine st_loadS hE tLNd (vs := cN v) rfl (by rw [hq]; exact hc) ?_
  obtain ⟨cv, hcv⟩ : ∃ cv, cv = cN v := ⟨_, rfl⟩
  rw [← hcv]
  conv => cbv
  rw [hcv]
  refine st_f hr (toNodeO_f v hok hb_xs hb_ks) fun u w2 hx3 ⟨B0, n0, d0, B1, n1, d1, ev, o_xs, o_ks, djk⟩ => ?_
  subst ev
  rw [← hcv]
  have hdn : DJ (some ⟨gb, 0, none⟩) ((ds ++ [(⟨v.p, B0, n0, d0, B1, n1, d1⟩ : VN)]).map (adr sbNode)) := by
   rw [List.map_append]
   refine hdj.snoc (fun a ha => ?_) ?_ (fun l hl b hb a ha => ?_)
   ·simp [adr, sbNode] at ha
    rcases ha with rfl | rfl
    ·exact dj_new ho o_xs (n1_ _)
    ·exact dj_new ho o_ks (n1_ _)
   ·simp [adr, sbNode]; exact djk
   ·obtain ⟨v2, hv2, rfl⟩ := List.mem_map.1 hl
    obtain ⟨k0, k1, _⟩ := hds v2 hv2
    simp [adr, sbNode] at ha hb
    rcases ha with rfl | rfl <;> rcases hb with rfl | rfl
    ·exact dj_new k0 o_xs (n1_ _)
    ·exact dj_new k0 o_ks (n1_ _)
    ·exact dj_new k1 o_xs (n1_ _)
    ·exact dj_new k1 o_ks (n1_ _)
  replace o_xs := o_xs.mono hsz
  replace o_ks := o_ks.mono hsz
  have ap : ∀ {e m5 c5 ys A5}, Own w1.heap.size e 1 w2 A5 m5 c5 ys → Apart A5 (some ⟨gb, 0, none⟩) := fun h5 => (h1.apart h5 (n1_ _)).2
  replace ho := ho.bel hx3
  have hds2 : ∀ v ∈ ds, Own w1.heap.size 9 1 w2 v.A0 v.m0 v.c0 (v.p.xs.map (.string)) ∧ Own w1.heap.size 3 1 w2 v.A1 v.m1 v.c1 (v.p.ks.map (.int .i64)) ∧ v.p.tx.size ≤ 9223372036854775807 ∧ (∀ u ∈ v.p.xs, u.size ≤ 9223372036854775807) := fun v hv => by
   obtain ⟨k0, k1, k2, k3⟩ := hds v hv
   exact ⟨k0.bel hx3, k1.bel hx3, k2, k3⟩
  replace hxw := hxw.trans hx3
  conv => cbv
  refine st_idx hE sINd rfl (by omega) (by omega) fun q1 hq1 => ?_
  rw [show ii.toNat = i by omega] at hq1
  conv => cbv
  obtain ⟨y, hy⟩ : ∃ y : VN, y = ⟨v.p, B0, n0, d0, B1, n1, d1⟩ := ⟨_, rfl⟩
  refine st_putS hr (vs := [.int .i64 v.p.o, .int .i64 v.p.z, .string v.p.tx, .slice B0 n0 d0, .slice B1 n1 d1]) (by kernel_rfl) ho (j := i * 5) hq1 (by rw [fl_len cN_len]; simp; omega) (by simp [Value.oneCell']) fun w3 hw3 ho3 => ?_
  rw [show ([.int .i64 v.p.o, .int .i64 v.p.z, .string v.p.tx, .slice B0 n0 d0, .slice B1 n1 d1] : List Value) = cN y by rw [hy]; rfl, fl_put cN_len _ i y (by simp; omega)] at ho3
  have hset : (ds ++ List.replicate (n - i) v0N).set i y = (ds ++ [y]) ++ List.replicate (n - (i + 1)) v0N := by
   rw [List.set_append_right _ _ (by omega), hdl, Nat.sub_self, show n - i = (n - (i + 1)) + 1 by omega, List.replicate_succ, b4_, List.append_assoc]; rfl
  rw [hset] at ho3
  conv => cbv
  simp only [ei]
  refine ⟨(i + 1, ii', ds ++ [y]), by simp [Fits, lk], hI _ _ ⟨by simp only; omega, by simp only; omega, by simp [hdl], ?_, hxw.then (hw3.bel ho hxw.size), ho3, ?_, ?_, by simp only; rw [hy]; exact hdn⟩, by simp only; omega⟩
  ·simp only
   rw [List.map_append, hdp, g4_, hg, hy]; rfl
  ·intro v2 hv
   rcases List.mem_append.1 hv with hv | hv
   ·obtain ⟨k0, k1, k2, k3⟩ := hds2 v2 hv
    exact ⟨k0.wr hw3 (ap k0), k1.wr hw3 (ap k1), k2, k3⟩
   ·simp at hv
    subst hv
    rw [hy]
    exact ⟨o_xs.wr hw3 (ap o_xs), o_ks.wr hw3 (ap o_ks), hok.s_tx, hok.r_xs.small⟩
  ·have := hw3.size; have := hx3.size; omega
 ·have g2 : i = n := by
   have : ¬ ii < x2 := by simpa [hE.cmp, cmpR] using g2
   omega
  subst g2
  rw [g3_ (by omega)] at hdp
  simp only [Nat.sub_self, List.replicate_zero, a7_] at ho
  conv => cbv
  rw [hR]; refine ⟨hxw, A1, i, ds, rfl, hdp, ⟨ho, fun v hv s hs => ?_, hdj⟩, fun w2 ha => ⟨ds, hdp, hdl, (ho.above ha).cells, fun v hv => ?_⟩⟩
  ·obtain ⟨k0, k1, k2, k3⟩ := hds v hv
   simp only [sbNode, List.mem_cons, List.not_mem_nil, or_false] at hs
   rcases hs with rfl | rfl
   ·exact k0.mono hx1.size
   ·exact k1.mono hx1.size
  obtain ⟨k0, k1, k2, k3⟩ := hds v hv
  exact ⟨k2, ((k0.mono hx1.size).above ha).strs k3, ((k1.mono hx1.size).above ha).ints⟩
theorem toStmtSO_f {w : World} {A : Option Addr} {n c : Nat} {pv : List PS} (h : RSs w A n pv) (hn : n ≤ 1048576) :
  FC Tryz.prog 47 [.slice A n c] w fun v w' => ∃ A1 c1, v = .slice A1 n c1 ∧ Own w.heap.size 155 4 w' A1 n c1 (pv.flatMap cS) ∧ ∀ w2, Above w.heap.size w' w2 → RSs w2 A1 n pv := by
 refine FC.intro (cs := []) Tryz.func47 (by kernel_rfl) fun E R hE hr hR => ?_
 have hl := h.len
 conv => cbv
 refine st_len hE sLSd fun x hx => ?_
 conv => cbv
 refine st_makeK hr sISd rfl (m := n) (by omega) (by omega) (by omega) fun A1 w1 hx1 h10 => ?_
 have h1 := h10 _ (n1_ _)
 rw [show (Value.agg ⟨zSd⟩).cells = ⟨cS v0S⟩ from rfl, made_fl (f := cS) v0S n 4 rfl (by omega)] at h1
 conv => cbv
 refine loop_rule hr (fun (s : Nat × Int × List VS) w' => s.1 ≤ n ∧ s.2.1 = (s.1 : Int) ∧ s.2.2.length = s.1 ∧ s.2.2 = pv.take s.1 ∧ Ext w w' ∧ Own w.heap.size 155 4 w' A1 n n ((s.2.2 ++ List.replicate (n - s.1) v0S).flatMap cS) ∧
   (∀ v ∈ s.2.2, v.nm.size ≤ 9223372036854775807) ∧ w1.heap.size ≤ w'.heap.size)
  (fun s => [(0, .slice A n c), (3, .slice A1 n n), (4, .int .i64 s.2.1)]) (fun s => n - s.1) (0, 0, [])
  (by simp [Fits, lk]) ⟨by simp, by simp, rfl, by simp, hx1, by simpa using h1, by simp, n1_ _⟩ ?_
 rintro I hI ⟨i, ii, ds⟩ w' ⟨hi, hii, hdl, hdp, hxw, ho, hds, hsz⟩
 simp only at hi hii hdl hdp ho hds
 obtain ⟨ii', hii'⟩ : ∃ z, z = ii + 1 := ⟨_, rfl⟩
 conv => cbv
 refine st_len hE sLSd fun x2 hx2 => ?_
 conv => cbv
 refine br (fun g2 => ?_) (fun g2 => ?_)
 ·have g2 : i < n := by
   have : ii < x2 := by simpa [hE.cmp, cmpR] using g2
   omega
  have ei : E.ar .add .i64 ii 1 = ii' := by rw [hE.ar, hii']; exact wrap_in (by omega) (by omega)
  obtain ⟨a, v, hA, hg, hc, hok⟩ := (h.ext hxw).get g2
  obtain ⟨gb, rfl, _⟩ := ho.addr (by omega)
  conv => cbv
  refine st_idx hE sLSd hA (by omega) (by omega) fun q hq => ?_
  rw [show ii.toNat = i by omega] at hq
  conv => cbv
  refine st_loadS hE tLSd (vs := cS v) rfl (by rw [hq]; exact hc) ?_
  obtain ⟨cv, hcv⟩ : ∃ cv, cv = cS v := ⟨_, rfl⟩
  rw [← hcv]
  conv => cbv
  rw [hcv]
  refine st_f hr (toStmt_f v hok) fun u w2 hx3 ev => ?_
  subst ev
  rw [← hcv]
  replace ho := ho.bel hx3
  have hds2 : ∀ v ∈ ds, v.nm.size ≤ 9223372036854775807 := fun v hv => by
   have k0 := hds v hv
   exact k0
  replace hxw := hxw.trans hx3
  conv => cbv
  refine st_idx hE sISd rfl (by omega) (by omega) fun q1 hq1 => ?_
  rw [show ii.toNat = i by omega] at hq1
  conv => cbv
  obtain ⟨y, hy⟩ : ∃ y : VS, y = v := ⟨_, rfl⟩
  refine st_putS hr (vs := [.int .i64 v.k, .string v.nm, .int .i64 v.c, .int .i64 v.g]) (by kernel_rfl) ho (j := i * 4) hq1 (by rw [fl_len cS_len]; simp; omega) (by simp [Value.oneCell']) fun w3 hw3 ho3 => ?_
  rw [show ([.int .i64 v.k, .string v.nm, .int .i64 v.c, .int .i64 v.g] : List Value) = cS y by rw [hy]; rfl, fl_put cS_len _ i y (by simp; omega)] at ho3
  have hset : (ds ++ List.replicate (n - i) v0S).set i y = (ds ++ [y]) ++ List.replicate (n - (i + 1)) v0S := by
   rw [List.set_append_right _ _ (by omega), hdl, Nat.sub_self, show n - i = (n - (i + 1)) + 1 by omega, List.replicate_succ, b4_, List.append_assoc]; rfl
  rw [hset] at ho3
  conv => cbv
  simp only [ei]
  refine ⟨(i + 1, ii', ds ++ [y]), by simp [Fits, lk], hI _ _ ⟨by simp only; omega, by simp only; omega, by simp [hdl], ?_, hxw.then (hw3.bel ho hxw.size), ho3, ?_, ?_⟩, by simp only; omega⟩
  ·simp only
   rw [hdp, g4_, hg, hy]; rfl
  ·intro v2 hv
   rcases List.mem_append.1 hv with hv | hv
   ·have k0 := hds2 v2 hv
    exact k0
   ·simp at hv
    subst hv
    rw [hy]
    exact hok.s_nm
  ·have := hw3.size; have := hx3.size; omega
 ·have g2 : i = n := by
   have : ¬ ii < x2 := by simpa [hE.cmp, cmpR] using g2
   omega
  subst g2
  rw [g3_ (by omega)] at hdp
  simp only [Nat.sub_self, List.replicate_zero, a7_] at ho
  conv => cbv
  rw [hR]; refine ⟨hxw, A1, i, rfl, by rw [← hdp]; exact ho, fun w2 ha => ⟨ds, hdp, hdl, (ho.above ha).cells, fun v hv => ?_⟩⟩
  have k0 := hds v hv
  exact ⟨k0⟩
section
variable {w0s : Nat} {w w' : World} {q : Addr} {P : Option Addr} {pn pc : Nat} {sl : Int} {I : Option Addr} {n ic : Nat} {vs : List VV} {is : List (Int × Int)}
end
section
variable {w0s : Nat} {w w' : World} {q : Addr} {P : Option Addr} {pn pc : Nat} {sl : Int} {I : Option Addr} {ic : Nat} {vs : List VV} {s : CS}
end
mutual
def fewT : Tr → Prop
 | .con _ _ _ xs _ => xs.length ≤ 100000
 | .op _ kids _ => fewTs kids
 | _ => True
def fewTs : List Tr → Prop
 | [] => True
 | t :: l => fewT t ∧ fewTs l
end
theorem fewTs_at : ∀ {l : List Tr} {j : Nat} {t : Tr}, fewTs l → l[j]? = some t → fewT t
 | u :: l, 0, t, h, e => by simp at e; subst e; simp only [fewTs] at h; exact h.1
 | u :: l, j + 1, t, h, e => by simp only [fewTs] at h; exact fewTs_at h.2 (by simpa using e)
def exK : List Tr → CS → CS
 | [], s => s
 | t :: l, s => exK l (exP t s)
structure C5 where
 a : Value
 b : Value
 c : Value
 d : Value
 e : Value
def c5 (v : C5) : List Value := [v.a, v.b, v.c, v.d, v.e]
theorem c5_len (v : C5) : (c5 v).length = 5 := rfl
def opK (k : Int) : Int := if k = 2 then 1 else if k = 3 then 2 else if k = 1 then 3 else 4
mutual
def L4V (D : Nat → Prop) (w : World) : Tr → C5 → Prop
 | .con k n tx xs _, v => ∃ A m c B d, v = ⟨.int .i64 (opK k), .int .i64 n, .string tx, .slice A m c, .slice B 0 d⟩ ∧ Strs w A m c xs ∧ InD D A m ∧ tx.size ≤ 9223372036854775807
 | .att n, v => ∃ A c B d, v = ⟨.int .i64 6, .int .i64 n, .string ⟨#[]⟩, .slice A 0 c, .slice B 0 d⟩
 | .lt n, v => ∃ A c B d, v = ⟨.int .i64 7, .int .i64 n, .string ⟨#[]⟩, .slice A 0 c, .slice B 0 d⟩
 | .op o kids _, v => ∃ A c B m d vs, v = ⟨.int .i64 o, .int .i64 0, .string ⟨#[]⟩, .slice A 0 c, .slice B m d⟩ ∧ vs.length = m ∧ m ≤ d ∧ m ≤ 3 ∧ Cells w B (vs.flatMap c5) ∧ InD D B m ∧ L4Vs D w kids vs
 | .nam _ _, _ => False
def L4Vs (D : Nat → Prop) (w : World) : List Tr → List C5 → Prop
 | [], [] => True
 | t :: ts, v :: vs => L4V D w t v ∧ L4Vs D w ts vs
 | _, _ => False
end
theorem L4Vs.len {D : Nat → Prop} {w : World} : ∀ {ts : List Tr} {vs : List C5}, L4Vs D w ts vs → ts.length = vs.length
 | [], [], _ => rfl
 | t :: ts, v :: vs, h => by simp only [L4Vs] at h; simp [L4Vs.len h.2]
 | [], _ :: _, h => by simp only [L4Vs] at h
 | _ :: _, [], h => by simp only [L4Vs] at h
theorem L4Vs.get {D : Nat → Prop} {w : World} : ∀ {ts : List Tr} {vs : List C5}, L4Vs D w ts vs → ∀ (i : Nat) (t : Tr) (v : C5), ts[i]? = some t → vs[i]? = some v → L4V D w t v
 | t :: ts, v :: vs, h, 0, t', v', h1, h2 => by simp at h1 h2; subst h1; subst h2; simp only [L4Vs] at h; exact h.1
 | t :: ts, v :: vs, h, i + 1, t', v', h1, h2 => by simp only [L4Vs] at h; exact L4Vs.get h.2 i t' v' (by simpa using h1) (by simpa using h2)
 | [], [], _, i, t, v, h1, _ => by simp at h1
 | [], _ :: _, h, _, _, _, _, _ => by simp only [L4Vs] at h
 | _ :: _, [], h, _, _, _, _, _ => by simp only [L4Vs] at h
mutual
theorem L4V.keep {D D' : Nat → Prop} {w w' : World} (hk : Keeps D w w') (hD : ∀ b, D b → D' b) : ∀ (t : Tr) (v : C5), L4V D w t v → L4V D' w' t v
 | .con k n tx xs at_, v, h => by
  simp only [L4V] at h ⊢
  obtain ⟨A, m, c, B, d, e, h1, h2, h3⟩ := h
  exact ⟨A, m, c, B, d, e, strs_keep h1 h2 hk, fun a ha hm => hD _ (h2 a ha hm), h3⟩
 | .nam tx at_, v, h => by simp only [L4V] at h
 | .att n, v, h => by simp only [L4V] at h ⊢; exact h
 | .lt n, v, h => by simp only [L4V] at h ⊢; exact h
 | .op o kids at_, v, h => by
  simp only [L4V] at h ⊢
  obtain ⟨A, c, B, m, d, vs, e, h1, h2, h3, h4, h5, h6⟩ := h
  refine ⟨A, c, B, m, d, vs, e, h1, h2, h3, cells_keep h4 (fun a ha hm => h5 a ha ?_) hk, fun a ha hm => hD _ (h5 a ha hm), L4Vs.keep hk hD kids vs h6⟩
  rw [fl_len c5_len] at hm; omega
theorem L4Vs.keep {D D' : Nat → Prop} {w w' : World} (hk : Keeps D w w') (hD : ∀ b, D b → D' b) : ∀ (ts : List Tr) (vs : List C5), L4Vs D w ts vs → L4Vs D' w' ts vs
 | [], [], _ => by simp only [L4Vs]
 | t :: ts, v :: vs, h => by simp only [L4Vs] at h ⊢; exact ⟨L4V.keep hk hD t v h.1, L4Vs.keep hk hD ts vs h.2⟩
 | [], _ :: _, h => by simp only [L4Vs] at h
 | _ :: _, [], h => by simp only [L4Vs] at h
end
theorem L4V.ext {D : Nat → Prop} {w w' : World} {t : Tr} {v : C5} (h : L4V D w t v) (hD : ∀ b, D b → b < w.heap.size) (hx : Ext w w') : L4V D w' t v := h.keep (fun b hb => hx.block b (hD b hb)) (fun _ h => h)
def zL4 : List Value := [.int .i64 0, .int .i64 0, .string ⟨#[]⟩, .slice none 0 0, .slice none 0 0]
section
variable {E : Sym} {w : World} {K : Value → World → Prop} {d : Option Tmp} {ty : TypeId} {pos : String} {aft : Array Edge} {g : Option (Nat × Bool)} {bq : Bool}
end
def DB (w0s ws : Nat) (w : World) (b : Nat) : Prop := b < w0s ∨ (ws ≤ b ∧ b < w.heap.size)
def riskO (o : Int) : Prop := o = 8 ∨ (11 ≤ o ∧ o ≤ 16)
instance (o : Int) : Decidable (riskO o) := inferInstanceAs (Decidable (o = 8 ∨ (11 ≤ o ∧ o ≤ 16)))
mutual
def safeT : Tr → Bool
 | .op o kids _ => if riskO o then false else safeTs kids
 | _ => true
def safeTs : List Tr → Bool
 | [] => true
 | t :: l => safeT t && safeTs l
end
section
variable {P : Program} {E : Sym} {w : World} {K : Value → World → Prop} {d : Option Tmp} {ty : TypeId} {pos : String} {aft : Array Edge} {g : Option (Nat × Bool)}
theorem st_eqNil {bq : Bool} (hE : EngB bq P E) {t t' : TypeId} {ms : Array (String × TypeId)} (ht : P.underlying t = some (.interface ms)) {x : Operand} {c : Value} (hk : K (.bool true) w) : E.stop ⟨d, .binOp .eql t x (.const c) t', ty, pos, aft, g⟩ [.nilIface, .nilIface] w K := by
 refine hE.det (v := .bool true) (fun w1 _ ρ hρ => ?_) hk
 simp only [opnds, b2_, b3_, b1_, and_true] at hρ
 have h1 : (Op.equal t .nilIface .nilIface).run P w1 = .ok true w1 := run_nil_ne ht w1 9999
 simp only [execOp, hρ.1, hρ.2, eqGuard, binOp, Sem.run_bind]
 simp [h1]
theorem st_eqSome {bq : Bool} (hE : EngB bq P E) {t t' u : TypeId} {v : Value} {ms : Array (String × TypeId)} (ht : P.underlying t = some (.interface ms)) {x : Operand} {c : Value} (hk : K (.bool false) w) : E.stop ⟨d, .binOp .eql t x (.const c) t', ty, pos, aft, g⟩ [.iface u v, .nilIface] w K := by
 refine hE.det (v := .bool false) (fun w1 _ ρ hρ => ?_) hk
 simp only [opnds, b2_, b3_, b1_, and_true] at hρ
 have h1 : (Op.equal t (.iface u v) .nilIface).run P w1 = .ok false w1 := run_some_ne ht w1 9999
 simp only [execOp, hρ.1, hρ.2, eqGuard, binOp, Sem.run_bind]
 simp [h1]
end
def kidsT : Tr → List Tr
 | .op _ kids _ => kids
 | _ => []
theorem pos_take {l : List Tr} {j : Nat} {t : Tr} (h : l[j]? = some t) : pos (l.take (j + 1)) = pos (l.take j) ++ po t := by
 rw [g4_, h, pos_append]; simp [pos]
theorem pos_take_le (l : List Tr) (j : Nat) : (pos (l.take j)).length ≤ (pos l).length := by
 have : pos l = pos (l.take j) ++ pos (l.drop j) := by rw [← pos_append, List.take_append_drop]
 rw [this, List.length_append]; omega
structure TOB (w0s : Nat) (q3 q4 : Addr) : Prop where
 h3 : w0s ≤ q3.block
 h4 : w0s ≤ q4.block
 e3 : blk (some q3) = some q3.block
 e4 : blk (some q4) = some q4.block
 ne : q3.block ≠ q4.block
section
variable {w0s : Nat} {w w' : World} {q3 q4 : Addr} {B : Option Addr} {n d : Nat} {vs : List Value}
end
theorem optV.cases {D : Nat → Prop} {w : World} {o : Option Tr} {v : Value} (h : optV D w o v) : (o = none ∧ v = .nilIface) ∨ ∃ t, o = some t ∧ TreeV D w t v := by
 cases o with
 | none => exact .inl ⟨rfl, h⟩
 | some t => exact .inr ⟨t, rfl, h⟩
theorem fewTs_mem : ∀ {l : List Tr} {t : Tr}, fewTs l → t ∈ l → fewT t
 | u :: l, t, h, e => by
  simp only [fewTs] at h
  rcases List.mem_cons.1 e with rfl | e
  ·exact h.1
  ·exact fewTs_mem h.2 e
mutual
theorem szT_po : ∀ t : Tr, szT t ≤ 3 * (po t).length
 | .con .. => by simp [szT, po]
 | .att n => by simp [szT, po]
 | .lt n => by simp [szT, po]
 | .nam .. => by simp [szT, po]
 | .op o kids at_ => by
  have := szTs_pos kids
  simp only [szT, po, List.length_append, a3_, a4_]
  (repeat' split) <;> omega
theorem szTs_pos : ∀ l : List Tr, szTs l ≤ 3 * (pos l).length
 | [] => by simp [szTs, pos]
 | t :: l => by
  have h1 := szT_po t
  have h2 := szTs_pos l
  simp only [szTs, pos, List.length_append]
  omega
end
structure StOK (s : PS) (p : PT) : Prop where
 k : s.k = 1 ∨ s.k = 2 ∨ s.k = 3
 c : s.k = 3 ↔ p.c = none
 ok : ∀ t ∈ trs p, okT t ∧ fewT t
def stepP (p : PS) (pt : PT) (sl : Int) (s : CS) : Int × CS :=
 let s1 := match pt.c with
  | none => s
  | some t => exP t s
 if p.k = 1 then (sl + 1, putP 4 sl s1)
 else if p.k = 2 then (sl, markP s1.ins.length (decP pt.g (putP 23 0 s1)))
 else (sl, decP pt.g s1)
def szO (g : Option Tr) : Nat := match g with
 | none => 1
 | some t => szT t + 1
section
variable {w0 : World} {q : Addr}
end
section
variable {E : Sym} {w : World} {K : Value → World → Prop} {d : Option Tmp} {ty : TypeId} {pos : String} {aft : Array Edge} {g : Option (Nat × Bool)} {bq : Bool}
end
structure CdO (B : Nat) (w : World) (P : Option Addr) (pn pc : Nat) (I : Option Addr) (n ic : Nat) (vs : List VV) (is : List (Int × Int)) : Prop where
 rP : Own B 218 4 w P pn pc (vs.flatMap vC)
 rI : Own B 217 2 w I n ic (is.flatMap iC)
 nam : ∀ v ∈ vs, Own B 9 1 w v.A v.m v.c (v.p.xs.map .string) ∧ ValM w v
 PI : Dj P I
 Pn : ∀ v ∈ vs, Dj P v.A
 In : ∀ v ∈ vs, Dj I v.A
 nn : vs.Pairwise fun u v => Dj u.A v.A
theorem CdO.ext {B : Nat} {w w' : World} {P : Option Addr} {pn pc : Nat} {I : Option Addr} {n ic : Nat} {vs : List VV} {is : List (Int × Int)} (h : CdO B w P pn pc I n ic vs is) (hx : Ext w w') : CdO B w' P pn pc I n ic vs is :=
 ⟨h.rP.bel hx, h.rI.bel hx, fun v hv => ⟨(h.nam v hv).1.bel hx, (h.nam v hv).2.ext hx⟩, h.PI, h.Pn, h.In, h.nn⟩
abbrev codV (P : Option Addr) (pn pc : Nat) (sl : Int) (I : Option Addr) (n ic : Nat) : Value := .agg ⟨[.slice P pn pc, .int .i64 sl, .slice I n ic]⟩
def CodO (B : Nat) (w : World) (v : Value) (x : Int × CS) : Prop := ∃ P pn pc I n ic vs, v = codV P pn pc x.1 I n ic ∧ CdO B w P pn pc I n ic vs x.2.ins ∧ vs.map (·.p) = x.2.pool
theorem CdO.mono {B B' : Nat} {w : World} {P : Option Addr} {pn pc : Nat} {I : Option Addr} {n ic : Nat} {vs : List VV} {is : List (Int × Int)} (h : CdO B w P pn pc I n ic vs is) (hB : B' ≤ B) : CdO B' w P pn pc I n ic vs is :=
 ⟨h.rP.mono hB, h.rI.mono hB, fun v hv => ⟨(h.nam v hv).1.mono hB, (h.nam v hv).2⟩, h.PI, h.Pn, h.In, h.nn⟩
def CodeP (nv : List PN) (sv : List PS) (tyl : List Int) (x : Int × CS) : Prop := (¬ wellP nv sv tyl ∧ x = (0, ⟨[], []⟩)) ∨ (wellP nv sv tyl ∧ ∃ acc y, TypedP nv sv tyl acc y ∧ x = cmpP (sv.zip acc) 0 ⟨[], []⟩)
theorem CSt.weak {w w' : World} {R S : List (Option Addr)} (h : CSt w R w' R) (hs : ∀ x ∈ R, x ∈ S) : CSt w S w' S := ⟨h.os, h.tape, h.output, h.size, fun b hb hn => h.keep b hb fun x hx => hn x (hs x hx), fun x hx g hg => .inl ⟨x, hx, hg⟩⟩
theorem mkL_adr {α : Type} {mk : α → Int → α} {ct : α → Nat} {sb : α → List Sub} (h : ∀ v z, adr sb (mk v z) = adr sb v) : ∀ (l : List α) (z : Int), (mkL mk ct l z).flatMap (adr sb) = l.flatMap (adr sb)
 | [], _ => rfl
 | v :: l, z => by simp only [mkL, List.flatMap_cons, h, mkL_adr h l]
theorem roA_mk {α : Type} {mk : α → Int → α} {ct : α → Nat} {sb : α → List Sub} (h : ∀ v z, adr sb (mk v z) = adr sb v) (A : Option Addr) (l : List α) (z : Int) : roA sb A (mkL mk ct l z) = roA sb A l := by
 unfold roA; rw [mkL_adr h]
theorem roA_stmt (A : Option Addr) (l : List PS) : roA sbStmt A l = [A] := by unfold roA adr sbStmt; simp
theorem dj_nil {α : Type} {sb : α → List Sub} (h : ∀ v, adr sb v = []) (A : Option Addr) (l : List α) : DJ A (l.map (adr sb)) := by
 have this : ∀ x ∈ l.map (adr sb), x = [] := fun x hx => by obtain ⟨v, _, rfl⟩ := List.mem_map.1 hx; exact h v
 refine ⟨fun x hx a ha => ?_, fun x hx => ?_, List.pairwise_iff_getElem.2 fun i j hi hj _ a ha => ?_⟩
 ·have := this x hx; subst this; cases ha
 ·have := this x hx; subst this; exact List.Pairwise.nil
 ·have e := this _ (List.getElem_mem hi)
  rw [e] at ha; cases ha
theorem ro_stmt {B : Nat} {w : World} {A : Option Addr} {n c : Nat} {l : List PS} (h : Own B 155 4 w A n c (l.flatMap cS)) : RO 155 4 cS sbStmt B w A n c l :=
 ⟨h, by simp [sbStmt], dj_nil (fun _ => rfl) _ _⟩
theorem ro_ins {B : Nat} {w : World} {A : Option Addr} {n c : Nat} {l : List (Int × Int)} (h : Own B 217 2 w A n c (l.flatMap iC)) : RO 217 2 iC sbIns B w A n c l :=
 ⟨h, by simp [sbIns], dj_nil (fun _ => rfl) _ _⟩
def otA (A A2 A3 : Option Addr) (vs : List VN) : List (Option Addr) := roA sbNode A vs ++ [A2, A3]
def otK (vs : List VN) (sv : List PS) (n3 : Nat) : Nat := ctL ctNode vs + ctL ctStmt sv + n3
theorem OT.ext {B : Nat} {w w' : World} {A A2 A3 : Option Addr} {n c n2 c2 n3 c3 : Nat} {vs : List VN} {sv : List PS} {tyl : List Int} (h : OT B w A n c A2 n2 c2 A3 n3 c3 vs sv tyl) (hx : Ext w w') : OT B w' A n c A2 n2 c2 A3 n3 c3 vs sv tyl := ⟨h.nd.ext hx, h.st.bel hx, h.ty.bel hx, h.d12, h.d13, h.d23⟩
theorem OT.lo {B : Nat} {w : World} {A A2 A3 : Option Addr} {n c n2 c2 n3 c3 : Nat} {vs : List VN} {sv : List PS} {tyl : List Int} (h : OT B w A n c A2 n2 c2 A3 n3 c3 vs sv tyl) : ∀ r ∈ otA A A2 A3 vs, ∀ g, blk r = some g → B ≤ g ∧ g < w.heap.size := fun r hr g hg => by
 unfold otA at hr
 rcases List.mem_append.1 hr with hr | hr
 ·exact h.nd.lo r hr g hg
 ·simp at hr
  rcases hr with rfl | rfl
  ·exact own_blk h.st g hg
  ·exact own_blk h.ty g hg
theorem nodeA (v : VN) (z : Int) : adr sbNode (mkNode v z) = adr sbNode v := rfl
theorem markTyped_g {w : World} {B : Nat} {A A2 A3 : Option Addr} {n c n2 c2 n3 c3 : Nat} {vs : List VN} {sv : List PS} {tyl : List Int} (h : OT B w A n c A2 n2 c2 A3 n3 c3 vs sv tyl) (k : Int) (hk : 0 ≤ k) (hkn : k + otK vs sv n3 < 9223372036854775807) :
  GC Tryz.prog 15 [typV A n c A2 n2 c2 A3 n3 c3, .int .i64 k] w fun v w' => v = .int .i64 (k + otK vs sv n3) ∧ OT B w' A n c A2 n2 c2 A3 n3 c3 (mkL mkNode ctNode vs k) (mkL mkStmt ctStmt sv (k + ctL ctNode vs)) (imarks (k + ctL ctNode vs + ctL ctStmt sv) n3) ∧ CSt w (otA A A2 A3 vs) w' (otA A A2 A3 vs) := by
 refine GC.intro (cs := []) Tryz.func15 (by kernel_rfl) fun E R hE hr hR => ?_
 have hkn' := hkn
 unfold otK at hkn'
 obtain ⟨k1, hk1⟩ : ∃ z : Int, z = k + ctL ctNode vs := ⟨_, rfl⟩
 obtain ⟨k2, hk2⟩ : ∃ z : Int, z = k1 + ctL ctStmt sv := ⟨_, rfl⟩
 obtain ⟨k3, hk3⟩ : ∃ z : Int, z = k2 + n3 := ⟨_, rfl⟩
 conv => cbv
 refine st_box hr fun a w1 hx hb0 => ?_
 have hb := hb0 _ (n1_ _)
 clear hb0
 have hlo := h.lo
 have da : ∀ r ∈ otA A A2 A3 vs, Dj r (some a) := fun r hr g hg e => by
  have := (hlo r hr g hg).2
  have := (own_blk hb g e).1
  omega
 replace h := h.ext hx
 conv => cbv
 (refine st_fld hE fITyp0 fun p hp => ?_; (conv => cbv); refine st_load hE cINs (by rw [hp]; exact (hb).at _ _ rfl) ?_; (conv => cbv))
 have m1 := markNodeS_g h.nd k hk (by omega)
 rw [← hk1] at m1
 refine st_g hr m1 fun v w2 ⟨ev, hn2, hc2⟩ => ?_
 subst ev
 have hC2 : CSt w1 (otA A A2 A3 vs) w2 (otA A A2 A3 vs) := hc2.weak fun x hx => List.mem_append_left _ hx
 have hb2 := (hC2.own hb da).1
 have st2 := (hc2.own h.st h.d12).1
 have ty2 := (hc2.own h.ty h.d13).1
 conv => cbv
 (refine st_fld hE fITyp1 fun p hp => ?_; (conv => cbv); refine st_load hE cISs (by rw [hp]; exact (hb2).at _ _ rfl) ?_; (conv => cbv))
 have m2 := markStmtS_g (ro_stmt st2) k1 (by omega) (by omega)
 rw [← hk2, roA_stmt] at m2
 refine st_g hr m2 fun v w3 ⟨ev, hs3, hc3⟩ => ?_
 subst ev
 have hC3 : CSt w2 (otA A A2 A3 vs) w3 (otA A A2 A3 vs) := hc3.weak fun x hx => by simp at hx; subst hx; simp [otA]
 have hb3 := (hC3.own hb2 da).1
 have nd3 := hn2.keepR hc3 fun r hr a ha => by
  simp at hr; subst hr
  rw [roA_mk nodeA] at ha
  exact (h.d12 a ha).symm
 have ty3 := (hc3.own ty2 fun r hr => by simp at hr; subst hr; exact h.d23).1
 conv => cbv
 (refine st_fld hE fITyp2 fun p hp => ?_; (conv => cbv); refine st_load hE cInts (by rw [hp]; exact (hb3).at _ _ rfl) ?_; (conv => cbv))
 have m3 := markIntS_g ty3 k2 (by omega) (by omega)
 rw [← hk3] at m3
 refine st_g hr m3 fun v w4 ⟨ev, ho4, hw4⟩ => ?_
 subst ev
 have hC4 : CSt w3 (otA A A2 A3 vs) w4 (otA A A2 A3 vs) := CSt.of_wr hw4 (by simp [otA])
 have c4 : CSt w3 [A3] w4 [A3] := CSt.of_wr hw4 (by simp)
 conv => cbv
 rw [hR]
 refine ⟨?_, ⟨nd3.keepR c4 fun r hr a ha => ?_, ?_, ?_, ?_, ?_, h.d23⟩, (((CSt.of_ext hx _).trans hC2).trans hC3).trans hC4⟩
 ·simp only [one, otK]; congr 1; push_cast; omega
 ·simp at hr; subst hr
  rw [roA_mk nodeA] at ha
  exact (h.d13 a ha).symm
 ·rw [← hk1]; exact (c4.own hs3.row fun r hr => by simp at hr; subst hr; exact h.d23.symm).1
 ·rw [← hk1, ← hk2]; exact ho4
 ·rw [roA_mk nodeA]; exact h.d12
 ·rw [roA_mk nodeA]; exact h.d13
def cdA (P I : Option Addr) (vs : List VV) : List (Option Addr) := roA sbValue P vs ++ [I]
def cdK (vs : List VV) (is : List (Int × Int)) : Nat := ctL ctValue vs + ctL ctIns is
section
variable {B : Nat} {w w' : World} {P : Option Addr} {pn pc : Nat} {I : Option Addr} {n ic : Nat} {vs : List VV} {is : List (Int × Int)}
theorem CdO.ro (h : CdO B w P pn pc I n ic vs is) : RO 218 4 vC sbValue B w P pn pc vs := by
 refine ⟨h.rP, fun v hv s hs => ?_, ⟨fun l hl a ha => ?_, fun l hl => ?_, ?_⟩⟩
 ·simp only [sbValue, List.mem_cons, List.not_mem_nil, or_false] at hs; subst hs; exact (h.nam v hv).1
 ·obtain ⟨v, hv, rfl⟩ := List.mem_map.1 hl
  simp [adr, sbValue] at ha; subst ha; exact h.Pn v hv
 ·obtain ⟨v, hv, rfl⟩ := List.mem_map.1 hl
  simp [adr, sbValue]
 ·rw [List.pairwise_map]
  refine h.nn.imp fun h a ha b hb => ?_
  simp [adr, sbValue] at ha hb; subst ha; subst hb; exact h
theorem CdO.dI (h : CdO B w P pn pc I n ic vs is) : ∀ r ∈ roA sbValue P vs, Dj r I := fun r hr => by
 rcases List.mem_cons.1 hr with rfl | hr
 ·exact h.PI
 ·obtain ⟨v, hv, hr⟩ := List.mem_flatMap.1 hr
  simp [adr, sbValue] at hr; subst hr; exact (h.In v hv).symm
structure CO (B : Nat) (w : World) (P : Option Addr) (pn pc : Nat) (I : Option Addr) (n ic : Nat) (vs : List VV) (is : List (Int × Int)) : Prop where
 pl : RO 218 4 vC sbValue B w P pn pc vs
 is : RO 217 2 iC sbIns B w I n ic is
 d : ∀ r ∈ roA sbValue P vs, Dj r I
theorem CdO.co (h : CdO B w P pn pc I n ic vs is) : CO B w P pn pc I n ic vs is := ⟨h.ro, ro_ins h.rI, h.dI⟩
theorem CO.ext (h : CO B w P pn pc I n ic vs is) (hx : Ext w w') : CO B w' P pn pc I n ic vs is := ⟨h.pl.ext hx, h.is.ext hx, h.d⟩
theorem CO.lo (h : CO B w P pn pc I n ic vs is) : ∀ r ∈ cdA P I vs, ∀ g, blk r = some g → B ≤ g ∧ g < w.heap.size := fun r hr g hg => by
 unfold cdA at hr
 rcases List.mem_append.1 hr with hr | hr
 ·exact h.pl.lo r hr g hg
 ·simp at hr; subst hr; exact own_blk h.is.row g hg
end
section
variable {α : Type} {e : TypeId} {k : Nat} {f : α → List Value} {sb : α → List Sub} {B : Nat} {w w' : World} {A A' : Option Addr} {n c c' : Nat} {vs : List α}
theorem gro_dj {X : Option Addr} (hg : Gro w A w' A') (hd : Dj A X) (hX : ∀ g, blk X = some g → g < w.heap.size) : Dj A' X := fun g h1 h2 => by
 rcases hg.at_ with q | ⟨b, q1, q2⟩
 ·exact hd g (by rw [← q]; exact h1) h2
 ·rw [q1] at h1; cases h1; have := hX _ h2; omega
theorem RO.wr (h : RO e k f sb B w A n c vs) {X : Option Addr} (hw : Wr X w w') (hd : ∀ a ∈ roA sb A vs, Dj X a) : RO e k f sb B w' A n c vs :=
 h.keepR (CSt.of_wr (R := [X]) hw (by simp)) fun r hr a ha => by simp at hr; subst hr; exact hd a ha
theorem RO.snoc (h : RO e k f sb B w A n c vs) {y : α} (hg : Gro w A w' A') (ho : Own B e k w' A' (n + 1) c' ((vs ++ [y]).flatMap f)) (hy : ∀ s ∈ sb y, Own B s.e 1 w s.A s.m s.c s.xs) (d1 : ∀ a ∈ adr sb y, Dj A a) (d2 : (adr sb y).Pairwise Dj) (d3 : ∀ v ∈ vs, ∀ a ∈ adr sb v, ∀ b ∈ adr sb y, Dj a b) :
  RO e k f sb B w' A' (n + 1) c' (vs ++ [y]) := by
 have lt : ∀ v, (v ∈ vs ∨ v = y) → ∀ s ∈ sb v, Own B s.e 1 w s.A s.m s.c s.xs ∧ Dj A s.A := fun v hv s hs => by
  rcases hv with hv | rfl
  ·exact ⟨h.sub v hv s hs, h.dj.rowd _ (List.mem_map.2 ⟨v, hv, rfl⟩) _ (List.mem_map.2 ⟨s, hs, rfl⟩)⟩
  ·exact ⟨hy s hs, d1 _ (List.mem_map.2 ⟨s, hs, rfl⟩)⟩
 have mem : ∀ v ∈ vs ++ [y], v ∈ vs ∨ v = y := fun v hv => by simpa using hv
 refine ⟨ho, fun v hv s hs => ?_, ?_⟩
 ·obtain ⟨k1, k2⟩ := lt v (mem v hv) s hs
  exact k1.wr hg.wr (dj_apart k1 k2.symm)
 ·rw [List.map_append]
  have base : DJ A' (vs.map (adr sb)) := ⟨fun l hl a ha => by
   obtain ⟨v, hv, rfl⟩ := List.mem_map.1 hl
   obtain ⟨s, hs, rfl⟩ := List.mem_map.1 ha
   obtain ⟨k1, k2⟩ := lt v (.inl hv) s hs
   exact gro_dj hg k2 fun g hgb => (own_blk k1 g hgb).2, h.dj.own, h.dj.pw⟩
  refine base.snoc (fun a ha => ?_) d2 fun l hl b hb a ha => ?_
  ·obtain ⟨s, hs, rfl⟩ := List.mem_map.1 ha
   obtain ⟨k1, k2⟩ := lt y (.inr rfl) s hs
   exact gro_dj hg k2 fun g hgb => (own_blk k1 g hgb).2
  ·obtain ⟨v, hv, rfl⟩ := List.mem_map.1 hl
   exact d3 v hv a ha b hb
theorem roA_app (A : Option Addr) (l m : List α) : roA sb A (l ++ m) = roA sb A l ++ m.flatMap (adr sb) := by
 unfold roA; rw [List.flatMap_append, List.cons_append]
end
structure LD (w0s : Nat) (w : World) (q : Addr) (A : Option Addr) (n c : Nat) (vs : List VN) (T : Option Addr) (nt ct : Nat) (ts : List Int) : Prop where
 box : Box w0s 200 2 w q [.slice A n c, .slice T nt ct]
 nd : RO 90 5 cN sbNode w0s w A n c vs
 pl : Own w0s 3 1 w T nt ct (ts.map (.int .i64))
 dq : ∀ r ∈ roA sbNode A vs, Dj (some q) r
 dT : ∀ r ∈ roA sbNode A vs, Dj r T
 qT : Dj (some q) T
 sm : ∀ v ∈ vs, v.p.tx.size ≤ 9223372036854775807 ∧ ∀ u ∈ v.p.xs, u.size ≤ 9223372036854775807
 le : w0s ≤ w.heap.size
def ldA (q : Addr) (A T : Option Addr) (vs : List VN) : List (Option Addr) := some q :: T :: roA sbNode A vs
section
variable {w0s : Nat} {w w' : World} {q : Addr} {A T : Option Addr} {n c nt ct : Nat} {vs : List VN} {ts : List Int}
theorem LD.ext (h : LD w0s w q A n c vs T nt ct ts) (hx : Ext w w') : LD w0s w' q A n c vs T nt ct ts :=
 ⟨h.box.bel hx, h.nd.ext hx, h.pl.bel hx, h.dq, h.dT, h.qT, h.sm, n2_ h.le hx.size⟩
theorem LD.len (h : LD w0s w q A n c vs T nt ct ts) : vs.length = n := h.nd.len cN_len (by omega)
theorem LD.low (h : LD w0s w q A n c vs T nt ct ts) : ∀ r ∈ ldA q A T vs, ∀ g, blk r = some g → w0s ≤ g ∧ g < w.heap.size := fun r hr g hg => by
 rcases List.mem_cons.1 hr with rfl | hr
 ·exact own_blk h.box g hg
 ·rcases List.mem_cons.1 hr with rfl | hr
  ·exact own_blk h.pl g hg
  ·exact h.nd.lo r hr g hg
end
open Go.Eng Go.Extern
def Sent (w : World) (a : Addr) : Prop := ∃ c t, w.heap[a.block]? = some (.cells c t (0, 0))
theorem Sent.ext {w w' : World} {a : Addr} (h : Sent w a) (hx : Ext w w') : Sent w' a := by
 obtain ⟨c, t, h⟩ := h
 exact ⟨c, t, by rw [hx.block _ (Array.getElem?_eq_some_iff.1 h).1, h]⟩
section
variable {E : Sym} {w : World} {K : Value → World → Prop} {d : Option Tmp} {ty : TypeId} {pos : String} {aft : Array Edge} {g : Option (Nat × Bool)}
end
theorem rT (v : Value) (w : World) : (Extern.ReflectliteType.typeOf #[.iface 391 v]).run Tryz.prog w = .ok (.iface 279 (.agg #[.pointer (some ⟨Tryz.prog.globals.size, 391, none⟩)])) w := by kernel_rfl
theorem rC (w : World) : ((Extern.ReflectliteType.method fun t => do Go.Extern.Rtype.noPackHeld "Comparable" t; pure (.bool (← typeInfo t).comparable)) #[.agg #[.pointer (some ⟨Tryz.prog.globals.size, 391, none⟩)]]).run Tryz.prog w = .ok (.bool true) w := by kernel_rfl
theorem rM (v : Value) (w : World) : (Go.method (Tryz.prog.types.size + Made.depth) 279 v "Comparable").run Tryz.prog w = .ok (307, v) w := by kernel_rfl
theorem typ : ∃ hv, (∀ v w, (callFunc 162 #[.iface 391 v]).run Tryz.prog w = .ok (.value (.iface 279 hv)) w) ∧
  ∀ w, (callMethod (.iface 279 hv) "Comparable" #[]).run Tryz.prog w = .ok (.value (.bool true)) w := by
 have h8 := @run_callFunc_extern Tryz.prog 162 _ Extern.ReflectliteType.typeOf Tryz.func162 (by kernel_rfl) (by kernel_rfl) (by kernel_rfl) (by kernel_rfl)
 have h32 := @run_callFunc_extern Tryz.prog 307 _ (Extern.ReflectliteType.method fun t => do Go.Extern.Rtype.noPackHeld "Comparable" t; pure (.bool (← typeInfo t).comparable)) Tryz.func307 (by kernel_rfl) (by kernel_rfl) (by kernel_rfl) (by kernel_rfl)
 refine ⟨.agg #[.pointer (some ⟨Tryz.prog.globals.size, 391, none⟩)], fun v w => ?_, fun w => ?_⟩
 ·rw [h8, rT]; rfl
 ·have hm := rM (.agg #[.pointer (some ⟨Tryz.prog.globals.size, 391, none⟩)]) w
  simp only [callMethod, Sem.run_bind, run_program, Result.andThen_ok, hm]
  show (callFunc _ (#[_] ++ #[])).run _ _ = _
  rw [h32]
  have hc := rC w
  erw [hc]; rfl
section
variable {E : Sym} {w : World} {K : Value → World → Prop} {d : Option Tmp} {ty : TypeId} {pos : String} {aft : Array Edge} {g : Option (Nat × Bool)}
end
structure Errs (w : World) (z o v : Addr) : Prop where
 cz : w.cell? ⟨2, 0, none⟩ = some (.iface 391 (.pointer (some z)))
 co : w.cell? ⟨1, 0, none⟩ = some (.iface 391 (.pointer (some o)))
 cv : w.cell? ⟨3, 0, none⟩ = some (.iface 391 (.pointer (some v)))
 sz : Sent w z
 so : Sent w o
 sv : Sent w v
 zo : z ≠ o
 zv : z ≠ v
 ov : o ≠ v
theorem Errs.ext {w w' : World} {z o v : Addr} (h : Errs w z o v) (hx : Ext w w') : Errs w' z o v :=
 ⟨hx.cell h.cz, hx.cell h.co, hx.cell h.cv, h.sz.ext hx, h.so.ext hx, h.sv.ext hx, h.zo, h.zv, h.ov⟩
section
variable {P : Program} {E : Sym} {w : World} {K : Value → World → Prop} {d : Option Tmp} {ty : TypeId} {pos : String} {aft : Array Edge} {g : Option (Nat × Bool)}
end
abbrev wwV (op : Int) (a : Addr) : Value := .iface 366 (.agg ⟨[.int .i64 op, .iface 391 (.pointer (some a))]⟩)
def sentA (z o v : Addr) (c : Int) : Addr := if c = 1 then o else if c = 2 then z else v
theorem fLd0 : Fld Tryz.prog 200 0 0 := ⟨by kernel_rfl⟩
theorem fLd1 : Fld Tryz.prog 200 1 1 := ⟨by kernel_rfl⟩
theorem fCo0 : Fld Tryz.prog 318 0 0 := ⟨by kernel_rfl⟩
theorem fCo1 : Fld Tryz.prog 318 1 4 := ⟨by kernel_rfl⟩
theorem fNa0 : Fld Tryz.prog 353 0 0 := ⟨by kernel_rfl⟩
theorem fNa1 : Fld Tryz.prog 353 1 1 := ⟨by kernel_rfl⟩
section
variable {E : Sym} {w : World} {K : Value → World → Prop} {d : Option Tmp} {ty : TypeId} {pos : String} {aft : Array Edge} {g : Option (Nat × Bool)} {bq : Bool}
theorem run_bN0 (w : World) : (Instr.build 90 #[]).run Tryz.prog w = .ok (.agg #[.int .i64 0, .int .i64 0, .string ⟨#[]⟩, .slice none 0 0, .slice none 0 0]) w := by kernel_rfl
theorem st_bN0 (hE : EngB bq Tryz.prog E) (hk : K (.agg ⟨[.int .i64 0, .int .i64 0, .string ⟨#[]⟩, .slice none 0 0, .slice none 0 0]⟩) w) : E.stop ⟨d, .build 90 ⟨[]⟩, ty, pos, aft, g⟩ [] w K := by
 refine hE.det (v := .agg ⟨[.int .i64 0, .int .i64 0, .string ⟨#[]⟩, .slice none 0 0, .slice none 0 0]⟩) (fun w1 _ ρ hρ => ?_) hk
 have := run_bN0 w1
 simp [execOp, this]
theorem run_bNt (o : Int) (tx : ByteArray) (w : World) : (Instr.build 90 #[(0, .int .i64 o), (2, .string tx)]).run Tryz.prog w = .ok (.agg #[.int .i64 o, .int .i64 0, .string tx, .slice none 0 0, .slice none 0 0]) w := by kernel_rfl
theorem run_bNz (o z : Int) (w : World) : (Instr.build 90 #[(0, .int .i64 o), (1, .int .i64 z)]).run Tryz.prog w = .ok (.agg #[.int .i64 o, .int .i64 z, .string ⟨#[]⟩, .slice none 0 0, .slice none 0 0]) w := by kernel_rfl
theorem st_bNz (hE : EngB bq Tryz.prog E) {o z : Int} {x0 x1 : Operand} (hk : K (.agg ⟨[.int .i64 o, .int .i64 z, .string ⟨#[]⟩, .slice none 0 0, .slice none 0 0]⟩) w) : E.stop ⟨d, .build 90 ⟨[(0, x0), (1, x1)]⟩, ty, pos, aft, g⟩ [.int .i64 o, .int .i64 z] w K := by
 refine hE.det (v := .agg ⟨[.int .i64 o, .int .i64 z, .string ⟨#[]⟩, .slice none 0 0, .slice none 0 0]⟩) (fun w1 _ ρ hρ => ?_) hk
 simp only [opnds, b2_, b3_, b1_, and_true] at hρ
 have := run_bNz o z w1
 simp [execOp, hρ.1, hρ.2, this]
end
def LaidR (w0s : Nat) (w : World) (q : Addr) (A T : Option Addr) (vs : List VN) (ns : List PN) (w' : World) : Prop :=
 ∃ A' c' ys T' ct' ts', LD w0s w' q A' (vs.length + ys.length) c' (vs ++ ys) T' (vs.length + ys.length) ct' ts' ∧ ys.map (·.p) = ns ∧ CSt w (ldA q A T vs) w' (ldA q A' T' (vs ++ ys))
structure LN (w0s : Nat) (w w' : World) (q qn : Addr) (A T : Option Addr) (vs : List VN) (A' : Option Addr) (c' : Nat) (ys : List VN) (T' : Option Addr) (ct' : Nat) (ts' : List Int) (y : VN) : Prop where
 ld : LD w0s w' q A' (vs.length + ys.length) c' (vs ++ ys) T' (vs.length + ys.length) ct' ts'
 bx : Box w.heap.size 90 5 w' qn (cN y)
 s0 : Own w.heap.size 9 1 w' y.A0 y.m0 y.c0 (y.p.xs.map .string)
 s1 : Own w.heap.size 3 1 w' y.A1 y.m1 y.c1 (y.p.ks.map (.int .i64))
 d : ∀ r ∈ ldA q A' T' (vs ++ ys), Dj r y.A0 ∧ Dj r y.A1 ∧ Dj r (some qn)
 d01 : Dj y.A0 y.A1
 dn : Dj (some qn) y.A0 ∧ Dj (some qn) y.A1
 sm : y.p.tx.size ≤ 9223372036854775807 ∧ ∀ u ∈ y.p.xs, u.size ≤ 9223372036854775807
 cst : CSt w (ldA q A T vs) w' (ldA q A' T' (vs ++ ys))
section
variable {w0s : Nat} {w w' w'' : World} {q qn : Addr} {A T A' T' : Option Addr} {vs ys : List VN} {c' ct' : Nat} {ts' : List Int} {y : VN}
theorem LN.ext (h : LN w0s w w' q qn A T vs A' c' ys T' ct' ts' y) (hx : Ext w' w'') : LN w0s w w'' q qn A T vs A' c' ys T' ct' ts' y :=
 ⟨h.ld.ext hx, h.bx.bel hx, h.s0.bel hx, h.s1.bel hx, h.d, h.d01, h.dn, h.sm, h.cst.trans (CSt.of_ext hx _)⟩
theorem dj_none (r : Option Addr) : Dj r none := fun g _ h => by cases h
theorem LN.start {n c ct : Nat} {ts : List Int} (h : LD w0s w q A n c vs T n ct ts) (hx : Ext w w') (hb : Box w.heap.size 90 5 w' qn [.int .i64 0, .int .i64 0, .string ⟨#[]⟩, .slice none 0 0, .slice none 0 0]) : LN w0s w w' q qn A T vs A c [] T ct ts ⟨⟨0, 0, ⟨#[]⟩, [], []⟩, none, 0, 0, none, 0, 0⟩ := by
 have hn := h.len
 subst hn
 refine ⟨by simpa using h.ext hx, hb, Own.nil, Own.nil, fun r hr => ⟨dj_none _, dj_none _, fun g h1 h2 => ?_⟩, dj_none _, ⟨dj_none _, dj_none _⟩, ⟨by simp [ByteArray.size], by simp⟩, by simpa using CSt.of_ext hx _⟩
 have := (h.low r (by simpa using hr) g h1).2
 have := (own_blk hb g h2).1
 omega
theorem LN.set (h : LN w0s w w' q qn A T vs A' c' ys T' ct' ts' y) (hw : Wr (some qn) w' w'') {z : VN} (hb : Box w.heap.size 90 5 w'' qn (cN z)) (s0 : Own w.heap.size 9 1 w' z.A0 z.m0 z.c0 (z.p.xs.map .string)) (s1 : Own w.heap.size 3 1 w' z.A1 z.m1 z.c1 (z.p.ks.map (.int .i64)))
  (d : ∀ r ∈ ldA q A' T' (vs ++ ys), Dj r z.A0 ∧ Dj r z.A1) (d01 : Dj z.A0 z.A1) (dn : Dj (some qn) z.A0 ∧ Dj (some qn) z.A1) (sm : z.p.tx.size ≤ 9223372036854775807 ∧ ∀ u ∈ z.p.xs, u.size ≤ 9223372036854775807) : LN w0s w w'' q qn A T vs A' c' ys T' ct' ts' z := by
 have hc : CSt w' [some qn] w'' [some qn] := CSt.of_wr hw (by simp)
 have dq : ∀ r ∈ [some qn], ∀ a ∈ ldA q A' T' (vs ++ ys), Dj r a := fun r hr a ha => by simp at hr; subst hr; exact (h.d a ha).2.2.symm
 have hlo : ∀ g, blk (some qn) = some g → w.heap.size ≤ g := fun g hg => (own_blk hb g hg).1
 have hcst : CSt w (ldA q A T vs) w'' (ldA q A' T' (vs ++ ys)) := ⟨hw.os.trans h.cst.os, hw.tape.trans h.cst.tape, hw.output.trans h.cst.output, n2_ h.cst.size hw.size, fun b hb1 hn => (hw.block b (n3_ hb1 h.cst.size) fun e => by have := hlo b e.symm; omega).trans (h.cst.keep b hb1 hn), h.cst.new⟩
 exact ⟨⟨(hc.own h.ld.box fun r hr => dq r hr _ (by simp [ldA])).1, h.ld.nd.keepR hc fun r hr a ha => dq r hr a (by simp [ldA, ha]), (hc.own h.ld.pl fun r hr => dq r hr _ (by simp [ldA])).1, h.ld.dq, h.ld.dT, h.ld.qT, h.ld.sm, n2_ h.ld.le hw.size⟩, hb, s0.wr hw (dj_apart s0 dn.1.symm), s1.wr hw (dj_apart s1 dn.2.symm),
  fun r hr => ⟨(d r hr).1, (d r hr).2, (h.d r hr).2.2⟩, d01, dn, sm, hcst⟩
theorem LN.node (h : LN w0s w w' q qn A T vs A' c' ys T' ct' ts' y) {A'' : Option Addr} {c'' : Nat} (hq0 : w0s ≤ w.heap.size) (hg : Gro w' A' w'' A'') (ho : Own w0s 90 5 w'' A'' (vs.length + ys.length + 1) c'' ((vs ++ ys ++ [y]).flatMap cN)) {w3 : World} (hw : Wr (some q) w'' w3) (hb : Box w0s 200 2 w3 q [.slice A'' (vs.length + ys.length + 1) c'', .slice T' (vs.length + ys.length) ct']) :
  LD w0s w3 q A'' (vs.length + (ys ++ [y]).length) c'' (vs ++ (ys ++ [y])) T' (vs.length + ys.length) ct' ts' ∧ CSt w (ldA q A T vs) w3 (ldA q A'' T' (vs ++ (ys ++ [y]))) := by
 have hd := h.d
 have l1 : ∀ {e : TypeId} {k m cc : Nat} {X : Option Addr} {xs : List Value} {B : Nat}, Own B e k w' X m cc xs → ∀ g, blk X = some g → g < w'.heap.size := fun hX g hg => (own_blk hX g hg).2
 have hro := h.ld.nd.snoc (y := y) hg ho (fun s hs => by
  simp only [sbNode, List.mem_cons, List.not_mem_nil, or_false] at hs
  rcases hs with rfl | rfl
  ·exact h.s0.mono hq0
  ·exact h.s1.mono hq0) (fun a ha => by
  simp only [adr, sbNode, b2_, b3_, List.mem_cons, List.not_mem_nil, or_false] at ha
  have := hd A' (by simp [ldA, roA])
  rcases ha with rfl | rfl
  ·exact this.1
  ·exact this.2.1) (by simp [adr, sbNode]; exact h.d01) (fun v hv a ha b hb => by
  have hm : a ∈ ldA q A' T' (vs ++ ys) := by
   unfold ldA roA
   exact List.mem_cons_of_mem _ (List.mem_cons_of_mem _ (List.mem_cons_of_mem _ (List.mem_flatMap.2 ⟨v, hv, ha⟩)))
  simp only [adr, sbNode, b2_, b3_, List.mem_cons, List.not_mem_nil, or_false] at hb
  rcases hb with rfl | rfl
  ·exact (hd a hm).1
  ·exact (hd a hm).2.1)
 have mem : ∀ r ∈ roA sbNode A'' (vs ++ ys ++ [y]), r = A'' ∨ r ∈ roA sbNode A' (vs ++ ys) ∨ r = y.A0 ∨ r = y.A1 := fun r hr => by
  rw [roA_app] at hr
  rcases List.mem_append.1 hr with hr | hr
  ·rcases List.mem_cons.1 hr with rfl | hr
   ·exact .inl rfl
   ·exact .inr (.inl (List.mem_cons_of_mem _ hr))
  ·simp only [List.flatMap_cons, List.flatMap_nil, a7_, adr, sbNode, b2_, b3_, List.mem_cons, List.not_mem_nil, or_false] at hr
   rcases hr with hr | hr
   ·exact .inr (.inr (.inl hr))
   ·exact .inr (.inr (.inr hr))
 have hq : ∀ r ∈ roA sbNode A'' (vs ++ ys ++ [y]), Dj (some q) r := fun r hr => by
  have dA : Dj (some q) A' := h.ld.dq A' (by simp [roA])
  rcases mem r hr with rfl | hr | rfl | rfl
  ·exact (gro_dj hg dA.symm (l1 h.ld.box)).symm
  ·exact h.ld.dq r hr
  ·exact (hd (some q) (by simp [ldA])).1
  ·exact (hd (some q) (by simp [ldA])).2.1
 have hT : ∀ r ∈ roA sbNode A'' (vs ++ ys ++ [y]), Dj r T' := fun r hr => by
  rcases mem r hr with rfl | hr | rfl | rfl
  ·exact gro_dj hg (h.ld.dT A' (by simp [roA])) (l1 h.ld.pl)
  ·exact h.ld.dT r hr
  ·exact (hd T' (by simp [ldA])).1.symm
  ·exact (hd T' (by simp [ldA])).2.1.symm
 have pl2 : Own w0s 3 1 w'' T' (vs.length + ys.length) ct' (ts'.map (.int .i64)) := h.ld.pl.wr hg.wr (dj_apart h.ld.pl (h.ld.dT A' (by simp [roA])).symm)
 have ea : vs ++ (ys ++ [y]) = vs ++ ys ++ [y] := by rw [List.append_assoc]
 have el : vs.length + (ys ++ [y]).length = vs.length + ys.length + 1 := by simp; omega
 rw [ea, el]
 refine ⟨⟨hb, hro.wr hw hq, pl2.wr hw (dj_apart pl2 h.ld.qT.symm), hq, hT, h.ld.qT, fun v hv => ?_, n2_ h.ld.le (n2_ hg.wr.size hw.size)⟩, ?_⟩
 ·rcases List.mem_append.1 hv with hv | hv
  ·exact h.ld.sm v hv
  ·simp at hv; subst hv; exact h.sm
 ·have hc : CSt w' (ldA q A' T' (vs ++ ys)) w'' (ldA q A'' T' (vs ++ ys)) := CSt.of_gro hg (by simp [ldA, roA]) (fun x hx => by
   unfold ldA roA at hx ⊢
   simp only [List.mem_cons] at hx ⊢
   rcases hx with h | h | h | h
   ·simp [h]
   ·simp [h]
   ·simp [h]
   ·exact .inr (.inr (.inr (.inr h))))
  have h1 := (h.cst.trans hc).trans (CSt.of_wr hw (by simp [ldA]))
  refine ⟨h1.os, h1.tape, h1.output, h1.size, h1.keep, fun x hx g hgx => ?_⟩
  unfold ldA at hx
  rcases List.mem_cons.1 hx with rfl | hx
  ·exact h1.new _ (by simp [ldA]) g hgx
  ·rcases List.mem_cons.1 hx with rfl | hx
   ·exact h1.new _ (by simp [ldA]) g hgx
   ·rcases mem x hx with rfl | hx | rfl | rfl
    ·exact h1.new _ (by simp [ldA, roA]) g hgx
    ·rcases List.mem_cons.1 hx with rfl | hx
     ·exact h.cst.new _ (by simp [ldA, roA]) g hgx
     ·exact h1.new _ (by unfold ldA roA; simp only [List.mem_cons]; exact .inr (.inr (.inr hx))) g hgx
    ·exact .inr (own_blk h.s0 g hgx).1
    ·exact .inr (own_blk h.s1 g hgx).1
theorem LD.place {n c nt ct : Nat} {ts : List Int} (h : LD w0s w q A n c vs T nt ct ts) {T2 : Option Addr} {ct2 : Nat} {z : Int} (hg : Gro w T w' T2) (ho : Own w0s 3 1 w' T2 (nt + 1) ct2 ((ts ++ [z]).map (.int .i64))) (hw : Wr (some q) w' w'') (hb : Box w0s 200 2 w'' q [.slice A n c, .slice T2 (nt + 1) ct2]) :
  LD w0s w'' q A n c vs T2 (nt + 1) ct2 (ts ++ [z]) ∧ CSt w (ldA q A T vs) w'' (ldA q A T2 vs) := by
 have hqT2 : Dj T2 (some q) := gro_dj hg h.qT.symm fun g hgx => (own_blk h.box g hgx).2
 have hnd := h.nd.keepR (CSt.of_wr (R := [T]) hg.wr (by simp)) fun r hr a ha => by simp at hr; subst hr; exact (h.dT a ha).symm
 refine ⟨⟨hb, hnd.wr hw h.dq, ho.wr hw (dj_apart ho hqT2), h.dq, fun r hr => (gro_dj hg (h.dT r hr).symm fun g hgx => (h.nd.lo r hr g hgx).2).symm, hqT2.symm, h.sm, n2_ h.le (n2_ hg.wr.size hw.size)⟩, ?_⟩
 have hc : CSt w (ldA q A T vs) w' (ldA q A T2 vs) := CSt.of_gro hg (by simp [ldA]) (fun x hx => by
  unfold ldA at hx ⊢
  simp only [List.mem_cons] at hx ⊢
  rcases hx with h | h | h
  ·simp [h]
  ·simp [h]
  ·exact .inr (.inr (.inr h)))
 exact hc.trans (CSt.of_wr hw (by simp [ldA]))
theorem LN.kid (hq0 : w0s ≤ w.heap.size) (h : LN w0s w w' q qn A T vs A' c' ys T' ct' ts' y) {ns : List PN} (hr : LaidR w0s w' q A' T' (vs ++ ys) ns w'') :
  ∃ A2 c2 zs T2 ct2 ts2, LN w0s w w'' q qn A T vs A2 c2 (ys ++ zs) T2 ct2 ts2 y ∧ zs.map (·.p) = ns ∧ CSt w' (ldA q A' T' (vs ++ ys)) w'' (ldA q A2 T2 (vs ++ (ys ++ zs))) := by
 obtain ⟨A2, c2, zs, T2, ct2, ts2, h1, h2, h3⟩ := hr
 rw [List.append_assoc] at h1 h3
 have el : (vs ++ ys).length + zs.length = vs.length + (ys ++ zs).length := by simp; omega
 rw [el] at h1
 have o0 := h3.own h.s0 fun r hr => (h.d r hr).1
 have o1 := h3.own h.s1 fun r hr => (h.d r hr).2.1
 have ob := h3.own h.bx fun r hr => (h.d r hr).2.2
 exact ⟨A2, c2, zs, T2, ct2, ts2, ⟨h1, ob.1, o0.1, o1.1, fun r hr => ⟨o0.2 r hr, o1.2 r hr, ob.2 r hr⟩, h.d01, h.dn, h.sm, h.cst.trans h3⟩, h2, h3⟩
theorem LN.more (h : LN w0s w w' q qn A T vs A' c' ys T' ct' ts' y) {K : Option Addr} {kc : Nat} {z : Int} {w2 w3 : World} (hx : Ext w' w2) (hg : Gro w2 y.A1 w3 K) (ho : Own w.heap.size 3 1 w3 K (y.m1 + 1) kc ((y.p.ks ++ [z]).map (.int .i64))) {w4 : World} (hw : Wr (some qn) w3 w4) (hb : Box w.heap.size 90 5 w4 qn [.int .i64 y.p.o, .int .i64 y.p.z, .string y.p.tx, .slice y.A0 y.m0 y.c0, .slice K (y.m1 + 1) kc]) :
  LN w0s w w4 q qn A T vs A' c' ys T' ct' ts' ⟨⟨y.p.o, y.p.z, y.p.tx, y.p.xs, y.p.ks ++ [z]⟩, y.A0, y.m0, y.c0, K, y.m1 + 1, kc⟩ := by
 have h2 := h.ext hx
 have lt : ∀ {e : TypeId} {k m cc B : Nat} {X : Option Addr} {xs : List Value}, Own B e k w2 X m cc xs → ∀ g, blk X = some g → g < w2.heap.size := fun hX g hg => (own_blk hX g hg).2
 have dK : ∀ {X : Option Addr}, Dj y.A1 X → (∀ g, blk X = some g → g < w2.heap.size) → Dj K X := fun hd hX => gro_dj hg hd hX
 have hlo : ∀ r ∈ ldA q A' T' (vs ++ ys), ∀ g, blk r = some g → g < w2.heap.size := fun r hr g hgx => (h2.ld.low r hr g hgx).2
 have hc : CSt w2 [y.A1] w3 [y.A1] := CSt.of_wr hg.wr (by simp)
 have dq : ∀ r ∈ [y.A1], ∀ a ∈ ldA q A' T' (vs ++ ys), Dj r a := fun r hr a ha => by simp at hr; subst hr; exact (h2.d a ha).2.1.symm
 have hk1 : ∀ g, blk y.A1 = some g → w.heap.size ≤ g := fun g hgx => (own_blk h2.s1 g hgx).1
 have hcst : CSt w (ldA q A T vs) w3 (ldA q A' T' (vs ++ ys)) := ⟨hg.wr.os.trans h2.cst.os, hg.wr.tape.trans h2.cst.tape, hg.wr.output.trans h2.cst.output, n2_ h2.cst.size hg.wr.size, fun b hb1 hn => (hg.wr.block b (n3_ hb1 h2.cst.size) fun e => by have := hk1 b e.symm; omega).trans (h2.cst.keep b hb1 hn), h2.cst.new⟩
 have ld3 : LD w0s w3 q A' (vs.length + ys.length) c' (vs ++ ys) T' (vs.length + ys.length) ct' ts' := ⟨(hc.own h2.ld.box fun r hr => dq r hr _ (by simp [ldA])).1, h2.ld.nd.keepR hc fun r hr a ha => dq r hr a (by simp [ldA, ha]), (hc.own h2.ld.pl fun r hr => dq r hr _ (by simp [ldA])).1, h2.ld.dq, h2.ld.dT, h2.ld.qT, h2.ld.sm, n2_ h2.ld.le hg.wr.size⟩
 have s03 := (hc.own h2.s0 fun r hr => by simp at hr; subst hr; exact h2.d01.symm).1
 have bx3 := (hc.own h2.bx fun r hr => by simp at hr; subst hr; exact h2.dn.2.symm).1
 have hc4 : CSt w3 [some qn] w4 [some qn] := CSt.of_wr hw (by simp)
 have dq4 : ∀ r ∈ [some qn], ∀ a ∈ ldA q A' T' (vs ++ ys), Dj r a := fun r hr a ha => by simp at hr; subst hr; exact (h2.d a ha).2.2.symm
 have hn1 : ∀ g, blk (some qn) = some g → w.heap.size ≤ g := fun g hgx => (own_blk h2.bx g hgx).1
 have hcst4 : CSt w (ldA q A T vs) w4 (ldA q A' T' (vs ++ ys)) := ⟨hw.os.trans hcst.os, hw.tape.trans hcst.tape, hw.output.trans hcst.output, n2_ hcst.size hw.size, fun b hb1 hn => (hw.block b (n3_ hb1 hcst.size) fun e => by have := hn1 b e.symm; omega).trans (hcst.keep b hb1 hn), hcst.new⟩
 have dKn : Dj K (some qn) := dK h2.dn.2.symm (lt h2.bx)
 exact ⟨⟨(hc4.own ld3.box fun r hr => dq4 r hr _ (by simp [ldA])).1, ld3.nd.keepR hc4 fun r hr a ha => dq4 r hr a (by simp [ldA, ha]), (hc4.own ld3.pl fun r hr => dq4 r hr _ (by simp [ldA])).1, ld3.dq, ld3.dT, ld3.qT, ld3.sm, n2_ ld3.le hw.size⟩, hb, s03.wr hw (dj_apart s03 h2.dn.1.symm), ho.wr hw (dj_apart ho dKn),
  fun r hr => ⟨(h2.d r hr).1, (dK (h2.d r hr).2.1.symm (hlo r hr)).symm, (h2.d r hr).2.2⟩, (dK h2.d01.symm (lt h2.s0)).symm, ⟨h2.dn.1, dKn.symm⟩, h2.sm, hcst4⟩
end
end Go.Proofs.YtgnjkdkedjljjaaGreatDoor
namespace Go.Eng
set_option linter.unusedVariables false
set_option linter.unusedSimpArgs false
inductive Kz where
 | c
 | w
 | p
def ePh2Z (E : Sym) (S : World → Prop) (all : List Oper) : List (Nat × Kz) → Fr → World → (Fr → World → Prop) → Prop
 | [], F, w, K => K F w
 | (k, .c) :: l, F, w, K => match all[k]? with
  | none => False
  | some o => eOps E all [o] F w fun F' w' => S w' ∧ ePh2Z E S all l F' w' K
 | (k, .w) :: l, F, w, K => match all[k]? with
  | none => False
  | some o => eOps E all [o] F w fun F' w' => ePh2Z E S all l F' w' K
 | (k, .p) :: l, F, w, K => match all[k]? with
  | none => False
  | some o => eOps E.dull all [o] F w fun F' w' => ePh2Z E S all l F' w' K
def planZ2 (ops : Array Oper) (l0 : List Nat) : List (Nat × Kz) → Array Bool → Bool
 | [], listed => Region.ready .any ops listed == []
 | (k, .c) :: l, listed => Region.ready .any ops listed == [k] && planZ2 ops l0 l (listed.setIfInBounds k true)
 | (k, .w) :: l, listed => Region.ready .any ops listed == [k] && !(needS .any ops l0 k) && planZ2 ops l0 l (listed.setIfInBounds k true)
 | (k, .p) :: l, listed => Region.free .any ops listed k && (Region.ready .any ops listed).contains k && planZ2 ops l0 l (listed.setIfInBounds k true)
def planZ1 (ops : Array Oper) (l0 : List Nat) : List Nat → List (Nat × Kz) → Array Bool → Bool
 | [], l2, listed => planZ2 ops l0 l2 listed
 | k :: l, l2, listed => (l0.contains k || calmAt ops k) && Region.free .any ops listed k && (Region.ready .any ops listed).contains k && planZ1 ops l0 l l2 (listed.setIfInBounds k true)
def planZ (ops : Array Oper) (l0 l1 : List Nat) (l2 : List (Nat × Kz)) : Bool :=
 Region.noSelect ops && Nat.beq (l1.length + l2.length) ops.size && planZ1 ops l0 l1 l2 (Array.replicate ops.size false)
section
variable {P : Program} {Pn : List PanicEntry → World → Prop} {n : Nat}
theorem ePh2Z_sound {S : World → Prop} {all : List Oper} {l0 : List Nat} (hs : Region.noSelect all.toArray = true) (hd : ∀ o ∈ all, ∀ t, o.dst = some t → t < n) {K : Exit → Fr → World → Prop} : ∀ (l : List (Nat × Kz)) (listed : Array Bool) (F : Fr) (a : Act) (w : World), Kn n F a → planZ2 all.toArray l0 l listed = true → ePh2Z (real P Pn n) S all l F w (K .normal) → wpAnyU P .any all.toArray (QK Pn n K) S l0 l.length listed a w
 | [], listed, F, a, w, hk, hB, h => by
  have hr : Region.ready .any all.toArray listed = [] := by simpa [planZ2] using hB
  exact wpAnyU_done hr ⟨F, hk, h⟩ _
 | (k, .c) :: l, listed, F, a, w, hk, hB, h => by
  simp only [planZ2, Bool.and_eq_true] at hB
  obtain ⟨hr, hB⟩ := hB
  have hr : Region.ready .any all.toArray listed = [k] := by simpa using hr
  simp only [ePh2Z] at h
  split at h
  ·exact h.elim
  ·rename_i o ho
   refine ⟨fun q => (by rw [hr] at q; cases q), fun i hi => ?_⟩
   obtain rfl : i = k := by rw [hr] at hi; simpa using hi
   exact step_op (Pn := Pn) ho (hd o (m1_ ho)) hk (fun c w h => ⟨hk.defers, h⟩) (fun F' a' w' hk' ⟨h1, h2⟩ => ⟨fun _ _ => h1, ePh2Z_sound hs hd l _ F' a' w' hk' hB h2⟩) h
 | (k, .w) :: l, listed, F, a, w, hk, hB, h => by
  simp only [planZ2, Bool.and_eq_true, Bool.not_eq_true'] at hB
  obtain ⟨⟨hr, hn⟩, hB⟩ := hB
  have hr : Region.ready .any all.toArray listed = [k] := by simpa using hr
  simp only [ePh2Z] at h
  split at h
  ·exact h.elim
  ·rename_i o ho
   refine ⟨fun q => (by rw [hr] at q; cases q), fun i hi => ?_⟩
   obtain rfl : i = k := by rw [hr] at hi; simpa using hi
   exact step_op (Pn := Pn) ho (hd o (m1_ ho)) hk (fun c w h => ⟨hk.defers, h⟩) (fun F' a' w' hk' h2 => ⟨fun q => (by rw [hn] at q; cases q), ePh2Z_sound hs hd l _ F' a' w' hk' hB h2⟩) h
 | (k, .p) :: l, listed, F, a, w, hk, hB, h => by
  simp only [planZ2, Bool.and_eq_true] at hB
  obtain ⟨⟨hf, hr⟩, hB⟩ := hB
  simp only [ePh2Z] at h
  split at h
  ·exact h.elim
  ·rename_i o ho
   obtain ⟨v, F', hy, hk', h⟩ := step_yields (P := P) (n := n) (S := fun _ => True) (E' := (real P Pn n).dull) (fun _ _ => rfl) (fun _ _ _ h => h.elim) (hd o (m1_ ho)) hk h
   exact wpAnyU_takeP (by simpa using ho) hs hf hr panic_put hy (ePh2Z_sound hs hd l _ F' _ w hk' hB h)
theorem ePh1Z_sound {S : World → Prop} {w : World} (hSE : ∀ w1, S w1 → Ext w w1) {all : List Oper} {l0 : List Nat} (hs : Region.noSelect all.toArray = true) (hd : ∀ o ∈ all, ∀ t, o.dst = some t → t < n) {K : Exit → Fr → World → Prop} {w0 : World} (hS : S w0) (l2 : List (Nat × Kz)) (K1 : Fr → World → Prop) : ∀ (l : List Nat) (listed : Array Bool) (F : Fr) (a : Act), Kn n F a → Closed .any all.toArray listed → planZ1 all.toArray l0 l l2 listed = true → ePh1 (hreal P) all l F w K1 →
  (∀ F a listed, Kn n F a → planZ2 all.toArray l0 l2 listed = true → K1 F w → wpAnyU P .any all.toArray (QK Pn n K) S l0 l2.length listed a w0) → wpAnyU P .any all.toArray (QK Pn n K) S l0 (l.length + l2.length) listed a w0
 | [], listed, F, a, hk, hcl, hB, h, h2 => by simpa using h2 F a listed hk hB h
 | k :: l, listed, F, a, hk, hcl, hB, h, h2 => by
  simp only [planZ1, Bool.and_eq_true] at hB
  obtain ⟨⟨⟨hl, hf⟩, hr⟩, hB⟩ := hB
  simp only [ePh1] at h
  split at h
  ·exact h.elim
  ·rename_i o ho
   by_cases hl0 : l0.contains k = true
   ·obtain ⟨v, F', hy, hk', h⟩ := step_yields (P := P) (n := n) (S := S) (E' := hreal P) (fun _ _ => rfl) (fun _ _ _ ⟨v, h1, h2⟩ => ⟨v, fun w1 hw1 => h1 w1 (hSE w1 hw1), h2⟩) (hd o (m1_ ho)) hk h
    have := wpAnyU_take (l := l0) (by simpa using ho) (by simpa using hl0) hs hf hr hcl panic_put hy hS (ePh1Z_sound hSE hs hd hS l2 K1 l _ F' _ hk' (closed_set hcl hr) hB h h2)
    simpa [Nat.add_right_comm] using this
   ·have hc : calmAt all.toArray k = true := by
     rcases Bool.or_eq_true_iff.1 hl with q | q
     ·exact absurd q hl0
     ·exact q
    obtain ⟨x, hx⟩ : ∃ x, o.op = .move x := by
     unfold calmAt at hc
     rw [show all.toArray[k]? = some o by simpa using ho] at hc
     simp only at hc
     split at hc
     ·rename_i x hx; exact ⟨x, hx⟩
     ·cases hc
    obtain ⟨v, F', hy, hk', h⟩ := step_yields (P := P) (n := n) (S := fun _ => True) (E' := (hreal P).dull) (fun _ _ => rfl) (fun _ _ _ h => h.elim) (hd o (m1_ ho)) hk (eOps_calm hx h)
    have := wpAnyU_takeP (S := S) (l := l0) (by simpa using ho) hs hf hr panic_put hy (ePh1Z_sound hSE hs hd hS l2 K1 l _ F' _ hk' (closed_set hcl hr) hB h h2)
    simpa [Nat.add_right_comm] using this
theorem draw_z (l0 l1 : List Nat) (l2 : List (Nat × Kz)) {E : Sym} (hE : E = real P Pn n) {id : Nat} {ops : Array Oper} {F : Fr} {w : World} {K : Exit → Fr → World → Prop} (hm : P.follows .mixedOrders = true) (hB : planZ ops l0 l1 l2 = true)
  (h : ∀ E', EngB false P E' → ∀ w0, Same w w0 → ∀ S : World → Prop, (∀ w', Ext w0 w' → S w') → ePh1 E' ops.toList l1 F w0 (fun F' w' => ePh2Z E S ops.toList l2 F' w' (K .normal))) : E.draw id ops F w K := by
 subst hE
 intro hd a hk
 simp only [planZ, Bool.and_eq_true, Nat.beq_eq] at hB
 obtain ⟨⟨hs, hl⟩, hB⟩ := hB
 have hs' : Region.noSelect ops.toList.toArray = true := by simpa using hs
 have := ePh1Z_sound (Pn := Pn) (K := K) (n := n) (l0 := l0) (S := Ext { w with drawn := w.drawn + 1 }) (w := { w with drawn := w.drawn + 1 }) (fun _ h => h) hs' (okDst_ops hd) (Ext.refl _) l2 _ l1 (Array.replicate ops.size false) F a hk (fun k o _ h => by simp only [Array.getD_eq_getD_getElem?, Array.getElem?_replicate] at h; split at h <;> simp at h) (by simpa using hB) (h (hreal P) (Eng.h P) _ (Same.drew w) _ (fun _ h => h))
  (fun F a listed hk hB h => ePh2Z_sound hs' (okDst_ops hd) l2 listed F a _ hk hB h)
 rw [hl] at this
 exact wp_region_any hm (wpAny_of_U _ _ _ _ (by simpa using this))
end
section
variable {P : Program} {S : World → Prop} {E : Sym} {w : World} {K : Value → World → Prop}
theorem sw_det (hE : EngW S P E) {o : Oper} {vals : List Value} {v : Value} (h : ∀ w1, ∀ ρ : Operand → Value, (opnds o.op).map ρ = vals → (execOp ρ o).run P w1 = .ok (.value v) w1) (hk : K v w) : E.stop o vals w K := hE.det (fun w1 _ ρ hρ => h w1 ρ hρ) hk
end
section
variable {P : Program} {Pn : List PanicEntry → World → Prop} {n : Nat}
theorem ePh1ZS_sound {S : World → Prop} {w : World} {all : List Oper} {l0 : List Nat} (hs : Region.noSelect all.toArray = true) (hd : ∀ o ∈ all, ∀ t, o.dst = some t → t < n) {K : Exit → Fr → World → Prop} {w0 : World} (hS : S w0) (l2 : List (Nat × Kz)) (K1 : Fr → World → Prop) : ∀ (l : List Nat) (listed : Array Bool) (F : Fr) (a : Act), Kn n F a → Closed .any all.toArray listed → planZ1 all.toArray l0 l l2 listed = true → ePh1 (wreal S P) all l F w K1 →
  (∀ F a listed, Kn n F a → planZ2 all.toArray l0 l2 listed = true → K1 F w → wpAnyU P .any all.toArray (QK Pn n K) S l0 l2.length listed a w0) → wpAnyU P .any all.toArray (QK Pn n K) S l0 (l.length + l2.length) listed a w0
 | [], listed, F, a, hk, hcl, hB, h, h2 => by simpa using h2 F a listed hk hB h
 | k :: l, listed, F, a, hk, hcl, hB, h, h2 => by
  simp only [planZ1, Bool.and_eq_true] at hB
  obtain ⟨⟨⟨hl, hf⟩, hr⟩, hB⟩ := hB
  simp only [ePh1] at h
  split at h
  ·exact h.elim
  ·rename_i o ho
   by_cases hl0 : l0.contains k = true
   ·obtain ⟨v, F', hy, hk', h⟩ := step_yields (P := P) (n := n) (S := S) (E' := wreal S P) (fun _ _ => rfl) (fun _ _ _ ⟨v, h1, h2⟩ => ⟨v, fun w1 hw1 => h1 w1 hw1, h2⟩) (hd o (m1_ ho)) hk h
    have := wpAnyU_take (l := l0) (by simpa using ho) (by simpa using hl0) hs hf hr hcl panic_put hy hS (ePh1ZS_sound hs hd hS l2 K1 l _ F' _ hk' (closed_set hcl hr) hB h h2)
    simpa [Nat.add_right_comm] using this
   ·have hc : calmAt all.toArray k = true := by
     rcases Bool.or_eq_true_iff.1 hl with q | q
     ·exact absurd q hl0
     ·exact q
    obtain ⟨x, hx⟩ : ∃ x, o.op = .move x := by
     unfold calmAt at hc
     rw [show all.toArray[k]? = some o by simpa using ho] at hc
     simp only at hc
     split at hc
     ·rename_i x hx; exact ⟨x, hx⟩
     ·cases hc
    obtain ⟨v, F', hy, hk', h⟩ := step_yields (P := P) (n := n) (S := fun _ => True) (E' := (wreal S P).dull) (fun _ _ => rfl) (fun _ _ _ h => h.elim) (hd o (m1_ ho)) hk (eOps_calm hx h)
    have := wpAnyU_takeP (S := S) (l := l0) (by simpa using ho) hs hf hr panic_put hy (ePh1ZS_sound hs hd hS l2 K1 l _ F' _ hk' (closed_set hcl hr) hB h h2)
    simpa [Nat.add_right_comm] using this
theorem draw_zs (S : World → Prop) (l0 l1 : List Nat) (l2 : List (Nat × Kz)) {E : Sym} (hE : E = real P Pn n) {id : Nat} {ops : Array Oper} {F : Fr} {w : World} {K : Exit → Fr → World → Prop} (hm : P.follows .mixedOrders = true) (hB : planZ ops l0 l1 l2 = true) (hS : ∀ w0, Same w w0 → S w0)
  (h : ∀ E', EngW S P E' → ∀ w0, Same w w0 → ePh1 E' ops.toList l1 F w0 (fun F' w' => ePh2Z E S ops.toList l2 F' w' (K .normal))) : E.draw id ops F w K := by
 subst hE
 intro hd a hk
 simp only [planZ, Bool.and_eq_true, Nat.beq_eq] at hB
 obtain ⟨⟨hs, hl⟩, hB⟩ := hB
 have hs' : Region.noSelect ops.toList.toArray = true := by simpa using hs
 have := ePh1ZS_sound (Pn := Pn) (K := K) (n := n) (l0 := l0) (S := S) (w := { w with drawn := w.drawn + 1 }) hs' (okDst_ops hd) (hS _ (Same.drew w)) l2 _ l1 (Array.replicate ops.size false) F a hk (fun k o _ h => by simp only [Array.getD_eq_getD_getElem?, Array.getElem?_replicate] at h; split at h <;> simp at h) (by simpa using hB) (h (wreal S P) ⟨fun {_ _ _ v _} h hk => ⟨v, h, hk⟩⟩ _ (Same.drew w))
  (fun F a listed hk hB h => ePh2Z_sound hs' (okDst_ops hd) l2 listed F a _ hk hB h)
 rw [hl] at this
 exact wp_region_any hm (wpAny_of_U _ _ _ _ (by simpa using this))
end
end Go.Eng
namespace Go.Proofs.YtgnjkdkedjljjaaGreatDoor
open Go.Eng
set_option linter.unusedVariables false
set_option linter.unusedSimpArgs false
theorem TreeV.ifc3 {D : Nat → Prop} {w : World} {t : Tr} {v : Value} (h : TreeV D w t v) : ∃ u x, v = .iface u x := by
 cases t with
 | con k n tx xs a => simp only [TreeV] at h; obtain ⟨A, m, c, rfl, _⟩ := h; exact ⟨_, _, rfl⟩
 | nam tx a => simp only [TreeV] at h; exact ⟨_, _, h.1⟩
 | att n => simp only [TreeV] at h; exact ⟨_, _, h⟩
 | lt n => simp only [TreeV] at h; exact ⟨_, _, h⟩
 | op o kids a => simp only [TreeV] at h; obtain ⟨A, m, c, vs, rfl, _⟩ := h; exact ⟨_, _, rfl⟩
theorem dep_ge3 (t : Tr) : 1 ≤ dep t := by cases t <;> simp [dep]
theorem kids_le_pos : ∀ l : List Tr, l.length ≤ (pos l).length
 | [] => by simp
 | t :: l => by have := kids_le_pos l; have := po_pos t; rw [pos, List.length_append, a3_]; omega
theorem po_op (o : Int) (kids : List Tr) (a : Int) : (po (.op o kids a)).length = (pos kids).length + 1 := by rw [po, List.length_append]; rfl
theorem kOp_of {k z : Int} (h : (k, z) ∈ constF ∨ (z = 0 ∧ ∀ q, (k, q) ∉ constF)) : z = kOp k := by
 unfold kOp
 rcases h with h | ⟨h, hn⟩
 ·simp [constF] at h
  rcases h with ⟨rfl, rfl⟩ | ⟨rfl, rfl⟩ | ⟨rfl, rfl⟩ | ⟨rfl, rfl⟩ <;> decide
 ·subst h
  by_cases e1 : k = 1
  ·subst e1; exact absurd (by simp [constF]) (hn 3)
  ·by_cases e2 : k = 2
   ·subst e2; exact absurd (by simp [constF]) (hn 1)
   ·by_cases e3 : k = 3
    ·subst e3; exact absurd (by simp [constF]) (hn 2)
    ·by_cases e4 : k = 4
     ·subst e4; exact absurd (by simp [constF]) (hn 4)
     ·rw [if_neg e1, if_neg e2, if_neg e3, if_neg e4]
theorem layL_take {b : Nat} {kids : List Tr} {j : Nat} {t : Tr} (h : kids[j]? = some t) : layL b (kids.take (j + 1)) = ((layL b (kids.take j)).1 ++ layF (b + (layL b (kids.take j)).1.length) t, (layL b (kids.take j)).2 ++ [((b + (layL b (kids.take j)).1.length + (layF (b + (layL b (kids.take j)).1.length) t).length : Nat) : Int) - 1]) := by
 rw [g4_, h, Option.toList_some, layL_app]
 simp only [layL, a7_]
theorem lay_all {w0 : World} (hT : Tab w0 6 constF) {q : Addr} (hqb : blk (some q) = some q.block) : ∀ (n : Nat) (t : Tr), dep t ≤ n → fewT t → ∀ (v : Value) (w : World) (D : Nat → Prop) (A T : Option Addr) (m c ct : Nat) (vs : List VN) (ts : List Int), Ext w0 w → LD w0.heap.size w q A m c vs T m ct ts → m + (po t).length ≤ 4000 → TreeV D w t v → (∀ b, D b → b < w.heap.size ∧ ∀ r ∈ ldA q A T vs, blk r ≠ some b) →
  GC Tryz.prog 165 [.pointer (some q), v] w fun r w' => r = .int .i64 ((m : Int) + (po t).length - 1) ∧ LaidR w0.heap.size w q A T vs (layF m t) w' := by
 intro n
 induction n with
 | zero => intro t hd; have := dep_ge3 t; omega
 | succ n ih =>
 intro t hd hfew v w D A T m c ct vs ts hx0 hL hm htv hD
 have hlen := hL.len
 refine GC.intro (cs := [27]) Tryz.func165 (by kernel_rfl) fun E R hE hr hR => ?_
 obtain ⟨ty, pv, rfl⟩ := htv.ifc3
 obtain ⟨NS, hNS⟩ : ∃ x, x = layF m t := ⟨_, rfl⟩
 obtain ⟨IX, hIX⟩ : ∃ x : Int, x = (m : Int) + (po t).length - 1 := ⟨_, rfl⟩
 rw [← hNS, ← hIX] at hR
 have hpo : NS.length = (po t).length := by rw [hNS, layF_len]
 conv => cbv
 refine st_bN0 hE ?_
 conv => cbv
 refine st_alloc hr tINd rfl fun qn w1 hx1 hq0 => ?_
 conv => cbv
 refine st_putS hr (by kernel_rfl) (hq0 _ (n1_ _)) (add_zero _).symm (by simp) (by simp [Value.oneCell']) fun w2 hw2 hb2 => ?_
 simp only [a1_, a2_, a3_, a4_, a5_, a6_, a7_] at hb2
 have hx2 := hx1.then (hw2.bel (hq0 _ (n1_ _)) hx1.size)
 have hN := LN.start hL hx2 hb2
 clear hq0 hw2 hx1 hb2
 have kD : ∀ {w' : World}, Ext w w' → Keeps D w w' := fun hx b hb => hx.block b (hD b hb).1
 conv => cbv
 refine cut_rule [] [] hr (fun (s : Option Addr × Nat × List VN × Option Addr × Nat × List Int × VN × Int) w' => LN w0.heap.size w w' q qn A T vs s.1 s.2.1 s.2.2.1 s.2.2.2.1 s.2.2.2.2.1 s.2.2.2.2.2.1 s.2.2.2.2.2.2.1 ∧ (s.2.2.1 ++ [s.2.2.2.2.2.2.1]).map (·.p) = NS) (fun s => [(0, .pointer (some q)), (5, .pointer (some qn)), (6, .int .i64 s.2.2.2.2.2.2.2)]) (fun J hJ => ?_) ?_
 ·-- the node is made
  cases t with
  | con k z tx xs at_ =>
   simp only [TreeV] at htv
   obtain ⟨Ax, mx, cx, e, hsx, hin, hsz⟩ := htv
   cases e
   simp only [fewT] at hfew
   conv => cbv
   refine st_eqSome hE Tryz.underlying178 ?_
   conv => cbv
   refine st_ta hE (taCoCo k z at_ tx Ax mx cx) ?_
   conv => cbv
   refine st_alloc hr tCoT rfl fun q8 w3 hx3 hq0 => ?_
   conv => cbv
   refine st_putS hr (by kernel_rfl) (hq0 _ (n1_ _)) (add_zero _).symm (by simp) (by simp [Value.oneCell']) fun w4 hw4 hb4 => ?_
   simp only [a1_, a2_, a3_, a4_, a5_, a6_, a7_] at hb4
   have hx4 := hx3.then (hw4.bel (hq0 _ (n1_ _)) hx3.size)
   have d8 : Dj (some qn) (some q8) := dj_new hN.bx hb4 (n1_ _)
   replace hN := hN.ext hx4
   have hN4 := hN
   have hxw4 := hx2.trans hx4
   clear hq0 hw4 hx3
   obtain ⟨bm, es, clock, t1, t2, t3, t4, _⟩ := (hT.ext (hx0.trans hxw4)).ex
   have hs4 : Strs w4 Ax mx cx xs := hsx.ext hxw4
   have hmx := hs4.len
   conv => cbv
   refine draw_t [0, 1, 2, 3, 4, 5, 6, 7, 8, 9, 10, 12, 13, 14] [(11, true), (15, true), (16, true), (17, false)] hr fol (by kernel_rfl) fun E' hE' w5 hs5 S hS => ?_
   have x5 := hs5.ext
   conv => cbv
   refine st_load hE' cMap (x5.cell t1) ?_
   conv => cbv
   (refine st_fld hE' fCo0 fun p1 hp1 => ?_; (conv => cbv); refine st_fld hE' fIV0 fun p hp => ?_; (conv => cbv); refine st_load hE' cInt (by rw [hp, hp1, add_add]; exact ((hb4.bel x5)).at 0 _ rfl) ?_; clear hp hp1; (conv => cbv))
   refine st_tab hE' Tryz.underlying316 uInt (by kernel_rfl) (x5.getMap t2) t3 t4 fun o ho => ?_
   have ho := kOp_of ho
   conv => cbv
   (refine st_fld hE' fCo0 fun p1 hp1 => ?_; (conv => cbv); refine st_fld hE' fIV1 fun p hp => ?_; (conv => cbv); refine st_load hE' cI64 (by rw [hp, hp1, add_add]; exact ((hb4.bel x5)).at 1 _ rfl) ?_; clear hp hp1; (conv => cbv))
   (refine st_fld hE' fCo0 fun p1 hp1 => ?_; (conv => cbv); refine st_fld hE' fIV2 fun p hp => ?_; (conv => cbv); refine st_load hE' cStr (by rw [hp, hp1, add_add]; exact ((hb4.bel x5)).at 2 _ rfl) ?_; clear hp hp1; (conv => cbv))
   (refine st_fld hE' fCo0 fun p1 hp1 => ?_; (conv => cbv); refine st_fld hE' fIV3 fun p hp => ?_; (conv => cbv); refine st_load hE' cStrs (by rw [hp, hp1, add_add]; exact ((hb4.bel x5)).at 3 _ rfl) ?_; clear hp hp1; (conv => cbv))
   refine st_none hr tStrs fun AA w6 hx6 ho0 => ?_
   have ho6 := ho0 w4.heap.size (by rw [hs5.heap]; exact n1_ _)
   have ho6' := ho0 _ (n1_ _)
   refine ⟨hS _ hx6, ?_⟩
   conv => cbv
   refine st_apps hr tStrs rfl ho6' ((hs4.ext x5).ext hx6).cells (by rw [List.length_map]; exact hmx) (by simp [Value.oneCell']) hx6.size (by omega) (by omega) fun B0 bc bn w7 hbn hw7 hoB => ?_
   rw [Nat.zero_add] at hbn
   subst hbn
   rw [a2_] at hoB
   have hx7 := hx6.then (hw7.bel ho6' hx6.size)
   refine ⟨hS _ hx7, ?_⟩
   conv => cbv
   refine st_bN hE ?_
   refine ⟨hS _ hx7, ?_⟩
   conv => cbv
   replace hN := hN.ext (x5.trans hx7)
   have hb0 := hN.bx
   refine st_putS hr (by kernel_rfl) hN.bx (add_zero _).symm (by simp [cN]) (by simp [Value.oneCell']) fun w8 hw8 hb8 => ?_
   simp only [cN, a1_, a2_, a3_, a4_, a5_, a6_, a7_] at hb8
   have s02 := hxw4.size
   have s54 : w4.heap.size = w5.heap.size := by rw [hs5.heap]
   have hnew : ∀ {Z : Option Addr}, (∀ g, blk Z = some g → g < w4.heap.size) → Dj Z B0 := fun hZ g h1 h2 => by have := hZ g h1; have := (own_blk hoB g h2).1; omega
   have hlo4 : ∀ r ∈ ldA q A T (vs ++ []), ∀ g, blk r = some g → g < w4.heap.size := fun r hr g hg => by have := (hL.low r (by simpa using hr) g hg).2; omega
   have hN8 := hN.set (z := ⟨⟨o, z, tx, xs, []⟩, B0, bn, bc, none, 0, 0⟩) hw8 hb8 (hoB.mono (by omega)) Own.nil (fun r hr => ⟨hnew (hlo4 r hr), dj_none _⟩) (dj_none _) ⟨hnew fun g hg => (own_blk hN4.bx g hg).2, dj_none _⟩ ⟨hsz, hsx.small⟩
   conv => cbv
   have hb9 := (hb4.bel (x5.trans hx7)).wr hw8 (dj_apart (hb4.bel (x5.trans hx7)) d8.symm)
   (refine st_fld hE fCo1 fun p hp => ?_; (conv => cbv); refine st_load hE cInt (by rw [hp]; exact (hb9).at _ _ rfl) ?_; (conv => cbv))
   refine ⟨(A, c, [], T, ct, ts, _, at_), by simp [Fits, lk], hJ _ _ ⟨hN8, ?_⟩⟩
   simp only [a2_, b2_, b3_]
   rw [hNS, layF, ho]
  | nam tx at_ =>
   simp only [TreeV] at htv
   obtain ⟨e, hsz⟩ := htv
   cases e
   conv => cbv
   refine st_eqSome hE Tryz.underlying178 ?_
   conv => cbv
   refine st_ta hE (taNaCo tx at_) ?_
   conv => cbv
   refine st_ta hE (taNaNa tx at_) ?_
   conv => cbv
   refine st_alloc hr tNaT rfl fun q8 w3 hx3 hq0 => ?_
   conv => cbv
   refine st_putS hr (by kernel_rfl) (hq0 _ (n1_ _)) (add_zero _).symm (by simp) (by simp [Value.oneCell']) fun w4 hw4 hb4 => ?_
   simp only [a1_, a2_, a3_, a4_, a5_, a6_, a7_] at hb4
   have hx4 := hx3.then (hw4.bel (hq0 _ (n1_ _)) hx3.size)
   have d8 : Dj (some qn) (some q8) := dj_new hN.bx hb4 (n1_ _)
   replace hN := hN.ext hx4
   clear hq0 hw4 hx3
   conv => cbv
   refine draw_s (fun w1 => ∀ i u, ([.string tx, .int .i64 at_] : List Value)[i]? = some u → w1.cell? (q8.add i) = some u) [0, 1, 2, 3, 4] [(5, false), (6, true)] hr fol (by kernel_rfl) (fun w1 hs => (hb4.bel hs.ext).at) fun E' hE' w5 hs5 => ?_
   have x5 := hs5.ext
   conv => cbv
   (refine sw_fld hE' fNa0 fun p hp => ?_; (conv => cbv); refine sw_load hE' cStr (v := (.string tx)) (fun w1 h1 => by rw [hp]; exact h1 0 _ rfl) ?_; (conv => cbv))
   refine sw_det hE' (v := .agg ⟨[.int .i64 5, .int .i64 0, .string tx, .slice none 0 0, .slice none 0 0]⟩) (fun w1 ρ hρ => ?_) ?_
   ·simp only [opnds, b2_, b3_, b1_, and_true] at hρ
    have := run_bNt 5 tx w1
    simp [execOp, hρ.1, hρ.2, this]
   conv => cbv
   (refine sw_fld hE' fNa1 fun p hp => ?_; (conv => cbv); refine sw_load hE' cInt (v := (.int .i64 at_)) (fun w1 h1 => by rw [hp]; exact h1 1 _ rfl) ?_; (conv => cbv))
   replace hN := hN.ext x5
   refine st_putS hr (by kernel_rfl) hN.bx (add_zero _).symm (by simp [cN]) (by simp [Value.oneCell']) fun w8 hw8 hb8 => ?_
   simp only [cN, a1_, a2_, a3_, a4_, a5_, a6_, a7_] at hb8
   refine ⟨((hb4.bel x5).wr hw8 (dj_apart (hb4.bel x5) d8.symm)).at, ?_⟩
   have hN8 := hN.set (z := ⟨⟨5, 0, tx, [], []⟩, none, 0, 0, none, 0, 0⟩) hw8 hb8 Own.nil Own.nil (fun r hr => ⟨dj_none _, dj_none _⟩) (dj_none _) ⟨dj_none _, dj_none _⟩ ⟨hsz, by simp⟩
   conv => cbv
   refine ⟨(A, c, [], T, ct, ts, _, at_), by simp [Fits, lk], hJ _ _ ⟨hN8, ?_⟩⟩
   simp only [a2_, b2_, b3_]
   rw [hNS, layF]
  | att z =>
   simp only [TreeV] at htv
   cases htv
   conv => cbv
   refine st_eqSome hE Tryz.underlying178 ?_
   conv => cbv
   refine st_ta hE (taAtCo z) ?_
   conv => cbv
   refine st_ta hE (taAtNa z) ?_
   conv => cbv
   refine st_ta hE (taAtAt z) ?_
   conv => cbv
   refine st_alloc hr tAtT rfl fun q8 w3 hx3 hq0 => ?_
   conv => cbv
   refine st_putS hr (by kernel_rfl) (hq0 _ (n1_ _)) (add_zero _).symm (by simp) (by simp [Value.oneCell']) fun w4 hw4 hb4 => ?_
   simp only [a1_, a2_, a3_, a4_, a5_, a6_, a7_] at hb4
   have hx4 := hx3.then (hw4.bel (hq0 _ (n1_ _)) hx3.size)
   replace hN := hN.ext hx4
   clear hq0 hw4 hx3
   conv => cbv
   (refine st_fld hE fAtT0 fun p hp => ?_; (conv => cbv); refine st_load hE cInt (by rw [hp]; exact (hb4).at _ _ rfl) ?_; (conv => cbv))
   refine st_bNz hE ?_
   conv => cbv
   refine st_putS hr (by kernel_rfl) hN.bx (add_zero _).symm (by simp [cN]) (by simp [Value.oneCell']) fun w8 hw8 hb8 => ?_
   simp only [cN, a1_, a2_, a3_, a4_, a5_, a6_, a7_] at hb8
   have hN8 := hN.set (z := ⟨⟨6, z, ⟨#[]⟩, [], []⟩, none, 0, 0, none, 0, 0⟩) hw8 hb8 Own.nil Own.nil (fun r hr => ⟨dj_none _, dj_none _⟩) (dj_none _) ⟨dj_none _, dj_none _⟩ ⟨by simp [ByteArray.size], by simp⟩
   conv => cbv
   refine ⟨(A, c, [], T, ct, ts, _, 0), by simp [Fits, lk], hJ _ _ ⟨hN8, ?_⟩⟩
   simp only [a2_, b2_, b3_]
   rw [hNS, layF]
  | lt z =>
   simp only [TreeV] at htv
   cases htv
   conv => cbv
   refine st_eqSome hE Tryz.underlying178 ?_
   conv => cbv
   refine st_ta hE (taLtCo z) ?_
   conv => cbv
   refine st_ta hE (taLtNa z) ?_
   conv => cbv
   refine st_ta hE (taLtAt z) ?_
   conv => cbv
   refine st_ta hE (taLtLt z) ?_
   conv => cbv
   refine st_alloc hr tLtT rfl fun q8 w3 hx3 hq0 => ?_
   conv => cbv
   refine st_putS hr (by kernel_rfl) (hq0 _ (n1_ _)) (add_zero _).symm (by simp) (by simp [Value.oneCell']) fun w4 hw4 hb4 => ?_
   simp only [a1_, a2_, a3_, a4_, a5_, a6_, a7_] at hb4
   have hx4 := hx3.then (hw4.bel (hq0 _ (n1_ _)) hx3.size)
   replace hN := hN.ext hx4
   clear hq0 hw4 hx3
   conv => cbv
   (refine st_fld hE fLtT0 fun p hp => ?_; (conv => cbv); refine st_load hE cInt (by rw [hp]; exact (hb4).at _ _ rfl) ?_; (conv => cbv))
   refine st_bNz hE ?_
   conv => cbv
   refine st_putS hr (by kernel_rfl) hN.bx (add_zero _).symm (by simp [cN]) (by simp [Value.oneCell']) fun w8 hw8 hb8 => ?_
   simp only [cN, a1_, a2_, a3_, a4_, a5_, a6_, a7_] at hb8
   have hN8 := hN.set (z := ⟨⟨7, z, ⟨#[]⟩, [], []⟩, none, 0, 0, none, 0, 0⟩) hw8 hb8 Own.nil Own.nil (fun r hr => ⟨dj_none _, dj_none _⟩) (dj_none _) ⟨dj_none _, dj_none _⟩ ⟨by simp [ByteArray.size], by simp⟩
   conv => cbv
   refine ⟨(A, c, [], T, ct, ts, _, 0), by simp [Fits, lk], hJ _ _ ⟨hN8, ?_⟩⟩
   simp only [a2_, b2_, b3_]
   rw [hNS, layF]
  | op o kids at_ =>
   simp only [TreeV] at htv
   obtain ⟨Ak, mk, ck, us, e, hul, hmk, hmk2, hcl, hin, hts⟩ := htv
   cases e
   simp only [fewT] at hfew
   conv => cbv
   refine st_eqSome hE Tryz.underlying178 ?_
   conv => cbv
   refine st_ta hE (taOpCo o at_ Ak mk ck) ?_
   conv => cbv
   refine st_ta hE (taOpNa o at_ Ak mk ck) ?_
   conv => cbv
   refine st_ta hE (taOpAt o at_ Ak mk ck) ?_
   conv => cbv
   refine st_ta hE (taOpLt o at_ Ak mk ck) ?_
   conv => cbv
   refine st_ta hE (taOpOp o at_ Ak mk ck) ?_
   conv => cbv
   refine st_alloc hr tOpT rfl fun q8 w3 hx3 hq0 => ?_
   conv => cbv
   refine st_putS hr (by kernel_rfl) (hq0 _ (n1_ _)) (add_zero _).symm (by simp) (by simp [Value.oneCell']) fun w4 hw4 hb4 => ?_
   simp only [a1_, a2_, a3_, a4_, a5_, a6_, a7_] at hb4
   have hx4 := hx3.then (hw4.bel (hq0 _ (n1_ _)) hx3.size)
   have d8 : Dj (some qn) (some q8) := dj_new hN.bx hb4 (n1_ _)
   replace hN := hN.ext hx4
   clear hq0 hw4 hx3
   conv => cbv
   refine draw_s (fun w1 => ∀ i u, ([.int .i64 o, .slice Ak mk ck, .int .i64 at_] : List Value)[i]? = some u → w1.cell? (q8.add i) = some u) [0, 1, 2, 3, 4] [(5, false), (6, true)] hr fol (by kernel_rfl) (fun w1 hs => (hb4.bel hs.ext).at) fun E' hE' w5 hs5 => ?_
   have x5 := hs5.ext
   conv => cbv
   (refine sw_fld hE' fOp0 fun p hp => ?_; (conv => cbv); refine sw_load hE' cInt (v := (.int .i64 o)) (fun w1 h1 => by rw [hp]; exact h1 0 _ rfl) ?_; (conv => cbv))
   refine sw_det hE' (v := .agg ⟨[.int .i64 o, .int .i64 0, .string ⟨#[]⟩, .slice none 0 0, .slice none 0 0]⟩) (fun w1 ρ hρ => ?_) ?_
   ·simp only [opnds, b2_, b3_, b1_, and_true] at hρ
    have := run_bNd o w1
    simp [execOp, hρ, this]
   conv => cbv
   (refine sw_fld hE' fOp2 fun p hp => ?_; (conv => cbv); refine sw_load hE' cInt (v := (.int .i64 at_)) (fun w1 h1 => by rw [hp]; exact h1 2 _ rfl) ?_; (conv => cbv))
   replace hN := hN.ext x5
   refine st_putS hr (by kernel_rfl) hN.bx (add_zero _).symm (by simp [cN]) (by simp [Value.oneCell']) fun w8 hw8 hb8 => ?_
   simp only [cN, a1_, a2_, a3_, a4_, a5_, a6_, a7_] at hb8
   have hN8 := hN.set (z := ⟨⟨o, 0, ⟨#[]⟩, [], []⟩, none, 0, 0, none, 0, 0⟩) hw8 hb8 Own.nil Own.nil (fun r hr => ⟨dj_none _, dj_none _⟩) (dj_none _) ⟨dj_none _, dj_none _⟩ ⟨by simp [ByteArray.size], by simp⟩
   have hb9 := (hb4.bel x5).wr hw8 (dj_apart (hb4.bel x5) d8.symm)
   refine ⟨hb9.at, ?_⟩
   conv => cbv
   (refine st_fld hE fOp1 fun p hp => ?_; (conv => cbv); refine st_load hE cTrs (by rw [hp]; exact (hb9).at _ _ rfl) ?_; (conv => cbv))
   refine st_len hE sTrs fun xl hxl => ?_
   have htl := hts.len
   have hpo2 := po_op o kids at_
   have hdk : deps kids ≤ n := by rw [dep] at hd; omega
   have kT : ∀ {w' : World} {R' : List (Option Addr)}, CSt w (ldA q A T vs) w' R' → Cells w' Ak us ∧ TreesV D w' kids us ∧ ∀ b, D b → b < w'.heap.size ∧ ∀ r ∈ R', blk r ≠ some b := fun hc => by
    have hk : Keeps D w _ := fun b hb => hc.keep b (hD b hb).1 fun x hx => (hD b hb).2 x hx
    refine ⟨cells_keep hcl (by rw [hul]; exact hin) hk, TreesV.keep hk (fun _ h => h) _ _ hts, fun b hb => ⟨n3_ (hD b hb).1 hc.size, fun r hr e => ?_⟩⟩
    rcases hc.new r hr b e with ⟨y, hy, e2⟩ | h
    ·exact (hD b hb).2 y hy e2
    ·have := (hD b hb).1; omega
   conv => cbv
   refine loop_rule hr (fun (s : Nat × Int × Option Addr × Nat × List VN × Option Addr × Nat × List Int × VN) w' => s.1 ≤ mk ∧ s.2.1 = (s.1 : Int) ∧ LN w0.heap.size w w' q qn A T vs s.2.2.1 s.2.2.2.1 s.2.2.2.2.1 s.2.2.2.2.2.1 s.2.2.2.2.2.2.1 s.2.2.2.2.2.2.2.1 s.2.2.2.2.2.2.2.2 ∧ s.2.2.2.2.1.map (·.p) = (layL m (kids.take s.1)).1 ∧ s.2.2.2.2.2.2.2.2.p = ⟨o, 0, ⟨#[]⟩, [], (layL m (kids.take s.1)).2⟩ ∧ s.2.2.2.2.2.2.2.2.m1 = s.1)
    (fun s => [(0, .pointer (some q)), (5, .pointer (some qn)), (6, .int .i64 at_), (69, .slice Ak mk ck), (70, .int .i64 xl), (71, .int .i64 s.2.1)]) (fun s => mk - s.1) (0, 0, A, c, [], T, ct, ts, ⟨⟨o, 0, ⟨#[]⟩, [], []⟩, none, 0, 0, none, 0, 0⟩)
    (by simp [Fits, lk]) ⟨by simp, by simp, hN8, by simp [layL], by simp [layL], rfl⟩ ?_
   clear hN8 hN hb9 hb8 hw8 hb4
   rintro I hI ⟨j, jj, A', c', ys, T', ct', ts', y⟩ w' ⟨hj, hjj, hN, hys, hyp, hym⟩
   simp only at hj hjj hN hys hyp hym
   obtain ⟨jk, hjk⟩ : ∃ z, z = jj + 1 := ⟨_, rfl⟩
   conv => cbv
   refine br (fun g => ?_) (fun g => ?_)
   ·have g : j < mk := by
     have : jj < xl := by simpa [hE.cmp, cmpR] using g
     omega
    have ej : E.ar .add .i64 jj 1 = jk := by rw [hE.ar, hjk]; exact wrap_in (by omega) (by omega)
    obtain ⟨k1, k2, k3⟩ := kT hN.cst
    obtain ⟨t', ht'⟩ : ∃ t', kids[j]? = some t' := ⟨_, g2_ (by omega)⟩
    obtain ⟨u, hu⟩ : ∃ u, us[j]? = some u := ⟨_, g2_ (by omega)⟩
    have hlt := layL_take (b := m) ht'
    have hyl : ys.length = (layL m (kids.take j)).1.length := by rw [← hys, List.length_map]
    have hpl : ys.length + (po t').length ≤ (pos kids).length := by
     have e1 := congrArg List.length (pos_take ht')
     rw [List.length_append] at e1
     have e2 := pos_take_le kids (j + 1)
     have e3 := (layL_len m (kids.take j)).1
     omega
    have hd1 := deps_mem (m1_ ht')
    have hfk : fewT t' := fewTs_at hfew ht'
    have x0w : Ext w0 w' := hN.cst.ext0 hx0 fun r hr g hg => (hL.low r hr g hg).1
    conv => cbv
    refine st_elem hE sTrs k1 hul.symm (by omega) (by omega) fun p v hv hp => ?_
    rw [show jj.toNat = j by omega, hu] at hv
    cases hv
    conv => cbv
    refine st_load hE cTr hp ?_
    obtain ⟨yo, yz, ytx, yA0, ym0, yc0, K, kl, kc, hcy⟩ : ∃ yo yz ytx yA0 ym0 yc0 K kl kc, cN y = [.int .i64 yo, .int .i64 yz, .string ytx, .slice yA0 ym0 yc0, .slice K kl kc] := ⟨_, _, _, _, _, _, _, _, _, rfl⟩
    obtain ⟨⟨o', z', tx', xs', ks'⟩, A0', m0', c0', A1', m1', c1'⟩ := y
    simp only [cN, b1_, Value.int.injEq, Value.string.injEq, Value.slice.injEq, and_true, true_and] at hcy
    obtain ⟨rfl, rfl, rfl, ⟨rfl, rfl, rfl⟩, ⟨rfl, rfl, rfl⟩⟩ := hcy
    simp only at hyp hym
    have htx := hp
    conv => cbv
    refine draw_zs (fun w1 => ∀ i u, ([.int .i64 o', .int .i64 z', .string tx', .slice A0' m0' c0', .slice A1' m1' c1'] : List Value)[i]? = some u → w1.cell? (qn.add i) = some u) [0, 1] [0, 1, 2, 3] [(4, .c), (5, .c), (6, .w), (7, .w), (8, .w)] hr fol (by kernel_rfl) (fun w1 hs => (hN.bx.bel hs.ext).at) fun E' hE' w5 hs5 => ?_
    replace hN := hN.ext hs5.ext
    replace x0w := x0w.trans hs5.ext
    obtain ⟨k1', k2', k3'⟩ := kT hN.cst
    conv => cbv
    refine sw_fld hE' fINd4 fun p2 hp2 => ?_
    conv => cbv
    refine sw_load hE' cInts (v := .slice A1' m1' c1') (fun w1 h1 => by rw [hp2]; exact h1 4 _ rfl) ?_
    conv => cbv
    have hih := ih t' (by omega) hfk u w5 D A' T' (vs.length + ys.length) c' ct' (vs ++ ys) ts' x0w hN.ld (by omega) (k2'.get j t' u ht' hu) k3'
    obtain ⟨ix, hix⟩ : ∃ ix : Int, ix = ((vs.length + ys.length : Nat) : Int) + (po t').length - 1 := ⟨_, rfl⟩
    rw [← hix] at hih
    refine st_g hr hih fun r w6 ⟨ev, hR6⟩ => ?_
    subst ev
    obtain ⟨A2, c2, zs, T2, ct2, ts2, hN6, hzs, hc6⟩ := hN.kid hL.le hR6
    refine ⟨hN6.bx.at, ?_⟩
    conv => cbv
    refine st_one hr tInts rfl rfl fun A7 w7 hx7 hc7 => ?_
    have hN7 := hN6.ext hx7
    refine ⟨hN7.bx.at, ?_⟩
    conv => cbv
    have hs1 := hN7.s1
    have hkl := kids_le_pos kids
    simp only at hs1
    refine st_appsG hr tInts rfl hs1 hc7 rfl (by simp [Value.oneCell']) hN7.cst.size (by omega) (by omega) fun A8 c8 m8 w8 hm8 hw8 ho8 hk8 => ?_
    subst hm8
    have hgK : Gro w7 A1' w8 A8 := Gro.app (Ext.refl _) hw8 hk8
    have bx8 := hN7.bx.wr hw8 (dj_apart hN7.bx hN7.dn.2)
    conv => cbv
    refine st_fld hE fINd4 fun p3 hp3 => ?_
    conv => cbv
    refine st_put hr zInts bx8 hp3 (by simp [cN]) rfl fun w9 hw9 hb9 => ?_
    simp only [cN, b4_, b5_] at hb9
    have hN9 := hN6.more hx7 hgK (z := ix) (by rw [List.map_append]; exact ho8) hw9 hb9
    conv => cbv
    simp only [ej]
    refine ⟨(j + 1, jk, A2, c2, ys ++ zs, T2, ct2, ts2, ⟨⟨o', z', tx', xs', ks' ++ [ix]⟩, A0', m0', c0', A8, m1' + 1, c8⟩), by simp [Fits, lk], hI _ _ ⟨by simp only; omega, by simp only; omega, hN9, ?_, ?_, by simp only; omega⟩, by simp only; omega⟩
    ·simp only
     rw [hlt, List.map_append, hys, hzs]
     simp only
     rw [hlen, hyl]
    ·simp only
     simp only [PN.mk.injEq] at hyp
     obtain ⟨rfl, rfl, rfl, rfl, rfl⟩ := hyp
     rw [hlt]
     simp only [PN.mk.injEq, true_and]
     rw [hix, layF_len, ← hyl, hlen, Int.natCast_add (m + ys.length) (po t').length]
   ·have g : j = mk := by
     have : ¬ jj < xl := by simpa [hE.cmp, cmpR] using g
     omega
    conv => cbv
    refine ⟨(A', c', ys, T', ct', ts', y, at_), by simp [Fits, lk], hJ _ _ ⟨hN, ?_⟩⟩
    rw [g3_ (by omega)] at hys hyp
    simp only
    rw [hNS, layF, List.map_append, hys, b2_, b3_, hyp]
 ·-- it is laid
  rintro ⟨A', c', ys, T', ct', ts', y, atz⟩ w' ⟨hN, hNSe⟩
  simp only at hN hNSe
  have hyl : ys.length + 1 = NS.length := by rw [← hNSe]; simp
  obtain ⟨cv, hcv⟩ : ∃ cv, cv = cN y := ⟨_, rfl⟩
  have hcl5 : cv.length = 5 := by rw [hcv]; rfl
  have hc1 : ∀ u ∈ cv, u.oneCell' = true := by rw [hcv]; simp [cN, Value.oneCell']
  conv => cbv
  refine draw_u [1, 2, 3, 4, 5] [0, 1, 2, 3, 4, 5] [(6, true), (7, false), (8, false), (9, false), (10, false)] hr fol (by kernel_rfl) fun E' hE' w3 hs3 S hS => ?_
  replace hN := hN.ext hs3.ext
  have hbx := hN.bx
  obtain ⟨nn, hnn⟩ : ∃ nn, nn = vs.length + ys.length := ⟨_, rfl⟩
  have hLd := hN.ld
  rw [← hnn] at hLd
  rw [← hcv] at hbx
  conv => cbv
  refine st_nil hE' ?_
  conv => cbv
  (refine st_fld hE' fLd0 fun p hp => ?_; (conv => cbv); refine st_load hE' cINs (by rw [hp]; exact (hLd.box).at _ _ rfl) ?_; (conv => cbv))
  refine st_loadS hE' tINd hcl5 hbx.at ?_
  conv => cbv
  refine st_oneS hr sINd rfl (by omega) (by omega) hcl5 fun A6 w4 hx4 hc6 => ?_
  refine ⟨hS _ hx4, ?_⟩
  replace hN := hN.ext hx4
  replace hLd := hLd.ext hx4
  conv => cbv
  refine st_appsKG hr sINd rfl (by omega) hLd.nd.row hc6 (by rw [hcl5]) (by omega) hc1 hLd.le (by omega) (by omega) fun A7 c7 m7 w5 hm7 hw5 ho5 hk5 => ?_
  subst hm7
  have hgro : Gro w4 A' w5 A7 := ⟨hw5, hk5.imp id fun e => ⟨_, e, n1_ _⟩⟩
  have hbq := hLd.box.wr hw5 (dj_apart hLd.box (hLd.dq A' (by simp [roA])))
  conv => cbv
  refine st_nil hE ?_
  conv => cbv
  refine st_fld hE fLd0 fun p hp => ?_
  conv => cbv
  refine st_put hr zINs hbq hp (by simp) rfl fun w6 hw6 hb6 => ?_
  simp only [b4_, b5_] at hb6
  have e5 : (vs ++ ys).flatMap cN ++ cv = (vs ++ ys ++ [y]).flatMap cN := by rw [List.flatMap_append (xs := vs ++ ys), hcv]; simp
  rw [e5] at ho5
  obtain ⟨hL6, hC6⟩ := hN.node hL.le hgro (by rw [← hnn]; exact ho5) hw6 (by rw [← hnn]; exact hb6)
  have el : vs.length + (ys ++ [y]).length = nn + 1 := by simp; omega
  rw [el, ← hnn] at hL6
  obtain ⟨n1, hn1⟩ : ∃ n1, n1 = nn + 1 := ⟨_, rfl⟩
  rw [← hn1] at hL6
  conv => cbv
  refine st_nil hE ?_
  conv => cbv
  (refine st_fld hE fLd1 fun p hp => ?_; (conv => cbv); refine st_load hE cInts (by rw [hp]; exact (hL6.box).at _ _ rfl) ?_; (conv => cbv))
  refine st_one hr tInts rfl rfl fun A8 w7 hx7 hc8 => ?_
  have hL7 := hL6.ext hx7
  conv => cbv
  refine st_appsG hr tInts rfl hL7.pl hc8 rfl (by simp [Value.oneCell']) hL7.le (by omega) (by omega) fun A9 c9 m9 w8 hm9 hw8 ho8 hk8 => ?_
  subst hm9
  have hg8 : Gro w7 T' w8 A9 := Gro.app (Ext.refl _) hw8 hk8
  have hb8 := hL7.box.wr hw8 (dj_apart hL7.box hL7.qT)
  conv => cbv
  refine st_nil hE ?_
  conv => cbv
  refine st_fld hE fLd1 fun p hp => ?_
  conv => cbv
  refine st_put hr zInts hb8 hp (by simp) rfl fun w9 hw9 hb9 => ?_
  simp only [b4_, b5_] at hb9
  obtain ⟨hL9, hC9⟩ := hL7.place hg8 (z := atz) (by rw [List.map_append]; exact ho8) hw9 hb9
  conv => cbv
  refine st_nil hE ?_
  conv => cbv
  (refine st_fld hE fLd0 fun p hp => ?_; (conv => cbv); refine st_load hE cINs (by rw [hp]; exact (hL9.box).at _ _ rfl) ?_; (conv => cbv))
  refine st_len hE sINd fun x9 hx9 => ?_
  have ex : E.ar .sub .i64 x9 1 = IX := by rw [hE.ar, show arR .sub .i64 x9 1 = IntKind.i64.wrap (x9 - 1) from rfl, wrap_in (by omega) (by omega)]; omega
  conv => cbv
  simp only [ex]
  rw [hR]
  refine ⟨rfl, A7, c7, ys ++ [y], A9, c9, ts' ++ [atz], ?_, hNSe, (hC6.trans (CSt.of_ext hx7 _)).trans hC9⟩
  have := hL9
  rw [hn1] at this
  rw [el]
  rw [← hn1] at this ⊢
  rw [hn1]
  rw [hn1] at this
  exact this
end Go.Proofs.YtgnjkdkedjljjaaGreatDoor
