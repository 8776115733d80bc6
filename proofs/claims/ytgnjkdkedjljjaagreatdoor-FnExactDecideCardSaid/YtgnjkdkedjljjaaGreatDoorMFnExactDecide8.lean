/- Texts that the law FnExactDecide leans on, part 8 of 8: contracts of the functions that it reaches and plain lemmas. Each holds under the conditions that it states. -/
import Derived.Test.YtgnjkdkedjljjaaGreatDoorMFnExactDecide7
import Derived.LaidMore
import Derived.Stop.Joined
import Derived.Stop.LaidTwo
import Derived.RowKitTokens
set_option maxHeartbeats 16000000
namespace Go.Proofs.YtgnjkdkedjljjaaGreatDoor
open Go.Eng
set_option linter.unusedVariables false
set_option linter.unusedSimpArgs false
def sbValue (v : VV) : List Sub := [⟨v.A, v.m, v.c, 9, v.p.xs.map .string⟩]
def mkValue (v : VV) (z : Int) : VV := ⟨⟨z, z + 1, mkText (z + 2), marks (z + 3) v.m⟩, v.A, v.m, v.c⟩
def ctValue (v : VV) : Nat := 3 + v.m
def sbIns (v : (Int × Int)) : List Sub := []
def mkIns (v : (Int × Int)) (z : Int) : (Int × Int) := (z, z + 1)
def ctIns (v : (Int × Int)) : Nat := 2
def sbNode (v : VN) : List Sub := [⟨v.A0, v.m0, v.c0, 9, v.p.xs.map .string⟩, ⟨v.A1, v.m1, v.c1, 3, v.p.ks.map (.int .i64)⟩]
def mkNode (v : VN) (z : Int) : VN := ⟨⟨z, z + 1, mkText (z + 2), marks (z + 3) v.m0, imarks (z + 3 + v.m0) v.m1⟩, v.A0, v.m0, v.c0, v.A1, v.m1, v.c1⟩
def ctNode (v : VN) : Nat := 3 + v.m0 + v.m1
theorem markNodeS_g {w : World} {B : Nat} {A : Option Addr} {n c : Nat} {vs : List VN} (h : RO 90 5 cN sbNode B w A n c vs) (k0 : Int) (hk : 0 ≤ k0) (hkn : k0 + ctL ctNode vs < 9223372036854775807) :
  GC Tryz.prog 55 [.slice A n c, .int .i64 k0] w fun v w' => v = .int .i64 (k0 + ctL ctNode vs) ∧ RO 90 5 cN sbNode B w' A n c (mkL mkNode ctNode vs k0) ∧ CSt w (roA sbNode A vs) w' (roA sbNode A vs) := by
 refine GC.intro (cs := []) Tryz.func55 (by kernel_rfl) fun E R hE hr hR => ?_
 have hl : vs.length = n := h.len cN_len (by omega)
 have hnle := h.row.le
 conv => cbv
 refine loop_rule hr (fun (s : Nat × Int × Int) w' => s.1 ≤ n ∧ s.2.1 = k0 + ctL ctNode (vs.take s.1) ∧ s.2.2 = s.1 ∧ RO 90 5 cN sbNode B w' A n c (mkL mkNode ctNode (vs.take s.1) k0 ++ vs.drop s.1) ∧ CSt w (roA sbNode A vs) w' (roA sbNode A vs)) (fun s => [(0, .slice A n c), (1, .int .i64 s.2.1), (5, .int .i64 s.2.2)]) (fun s => n - s.1) (0, k0, 0)
  (by simp [Fits, lk]) ⟨by simp, by simp [ctL], by simp, by simpa [mkL] using h, CSt.refl _ _⟩ ?_
 rintro I hI ⟨i, z, ii⟩ w' ⟨hi, hz, hii, ho, hC⟩
 simp only at hi hz hii ho
 obtain ⟨ii', hii'⟩ : ∃ z, z = ii + 1 := ⟨_, rfl⟩
 conv => cbv
 refine st_len hE sINd fun x hx => ?_
 conv => cbv
 refine br (fun h1 => ?_) (fun h1 => ?_)
 ·have h1 : i < n := by have : ii < x := by simpa [hE.cmp, cmpR] using h1
                        omega
  have ei : E.ar .add .i64 ii 1 = ii' := by rw [hii']; exact inc' hE (by omega) (by omega)
  obtain ⟨y, hy⟩ : ∃ y, vs[i]? = some y := ⟨_, g2_ (by omega)⟩
  have hct := ctL_take (ct := ctNode) hy
  have hcl := ctL_le (ct := ctNode) vs (i + 1)
  have hcur := mkL_mid (mk := mkNode) (ct := ctNode) k0 hy
  have hfin := mkL_set (mk := mkNode) (ct := ctNode) k0 hy
  have hcy : ctNode y = 3 + y.m0 + y.m1 := rfl
  have hmem : ∀ a ∈ adr sbNode y, a ∈ roA sbNode A vs := fun a ha => List.mem_cons_of_mem _ (List.mem_flatMap.2 ⟨y, m1_ hy, ha⟩)
  obtain ⟨cur, hcr⟩ : ∃ cur, cur = mkL mkNode ctNode (vs.take i) k0 ++ vs.drop i := ⟨_, rfl⟩
  rw [← hcr] at ho hcur hfin
  have hcl2 : cur.length = n := ho.len cN_len (by omega)
  obtain ⟨⟨f0, f1, f2, x0, x1⟩, A0, m0, c0, A1, m1, c1⟩ := y
  simp only at hcy
  obtain ⟨gb, rfl, _⟩ := ho.row.addr (by omega)
  conv => cbv
  refine st_idx hE sINd rfl (by omega) (by omega) fun q hq => ?_
  rw [show ii.toNat = i by omega] at hq
  conv => cbv
  refine st_fld hE fINd0 fun p hp => ?_
  conv => cbv
  refine st_put hr (by kernel_rfl) ho.row (j := i * 5 + 0) (by rw [hp, hq, add_add]) (by rw [fl_len cN_len]; omega) rfl fun w3 hw3 ho3 => ?_
  replace ho := RO.put cN_len (x := ⟨⟨f0, f1, f2, x0, x1⟩, A0, m0, c0, A1, m1, c1⟩) (y := ⟨⟨z, f1, f2, x0, x1⟩, A0, m0, c0, A1, m1, c1⟩) ho hcur (by omega) rfl rfl hw3 ho3
  replace hC := hC.trans (CSt.of_wr hw3 (List.mem_cons_self ..))
  clear ho3 hw3 hp hq
  obtain ⟨z0, hz0⟩ : ∃ q, q = z + 1 := ⟨_, rfl⟩
  have e0 : E.ar .add .i64 z 1 = z0 := by rw [hz0, inc' hE (by omega) (by omega)]
  conv => cbv
  simp only [e0]
  conv => cbv
  conv => cbv
  refine st_idx hE sINd rfl (by omega) (by omega) fun q hq => ?_
  rw [show ii.toNat = i by omega] at hq
  conv => cbv
  refine st_fld hE fINd1 fun p hp => ?_
  conv => cbv
  refine st_put hr (by kernel_rfl) ho.row (j := i * 5 + 1) (by rw [hp, hq, add_add]) (by rw [fl_len cN_len, List.length_set]; omega) rfl fun w3 hw3 ho3 => ?_
  replace ho := RO.put cN_len (x := ⟨⟨z, f1, f2, x0, x1⟩, A0, m0, c0, A1, m1, c1⟩) (y := ⟨⟨z, z0, f2, x0, x1⟩, A0, m0, c0, A1, m1, c1⟩) ho (List.getElem?_set_self (by omega)) (by omega) rfl rfl hw3 ho3
  rw [List.set_set] at ho
  replace hC := hC.trans (CSt.of_wr hw3 (List.mem_cons_self ..))
  clear ho3 hw3 hp hq
  obtain ⟨z1, hz1⟩ : ∃ q, q = z0 + 1 := ⟨_, rfl⟩
  have e1 : E.ar .add .i64 z0 1 = z1 := by rw [hz1, inc' hE (by omega) (by omega)]
  conv => cbv
  simp only [e1]
  conv => cbv
  obtain ⟨u2, hu2⟩ : ∃ u, u = mkText z1 := ⟨_, rfl⟩
  refine st_v hr (v := .string u2) (by rw [hu2]; exact markText_v z1 _ (by omega)) fun w2 hx2 => ?_
  replace hC := hC.trans (CSt.of_ext hx2 _)
  replace ho := ho.ext hx2
  clear hx2
  conv => cbv
  refine st_idx hE sINd rfl (by omega) (by omega) fun q hq => ?_
  rw [show ii.toNat = i by omega] at hq
  conv => cbv
  refine st_fld hE fINd2 fun p hp => ?_
  conv => cbv
  refine st_put hr (by kernel_rfl) ho.row (j := i * 5 + 2) (by rw [hp, hq, add_add]) (by rw [fl_len cN_len, List.length_set]; omega) rfl fun w3 hw3 ho3 => ?_
  replace ho := RO.put cN_len (x := ⟨⟨z, z0, f2, x0, x1⟩, A0, m0, c0, A1, m1, c1⟩) (y := ⟨⟨z, z0, u2, x0, x1⟩, A0, m0, c0, A1, m1, c1⟩) ho (List.getElem?_set_self (by omega)) (by omega) rfl rfl hw3 ho3
  rw [List.set_set] at ho
  replace hC := hC.trans (CSt.of_wr hw3 (List.mem_cons_self ..))
  clear ho3 hw3 hp hq
  obtain ⟨z2, hz2⟩ : ∃ q, q = z1 + 1 := ⟨_, rfl⟩
  have e2 : E.ar .add .i64 z1 1 = z2 := by rw [hz2, inc' hE (by omega) (by omega)]
  conv => cbv
  simp only [e2]
  conv => cbv
  obtain ⟨aK, hAK, hcell⟩ := fl_at cN_len ho.row.cells (by omega) (show (cur.set i ⟨⟨z, z0, u2, x0, x1⟩, A0, m0, c0, A1, m1, c1⟩)[i]? = some ⟨⟨z, z0, u2, x0, x1⟩, A0, m0, c0, A1, m1, c1⟩ from List.getElem?_set_self (by omega))
  cases hAK
  refine st_idx hE sINd rfl (by omega) (by omega) fun q hq => ?_
  rw [show ii.toNat = i by omega] at hq
  conv => cbv
  refine st_fld hE fINd3 fun p hp => ?_
  conv => cbv
  refine st_load hE cStrs (by rw [hp, hq]; exact hcell 3 _ rfl) ?_
  conv => cbv
  clear hp hq hcell
  have hs0 := ho.sub ⟨⟨z, z0, u2, x0, x1⟩, A0, m0, c0, A1, m1, c1⟩ (m1_ (List.getElem?_set_self (by omega))) ⟨A0, m0, c0, 9, x0.map .string⟩ (by simp [sbNode])
  simp only at hs0
  have hm0 := markStringS_g hs0 z2 (by omega) (by omega)
  obtain ⟨z3, hz3⟩ : ∃ q : Int, q = z2 + (m0 : Int) := ⟨_, rfl⟩
  rw [← hz3] at hm0
  refine st_g hr hm0 fun v w4 ⟨ev, ho4, hw4⟩ => ?_
  subst ev
  replace ho := RO.putS (q := 0) (s := ⟨A0, m0, c0, 9, x0.map .string⟩) (s' := ⟨A0, m0, c0, 9, (marks z2 m0).map .string⟩) (x := ⟨⟨z, z0, u2, x0, x1⟩, A0, m0, c0, A1, m1, c1⟩) (y := ⟨⟨z, z0, u2, (marks z2 m0), x1⟩, A0, m0, c0, A1, m1, c1⟩) ho (List.getElem?_set_self (by omega)) rfl rfl rfl rfl hw4 ho4
  rw [List.set_set] at ho
  replace hC := hC.trans (CSt.of_wr hw4 (hmem _ (by simp [adr, sbNode])))
  clear ho4 hw4 hs0 hm0
  conv => cbv
  obtain ⟨aK, hAK, hcell⟩ := fl_at cN_len ho.row.cells (by omega) (show (cur.set i ⟨⟨z, z0, u2, (marks z2 m0), x1⟩, A0, m0, c0, A1, m1, c1⟩)[i]? = some ⟨⟨z, z0, u2, (marks z2 m0), x1⟩, A0, m0, c0, A1, m1, c1⟩ from List.getElem?_set_self (by omega))
  cases hAK
  refine st_idx hE sINd rfl (by omega) (by omega) fun q hq => ?_
  rw [show ii.toNat = i by omega] at hq
  conv => cbv
  refine st_fld hE fINd4 fun p hp => ?_
  conv => cbv
  refine st_load hE cInts1 (by rw [hp, hq]; exact hcell 4 _ rfl) ?_
  conv => cbv
  clear hp hq hcell
  have hs1 := ho.sub ⟨⟨z, z0, u2, (marks z2 m0), x1⟩, A0, m0, c0, A1, m1, c1⟩ (m1_ (List.getElem?_set_self (by omega))) ⟨A1, m1, c1, 3, x1.map (.int .i64)⟩ (by simp [sbNode])
  simp only at hs1
  have hm1 := markIntS_g hs1 z3 (by omega) (by omega)
  obtain ⟨z4, hz4⟩ : ∃ q : Int, q = z3 + (m1 : Int) := ⟨_, rfl⟩
  rw [← hz4] at hm1
  refine st_g hr hm1 fun v w4 ⟨ev, ho4, hw4⟩ => ?_
  subst ev
  replace ho := RO.putS (q := 1) (s := ⟨A1, m1, c1, 3, x1.map (.int .i64)⟩) (s' := ⟨A1, m1, c1, 3, (imarks z3 m1).map (.int .i64)⟩) (x := ⟨⟨z, z0, u2, (marks z2 m0), x1⟩, A0, m0, c0, A1, m1, c1⟩) (y := ⟨⟨z, z0, u2, (marks z2 m0), (imarks z3 m1)⟩, A0, m0, c0, A1, m1, c1⟩) ho (List.getElem?_set_self (by omega)) rfl rfl rfl rfl hw4 ho4
  rw [List.set_set] at ho
  replace hC := hC.trans (CSt.of_wr hw4 (hmem _ (by simp [adr, sbNode])))
  clear ho4 hw4 hs1 hm1
  conv => cbv
  simp only [ei]
  refine ⟨(i + 1, z4, ii'), by simp [Fits, lk], hI _ _ ⟨by simp only; omega, by simp only; rw [hct]; simp only [ctNode]; omega, by simp only; omega, ?_, hC⟩, by simp only; omega⟩
  simp only
  rw [← hfin]
  have ey : (⟨⟨z, z0, u2, (marks z2 m0), (imarks z3 m1)⟩, A0, m0, c0, A1, m1, c1⟩ : VN) = mkNode ⟨⟨f0, f1, f2, x0, x1⟩, A0, m0, c0, A1, m1, c1⟩ (k0 + ctL ctNode (vs.take i)) := by
   simp only [mkNode, hu2, VN.mk.injEq, PN.mk.injEq]
   rw [← hz]
   simp only [hz0, hz1, hz2, hz3, hz4, Int.add_assoc, and_self, and_true, true_and]
   try simp
   try (congr 1; omega)
  rw [← ey]
  exact ho
 ·have h1 : i = n := by
   have : ¬ ii < x := by simpa [hE.cmp, cmpR] using h1
   omega
  subst h1
  rw [List.drop_of_length_le (by omega), a7_, g3_ (by omega)] at ho
  rw [g3_ (by omega)] at hz
  conv => cbv
  rw [hR]; exact ⟨by rw [hz]; rfl, ho, hC⟩
def sbStmt (v : PS) : List Sub := []
def mkStmt (v : PS) (z : Int) : PS := ⟨z, mkText (z + 1), z + 2, z + 3⟩
def ctStmt (v : PS) : Nat := 4
theorem markStmtS_g {w : World} {B : Nat} {A : Option Addr} {n c : Nat} {vs : List PS} (h : RO 155 4 cS sbStmt B w A n c vs) (k0 : Int) (hk : 0 ≤ k0) (hkn : k0 + ctL ctStmt vs < 9223372036854775807) :
  GC Tryz.prog 56 [.slice A n c, .int .i64 k0] w fun v w' => v = .int .i64 (k0 + ctL ctStmt vs) ∧ RO 155 4 cS sbStmt B w' A n c (mkL mkStmt ctStmt vs k0) ∧ CSt w (roA sbStmt A vs) w' (roA sbStmt A vs) := by
 refine GC.intro (cs := []) Tryz.func56 (by kernel_rfl) fun E R hE hr hR => ?_
 have hl : vs.length = n := h.len cS_len (by omega)
 have hnle := h.row.le
 conv => cbv
 refine loop_rule hr (fun (s : Nat × Int × Int) w' => s.1 ≤ n ∧ s.2.1 = k0 + ctL ctStmt (vs.take s.1) ∧ s.2.2 = s.1 ∧ RO 155 4 cS sbStmt B w' A n c (mkL mkStmt ctStmt (vs.take s.1) k0 ++ vs.drop s.1) ∧ CSt w (roA sbStmt A vs) w' (roA sbStmt A vs)) (fun s => [(0, .slice A n c), (1, .int .i64 s.2.1), (5, .int .i64 s.2.2)]) (fun s => n - s.1) (0, k0, 0)
  (by simp [Fits, lk]) ⟨by simp, by simp [ctL], by simp, by simpa [mkL] using h, CSt.refl _ _⟩ ?_
 rintro I hI ⟨i, z, ii⟩ w' ⟨hi, hz, hii, ho, hC⟩
 simp only at hi hz hii ho
 obtain ⟨ii', hii'⟩ : ∃ z, z = ii + 1 := ⟨_, rfl⟩
 conv => cbv
 refine st_len hE sISd fun x hx => ?_
 conv => cbv
 refine br (fun h1 => ?_) (fun h1 => ?_)
 ·have h1 : i < n := by have : ii < x := by simpa [hE.cmp, cmpR] using h1
                        omega
  have ei : E.ar .add .i64 ii 1 = ii' := by rw [hii']; exact inc' hE (by omega) (by omega)
  obtain ⟨y, hy⟩ : ∃ y, vs[i]? = some y := ⟨_, g2_ (by omega)⟩
  have hct := ctL_take (ct := ctStmt) hy
  have hcl := ctL_le (ct := ctStmt) vs (i + 1)
  have hcur := mkL_mid (mk := mkStmt) (ct := ctStmt) k0 hy
  have hfin := mkL_set (mk := mkStmt) (ct := ctStmt) k0 hy
  have hcy : ctStmt y = 4 := rfl
  have hmem : ∀ a ∈ adr sbStmt y, a ∈ roA sbStmt A vs := fun a ha => List.mem_cons_of_mem _ (List.mem_flatMap.2 ⟨y, m1_ hy, ha⟩)
  obtain ⟨cur, hcr⟩ : ∃ cur, cur = mkL mkStmt ctStmt (vs.take i) k0 ++ vs.drop i := ⟨_, rfl⟩
  rw [← hcr] at ho hcur hfin
  have hcl2 : cur.length = n := ho.len cS_len (by omega)
  obtain ⟨f0, f1, f2, f3⟩ := y
  obtain ⟨gb, rfl, _⟩ := ho.row.addr (by omega)
  conv => cbv
  refine st_idx hE sISd rfl (by omega) (by omega) fun q hq => ?_
  rw [show ii.toNat = i by omega] at hq
  conv => cbv
  refine st_fld hE fISd0 fun p hp => ?_
  conv => cbv
  refine st_put hr (by kernel_rfl) ho.row (j := i * 4 + 0) (by rw [hp, hq, add_add]) (by rw [fl_len cS_len]; omega) rfl fun w3 hw3 ho3 => ?_
  replace ho := RO.put cS_len (x := ⟨f0, f1, f2, f3⟩) (y := ⟨z, f1, f2, f3⟩) ho hcur (by omega) rfl rfl hw3 ho3
  replace hC := hC.trans (CSt.of_wr hw3 (List.mem_cons_self ..))
  clear ho3 hw3 hp hq
  obtain ⟨z0, hz0⟩ : ∃ q, q = z + 1 := ⟨_, rfl⟩
  have e0 : E.ar .add .i64 z 1 = z0 := by rw [hz0, inc' hE (by omega) (by omega)]
  conv => cbv
  simp only [e0]
  conv => cbv
  obtain ⟨u1, hu1⟩ : ∃ u, u = mkText z0 := ⟨_, rfl⟩
  refine st_v hr (v := .string u1) (by rw [hu1]; exact markText_v z0 _ (by omega)) fun w2 hx2 => ?_
  replace hC := hC.trans (CSt.of_ext hx2 _)
  replace ho := ho.ext hx2
  clear hx2
  conv => cbv
  refine st_idx hE sISd rfl (by omega) (by omega) fun q hq => ?_
  rw [show ii.toNat = i by omega] at hq
  conv => cbv
  refine st_fld hE fISd1 fun p hp => ?_
  conv => cbv
  refine st_put hr (by kernel_rfl) ho.row (j := i * 4 + 1) (by rw [hp, hq, add_add]) (by rw [fl_len cS_len, List.length_set]; omega) rfl fun w3 hw3 ho3 => ?_
  replace ho := RO.put cS_len (x := ⟨z, f1, f2, f3⟩) (y := ⟨z, u1, f2, f3⟩) ho (List.getElem?_set_self (by omega)) (by omega) rfl rfl hw3 ho3
  rw [List.set_set] at ho
  replace hC := hC.trans (CSt.of_wr hw3 (List.mem_cons_self ..))
  clear ho3 hw3 hp hq
  obtain ⟨z1, hz1⟩ : ∃ q, q = z0 + 1 := ⟨_, rfl⟩
  have e1 : E.ar .add .i64 z0 1 = z1 := by rw [hz1, inc' hE (by omega) (by omega)]
  conv => cbv
  simp only [e1]
  conv => cbv
  conv => cbv
  refine st_idx hE sISd rfl (by omega) (by omega) fun q hq => ?_
  rw [show ii.toNat = i by omega] at hq
  conv => cbv
  refine st_fld hE fISd2 fun p hp => ?_
  conv => cbv
  refine st_put hr (by kernel_rfl) ho.row (j := i * 4 + 2) (by rw [hp, hq, add_add]) (by rw [fl_len cS_len, List.length_set]; omega) rfl fun w3 hw3 ho3 => ?_
  replace ho := RO.put cS_len (x := ⟨z, u1, f2, f3⟩) (y := ⟨z, u1, z1, f3⟩) ho (List.getElem?_set_self (by omega)) (by omega) rfl rfl hw3 ho3
  rw [List.set_set] at ho
  replace hC := hC.trans (CSt.of_wr hw3 (List.mem_cons_self ..))
  clear ho3 hw3 hp hq
  obtain ⟨z2, hz2⟩ : ∃ q, q = z1 + 1 := ⟨_, rfl⟩
  have e2 : E.ar .add .i64 z1 1 = z2 := by rw [hz2, inc' hE (by omega) (by omega)]
  conv => cbv
  simp only [e2]
  conv => cbv
  conv => cbv
  refine st_idx hE sISd rfl (by omega) (by omega) fun q hq => ?_
  rw [show ii.toNat = i by omega] at hq
  conv => cbv
  refine st_fld hE fISd3 fun p hp => ?_
  conv => cbv
  refine st_put hr (by kernel_rfl) ho.row (j := i * 4 + 3) (by rw [hp, hq, add_add]) (by rw [fl_len cS_len, List.length_set]; omega) rfl fun w3 hw3 ho3 => ?_
  replace ho := RO.put cS_len (x := ⟨z, u1, z1, f3⟩) (y := ⟨z, u1, z1, z2⟩) ho (List.getElem?_set_self (by omega)) (by omega) rfl rfl hw3 ho3
  rw [List.set_set] at ho
  replace hC := hC.trans (CSt.of_wr hw3 (List.mem_cons_self ..))
  clear ho3 hw3 hp hq
  obtain ⟨z3, hz3⟩ : ∃ q, q = z2 + 1 := ⟨_, rfl⟩
  have e3 : E.ar .add .i64 z2 1 = z3 := by rw [hz3, inc' hE (by omega) (by omega)]
  conv => cbv
  simp only [e3]
  conv => cbv
  simp only [ei]
  refine ⟨(i + 1, z3, ii'), by simp [Fits, lk], hI _ _ ⟨by simp only; omega, by simp only; rw [hct]; simp only [ctStmt]; omega, by simp only; omega, ?_, hC⟩, by simp only; omega⟩
  simp only
  rw [← hfin]
  have ey : (⟨z, u1, z1, z2⟩ : PS) = mkStmt ⟨f0, f1, f2, f3⟩ (k0 + ctL ctStmt (vs.take i)) := by
   simp only [mkStmt, hu1, PS.mk.injEq]
   rw [← hz]
   simp only [hz0, hz1, hz2, hz3, Int.add_assoc, and_self, and_true, true_and]
   try simp
   try (congr 1; omega)
  rw [← ey]
  exact ho
 ·have h1 : i = n := by
   have : ¬ ii < x := by simpa [hE.cmp, cmpR] using h1
   omega
  subst h1
  rw [List.drop_of_length_le (by omega), a7_, g3_ (by omega)] at ho
  rw [g3_ (by omega)] at hz
  conv => cbv
  rw [hR]; exact ⟨by rw [hz]; rfl, ho, hC⟩
theorem tLTyp : Stc Tryz.prog 74 3 zTyp := ⟨by kernel_rfl, by kernel_rfl⟩
theorem fLTyp0 : Fld Tryz.prog 74 0 0 := ⟨by kernel_rfl⟩
theorem fLTyp1 : Fld Tryz.prog 74 1 1 := ⟨by kernel_rfl⟩
theorem fLTyp2 : Fld Tryz.prog 74 2 2 := ⟨by kernel_rfl⟩
theorem szTyped_f {w : World} {A A2 A3 : Option Addr} {n c n2 c2 n3 c3 : Nat} {nv : List PN} {sv : List PS} {tyl : List Int} (h : TypR w A n A2 n2 A3 n3 c3 nv sv tyl) (hn : n ≤ 9223372036854775807) (hn2 : n2 ≤ 9223372036854775807) :
  FC Tryz.prog 30 [typV A n c A2 n2 c2 A3 n3 c3, .int .i64 1048576] w fun v _ => ∃ r : Int, v = .int .i64 r ∧ r ≤ 1048576 ∧ (0 ≤ r → wtNs nv + wtSs sv ≤ 1048576 ∧ tyl.length ≤ 1048576) := by
 refine FC.intro (cs := []) Tryz.func30 (by kernel_rfl) fun E R hE hr hR => ?_
 have hl3 := h.tys.len
 conv => cbv
 refine st_box hr fun a w1 hx hb0 => ?_
 have hb := hb0 _ (n1_ _)
 conv => cbv
 (refine st_fld hE fLTyp0 fun p hp => ?_; (conv => cbv); refine st_load hE cLNs (by rw [hp]; exact (hb).at _ _ rfl) ?_; (conv => cbv))
 refine st_f hr (szNodeS_f (h.pol.nodes.ext hx) hn 1048576 (by omega) (by omega)) fun v w2 hx2 ⟨r, ev, hr1, hr2⟩ => ?_
 subst ev
 replace hb := hb.bel hx2
 replace hx := hx.trans hx2
 conv => cbv
 refine br (fun _ => ?_) (fun g1 => ?_)
 ·conv => cbv
  rw [hR]; exact ⟨hx, -1, rfl, by omega, fun h => by omega⟩
 have g1 : 0 ≤ r := by simpa [hE.cmp, cmpR] using g1
 have hr2 := hr2 g1
 conv => cbv
 (refine st_fld hE fLTyp1 fun p hp => ?_; (conv => cbv); refine st_load hE cLSs (by rw [hp]; exact (hb).at _ _ rfl) ?_; (conv => cbv))
 refine st_f hr (szStmtS_f (h.pol.stmts.ext hx) hn2 r g1 hr1) fun v w3 hx3 ⟨r', ev, hr3, hr4⟩ => ?_
 subst ev
 replace hb := hb.bel hx3
 replace hx := hx.trans hx3
 conv => cbv
 refine br (fun _ => ?_) (fun g2 => ?_)
 ·conv => cbv
  rw [hR]; exact ⟨hx, -1, rfl, by omega, fun h => by omega⟩
 have g2 : 0 ≤ r' := by simpa [hE.cmp, cmpR] using g2
 have hr4 := hr4 g2
 conv => cbv
 (refine st_fld hE fLTyp2 fun p hp => ?_; (conv => cbv); refine st_load hE cInts (by rw [hp]; exact (hb).at _ _ rfl) ?_; (conv => cbv))
 refine st_f hr (szIntS_f (h.tys.ext hx) r' g2 (by omega)) fun v w4 hx4 ⟨r5, ev, hr5, hr6⟩ => ?_
 subst ev
 replace hx := hx.trans hx4
 conv => cbv
 refine br (fun _ => ?_) (fun g3 => ?_)
 ·conv => cbv
  rw [hR]; exact ⟨hx, -1, rfl, by omega, fun h => by omega⟩
 have g3 : 0 ≤ r5 := by simpa [hE.cmp, cmpR] using g3
 have hr6 := hr6 g3
 conv => cbv
 rw [hR]; exact ⟨hx, r5, rfl, by omega, fun _ => ⟨by omega, by omega⟩⟩
theorem toTyped_f {w : World} {A A2 A3 : Option Addr} {n c n2 c2 n3 c3 : Nat} {nv : List PN} {sv : List PS} {tyl : List Int} (h : TypR w A n A2 n2 A3 n3 c3 nv sv tyl) (hw : wtNs nv + wtSs sv ≤ 1048576) (hw3 : tyl.length ≤ 1048576) :
  FC Tryz.prog 32 [typV A n c A2 n2 c2 A3 n3 c3] w fun v w' => ∃ A1 c1 A4 c4 A5 c5, v = typV A1 n c1 A4 n2 c4 A5 n3 c5 ∧ TypR w' A1 n A4 n2 A5 n3 c5 nv sv tyl := by
 refine FC.intro (cs := []) Tryz.func32 (by kernel_rfl) fun E R hE hr hR => ?_
 obtain ⟨b1, b2, b3⟩ := wt_b (nv := nv) (by omega)
 have b4 := wtSs_len sv
 have hl1 := h.pol.nodes.len
 have hl2 := h.pol.stmts.len
 have hl3 := h.tys.len
 conv => cbv
 refine st_box hr fun a w1 hx hb0 => ?_
 have hb := hb0 _ (n1_ _)
 conv => cbv
 refine st_alloc hr tITyp rfl fun o w2 hx2 ho0 => ?_
 have ho := ho0 _ hx.size
 have hb := hb.bel hx2
 have hx := hx.trans hx2
 conv => cbv
 refine st_alloc hr tITyp rfl fun q w3 hx3 hq0 => ?_
 have hq := hq0 _ hx.size
 have aq := (hb.apart (hq0 _ (n1_ _)) (n1_ _)).1
 have oq := (ho.apart (hq0 _ (n1_ _)) (n1_ _)).1
 have o0 := ho
 have hso := hx3.size
 have hb := hb.bel hx3
 have ho := ho.bel hx3
 have hx := hx.trans hx3
 clear hb0 ho0 hq0
 conv => cbv
 (refine st_fld hE fLTyp0 fun p hp => ?_; (conv => cbv); refine st_load hE cLNs (by rw [hp]; exact (hb).at _ _ rfl) ?_; (conv => cbv))
 refine st_f hr (toNodeS_f (h.pol.nodes.ext hx) (by omega) b2 b3) fun v w4 hx4 ⟨A4, c4, ev, h4⟩ => ?_
 subst ev
 have hs4 := hx4.size
 have q0 := hq
 replace hb := hb.bel hx4
 replace ho := ho.bel hx4
 replace hq := hq.bel hx4
 replace hx := hx.trans hx4
 conv => cbv
 refine st_fld hE fITyp0 fun p hp => ?_
 conv => cbv
 refine st_put hr zINs hq hp (by simp) rfl fun wm hwm hq2 => ?_
 replace hx := hx.then (hwm.bel hq hx.size)
 have y4 : Above w3.heap.size w4 wm := hwm.above q0 (n1_ _)
 simp only [b4_, b5_] at hq2
 replace hq := hq2
 replace hb := hb.wr hwm aq
 replace ho := ho.wr hwm oq
 have hsz : w3.heap.size ≤ wm.heap.size := n2_ hs4 y4.size
 conv => cbv
 (refine st_fld hE fLTyp1 fun p hp => ?_; (conv => cbv); refine st_load hE cLSs (by rw [hp]; exact (hb).at _ _ rfl) ?_; (conv => cbv))
 refine st_f hr (toStmtS_f (h.pol.stmts.ext hx) (by omega)) fun v w6 hx6 ⟨A6, c6, ev, h6⟩ => ?_
 subst ev
 replace hb := hb.bel hx6
 replace ho := ho.bel hx6
 replace hq := hq.bel hx6
 replace hx := hx.trans hx6
 replace y4 := y4.trans (hx6.above _)
 conv => cbv
 refine st_fld hE fITyp1 fun p2 hp2 => ?_
 conv => cbv
 refine st_put hr zISs hq hp2 (by simp) rfl fun w7 hw7 hq3 => ?_
 have y7 : Above w3.heap.size w6 w7 := hw7.above q0 (n1_ _)
 replace hx := hx.then (hw7.bel hq hx.size)
 replace hb := hb.wr hw7 aq
 replace ho := ho.wr hw7 oq
 simp only [b4_, b5_] at hq3
 replace y4 := y4.trans y7
 have hsz7 : w3.heap.size ≤ w7.heap.size := n2_ hsz (n2_ hx6.size y7.size)
 conv => cbv
 (refine st_fld hE fLTyp2 fun p hp => ?_; (conv => cbv); refine st_load hE cInts (by rw [hp]; exact (hb).at _ _ rfl) ?_; (conv => cbv))
 refine st_f hr (toIntS_f (h.tys.ext hx) (by omega)) fun v w10 hx10 ⟨A10, c10, ev, h10⟩ => ?_
 subst ev
 replace hq3 := hq3.bel hx10
 replace ho := ho.bel hx10
 replace hx := hx.trans hx10
 replace y7 := y7.trans (hx10.above _)
 replace y4 := y4.trans (hx10.above _)
 conv => cbv
 refine st_fld hE fITyp2 fun p3 hp3 => ?_
 conv => cbv
 refine st_put hr zInts2 hq3 hp3 (by simp) rfl fun w11 hw11 hq4 => ?_
 have y11 : Above w3.heap.size w10 w11 := hw11.above q0 (n1_ _)
 replace hx := hx.then (hw11.bel hq3 hx.size)
 replace ho := ho.wr hw11 oq
 simp only [b4_, b5_] at hq4
 replace y4 := y4.trans y11
 replace y7 := y7.trans y11
 conv => cbv
 refine st_loadS hE tITyp rfl hq4.at ?_
 conv => cbv
 refine st_putS hr (by kernel_rfl) ho (add_zero _).symm (by simp) (by simp [Value.oneCell']) fun w8 hw8 ho8 => ?_
 simp only [a1_, a2_, a3_, a4_, a5_, a6_, a7_] at ho8
 have y8 : Above w3.heap.size w11 w8 := hw8.above o0 hso
 conv => cbv
 refine st_cell hr tITyp rfl ho8.at ?_
 rw [hR]; exact ⟨hx.then (hw8.bel ho hx.size), A4, c4, A6, c6, A10, c10, rfl, ⟨⟨h4 _ (y4.trans y8), h6 _ ((y7.trans y8).mono hsz)⟩, Own.ints (h10.above ((y11.trans y8).mono hsz7))⟩⟩
theorem eqTyped_f {w : World} {A A2 A3 B B2 B3 : Option Addr} {n c n2 c2 n3 c3 d d2 d3 : Nat} {nv : List PN} {sv : List PS} {tyl : List Int} (h : TypR w A n A2 n2 A3 n3 c3 nv sv tyl) (h' : TypR w B n B2 n2 B3 n3 d3 nv sv tyl) (hn : n ≤ 9223372036854775807) (hn2 : n2 ≤ 9223372036854775807) :
  FC Tryz.prog 11 [typV A n c A2 n2 c2 A3 n3 c3, typV B n d B2 n2 d2 B3 n3 d3] w fun v _ => v = .bool true := by
 refine FC.intro (cs := []) Tryz.func11 (by kernel_rfl) fun E R hE hr hR => ?_
 conv => cbv
 refine st_box hr fun a w1 hx ha0 => ?_
 have ha := ha0 _ (n1_ _)
 conv => cbv
 refine st_box hr fun b w2 hx2 hb0 => ?_
 have hb := hb0 _ hx.size
 replace ha := ha.bel hx2
 replace hx := hx.trans hx2
 clear ha0 hb0
 conv => cbv
 (refine st_fld hE fITyp0 fun p hp => ?_; (conv => cbv); refine st_load hE cINs (by rw [hp]; exact (ha).at _ _ rfl) ?_; (conv => cbv))
 (refine st_fld hE fITyp0 fun p hp => ?_; (conv => cbv); refine st_load hE cINs (by rw [hp]; exact (hb).at _ _ rfl) ?_; (conv => cbv))
 refine st_f hr (eqNodeS_f (h.pol.nodes.ext hx) (h'.pol.nodes.ext hx) hn) fun v w3 hx3 ev => ?_
 subst ev
 replace ha := ha.bel hx3
 replace hb := hb.bel hx3
 replace hx := hx.trans hx3
 conv => cbv
 (refine st_fld hE fITyp1 fun p hp => ?_; (conv => cbv); refine st_load hE cISs (by rw [hp]; exact (ha).at _ _ rfl) ?_; (conv => cbv))
 (refine st_fld hE fITyp1 fun p hp => ?_; (conv => cbv); refine st_load hE cISs (by rw [hp]; exact (hb).at _ _ rfl) ?_; (conv => cbv))
 refine st_f hr (eqStmtS_f (h.pol.stmts.ext hx) (h'.pol.stmts.ext hx) hn2) fun v w4 hx4 ev => ?_
 subst ev
 replace ha := ha.bel hx4
 replace hb := hb.bel hx4
 replace hx := hx.trans hx4
 conv => cbv
 (refine st_fld hE fITyp2 fun p hp => ?_; (conv => cbv); refine st_load hE cInts (by rw [hp]; exact (ha).at _ _ rfl) ?_; (conv => cbv))
 (refine st_fld hE fITyp2 fun p hp => ?_; (conv => cbv); refine st_load hE cInts (by rw [hp]; exact (hb).at _ _ rfl) ?_; (conv => cbv))
 refine st_qb hE (eqIntS_q (h.tys.ext hx) (h'.tys.ext hx)) fun b hb2 w5 hs5 => ?_
 obtain rfl : b = true := hb2.2 rfl
 conv => cbv
 rw [hR]; exact ⟨hx.trans hs5.ext, rfl⟩
theorem DJ.snoc {A : Option Addr} {ls : List (List (Option Addr))} {n : List (Option Addr)} (h : DJ A ls) (h1 : ∀ a ∈ n, Dj A a) (h2 : n.Pairwise Dj) (h3 : ∀ l ∈ ls, ∀ b ∈ n, ∀ a ∈ l, Dj a b) : DJ A (ls ++ [n]) := by
 refine ⟨fun l hl => ?_, fun l hl => ?_, List.pairwise_append.2 ⟨h.pw, by simp, fun la hla lb hlb a ha b hb => ?_⟩⟩
 ·rcases List.mem_append.1 hl with hl | hl
  ·exact h.rowd l hl
  ·simp at hl; subst hl; exact h1
 ·rcases List.mem_append.1 hl with hl | hl
  ·exact h.own l hl
  ·simp at hl; subst hl; exact h2
 ·simp at hlb; subst hlb; exact h3 la hla b hb a ha
structure OT (B : Nat) (w : World) (A : Option Addr) (n c : Nat) (A2 : Option Addr) (n2 c2 : Nat) (A3 : Option Addr) (n3 c3 : Nat) (vs : List VN) (sv : List PS) (tyl : List Int) : Prop where
 nd : RO 90 5 cN sbNode B w A n c vs
 st : Own B 155 4 w A2 n2 c2 (sv.flatMap cS)
 ty : Own B 3 1 w A3 n3 c3 (tyl.map (.int .i64))
 d12 : ∀ r ∈ roA sbNode A vs, Dj r A2
 d13 : ∀ r ∈ roA sbNode A vs, Dj r A3
 d23 : Dj A2 A3
theorem RO.above {α : Type} {e : TypeId} {k : Nat} {f : α → List Value} {sb : α → List Sub} {B : Nat} {w w' : World} {A : Option Addr} {n c : Nat} {vs : List α} (h : RO e k f sb B w A n c vs) (ha : Above B w w') : RO e k f sb B w' A n c vs := ⟨h.row.above ha, fun v hv s hs => (h.sub v hv s hs).above ha, h.dj⟩
theorem toNodeO_f {w : World} (v : VN) (h : OKN w v) (b_xs : v.m0 ≤ 1048576) (b_ks : v.m1 ≤ 1048576) :
  FC Tryz.prog 97 [.agg ⟨cN v⟩] w fun u w' => ∃ B0 n0 d0 B1 n1 d1, u = .agg ⟨[.int .i64 v.p.o, .int .i64 v.p.z, .string v.p.tx, .slice B0 n0 d0, .slice B1 n1 d1]⟩ ∧ Own w.heap.size 9 1 w' B0 n0 d0 (v.p.xs.map (.string)) ∧ Own w.heap.size 3 1 w' B1 n1 d1 (v.p.ks.map (.int .i64)) ∧ Dj B0 B1 := by
 refine FC.intro (cs := []) Tryz.func97 (by kernel_rfl) fun E R hE hr hR => ?_
 obtain ⟨⟨o, z, tx, xs, ks⟩, A0, m0, c0, A1, m1, c1⟩ := v
 have r_xs := h.r_xs
 have r_ks := h.r_ks
 clear h
 simp only at r_xs b_xs r_ks b_ks hR
 conv => cbv
 refine st_box hr fun a w1 hx hb0 => ?_
 have hb := hb0 _ (n1_ _)
 conv => cbv
 refine st_alloc hr tINd rfl fun oo w2 hx2 ho0 => ?_
 have ho := ho0 _ hx.size
 have hb := hb.bel hx2
 have hx := hx.trans hx2
 conv => cbv
 refine st_alloc hr tINd rfl fun q w3 hx3 hq0 => ?_
 have hq := hq0 _ hx.size
 have aq := (hb.apart (hq0 _ (n1_ _)) (n1_ _)).1
 have oq := (ho.apart (hq0 _ (n1_ _)) (n1_ _)).1
 have hb := hb.bel hx3
 have ho := ho.bel hx3
 have hx := hx.trans hx3
 clear hb0 ho0 hq0
 conv => cbv
 (refine st_fld hE fLNd0 fun p hp => ?_; (conv => cbv); refine st_load hE cInt (by rw [hp]; exact (hb).at _ _ rfl) ?_; (conv => cbv))
 (refine st_fld hE fINd0 fun p hp => ?_; (conv => cbv); refine st_put hr zInt hq hp (by simp) rfl fun wn hw hq2 => ?_; replace hx := hx.then (hw.bel hq hx.size); (try clear hq); (have hq := hq2); clear hq2; (simp only [b4_, b5_] at hq); clear hp)
 replace hb := hb.wr hw aq
 replace ho := ho.wr hw oq
 conv => cbv
 (refine st_fld hE fLNd1 fun p hp => ?_; (conv => cbv); refine st_load hE cI64 (by rw [hp]; exact (hb).at _ _ rfl) ?_; (conv => cbv))
 (refine st_fld hE fINd1 fun p hp => ?_; (conv => cbv); refine st_put hr zI64 hq hp (by simp) rfl fun wn hw hq2 => ?_; replace hx := hx.then (hw.bel hq hx.size); (try clear hq); (have hq := hq2); clear hq2; (simp only [b4_, b5_] at hq); clear hp)
 replace hb := hb.wr hw aq
 replace ho := ho.wr hw oq
 conv => cbv
 (refine st_fld hE fLNd2 fun p hp => ?_; (conv => cbv); refine st_load hE cStr (by rw [hp]; exact (hb).at _ _ rfl) ?_; (conv => cbv))
 (refine st_fld hE fINd2 fun p hp => ?_; (conv => cbv); refine st_put hr zStr hq hp (by simp) rfl fun wn hw hq2 => ?_; replace hx := hx.then (hw.bel hq hx.size); (try clear hq); (have hq := hq2); clear hq2; (simp only [b4_, b5_] at hq); clear hp)
 replace hb := hb.wr hw aq
 replace ho := ho.wr hw oq
 conv => cbv
 (refine st_fld hE fLNd3 fun p hp => ?_; (conv => cbv); refine st_load hE cStrs (by rw [hp]; exact (hb).at _ _ rfl) ?_; (conv => cbv))
 refine st_f hr (toStringS_f (r_xs.ext hx) b_xs) fun u ww hxx ⟨B0, n0, d0, ev, hcp, o_xs⟩ => ?_
 clear hcp
 subst ev
 have ax_xs := (hq.apart o_xs (n1_ _)).2
 have bx_xs := (ho.apart o_xs (n1_ _)).2
 replace o_xs := o_xs.mono hx.size
 replace hb := hb.bel hxx
 replace ho := ho.bel hxx
 replace hq := hq.bel hxx
 replace hx := hx.trans hxx
 clear hxx
 conv => cbv
 (refine st_fld hE fINd3 fun p hp => ?_; (conv => cbv); refine st_put hr zStrs hq hp (by simp) rfl fun wn hw hq2 => ?_; replace hx := hx.then (hw.bel hq hx.size); (try clear hq); (have hq := hq2); clear hq2; (simp only [b4_, b5_] at hq); clear hp)
 replace hb := hb.wr hw aq
 replace ho := ho.wr hw oq
 replace o_xs := o_xs.wr hw ax_xs
 conv => cbv
 (refine st_fld hE fLNd4 fun p hp => ?_; (conv => cbv); refine st_load hE cInts (by rw [hp]; exact (hb).at _ _ rfl) ?_; (conv => cbv))
 refine st_f hr (toIntS_f (r_ks.ext hx) b_ks) fun u ww hxx ⟨B1, d1, ev, o_ks⟩ => ?_
 have djk : Dj B0 B1 := dj_new o_xs o_ks (n1_ _)
 subst ev
 have ax_ks := (hq.apart o_ks (n1_ _)).2
 have bx_ks := (ho.apart o_ks (n1_ _)).2
 replace o_ks := o_ks.mono hx.size
 replace hb := hb.bel hxx
 replace ho := ho.bel hxx
 replace hq := hq.bel hxx
 replace hx := hx.trans hxx
 replace o_xs := o_xs.bel hxx
 clear hxx
 conv => cbv
 (refine st_fld hE fINd4 fun p hp => ?_; (conv => cbv); refine st_put hr zInts hq hp (by simp) rfl fun wn hw hq2 => ?_; replace hx := hx.then (hw.bel hq hx.size); (try clear hq); (have hq := hq2); clear hq2; (simp only [b4_, b5_] at hq); clear hp)
 replace hb := hb.wr hw aq
 replace ho := ho.wr hw oq
 replace o_xs := o_xs.wr hw ax_xs
 replace o_ks := o_ks.wr hw ax_ks
 conv => cbv
 refine st_loadS hE tINd rfl hq.at ?_
 conv => cbv
 refine st_putS hr (by kernel_rfl) ho (add_zero _).symm (by simp) (by simp [Value.oneCell']) fun w5 hw5 ho5 => ?_
 simp only [a1_, a2_, a3_, a4_, a5_, a6_, a7_] at ho5
 conv => cbv
 refine st_cell hr tINd rfl ho5.at ?_
 rw [hR]; exact ⟨hx.then (hw5.bel ho hx.size), B0, n0, d0, B1, _, d1, rfl, o_xs.wr hw5 bx_xs, o_ks.wr hw5 bx_ks, djk⟩
theorem toNodeSO_f {w : World} {A : Option Addr} {n c : Nat} {pv : List PN} (h : RNs w A n pv) (hn : n ≤ 1048576) (hp_xs : ∀ p ∈ pv, p.xs.length ≤ 1048576) (hp_ks : ∀ p ∈ pv, p.ks.length ≤ 1048576) :
  FC Tryz.prog 46 [.slice A n c] w fun v w' => ∃ A1 c1 vs, v = .slice A1 n c1 ∧ vs.map (·.p) = pv ∧ RO 90 5 cN sbNode w.heap.size w' A1 n c1 vs ∧ ∀ w2, Above w.heap.size w' w2 → RNs w2 A1 n pv := by
 refine FC.intro (cs := []) Tryz.func46 (by kernel_rfl) fun E R hE hr hR => ?_
 have hl := h.len
 conv => cbv
 refine st_len hE sLNd fun x hx => ?_
 conv => cbv
 refine st_makeK hr sINd rfl (m := n) (by omega) (by omega) (by omega) fun A1 w1 hx1 h10 => ?_
 have h1 := h10 _ (n1_ _)
 rw [show (Value.agg ⟨zNd⟩).cells = ⟨cN v0N⟩ from rfl, made_fl (f := cN) v0N n 5 rfl (by omega)] at h1
 conv => cbv
 refine loop_rule hr (fun (s : Nat × Int × List VN) w' => s.1 ≤ n ∧ s.2.1 = (s.1 : Int) ∧ s.2.2.length = s.1 ∧ s.2.2.map (·.p) = pv.take s.1 ∧ Ext w w' ∧ Own w.heap.size 90 5 w' A1 n n ((s.2.2 ++ List.replicate (n - s.1) v0N).flatMap cN) ∧
   (∀ v ∈ s.2.2, Own w1.heap.size 9 1 w' v.A0 v.m0 v.c0 (v.p.xs.map (.string)) ∧ Own w1.heap.size 3 1 w' v.A1 v.m1 v.c1 (v.p.ks.map (.int .i64)) ∧ v.p.tx.size ≤ 9223372036854775807 ∧ (∀ u ∈ v.p.xs, u.size ≤ 9223372036854775807)) ∧ w1.heap.size ≤ w'.heap.size ∧ DJ A1 (s.2.2.map (adr sbNode)))
  (fun s => [(0, .slice A n c), (3, .slice A1 n n), (4, .int .i64 s.2.1)]) (fun s => n - s.1) (0, 0, [])
  (by simp [Fits, lk]) ⟨by simp, by simp, rfl, by simp, hx1, by simpa using h1, by simp, n1_ _, ⟨by simp, by simp, by simp⟩⟩ ?_
 rintro I hI ⟨i, ii, ds⟩ w' ⟨hi, hii, hdl, hdp, hxw, ho, hds, hsz, hdj⟩
 simp only at hi hii hdl hdp ho hds hdj
 obtain ⟨ii', hii'⟩ : ∃ z, z = ii + 1 := ⟨_, rfl⟩
 conv => cbv
 refine st_len hE sLNd fun x2 hx2 => ?_
 conv => cbv
 refine br (fun g2 => ?_) (fun g2 => ?_)
 ·have g2 : i < n := by
   have : ii < x2 := by simpa [hE.cmp, cmpR] using g2
   omega
  have ei : E.ar .add .i64 ii 1 = ii' := by rw [hE.ar, hii']; exact wrap_in (by omega) (by omega)
  obtain ⟨a, v, hA, hg, hc, hok⟩ := (h.ext hxw).get g2
  have hb_xs : v.m0 ≤ 1048576 := by rw [← hok.r_xs.len]; exact hp_xs _ (m1_ hg)
  have hb_ks : v.m1 ≤ 1048576 := by rw [← hok.r_ks.len]; exact hp_ks _ (m1_ hg)
  obtain ⟨gb, rfl, _⟩ := ho.addr (by omega)
  conv => cbv
  refine st_idx hE sLNd hA (by omega) (by omega) fun q hq => ?_
  rw [show ii.toNat = i by omega] at hq
  conv => cbv
  refine st_loadS hE tLNd (vs := cN v) rfl (by rw [hq]; exact hc) ?_
  obtain ⟨cv, hcv⟩ : ∃ cv, cv = cN v := ⟨_, rfl⟩
  rw [← hcv]
  conv => cbv
  rw [hcv]
  refine st_f hr (toNodeO_f v hok hb_xs hb_ks) fun u w2 hx3 ⟨B0, n0, d0, B1, n1, d1, ev, o_xs, o_ks, djk⟩ => ?_
  subst ev
  rw [← hcv]
  have hdn : DJ (some ⟨gb, 0, none⟩) ((ds ++ [(⟨v.p, B0, n0, d0, B1, n1, d1⟩ : VN)]).map (adr sbNode)) := by
   rw [List.map_append]
   refine hdj.snoc (fun a ha => ?_) ?_ (fun l hl b hb a ha => ?_)
   ·simp [adr, sbNode] at ha
    rcases ha with rfl | rfl
    ·exact dj_new ho o_xs (n1_ _)
    ·exact dj_new ho o_ks (n1_ _)
   ·simp [adr, sbNode]; exact djk
   ·obtain ⟨v2, hv2, rfl⟩ := List.mem_map.1 hl
    obtain ⟨k0, k1, _⟩ := hds v2 hv2
    simp [adr, sbNode] at ha hb
    rcases ha with rfl | rfl <;> rcases hb with rfl | rfl
    ·exact dj_new k0 o_xs (n1_ _)
    ·exact dj_new k0 o_ks (n1_ _)
    ·exact dj_new k1 o_xs (n1_ _)
    ·exact dj_new k1 o_ks (n1_ _)
  replace o_xs := o_xs.mono hsz
  replace o_ks := o_ks.mono hsz
  have ap : ∀ {e m5 c5 ys A5}, Own w1.heap.size e 1 w2 A5 m5 c5 ys → Apart A5 (some ⟨gb, 0, none⟩) := fun h5 => (h1.apart h5 (n1_ _)).2
  replace ho := ho.bel hx3
  have hds2 : ∀ v ∈ ds, Own w1.heap.size 9 1 w2 v.A0 v.m0 v.c0 (v.p.xs.map (.string)) ∧ Own w1.heap.size 3 1 w2 v.A1 v.m1 v.c1 (v.p.ks.map (.int .i64)) ∧ v.p.tx.size ≤ 9223372036854775807 ∧ (∀ u ∈ v.p.xs, u.size ≤ 9223372036854775807) := fun v hv => by
   obtain ⟨k0, k1, k2, k3⟩ := hds v hv
   exact ⟨k0.bel hx3, k1.bel hx3, k2, k3⟩
  replace hxw := hxw.trans hx3
  conv => cbv
  refine st_idx hE sINd rfl (by omega) (by omega) fun q1 hq1 => ?_
  rw [show ii.toNat = i by omega] at hq1
  conv => cbv
  obtain ⟨y, hy⟩ : ∃ y : VN, y = ⟨v.p, B0, n0, d0, B1, n1, d1⟩ := ⟨_, rfl⟩
  refine st_putS hr (vs := [.int .i64 v.p.o, .int .i64 v.p.z, .string v.p.tx, .slice B0 n0 d0, .slice B1 n1 d1]) (by kernel_rfl) ho (j := i * 5) hq1 (by rw [fl_len cN_len]; simp; omega) (by simp [Value.oneCell']) fun w3 hw3 ho3 => ?_
  rw [show ([.int .i64 v.p.o, .int .i64 v.p.z, .string v.p.tx, .slice B0 n0 d0, .slice B1 n1 d1] : List Value) = cN y by rw [hy]; rfl, fl_put cN_len _ i y (by simp; omega)] at ho3
  have hset : (ds ++ List.replicate (n - i) v0N).set i y = (ds ++ [y]) ++ List.replicate (n - (i + 1)) v0N := by
   rw [List.set_append_right _ _ (by omega), hdl, Nat.sub_self, show n - i = (n - (i + 1)) + 1 by omega, List.replicate_succ, b4_, List.append_assoc]; rfl
  rw [hset] at ho3
  conv => cbv
  simp only [ei]
  refine ⟨(i + 1, ii', ds ++ [y]), by simp [Fits, lk], hI _ _ ⟨by simp only; omega, by simp only; omega, by simp [hdl], ?_, hxw.then (hw3.bel ho hxw.size), ho3, ?_, ?_, by simp only; rw [hy]; exact hdn⟩, by simp only; omega⟩
  ·simp only
   rw [List.map_append, hdp, g4_, hg, hy]; rfl
  ·intro v2 hv
   rcases List.mem_append.1 hv with hv | hv
   ·obtain ⟨k0, k1, k2, k3⟩ := hds2 v2 hv
    exact ⟨k0.wr hw3 (ap k0), k1.wr hw3 (ap k1), k2, k3⟩
   ·simp at hv
    subst hv
    rw [hy]
    exact ⟨o_xs.wr hw3 (ap o_xs), o_ks.wr hw3 (ap o_ks), hok.s_tx, hok.r_xs.small⟩
  ·have := hw3.size; have := hx3.size; omega
 ·have g2 : i = n := by
   have : ¬ ii < x2 := by simpa [hE.cmp, cmpR] using g2
   omega
  subst g2
  rw [g3_ (by omega)] at hdp
  simp only [Nat.sub_self, List.replicate_zero, a7_] at ho
  conv => cbv
  rw [hR]; refine ⟨hxw, A1, i, ds, rfl, hdp, ⟨ho, fun v hv s hs => ?_, hdj⟩, fun w2 ha => ⟨ds, hdp, hdl, (ho.above ha).cells, fun v hv => ?_⟩⟩
  ·obtain ⟨k0, k1, k2, k3⟩ := hds v hv
   simp only [sbNode, List.mem_cons, List.not_mem_nil, or_false] at hs
   rcases hs with rfl | rfl
   ·exact k0.mono hx1.size
   ·exact k1.mono hx1.size
  obtain ⟨k0, k1, k2, k3⟩ := hds v hv
  exact ⟨k2, ((k0.mono hx1.size).above ha).strs k3, ((k1.mono hx1.size).above ha).ints⟩
theorem toStmtSO_f {w : World} {A : Option Addr} {n c : Nat} {pv : List PS} (h : RSs w A n pv) (hn : n ≤ 1048576) :
  FC Tryz.prog 47 [.slice A n c] w fun v w' => ∃ A1 c1, v = .slice A1 n c1 ∧ Own w.heap.size 155 4 w' A1 n c1 (pv.flatMap cS) ∧ ∀ w2, Above w.heap.size w' w2 → RSs w2 A1 n pv := by
 refine FC.intro (cs := []) Tryz.func47 (by kernel_rfl) fun E R hE hr hR => ?_
 have hl := h.len
 conv => cbv
 refine st_len hE sLSd fun x hx => ?_
 conv => cbv
 refine st_makeK hr sISd rfl (m := n) (by omega) (by omega) (by omega) fun A1 w1 hx1 h10 => ?_
 have h1 := h10 _ (n1_ _)
 rw [show (Value.agg ⟨zSd⟩).cells = ⟨cS v0S⟩ from rfl, made_fl (f := cS) v0S n 4 rfl (by omega)] at h1
 conv => cbv
 refine loop_rule hr (fun (s : Nat × Int × List VS) w' => s.1 ≤ n ∧ s.2.1 = (s.1 : Int) ∧ s.2.2.length = s.1 ∧ s.2.2 = pv.take s.1 ∧ Ext w w' ∧ Own w.heap.size 155 4 w' A1 n n ((s.2.2 ++ List.replicate (n - s.1) v0S).flatMap cS) ∧
   (∀ v ∈ s.2.2, v.nm.size ≤ 9223372036854775807) ∧ w1.heap.size ≤ w'.heap.size)
  (fun s => [(0, .slice A n c), (3, .slice A1 n n), (4, .int .i64 s.2.1)]) (fun s => n - s.1) (0, 0, [])
  (by simp [Fits, lk]) ⟨by simp, by simp, rfl, by simp, hx1, by simpa using h1, by simp, n1_ _⟩ ?_
 rintro I hI ⟨i, ii, ds⟩ w' ⟨hi, hii, hdl, hdp, hxw, ho, hds, hsz⟩
 simp only at hi hii hdl hdp ho hds
 obtain ⟨ii', hii'⟩ : ∃ z, z = ii + 1 := ⟨_, rfl⟩
 conv => cbv
 refine st_len hE sLSd fun x2 hx2 => ?_
 conv => cbv
 refine br (fun g2 => ?_) (fun g2 => ?_)
 ·have g2 : i < n := by
   have : ii < x2 := by simpa [hE.cmp, cmpR] using g2
   omega
  have ei : E.ar .add .i64 ii 1 = ii' := by rw [hE.ar, hii']; exact wrap_in (by omega) (by omega)
  obtain ⟨a, v, hA, hg, hc, hok⟩ := (h.ext hxw).get g2
  obtain ⟨gb, rfl, _⟩ := ho.addr (by omega)
  conv => cbv
  refine st_idx hE sLSd hA (by omega) (by omega) fun q hq => ?_
  rw [show ii.toNat = i by omega] at hq
  conv => cbv
  refine st_loadS hE tLSd (vs := cS v) rfl (by rw [hq]; exact hc) ?_
  obtain ⟨cv, hcv⟩ : ∃ cv, cv = cS v := ⟨_, rfl⟩
  rw [← hcv]
  conv => cbv
  rw [hcv]
  refine st_f hr (toStmt_f v hok) fun u w2 hx3 ev => ?_
  subst ev
  rw [← hcv]
  replace ho := ho.bel hx3
  have hds2 : ∀ v ∈ ds, v.nm.size ≤ 9223372036854775807 := fun v hv => by
   have k0 := hds v hv
   exact k0
  replace hxw := hxw.trans hx3
  conv => cbv
  refine st_idx hE sISd rfl (by omega) (by omega) fun q1 hq1 => ?_
  rw [show ii.toNat = i by omega] at hq1
  conv => cbv
  obtain ⟨y, hy⟩ : ∃ y : VS, y = v := ⟨_, rfl⟩
  refine st_putS hr (vs := [.int .i64 v.k, .string v.nm, .int .i64 v.c, .int .i64 v.g]) (by kernel_rfl) ho (j := i * 4) hq1 (by rw [fl_len cS_len]; simp; omega) (by simp [Value.oneCell']) fun w3 hw3 ho3 => ?_
  rw [show ([.int .i64 v.k, .string v.nm, .int .i64 v.c, .int .i64 v.g] : List Value) = cS y by rw [hy]; rfl, fl_put cS_len _ i y (by simp; omega)] at ho3
  have hset : (ds ++ List.replicate (n - i) v0S).set i y = (ds ++ [y]) ++ List.replicate (n - (i + 1)) v0S := by
   rw [List.set_append_right _ _ (by omega), hdl, Nat.sub_self, show n - i = (n - (i + 1)) + 1 by omega, List.replicate_succ, b4_, List.append_assoc]; rfl
  rw [hset] at ho3
  conv => cbv
  simp only [ei]
  refine ⟨(i + 1, ii', ds ++ [y]), by simp [Fits, lk], hI _ _ ⟨by simp only; omega, by simp only; omega, by simp [hdl], ?_, hxw.then (hw3.bel ho hxw.size), ho3, ?_, ?_⟩, by simp only; omega⟩
  ·simp only
   rw [hdp, g4_, hg, hy]; rfl
  ·intro v2 hv
   rcases List.mem_append.1 hv with hv | hv
   ·have k0 := hds2 v2 hv
    exact k0
   ·simp at hv
    subst hv
    rw [hy]
    exact hok.s_nm
  ·have := hw3.size; have := hx3.size; omega
 ·have g2 : i = n := by
   have : ¬ ii < x2 := by simpa [hE.cmp, cmpR] using g2
   omega
  subst g2
  rw [g3_ (by omega)] at hdp
  simp only [Nat.sub_self, List.replicate_zero, a7_] at ho
  conv => cbv
  rw [hR]; refine ⟨hxw, A1, i, rfl, by rw [← hdp]; exact ho, fun w2 ha => ⟨ds, hdp, hdl, (ho.above ha).cells, fun v hv => ?_⟩⟩
  have k0 := hds v hv
  exact ⟨k0⟩
theorem toTypedO_f {w : World} {A A2 A3 : Option Addr} {n c n2 c2 n3 c3 : Nat} {nv : List PN} {sv : List PS} {tyl : List Int} (h : TypR w A n A2 n2 A3 n3 c3 nv sv tyl) (hw : wtNs nv + wtSs sv ≤ 1048576) (hw3 : tyl.length ≤ 1048576) :
  FC Tryz.prog 32 [typV A n c A2 n2 c2 A3 n3 c3] w fun v w' => ∃ A1 c1 A4 c4 A5 c5 vs, v = typV A1 n c1 A4 n2 c4 A5 n3 c5 ∧ vs.map (·.p) = nv ∧ OT w.heap.size w' A1 n c1 A4 n2 c4 A5 n3 c5 vs sv tyl ∧ TypR w' A1 n A4 n2 A5 n3 c5 nv sv tyl := by
 refine FC.intro (cs := []) Tryz.func32 (by kernel_rfl) fun E R hE hr hR => ?_
 obtain ⟨b1, b2, b3⟩ := wt_b (nv := nv) (by omega)
 have b4 := wtSs_len sv
 have hl1 := h.pol.nodes.len
 have hl2 := h.pol.stmts.len
 have hl3 := h.tys.len
 conv => cbv
 refine st_box hr fun a w1 hx hb0 => ?_
 have hb := hb0 _ (n1_ _)
 conv => cbv
 refine st_alloc hr tITyp rfl fun o w2 hx2 ho0 => ?_
 have ho := ho0 _ hx.size
 have hb := hb.bel hx2
 have hx := hx.trans hx2
 conv => cbv
 refine st_alloc hr tITyp rfl fun q w3 hx3 hq0 => ?_
 have hq := hq0 _ hx.size
 have aq := (hb.apart (hq0 _ (n1_ _)) (n1_ _)).1
 have oq := (ho.apart (hq0 _ (n1_ _)) (n1_ _)).1
 have o0 := ho
 have hso := hx3.size
 have hb := hb.bel hx3
 have ho := ho.bel hx3
 have hx := hx.trans hx3
 clear hb0 ho0 hq0
 conv => cbv
 (refine st_fld hE fLTyp0 fun p hp => ?_; (conv => cbv); refine st_load hE cLNs (by rw [hp]; exact (hb).at _ _ rfl) ?_; (conv => cbv))
 refine st_f hr (toNodeSO_f (h.pol.nodes.ext hx) (by omega) b2 b3) fun v w4 hx4 ⟨A4, c4, vs4, ev, hv4, r4, h4⟩ => ?_
 subst ev
 have hs4 := hx4.size
 have hx03 := hx.size
 have hsw4 := hx4.size
 have q0 := hq
 replace hb := hb.bel hx4
 replace ho := ho.bel hx4
 replace hq := hq.bel hx4
 replace hx := hx.trans hx4
 conv => cbv
 refine st_fld hE fITyp0 fun p hp => ?_
 conv => cbv
 refine st_put hr zINs hq hp (by simp) rfl fun wm hwm hq2 => ?_
 replace hx := hx.then (hwm.bel hq hx.size)
 have y4 : Above w3.heap.size w4 wm := hwm.above q0 (n1_ _)
 simp only [b4_, b5_] at hq2
 replace hq := hq2
 replace hb := hb.wr hwm aq
 replace ho := ho.wr hwm oq
 have hsz : w3.heap.size ≤ wm.heap.size := n2_ hs4 y4.size
 conv => cbv
 (refine st_fld hE fLTyp1 fun p hp => ?_; (conv => cbv); refine st_load hE cLSs (by rw [hp]; exact (hb).at _ _ rfl) ?_; (conv => cbv))
 refine st_f hr (toStmtSO_f (h.pol.stmts.ext hx) (by omega)) fun v w6 hx6 ⟨A6, c6, ev, r6, h6⟩ => ?_
 have d46 : ∀ r ∈ roA sbNode A4 vs4, Dj r A6 := fun r hr g hg e => by
  have := (r4.lo r hr g hg).2
  have := (own_blk r6 g e).1
  have := y4.size
  omega
 subst ev
 replace hb := hb.bel hx6
 replace ho := ho.bel hx6
 replace hq := hq.bel hx6
 replace hx := hx.trans hx6
 replace y4 := y4.trans (hx6.above _)
 conv => cbv
 refine st_fld hE fITyp1 fun p2 hp2 => ?_
 conv => cbv
 refine st_put hr zISs hq hp2 (by simp) rfl fun w7 hw7 hq3 => ?_
 have y7 : Above w3.heap.size w6 w7 := hw7.above q0 (n1_ _)
 replace hx := hx.then (hw7.bel hq hx.size)
 replace hb := hb.wr hw7 aq
 replace ho := ho.wr hw7 oq
 simp only [b4_, b5_] at hq3
 replace y4 := y4.trans y7
 have hsz7 : w3.heap.size ≤ w7.heap.size := n2_ hsz (n2_ hx6.size y7.size)
 conv => cbv
 (refine st_fld hE fLTyp2 fun p hp => ?_; (conv => cbv); refine st_load hE cInts (by rw [hp]; exact (hb).at _ _ rfl) ?_; (conv => cbv))
 refine st_f hr (toIntS_f (h.tys.ext hx) (by omega)) fun v w10 hx10 ⟨A10, c10, ev, h10⟩ => ?_
 have d410 : ∀ r ∈ roA sbNode A4 vs4, Dj r A10 := fun r hr g hg e => by
  have := (r4.lo r hr g hg).2
  have := (own_blk h10 g e).1
  have := y4.size
  omega
 have d610 : Dj A6 A10 := fun g hg e => by
  have := (own_blk r6 g hg).2
  have := (own_blk h10 g e).1
  have := y7.size
  omega
 subst ev
 replace hq3 := hq3.bel hx10
 replace ho := ho.bel hx10
 replace hx := hx.trans hx10
 replace y7 := y7.trans (hx10.above _)
 replace y4 := y4.trans (hx10.above _)
 conv => cbv
 refine st_fld hE fITyp2 fun p3 hp3 => ?_
 conv => cbv
 refine st_put hr zInts2 hq3 hp3 (by simp) rfl fun w11 hw11 hq4 => ?_
 have y11 : Above w3.heap.size w10 w11 := hw11.above q0 (n1_ _)
 replace hx := hx.then (hw11.bel hq3 hx.size)
 replace ho := ho.wr hw11 oq
 simp only [b4_, b5_] at hq4
 replace y4 := y4.trans y11
 replace y7 := y7.trans y11
 conv => cbv
 refine st_loadS hE tITyp rfl hq4.at ?_
 conv => cbv
 refine st_putS hr (by kernel_rfl) ho (add_zero _).symm (by simp) (by simp [Value.oneCell']) fun w8 hw8 ho8 => ?_
 simp only [a1_, a2_, a3_, a4_, a5_, a6_, a7_] at ho8
 have y8 : Above w3.heap.size w11 w8 := hw8.above o0 hso
 conv => cbv
 refine st_cell hr tITyp rfl ho8.at ?_
 rw [hR]; exact ⟨hx.then (hw8.bel ho hx.size), A4, c4, A6, c6, A10, c10, vs4, rfl, hv4, ⟨(r4.above (y4.trans y8)).low hx03, (r6.above ((y7.trans y8).mono hsz)).mono (n2_ hx03 hsz), (h10.above ((y11.trans y8).mono hsz7)).mono (n2_ hx03 hsz7), d46, d410, d610⟩, ⟨⟨h4 _ (y4.trans y8), h6 _ ((y7.trans y8).mono hsz)⟩, Own.ints (h10.above ((y11.trans y8).mono hsz7))⟩⟩
section
variable {w0s : Nat} {w w' : World} {q : Addr} {P : Option Addr} {pn pc : Nat} {sl : Int} {I : Option Addr} {n ic : Nat} {vs : List VV} {is : List (Int × Int)}
end
section
variable {w0s : Nat} {w w' : World} {q : Addr} {P : Option Addr} {pn pc : Nat} {sl : Int} {I : Option Addr} {ic : Nat} {vs : List VV} {s : CS}
end
mutual
def fewT : Tr → Prop
 | .con _ _ _ xs _ => xs.length ≤ 100000
 | .op _ kids _ => fewTs kids
 | _ => True
def fewTs : List Tr → Prop
 | [] => True
 | t :: l => fewT t ∧ fewTs l
end
def exK : List Tr → CS → CS
 | [], s => s
 | t :: l, s => exK l (exP t s)
structure C5 where
 a : Value
 b : Value
 c : Value
 d : Value
 e : Value
def c5 (v : C5) : List Value := [v.a, v.b, v.c, v.d, v.e]
theorem c5_len (v : C5) : (c5 v).length = 5 := rfl
def opK (k : Int) : Int := if k = 2 then 1 else if k = 3 then 2 else if k = 1 then 3 else 4
mutual
def L4V (D : Nat → Prop) (w : World) : Tr → C5 → Prop
 | .con k n tx xs _, v => ∃ A m c B d, v = ⟨.int .i64 (opK k), .int .i64 n, .string tx, .slice A m c, .slice B 0 d⟩ ∧ Strs w A m c xs ∧ InD D A m ∧ tx.size ≤ 9223372036854775807
 | .att n, v => ∃ A c B d, v = ⟨.int .i64 6, .int .i64 n, .string ⟨#[]⟩, .slice A 0 c, .slice B 0 d⟩
 | .lt n, v => ∃ A c B d, v = ⟨.int .i64 7, .int .i64 n, .string ⟨#[]⟩, .slice A 0 c, .slice B 0 d⟩
 | .op o kids _, v => ∃ A c B m d vs, v = ⟨.int .i64 o, .int .i64 0, .string ⟨#[]⟩, .slice A 0 c, .slice B m d⟩ ∧ vs.length = m ∧ m ≤ d ∧ m ≤ 3 ∧ Cells w B (vs.flatMap c5) ∧ InD D B m ∧ L4Vs D w kids vs
 | .nam _ _, _ => False
def L4Vs (D : Nat → Prop) (w : World) : List Tr → List C5 → Prop
 | [], [] => True
 | t :: ts, v :: vs => L4V D w t v ∧ L4Vs D w ts vs
 | _, _ => False
end
theorem L4Vs.len {D : Nat → Prop} {w : World} : ∀ {ts : List Tr} {vs : List C5}, L4Vs D w ts vs → ts.length = vs.length
 | [], [], _ => rfl
 | t :: ts, v :: vs, h => by simp only [L4Vs] at h; simp [L4Vs.len h.2]
 | [], _ :: _, h => by simp only [L4Vs] at h
 | _ :: _, [], h => by simp only [L4Vs] at h
theorem L4Vs.get {D : Nat → Prop} {w : World} : ∀ {ts : List Tr} {vs : List C5}, L4Vs D w ts vs → ∀ (i : Nat) (t : Tr) (v : C5), ts[i]? = some t → vs[i]? = some v → L4V D w t v
 | t :: ts, v :: vs, h, 0, t', v', h1, h2 => by simp at h1 h2; subst h1; subst h2; simp only [L4Vs] at h; exact h.1
 | t :: ts, v :: vs, h, i + 1, t', v', h1, h2 => by simp only [L4Vs] at h; exact L4Vs.get h.2 i t' v' (by simpa using h1) (by simpa using h2)
 | [], [], _, i, t, v, h1, _ => by simp at h1
 | [], _ :: _, h, _, _, _, _, _ => by simp only [L4Vs] at h
 | _ :: _, [], h, _, _, _, _, _ => by simp only [L4Vs] at h
mutual
theorem L4V.keep {D D' : Nat → Prop} {w w' : World} (hk : Keeps D w w') (hD : ∀ b, D b → D' b) : ∀ (t : Tr) (v : C5), L4V D w t v → L4V D' w' t v
 | .con k n tx xs at_, v, h => by
  simp only [L4V] at h ⊢
  obtain ⟨A, m, c, B, d, e, h1, h2, h3⟩ := h
  exact ⟨A, m, c, B, d, e, strs_keep h1 h2 hk, fun a ha hm => hD _ (h2 a ha hm), h3⟩
 | .nam tx at_, v, h => by simp only [L4V] at h
 | .att n, v, h => by simp only [L4V] at h ⊢; exact h
 | .lt n, v, h => by simp only [L4V] at h ⊢; exact h
 | .op o kids at_, v, h => by
  simp only [L4V] at h ⊢
  obtain ⟨A, c, B, m, d, vs, e, h1, h2, h3, h4, h5, h6⟩ := h
  refine ⟨A, c, B, m, d, vs, e, h1, h2, h3, cells_keep h4 (fun a ha hm => h5 a ha ?_) hk, fun a ha hm => hD _ (h5 a ha hm), L4Vs.keep hk hD kids vs h6⟩
  rw [fl_len c5_len] at hm; omega
theorem L4Vs.keep {D D' : Nat → Prop} {w w' : World} (hk : Keeps D w w') (hD : ∀ b, D b → D' b) : ∀ (ts : List Tr) (vs : List C5), L4Vs D w ts vs → L4Vs D' w' ts vs
 | [], [], _ => by simp only [L4Vs]
 | t :: ts, v :: vs, h => by simp only [L4Vs] at h ⊢; exact ⟨L4V.keep hk hD t v h.1, L4Vs.keep hk hD ts vs h.2⟩
 | [], _ :: _, h => by simp only [L4Vs] at h
 | _ :: _, [], h => by simp only [L4Vs] at h
end
theorem L4V.ext {D : Nat → Prop} {w w' : World} {t : Tr} {v : C5} (h : L4V D w t v) (hD : ∀ b, D b → b < w.heap.size) (hx : Ext w w') : L4V D w' t v := h.keep (fun b hb => hx.block b (hD b hb)) (fun _ h => h)
def zL4 : List Value := [.int .i64 0, .int .i64 0, .string ⟨#[]⟩, .slice none 0 0, .slice none 0 0]
section
variable {E : Sym} {w : World} {K : Value → World → Prop} {d : Option Tmp} {ty : TypeId} {pos : String} {aft : Array Edge} {g : Option (Nat × Bool)} {bq : Bool}
end
def DB (w0s ws : Nat) (w : World) (b : Nat) : Prop := b < w0s ∨ (ws ≤ b ∧ b < w.heap.size)
def riskO (o : Int) : Prop := o = 8 ∨ (11 ≤ o ∧ o ≤ 16)
instance (o : Int) : Decidable (riskO o) := inferInstanceAs (Decidable (o = 8 ∨ (11 ≤ o ∧ o ≤ 16)))
mutual
def safeT : Tr → Bool
 | .op o kids _ => if riskO o then false else safeTs kids
 | _ => true
def safeTs : List Tr → Bool
 | [] => true
 | t :: l => safeT t && safeTs l
end
section
variable {P : Program} {E : Sym} {w : World} {K : Value → World → Prop} {d : Option Tmp} {ty : TypeId} {pos : String} {aft : Array Edge} {g : Option (Nat × Bool)}
end
def kidsT : Tr → List Tr
 | .op _ kids _ => kids
 | _ => []
structure TOB (w0s : Nat) (q3 q4 : Addr) : Prop where
 h3 : w0s ≤ q3.block
 h4 : w0s ≤ q4.block
 e3 : blk (some q3) = some q3.block
 e4 : blk (some q4) = some q4.block
 ne : q3.block ≠ q4.block
section
variable {w0s : Nat} {w w' : World} {q3 q4 : Addr} {B : Option Addr} {n d : Nat} {vs : List Value}
end
mutual
theorem szT_po : ∀ t : Tr, szT t ≤ 3 * (po t).length
 | .con .. => by simp [szT, po]
 | .att n => by simp [szT, po]
 | .lt n => by simp [szT, po]
 | .nam .. => by simp [szT, po]
 | .op o kids at_ => by
  have := szTs_pos kids
  simp only [szT, po, List.length_append, a3_, a4_]
  (repeat' split) <;> omega
theorem szTs_pos : ∀ l : List Tr, szTs l ≤ 3 * (pos l).length
 | [] => by simp [szTs, pos]
 | t :: l => by
  have h1 := szT_po t
  have h2 := szTs_pos l
  simp only [szTs, pos, List.length_append]
  omega
end
structure StOK (s : PS) (p : PT) : Prop where
 k : s.k = 1 ∨ s.k = 2 ∨ s.k = 3
 c : s.k = 3 ↔ p.c = none
 ok : ∀ t ∈ trs p, okT t ∧ fewT t
def stepP (p : PS) (pt : PT) (sl : Int) (s : CS) : Int × CS :=
 let s1 := match pt.c with
  | none => s
  | some t => exP t s
 if p.k = 1 then (sl + 1, putP 4 sl s1)
 else if p.k = 2 then (sl, markP s1.ins.length (decP pt.g (putP 23 0 s1)))
 else (sl, decP pt.g s1)
def szO (g : Option Tr) : Nat := match g with
 | none => 1
 | some t => szT t + 1
section
variable {w0 : World} {q : Addr}
end
section
variable {E : Sym} {w : World} {K : Value → World → Prop} {d : Option Tmp} {ty : TypeId} {pos : String} {aft : Array Edge} {g : Option (Nat × Bool)} {bq : Bool}
end
structure CdO (B : Nat) (w : World) (P : Option Addr) (pn pc : Nat) (I : Option Addr) (n ic : Nat) (vs : List VV) (is : List (Int × Int)) : Prop where
 rP : Own B 218 4 w P pn pc (vs.flatMap vC)
 rI : Own B 217 2 w I n ic (is.flatMap iC)
 nam : ∀ v ∈ vs, Own B 9 1 w v.A v.m v.c (v.p.xs.map .string) ∧ ValM w v
 PI : Dj P I
 Pn : ∀ v ∈ vs, Dj P v.A
 In : ∀ v ∈ vs, Dj I v.A
 nn : vs.Pairwise fun u v => Dj u.A v.A
theorem CdO.ext {B : Nat} {w w' : World} {P : Option Addr} {pn pc : Nat} {I : Option Addr} {n ic : Nat} {vs : List VV} {is : List (Int × Int)} (h : CdO B w P pn pc I n ic vs is) (hx : Ext w w') : CdO B w' P pn pc I n ic vs is :=
 ⟨h.rP.bel hx, h.rI.bel hx, fun v hv => ⟨(h.nam v hv).1.bel hx, (h.nam v hv).2.ext hx⟩, h.PI, h.Pn, h.In, h.nn⟩
abbrev codV (P : Option Addr) (pn pc : Nat) (sl : Int) (I : Option Addr) (n ic : Nat) : Value := .agg ⟨[.slice P pn pc, .int .i64 sl, .slice I n ic]⟩
def CodO (B : Nat) (w : World) (v : Value) (x : Int × CS) : Prop := ∃ P pn pc I n ic vs, v = codV P pn pc x.1 I n ic ∧ CdO B w P pn pc I n ic vs x.2.ins ∧ vs.map (·.p) = x.2.pool
theorem CdO.mono {B B' : Nat} {w : World} {P : Option Addr} {pn pc : Nat} {I : Option Addr} {n ic : Nat} {vs : List VV} {is : List (Int × Int)} (h : CdO B w P pn pc I n ic vs is) (hB : B' ≤ B) : CdO B' w P pn pc I n ic vs is :=
 ⟨h.rP.mono hB, h.rI.mono hB, fun v hv => ⟨(h.nam v hv).1.mono hB, (h.nam v hv).2⟩, h.PI, h.Pn, h.In, h.nn⟩
def CodeP (nv : List PN) (sv : List PS) (tyl : List Int) (x : Int × CS) : Prop := (¬ wellP nv sv tyl ∧ x = (0, ⟨[], []⟩)) ∨ (wellP nv sv tyl ∧ ∃ acc y, TypedP nv sv tyl acc y ∧ x = cmpP (sv.zip acc) 0 ⟨[], []⟩)
theorem CSt.weak {w w' : World} {R S : List (Option Addr)} (h : CSt w R w' R) (hs : ∀ x ∈ R, x ∈ S) : CSt w S w' S := ⟨h.os, h.tape, h.output, h.size, fun b hb hn => h.keep b hb fun x hx => hn x (hs x hx), fun x hx g hg => .inl ⟨x, hx, hg⟩⟩
theorem mkL_adr {α : Type} {mk : α → Int → α} {ct : α → Nat} {sb : α → List Sub} (h : ∀ v z, adr sb (mk v z) = adr sb v) : ∀ (l : List α) (z : Int), (mkL mk ct l z).flatMap (adr sb) = l.flatMap (adr sb)
 | [], _ => rfl
 | v :: l, z => by simp only [mkL, List.flatMap_cons, h, mkL_adr h l]
theorem roA_mk {α : Type} {mk : α → Int → α} {ct : α → Nat} {sb : α → List Sub} (h : ∀ v z, adr sb (mk v z) = adr sb v) (A : Option Addr) (l : List α) (z : Int) : roA sb A (mkL mk ct l z) = roA sb A l := by
 unfold roA; rw [mkL_adr h]
theorem roA_stmt (A : Option Addr) (l : List PS) : roA sbStmt A l = [A] := by unfold roA adr sbStmt; simp
theorem dj_nil {α : Type} {sb : α → List Sub} (h : ∀ v, adr sb v = []) (A : Option Addr) (l : List α) : DJ A (l.map (adr sb)) := by
 have this : ∀ x ∈ l.map (adr sb), x = [] := fun x hx => by obtain ⟨v, _, rfl⟩ := List.mem_map.1 hx; exact h v
 refine ⟨fun x hx a ha => ?_, fun x hx => ?_, List.pairwise_iff_getElem.2 fun i j hi hj _ a ha => ?_⟩
 ·have := this x hx; subst this; cases ha
 ·have := this x hx; subst this; exact List.Pairwise.nil
 ·have e := this _ (List.getElem_mem hi)
  rw [e] at ha; cases ha
theorem ro_stmt {B : Nat} {w : World} {A : Option Addr} {n c : Nat} {l : List PS} (h : Own B 155 4 w A n c (l.flatMap cS)) : RO 155 4 cS sbStmt B w A n c l :=
 ⟨h, by simp [sbStmt], dj_nil (fun _ => rfl) _ _⟩
def otA (A A2 A3 : Option Addr) (vs : List VN) : List (Option Addr) := roA sbNode A vs ++ [A2, A3]
def otK (vs : List VN) (sv : List PS) (n3 : Nat) : Nat := ctL ctNode vs + ctL ctStmt sv + n3
theorem OT.ext {B : Nat} {w w' : World} {A A2 A3 : Option Addr} {n c n2 c2 n3 c3 : Nat} {vs : List VN} {sv : List PS} {tyl : List Int} (h : OT B w A n c A2 n2 c2 A3 n3 c3 vs sv tyl) (hx : Ext w w') : OT B w' A n c A2 n2 c2 A3 n3 c3 vs sv tyl := ⟨h.nd.ext hx, h.st.bel hx, h.ty.bel hx, h.d12, h.d13, h.d23⟩
theorem OT.lo {B : Nat} {w : World} {A A2 A3 : Option Addr} {n c n2 c2 n3 c3 : Nat} {vs : List VN} {sv : List PS} {tyl : List Int} (h : OT B w A n c A2 n2 c2 A3 n3 c3 vs sv tyl) : ∀ r ∈ otA A A2 A3 vs, ∀ g, blk r = some g → B ≤ g ∧ g < w.heap.size := fun r hr g hg => by
 unfold otA at hr
 rcases List.mem_append.1 hr with hr | hr
 ·exact h.nd.lo r hr g hg
 ·simp at hr
  rcases hr with rfl | rfl
  ·exact own_blk h.st g hg
  ·exact own_blk h.ty g hg
theorem nodeA (v : VN) (z : Int) : adr sbNode (mkNode v z) = adr sbNode v := rfl
theorem markTyped_g {w : World} {B : Nat} {A A2 A3 : Option Addr} {n c n2 c2 n3 c3 : Nat} {vs : List VN} {sv : List PS} {tyl : List Int} (h : OT B w A n c A2 n2 c2 A3 n3 c3 vs sv tyl) (k : Int) (hk : 0 ≤ k) (hkn : k + otK vs sv n3 < 9223372036854775807) :
  GC Tryz.prog 15 [typV A n c A2 n2 c2 A3 n3 c3, .int .i64 k] w fun v w' => v = .int .i64 (k + otK vs sv n3) ∧ OT B w' A n c A2 n2 c2 A3 n3 c3 (mkL mkNode ctNode vs k) (mkL mkStmt ctStmt sv (k + ctL ctNode vs)) (imarks (k + ctL ctNode vs + ctL ctStmt sv) n3) ∧ CSt w (otA A A2 A3 vs) w' (otA A A2 A3 vs) := by
 refine GC.intro (cs := []) Tryz.func15 (by kernel_rfl) fun E R hE hr hR => ?_
 have hkn' := hkn
 unfold otK at hkn'
 obtain ⟨k1, hk1⟩ : ∃ z : Int, z = k + ctL ctNode vs := ⟨_, rfl⟩
 obtain ⟨k2, hk2⟩ : ∃ z : Int, z = k1 + ctL ctStmt sv := ⟨_, rfl⟩
 obtain ⟨k3, hk3⟩ : ∃ z : Int, z = k2 + n3 := ⟨_, rfl⟩
 conv => cbv
 refine st_box hr fun a w1 hx hb0 => ?_
 have hb := hb0 _ (n1_ _)
 clear hb0
 have hlo := h.lo
 have da : ∀ r ∈ otA A A2 A3 vs, Dj r (some a) := fun r hr g hg e => by
  have := (hlo r hr g hg).2
  have := (own_blk hb g e).1
  omega
 replace h := h.ext hx
 conv => cbv
 (refine st_fld hE fITyp0 fun p hp => ?_; (conv => cbv); refine st_load hE cINs (by rw [hp]; exact (hb).at _ _ rfl) ?_; (conv => cbv))
 have m1 := markNodeS_g h.nd k hk (by omega)
 rw [← hk1] at m1
 refine st_g hr m1 fun v w2 ⟨ev, hn2, hc2⟩ => ?_
 subst ev
 have hC2 : CSt w1 (otA A A2 A3 vs) w2 (otA A A2 A3 vs) := hc2.weak fun x hx => List.mem_append_left _ hx
 have hb2 := (hC2.own hb da).1
 have st2 := (hc2.own h.st h.d12).1
 have ty2 := (hc2.own h.ty h.d13).1
 conv => cbv
 (refine st_fld hE fITyp1 fun p hp => ?_; (conv => cbv); refine st_load hE cISs (by rw [hp]; exact (hb2).at _ _ rfl) ?_; (conv => cbv))
 have m2 := markStmtS_g (ro_stmt st2) k1 (by omega) (by omega)
 rw [← hk2, roA_stmt] at m2
 refine st_g hr m2 fun v w3 ⟨ev, hs3, hc3⟩ => ?_
 subst ev
 have hC3 : CSt w2 (otA A A2 A3 vs) w3 (otA A A2 A3 vs) := hc3.weak fun x hx => by simp at hx; subst hx; simp [otA]
 have hb3 := (hC3.own hb2 da).1
 have nd3 := hn2.keepR hc3 fun r hr a ha => by
  simp at hr; subst hr
  rw [roA_mk nodeA] at ha
  exact (h.d12 a ha).symm
 have ty3 := (hc3.own ty2 fun r hr => by simp at hr; subst hr; exact h.d23).1
 conv => cbv
 (refine st_fld hE fITyp2 fun p hp => ?_; (conv => cbv); refine st_load hE cInts (by rw [hp]; exact (hb3).at _ _ rfl) ?_; (conv => cbv))
 have m3 := markIntS_g ty3 k2 (by omega) (by omega)
 rw [← hk3] at m3
 refine st_g hr m3 fun v w4 ⟨ev, ho4, hw4⟩ => ?_
 subst ev
 have hC4 : CSt w3 (otA A A2 A3 vs) w4 (otA A A2 A3 vs) := CSt.of_wr hw4 (by simp [otA])
 have c4 : CSt w3 [A3] w4 [A3] := CSt.of_wr hw4 (by simp)
 conv => cbv
 rw [hR]
 refine ⟨?_, ⟨nd3.keepR c4 fun r hr a ha => ?_, ?_, ?_, ?_, ?_, h.d23⟩, (((CSt.of_ext hx _).trans hC2).trans hC3).trans hC4⟩
 ·simp only [one, otK]; congr 1; push_cast; omega
 ·simp at hr; subst hr
  rw [roA_mk nodeA] at ha
  exact (h.d13 a ha).symm
 ·rw [← hk1]; exact (c4.own hs3.row fun r hr => by simp at hr; subst hr; exact h.d23.symm).1
 ·rw [← hk1, ← hk2]; exact ho4
 ·rw [roA_mk nodeA]; exact h.d12
 ·rw [roA_mk nodeA]; exact h.d13
def cdA (P I : Option Addr) (vs : List VV) : List (Option Addr) := roA sbValue P vs ++ [I]
def cdK (vs : List VV) (is : List (Int × Int)) : Nat := ctL ctValue vs + ctL ctIns is
section
variable {B : Nat} {w w' : World} {P : Option Addr} {pn pc : Nat} {I : Option Addr} {n ic : Nat} {vs : List VV} {is : List (Int × Int)}
structure CO (B : Nat) (w : World) (P : Option Addr) (pn pc : Nat) (I : Option Addr) (n ic : Nat) (vs : List VV) (is : List (Int × Int)) : Prop where
 pl : RO 218 4 vC sbValue B w P pn pc vs
 is : RO 217 2 iC sbIns B w I n ic is
 d : ∀ r ∈ roA sbValue P vs, Dj r I
theorem CO.ext (h : CO B w P pn pc I n ic vs is) (hx : Ext w w') : CO B w' P pn pc I n ic vs is := ⟨h.pl.ext hx, h.is.ext hx, h.d⟩
theorem CO.lo (h : CO B w P pn pc I n ic vs is) : ∀ r ∈ cdA P I vs, ∀ g, blk r = some g → B ≤ g ∧ g < w.heap.size := fun r hr g hg => by
 unfold cdA at hr
 rcases List.mem_append.1 hr with hr | hr
 ·exact h.pl.lo r hr g hg
 ·simp at hr; subst hr; exact own_blk h.is.row g hg
end
theorem typed_ex2 {nv : List PN} {sv : List PS} {tyl : List Int} (h : wellP nv sv tyl) : ∃ acc y, TypedP nv sv tyl acc y := by
 obtain ⟨⟨a1, a2, a3, acc, hrun⟩, hall⟩ := wellP_iff.1 h
 obtain ⟨y, h1, h2⟩ := hall acc hrun
 exact ⟨acc, y, ⟨a1, a2, a3⟩, hrun, h1, h2⟩
theorem fOc0' : Fld Tryz.prog 55 0 0 := ⟨by kernel_rfl⟩
theorem fOc1' : Fld Tryz.prog 55 1 1 := ⟨by kernel_rfl⟩
theorem specDecide_f {w : World} {A A2 A3 : Option Addr} {n c n2 c2 n3 c3 : Nat} {nv : List PN} {sv : List PS} {tyl : List Int} (h : TypR w A n A2 n2 A3 n3 c3 nv sv tyl) (hn : n ≤ 9223372036854775807) (hn2 : n2 ≤ 9223372036854775807) (hf : ∀ p ∈ nv, fits p.z)
  {cl us : ByteArray} {lv nw : Int} {Q Q2 : Option Addr} {m d m2 d2 : Nat} {xs ys : List ByteArray} (hc : cl.size ≤ 9223372036854775807) (hu : us.size ≤ 9223372036854775807) (hs : Strs w Q m d xs) (hs2 : Strs w Q2 m2 d2 ys) (fl : fits lv) (fn : fits nw) :
  FC Tryz.prog 31 [typV A n c A2 n2 c2 A3 n3 c3, reqV cl us lv nw Q m d Q2 m2 d2] w fun r w' => ∃ k cd N nm nc zs, r = .agg ⟨[.int .i64 k, .int .i64 cd, .slice N nm nc]⟩ ∧ Own w.heap.size 9 1 w' N nm nc (zs.map .string) ∧ (∀ s ∈ zs, s.size ≤ 9223372036854775807) ∧ zs.length ≤ 64 ∧ DecP nv sv tyl cl us lv nw xs ys (k, cd, zs) := by
 refine FC.intro (cs := []) Tryz.func31 (by kernel_rfl) fun E R hE hr hR => ?_
 conv => cbv
 refine st_box hr fun q2 w1 hx1 h20 => ?_
 have h2 := h20 _ (n1_ _)
 clear h20
 conv => cbv
 refine st_box hr fun q3 w2 hx2 h30 => ?_
 have h3 := h30 _ hx1.size
 replace h2 := h2.bel hx2
 clear h30
 conv => cbv
 refine st_alloc hr tOc rfl fun q4 w3 hx3 h40 => ?_
 have h4 := h40 _ (n2_ hx1.size hx2.size)
 have f4 := bx_form h4
 replace h2 := h2.bel hx3
 replace h3 := h3.bel hx3
 have hx := (hx1.trans hx2).trans hx3
 clear h40 hx1 hx2 hx3
 have no : ∀ (w5 w9 : World), Ext w w5 → Box w.heap.size 55 3 w5 q4 zOc → Wr (some q4) w5 w9 → ¬ (wellP nv sv tyl ∧ validReq cl us xs ys) → R (.agg ⟨[.int .i64 4, .int .i64 0, .slice none 0 0]⟩) w9 := fun w5 w9 hx5 hb hw hno => by
  rw [hR]; exact ⟨hx5.then (hw.bel hb hx5.size), 4, 0, none, 0, 0, [], rfl, Own.nil, by simp, by simp, .inl ⟨hno, rfl⟩⟩
 conv => cbv
 refine st_loadS hE tITyp rfl h2.at ?_
 conv => cbv
 refine st_f hr (specWellTyped_f (c := c) (c2 := c2) (h.ext hx) hn hn2) fun r w4 hx4 ⟨b, ev, hb1⟩ => ?_
 subst ev
 replace h2 := h2.bel hx4
 replace h3 := h3.bel hx4
 replace h4 := h4.bel hx4
 replace hx := hx.trans hx4
 cases b with
 | false =>
  conv => cbv
  refine st_bO1 hE ?_
  conv => cbv
  refine st_putS hr (by kernel_rfl) h4 (add_zero _).symm (by simp [zOc]) (by simp [Value.oneCell']) fun w9 hw9 h49 => ?_
  simp only [zOc, a1_, a2_, a3_, a4_, a5_, a6_, a7_] at h49
  conv => cbv
  refine st_cell hr tOc rfl h49.at ?_
  conv => cbv
  exact no w4 w9 hx h4 hw9 fun q => by simpa using hb1.2 q.1
 | true =>
 have hwell := hb1.1 rfl
 conv => cbv
 refine st_loadS hE tIReq rfl h3.at ?_
 conv => cbv
 refine st_f hr (sValidRequest_f hc hu (hs.ext hx) (hs2.ext hx)) fun r w5 hx5 ⟨b2, ev, hbr⟩ => ?_
 subst ev
 replace h2 := h2.bel hx5
 replace h3 := h3.bel hx5
 replace h4 := h4.bel hx5
 replace hx := hx.trans hx5
 cases b2 with
 | false =>
  conv => cbv
  refine st_bO1 hE ?_
  conv => cbv
  refine st_putS hr (by kernel_rfl) h4 (add_zero _).symm (by simp [zOc]) (by simp [Value.oneCell']) fun w9 hw9 h49 => ?_
  simp only [zOc, a1_, a2_, a3_, a4_, a5_, a6_, a7_] at h49
  conv => cbv
  refine st_cell hr tOc rfl h49.at ?_
  conv => cbv
  exact no w5 w9 hx h4 hw9 fun q => by simpa using hbr.2 q.2
 | true =>
 have hreq := hbr.1 rfl
 obtain ⟨acc, xk, htyp⟩ := typed_ex2 hwell
 have hdk := typed_dec hf hwell htyp
 obtain ⟨pts, q1, q2, q3, _, _⟩ := runS_full leafT_6 leafT_7 sv htyp.2.1
 rw [a2_] at q1
 subst q1
 have hn26 : n2 ≤ 600 := by
  have h1 := h.pol.stmts.len
  have h2 := hwell.1.2.2.1
  omega
 have s5 := hx.size
 conv => cbv
 refine st_loadS hE tITyp rfl h2.at ?_
 conv => cbv
 refine st_loadS hE tIReq rfl h3.at ?_
 conv => cbv
 refine st_g hr (l3decide_all (wt := w5) (c := c) (c2 := c2) (h.ext hx) hn hn26 q2 q3 (hs.ext hx) (hs2.ext hx) (req_val hreq fl fn) n2 0 (by omega) w5 none 0 0 [] [] [] (Ext.refl _) Own.nil rfl (by omega) (by simp) (by simpa using hdk) ⟨rfl, by simp⟩) fun r w6 ⟨hres, hw6⟩ => ?_
 have hx6 : Ext w5 w6 := ⟨hw6.os, hw6.tape, hw6.output, hw6.size, fun i hi => hw6.block i hi (by intro e; cases e)⟩
 have h46 := h4.bel hx6
 obtain ⟨N, nm, nc, er, ho, ho1, ho2⟩ := hres
 subst er
 have hDP : DecP nv sv tyl cl us lv nw xs ys (ocOf (decR (rqL cl us lv nw xs ys) (sv.zip acc) [])) := .inr ⟨⟨hwell, hreq⟩, acc, xk, htyp, rfl⟩
 rw [List.drop_zero, b3_] at ho ho1 ho2 ⊢
 obtain ⟨⟨k, cd, zs⟩, hO⟩ : ∃ O, O = ocOf (decR (rqL cl us lv nw xs ys) (sv.zip acc) []) := ⟨_, rfl⟩
 rw [← hO] at ho ho1 ho2 hDP ⊢
 simp only at ho ho1 ho2
 have s6 := hx6.size
 have f45 := (bx_form h4).2.1
 conv => cbv
 refine st_putS hr (by kernel_rfl) h46 (add_zero _).symm (by simp [zOc]) (by simp [Value.oneCell']) fun w9 hw9 h49 => ?_
 simp only [zOc, a1_, a2_, a3_, a4_, a5_, a6_, a7_] at h49
 conv => cbv
 refine st_cell hr tOc rfl h49.at ?_
 conv => cbv
 rw [hR]
 exact ⟨(hx.trans hx6).then (hw9.bel h46 (hx.trans hx6).size), k, cd, N, nm, nc, zs, rfl, (ho.wr hw9 (own_low ho f45 f4.2.2).1).mono (by omega), ho1, ho2, hDP⟩
theorem eqOutcome_f {w : World} {k cd : Int} {A A' : Option Addr} {n c n' c' : Nat} {xs : List ByteArray} (h : Strs w A n c xs) (h' : Strs w A' n' c' xs) :
  FC Tryz.prog 34 [.agg ⟨[.int .i64 k, .int .i64 cd, .slice A n c]⟩, .agg ⟨[.int .i64 k, .int .i64 cd, .slice A' n' c']⟩] w fun v _ => v = .bool true := by
 refine FC.intro (cs := []) Tryz.func34 (by kernel_rfl) fun E R hE hr hR => ?_
 conv => cbv
 refine st_box hr fun q2 w1 hx1 h20 => ?_
 have h2 := h20 _ (n1_ _)
 conv => cbv
 refine st_box hr fun q3 w2 hx2 h30 => ?_
 have h3 := h30 _ (n1_ _)
 replace h2 := h2.bel hx2
 have hx := hx1.trans hx2
 conv => cbv
 (refine st_fld hE fOc0' fun p hp => ?_; (conv => cbv); refine st_load hE cInt (by rw [hp]; exact (h2).at _ _ rfl) ?_; (conv => cbv))
 (refine st_fld hE fOc0' fun p hp => ?_; (conv => cbv); refine st_load hE cInt (by rw [hp]; exact (h3).at _ _ rfl) ?_; (conv => cbv))
 refine br (fun g => absurd g (by simp [hE.cmp, cmpR])) (fun _ => ?_)
 conv => cbv
 (refine st_fld hE fOc1' fun p hp => ?_; (conv => cbv); refine st_load hE cInt (by rw [hp]; exact (h2).at _ _ rfl) ?_; (conv => cbv))
 (refine st_fld hE fOc1' fun p hp => ?_; (conv => cbv); refine st_load hE cInt (by rw [hp]; exact (h3).at _ _ rfl) ?_; (conv => cbv))
 refine br (fun g => absurd g (by simp [hE.cmp, cmpR])) (fun _ => ?_)
 conv => cbv
 (refine st_fld hE fOc2 fun p hp => ?_; (conv => cbv); refine st_load hE cStrs (by rw [hp]; exact (h2).at _ _ rfl) ?_; (conv => cbv))
 (refine st_fld hE fOc2 fun p hp => ?_; (conv => cbv); refine st_load hE cStrs (by rw [hp]; exact (h3).at _ _ rfl) ?_; (conv => cbv))
 refine st_qb hE (eqStringS_q (h.ext hx) (h'.ext hx)) fun b hb w4 hs4 => ?_
 have hb : b = true := hb.2 rfl
 subst hb
 conv => cbv
 rw [hR]; exact ⟨hx.trans hs4.ext, rfl⟩
theorem markOutcome_g {w : World} {B : Nat} {k cd : Int} {A : Option Addr} {n c : Nat} {xs : List ByteArray} (h : Own B 9 1 w A n c (xs.map .string)) (j : Int) (hk : 0 ≤ j) (hkn : j + n < 9223372036854775807) :
  GC Tryz.prog 35 [.agg ⟨[.int .i64 k, .int .i64 cd, .slice A n c]⟩, .int .i64 j] w fun v w' => v = .int .i64 (j + n) ∧ Own B 9 1 w' A n c ((marks j n).map .string) ∧ Wr A w w' := by
 refine GC.intro (cs := []) Tryz.func35 (by kernel_rfl) fun E R hE hr hR => ?_
 conv => cbv
 refine st_box hr fun q2 w1 hx1 h20 => ?_
 have h2 := h20 _ (n1_ _)
 conv => cbv
 (refine st_fld hE fOc2 fun p hp => ?_; (conv => cbv); refine st_load hE cStrs (by rw [hp]; exact (h2).at _ _ rfl) ?_; (conv => cbv))
 refine st_g hr (markStringS_g (h.bel hx1) j hk hkn) fun r w2 ⟨ev, ho, hw⟩ => ?_
 subst ev
 conv => cbv
 rw [hR]; exact ⟨rfl, ho, (hx1.wr A).trans hw⟩
theorem heldOutcome_f {w : World} {k cd : Int} {A : Option Addr} {n c : Nat} {j : Int} (h : Strs w A n c (marks j n)) (hk : 0 ≤ j) (hkn : j + n < 9223372036854775807) :
  FC Tryz.prog 36 [.agg ⟨[.int .i64 k, .int .i64 cd, .slice A n c]⟩, .int .i64 j] w fun v _ => v = .int .i64 (j + n) := by
 refine FC.intro (cs := []) Tryz.func36 (by kernel_rfl) fun E R hE hr hR => ?_
 conv => cbv
 refine st_box hr fun q2 w1 hx1 h20 => ?_
 have h2 := h20 _ (n1_ _)
 conv => cbv
 (refine st_fld hE fOc2 fun p hp => ?_; (conv => cbv); refine st_load hE cStrs (by rw [hp]; exact (h2).at _ _ rfl) ?_; (conv => cbv))
 refine st_v hr (heldStringS_v (h.ext hx1) hk hkn) fun w2 hx2 => ?_
 obtain ⟨jn, hjn⟩ : ∃ z, z = j + (n : Int) := ⟨_, rfl⟩
 simp only [← hjn]
 conv => cbv
 refine br (fun g => absurd g (by simp [hE.cmp, cmpR]; omega)) (fun _ => ?_)
 conv => cbv
 rw [hR]; exact ⟨hx1.trans hx2, by rw [hjn]; rfl⟩
section
variable {w : World} {cl us : ByteArray} {lv nw : Int} {A A' : Option Addr} {n c n' c' : Nat} {xs ys : List ByteArray}
theorem szRequest2_f {z0 : Int} (hz0 : 0 ≤ z0) (hz1 : z0 ≤ 1048576) (hc : cl.size ≤ 9223372036854775807) (hu : us.size ≤ 9223372036854775807) (h : Strs w A n c xs) (h' : Strs w A' n' c' ys) :
  FC Tryz.prog 18 [.agg ⟨[.string cl, .string us, .int .i64 lv, .int .i64 nw, .slice A n c, .slice A' n' c']⟩, .int .i64 z0] w fun v _ => ∃ z : Int, v = .int .i64 z ∧ (0 ≤ z → n ≤ 1048576 ∧ n' ≤ 1048576) := by
 refine FC.intro (cs := []) Tryz.func18 (by kernel_rfl) fun E R hE hr hR => ?_
 conv => cbv
 refine st_box hr fun a w1 hx hb0 => ?_
 have hb := hb0 _ (n1_ _)
 conv => cbv
 (refine st_fld hE fL0 fun p hp => ?_; (conv => cbv); refine st_load hE cStr (by rw [hp]; exact (hb).at _ _ rfl) ?_; (conv => cbv))
 refine st_slen hE uStr fun x1 hx1 => ?_
 conv => cbv
 obtain ⟨y1, hy1⟩ : ∃ y, y = z0 - x1 := ⟨_, rfl⟩
 have e1 : E.ar .sub .i64 z0 x1 = y1 := by rw [hE.ar, hy1]; exact wrap_in (by omega) (by omega)
 simp only [e1]
 refine br (fun _ => ?_) (fun g1 => ?_)
 ·conv => cbv
  rw [hR]; exact ⟨hx, -1, rfl, fun h => by omega⟩
 have g1 : 0 ≤ y1 := by simpa [hE.cmp, cmpR] using g1
 conv => cbv
 (refine st_fld hE fL1 fun p hp => ?_; (conv => cbv); refine st_load hE cStr (by rw [hp]; exact (hb).at _ _ rfl) ?_; (conv => cbv))
 refine st_slen hE uStr fun x2 hx2 => ?_
 conv => cbv
 obtain ⟨y2, hy2⟩ : ∃ y, y = y1 - x2 := ⟨_, rfl⟩
 have e1 : E.ar .sub .i64 y1 x2 = y2 := by rw [hE.ar, hy2]; exact wrap_in (by omega) (by omega)
 simp only [e1]
 refine br (fun _ => ?_) (fun g2 => ?_)
 ·conv => cbv
  rw [hR]; exact ⟨hx, -1, rfl, fun h => by omega⟩
 have g2 : 0 ≤ y2 := by simpa [hE.cmp, cmpR] using g2
 conv => cbv
 (refine st_fld hE fL4 fun p hp => ?_; (conv => cbv); refine st_load hE cStrs (by rw [hp]; exact (hb).at _ _ rfl) ?_; (conv => cbv))
 refine st_qi hE (szStringS_q (h.ext hx) y2 g2 (by omega)) fun l hl w2 hs2 => ?_
 have hx := hx.trans hs2.ext
 have hb := hb.bel hs2.ext
 conv => cbv
 refine br (fun _ => ?_) (fun g => ?_)
 ·conv => cbv
  rw [hR]; exact ⟨hx, -1, rfl, fun h => by omega⟩
 have g : 0 ≤ l := by simpa [hE.cmp, cmpR] using g
 have hn := room_bulk h.len (by omega : 0 ≤ room y2 (bulk xs))
 rw [← hl] at hn
 conv => cbv
 (refine st_fld hE fL5 fun p hp => ?_; (conv => cbv); refine st_load hE cStrs (by rw [hp]; exact (hb).at _ _ rfl) ?_; (conv => cbv))
 refine st_qi hE (szStringS_q (h'.ext hx) l g (by omega)) fun l' hl' w3 hs3 => ?_
 have hx := hx.trans hs3.ext
 conv => cbv
 refine br (fun _ => ?_) (fun g' => ?_)
 ·conv => cbv
  rw [hR]; exact ⟨hx, -1, rfl, fun h => by omega⟩
 have g' : 0 ≤ l' := by simpa [hE.cmp, cmpR] using g'
 have hn' := room_bulk h'.len (by omega : 0 ≤ room l (bulk ys))
 rw [← hl'] at hn'
 conv => cbv
 rw [hR]; exact ⟨hx, l', rfl, fun _ => by omega⟩
theorem toRequestO_f (h : Strs w A n c xs) (h' : Strs w A' n' c' ys) (hn : n ≤ 1048576) (hn' : n' ≤ 1048576) :
  FC Tryz.prog 21 [.agg ⟨[.string cl, .string us, .int .i64 lv, .int .i64 nw, .slice A n c, .slice A' n' c']⟩] w fun v w' => ∃ A1 n1 c1 A2 n2 c2, v = .agg ⟨[.string cl, .string us, .int .i64 lv, .int .i64 nw, .slice A1 n1 c1, .slice A2 n2 c2]⟩ ∧ Strs w' A1 n1 c1 xs ∧ Strs w' A2 n2 c2 ys ∧ Own w.heap.size 9 1 w' A1 n1 c1 (xs.map .string) ∧ Own w.heap.size 9 1 w' A2 n2 c2 (ys.map .string) ∧ Apart A1 A2 ∧ Apart A2 A1 := by
 refine FC.intro (cs := []) Tryz.func21 (by kernel_rfl) fun E R hE hr hR => ?_
 conv => cbv
 refine st_box hr fun a w1 hx hb0 => ?_
 have hb := hb0 _ (n1_ _)
 conv => cbv
 refine st_alloc hr tIReq rfl fun o w2 hx2 ho0 => ?_
 have ho := ho0 _ hx.size
 have hb := hb.bel hx2
 have hx := hx.trans hx2
 conv => cbv
 refine st_alloc hr tIReq rfl fun q w3 hx3 hq0 => ?_
 have hq := hq0 _ hx.size
 have aq := (hb.apart (hq0 _ (n1_ _)) (n1_ _)).1
 have oq := (ho.apart (hq0 _ (n1_ _)) (n1_ _)).1
 have hb := hb.bel hx3
 have ho := ho.bel hx3
 have hx := hx.trans hx3
 clear hb0 ho0 hq0
 conv => cbv
 (refine st_fld hE fL0 fun p hp => ?_; (conv => cbv); refine st_load hE cStr (by rw [hp]; exact (hb).at _ _ rfl) ?_; (conv => cbv))
 (refine st_fld hE fI0 fun p hp => ?_; (conv => cbv); refine st_put hr zStr hq hp (by simp) rfl fun wn hw hq2 => ?_; replace hx := hx.then (hw.bel hq hx.size); (try clear hq); (have hq := hq2); clear hq2; (simp only [b4_, b5_] at hq); clear hp)
 replace hb := hb.wr hw aq
 replace ho := ho.wr hw oq
 conv => cbv
 (refine st_fld hE fL1 fun p hp => ?_; (conv => cbv); refine st_load hE cStr (by rw [hp]; exact (hb).at _ _ rfl) ?_; (conv => cbv))
 (refine st_fld hE fI1 fun p hp => ?_; (conv => cbv); refine st_put hr zStr hq hp (by simp) rfl fun wn hw hq2 => ?_; replace hx := hx.then (hw.bel hq hx.size); (try clear hq); (have hq := hq2); clear hq2; (simp only [b4_, b5_] at hq); clear hp)
 replace hb := hb.wr hw aq
 replace ho := ho.wr hw oq
 conv => cbv
 (refine st_fld hE fL2 fun p hp => ?_; (conv => cbv); refine st_load hE cI64 (by rw [hp]; exact (hb).at _ _ rfl) ?_; (conv => cbv))
 (refine st_fld hE fI2 fun p hp => ?_; (conv => cbv); refine st_put hr zI64 hq hp (by simp) rfl fun wn hw hq2 => ?_; replace hx := hx.then (hw.bel hq hx.size); (try clear hq); (have hq := hq2); clear hq2; (simp only [b4_, b5_] at hq); clear hp)
 replace hb := hb.wr hw aq
 replace ho := ho.wr hw oq
 conv => cbv
 (refine st_fld hE fL3 fun p hp => ?_; (conv => cbv); refine st_load hE cI64 (by rw [hp]; exact (hb).at _ _ rfl) ?_; (conv => cbv))
 (refine st_fld hE fI3 fun p hp => ?_; (conv => cbv); refine st_put hr zI64 hq hp (by simp) rfl fun wn hw hq2 => ?_; replace hx := hx.then (hw.bel hq hx.size); (try clear hq); (have hq := hq2); clear hq2; (simp only [b4_, b5_] at hq); clear hp)
 replace hb := hb.wr hw aq
 replace ho := ho.wr hw oq
 conv => cbv
 (refine st_fld hE fL4 fun p hp => ?_; (conv => cbv); refine st_load hE cStrs (by rw [hp]; exact (hb).at _ _ rfl) ?_; (conv => cbv))
 refine st_f hr (toStringS_f (h.ext hx) hn) fun v w4 hx4 ⟨A4, n4, c4, ev, h4, o4⟩ => ?_
 subst ev
 have ax := (hq.apart o4 (n1_ _)).2
 have bx := (ho.apart o4 (n1_ _)).2
 replace o4 := o4.mono hx.size
 replace hb := hb.bel hx4
 replace ho := ho.bel hx4
 replace hq := hq.bel hx4
 replace hx := hx.trans hx4
 conv => cbv
 (refine st_fld hE fI4 fun p hp => ?_; (conv => cbv); refine st_put hr zStrs hq hp (by simp) rfl fun wn hw hq2 => ?_; replace hx := hx.then (hw.bel hq hx.size); (try clear hq); (have hq := hq2); clear hq2; (simp only [b4_, b5_] at hq); clear hp)
 replace hb := hb.wr hw aq
 replace ho := ho.wr hw oq
 replace o4 := o4.wr hw ax
 conv => cbv
 (refine st_fld hE fL5 fun p hp => ?_; (conv => cbv); refine st_load hE cStrs (by rw [hp]; exact (hb).at _ _ rfl) ?_; (conv => cbv))
 refine st_f hr (toStringS_f (h'.ext hx) hn') fun v w5 hx5 ⟨A5, n5, c5, ev, h5, o5⟩ => ?_
 subst ev
 have ay := (hq.apart o5 (n1_ _)).2
 have x45 := o4.apart o5 (n1_ _)
 have bY := (ho.apart o5 (n1_ _)).2
 replace o5 := o5.mono hx.size
 replace hb := hb.bel hx5
 replace ho := ho.bel hx5
 replace hq := hq.bel hx5
 replace o4 := o4.bel hx5
 replace hx := hx.trans hx5
 conv => cbv
 (refine st_fld hE fI5 fun p hp => ?_; (conv => cbv); refine st_put hr zStrs hq hp (by simp) rfl fun wn hw hq2 => ?_; replace hx := hx.then (hw.bel hq hx.size); (try clear hq); (have hq := hq2); clear hq2; (simp only [b4_, b5_] at hq); clear hp)
 replace o4 := o4.wr hw ax
 replace o5 := o5.wr hw ay
 replace ho := ho.wr hw oq
 conv => cbv
 refine st_loadS hE tIReq rfl hq.at ?_
 conv => cbv
 refine st_putS hr (by kernel_rfl) ho (add_zero _).symm (by simp) (by simp [Value.oneCell']) fun w7 hw ho2 => ?_
 replace hx := hx.then (hw.bel ho hx.size)
 simp only [a1_, a2_, a3_, a4_, a5_, a6_, a7_] at ho2
 conv => cbv
 refine st_cell hr tIReq rfl ho2.at ?_
 rw [hR]; exact ⟨hx, A4, n4, c4, A5, n5, c5, rfl, (o4.wr hw bx).strs h.small, (o5.wr hw bY).strs h'.small, o4.wr hw bx, o5.wr hw bY, x45.1, x45.2⟩
end
theorem markRequest_g {w : World} {B : Nat} {cl us : ByteArray} {lv nw : Int} {A A' : Option Addr} {n c n' c' : Nat} {xs ys : List ByteArray} (h : Own B 9 1 w A n c (xs.map .string)) (h' : Own B 9 1 w A' n' c' (ys.map .string)) (ha : Apart A A' ∧ Apart A' A) (j : Int) (hk : 0 ≤ j) (hkn : j + n + n' < 9223372036854775807) :
  GC Tryz.prog 27 [.agg ⟨[.string cl, .string us, .int .i64 lv, .int .i64 nw, .slice A n c, .slice A' n' c']⟩, .int .i64 j] w fun v w' => v = .int .i64 (j + n + n') ∧ ∃ w1 : World, Wr A w w1 ∧ Wr A' w1 w' := by
 refine GC.intro (cs := []) Tryz.func27 (by kernel_rfl) fun E R hE hr hR => ?_
 conv => cbv
 refine st_box hr fun q2 w1 hx1 h20 => ?_
 have h2 := h20 _ (n1_ _)
 have f2 := bx_form h2
 conv => cbv
 (refine st_fld hE fI4 fun p hp => ?_; (conv => cbv); refine st_load hE cStrs (by rw [hp]; exact (h2).at _ _ rfl) ?_; (conv => cbv))
 refine st_g hr (markStringS_g (h.bel hx1) j hk (by omega)) fun r w2 ⟨ev, ho, hw⟩ => ?_
 subst ev
 have b1 := own_blk h
 obtain ⟨jn, hjn⟩ : ∃ z, z = j + (n : Int) := ⟨_, rfl⟩
 simp only [← hjn]
 have h22 := h2.wr hw (.inr (by rw [f2.2.2]; intro e; have := (b1 _ e.symm).2; have := f2.1; omega))
 conv => cbv
 (refine st_fld hE fI5 fun p hp => ?_; (conv => cbv); refine st_load hE cStrs (by rw [hp]; exact (h22).at _ _ rfl) ?_; (conv => cbv))
 refine st_g hr (markStringS_g ((h'.bel hx1).wr hw ha.2) jn (by omega) (by omega)) fun r w3 ⟨ev, ho3, hw3⟩ => ?_
 subst ev
 obtain ⟨jm, hjm⟩ : ∃ z, z = jn + (n' : Int) := ⟨_, rfl⟩
 simp only [← hjm]
 conv => cbv
 rw [hR]; exact ⟨by rw [hjm, hjn]; rfl, w2, (hx1.wr A).trans hw, hw3⟩
end Go.Proofs.YtgnjkdkedjljjaaGreatDoor
namespace Go.Eng
set_option linter.unusedVariables false
set_option linter.unusedSimpArgs false
def one2 (E : Sym) (S : World → Prop) (all : List Oper) (x : Nat) (F : Fr) (w : World) (K : Fr → World → Prop) : Prop := match all[x]? with
 | none => False
 | some o => eOps E all [o] F w fun F w => S w ∧ K F w
def ePhC (E : Sym) (S : World → Prop) (all : List Oper) (y : Nat) (l : List (Nat × Bool)) : List Nat → Fr → World → (Fr → World → Prop) → Prop
 | [], F, w, K => one2 E S all y F w fun F w => ePh2 E S all l F w K
 | x :: xs, F, w, K => (one2 E S all x F w fun F w => ePhC E S all y l xs F w K) ∧ (one2 E S all y F w fun F w => ePh2 E S all ((x :: xs).map (·, false) ++ l) F w K)
def planC2 (ops : Array Oper) (y : Nat) (l : List (Nat × Bool)) : List Nat → Array Bool → Bool
 | [], listed => Region.ready .any ops listed == [y] && planB2 ops l (listed.setIfInBounds y true)
 | x :: xs, listed => (Region.ready .any ops listed == [x, y] || Region.ready .any ops listed == [y, x]) && planC2 ops y l xs (listed.setIfInBounds x true) && planB2 ops ((x :: xs).map (·, false) ++ l) (listed.setIfInBounds y true)
def planC1 (ops : Array Oper) (y : Nat) (l2 : List (Nat × Bool)) (xs : List Nat) : List Nat → Array Bool → Bool
 | [], listed => planC2 ops y l2 xs listed
 | k :: l, listed => Region.free .any ops listed k && (Region.ready .any ops listed).contains k && planC1 ops y l2 xs l (listed.setIfInBounds k true)
def planC (ops : Array Oper) (l1 : List Nat) (xs : List Nat) (y : Nat) (l2 : List (Nat × Bool)) : Bool :=
 Region.noSelect ops && Nat.beq (l1.length + (xs.length + 1 + l2.length)) ops.size && planC1 ops y l2 xs l1 (Array.replicate ops.size false)
section
variable {P : Program} {Pn : List PanicEntry → World → Prop} {n : Nat}
theorem one2_op {S : World → Prop} {all : List Oper} {x : Nat} (hd : ∀ o ∈ all, ∀ t, o.dst = some t → t < n) {K : Exit → Fr → World → Prop} {F : Fr} {a : Act} {w : World} (hk : Kn n F a) {K1 : Fr → World → Prop} (h : one2 (real P Pn n) S all x F w K1) {K' : Act → World → Prop} (hKK : ∀ F' a' w', Kn n F' a' → S w' → K1 F' w' → K' a' w') : wpOp P all.toArray (QK Pn n K) x (fun a' w' => S w' ∧ K' a' w') a w := by
 unfold one2 at h
 split at h
 ·exact h.elim
 ·rename_i o ho
  exact step_op (Pn := Pn) ho (hd o (m1_ ho)) hk (fun c w h => ⟨hk.defers, h⟩) (fun F' a' w' hk' ⟨h1, h2⟩ => ⟨h1, hKK F' a' w' hk' h1 h2⟩) h
theorem ePhC_sound {S : World → Prop} {all : List Oper} (hs : Region.noSelect all.toArray = true) (hd : ∀ o ∈ all, ∀ t, o.dst = some t → t < n) {K : Exit → Fr → World → Prop} {y : Nat} {l : List (Nat × Bool)} : ∀ (xs : List Nat) (listed : Array Bool) (F : Fr) (a : Act) (w : World), S w → Kn n F a → planC2 all.toArray y l xs listed = true → ePhC (real P Pn n) S all y l xs F w (K .normal) → wpAnyH P .any all.toArray (QK Pn n K) S (xs.length + 1 + l.length) listed a w
 | [], listed, F, a, w, hS, hk, hB, h => by
  simp only [planC2, Bool.and_eq_true, beq_iff_eq] at hB
  obtain ⟨r0, b1⟩ := hB
  simp only [ePhC] at h
  rw [show ([] : List Nat).length + 1 + l.length = l.length + 1 by simp; omega]
  refine wpAnyH_all r0 (by simp) fun i hi => ?_
  obtain rfl : i = y := by simpa using hi
  exact one2_op hd hk h fun F' a' w' hk' h1 h2 => ePh2_sound hs hd l _ F' a' w' h1 hk' b1 h2
 | x :: xs, listed, F, a, w, hS, hk, hB, h => by
  simp only [planC2, Bool.and_eq_true, Bool.or_eq_true, beq_iff_eq] at hB
  obtain ⟨⟨r0, b1⟩, b2⟩ := hB
  simp only [ePhC] at h
  have hx : wpOp P all.toArray (QK Pn n K) x (fun a' w' => S w' ∧ wpAnyH P .any all.toArray (QK Pn n K) S (xs.length + 1 + l.length) (listed.setIfInBounds x true) a' w') a w :=
   one2_op hd hk h.1 fun F' a' w' hk' h1 h2 => ePhC_sound hs hd xs _ F' a' w' h1 hk' b1 h2
  have hy : wpOp P all.toArray (QK Pn n K) y (fun a' w' => S w' ∧ wpAnyH P .any all.toArray (QK Pn n K) S (xs.length + 1 + l.length) (listed.setIfInBounds y true) a' w') a w :=
   one2_op hd hk h.2 fun F' a' w' hk' h1 h2 => by
    have := ePh2_sound (Pn := Pn) (K := K) hs hd _ _ F' a' w' h1 hk' b2 h2
    rw [List.length_append, List.length_map, a3_] at this
    exact this
  rw [show (x :: xs).length + 1 + l.length = (xs.length + 1 + l.length) + 1 by simp only [a3_]; omega]
  rcases r0 with r0 | r0
  ·refine wpAnyH_all r0 (by simp) fun i hi => ?_
   simp only [List.mem_cons, List.not_mem_nil, or_false] at hi
   rcases hi with rfl | rfl
   ·exact hx
   ·exact hy
  ·refine wpAnyH_all r0 (by simp) fun i hi => ?_
   simp only [List.mem_cons, List.not_mem_nil, or_false] at hi
   rcases hi with rfl | rfl
   ·exact hy
   ·exact hx
theorem ePh1_soundC {S : World → Prop} {w : World} {all : List Oper} (hs : Region.noSelect all.toArray = true) (hd : ∀ o ∈ all, ∀ t, o.dst = some t → t < n) {K : Exit → Fr → World → Prop} {w0 : World} (hS : S w0) (xs : List Nat) (y : Nat) (l2 : List (Nat × Bool)) (K1 : Fr → World → Prop) : ∀ (l : List Nat) (listed : Array Bool) (F : Fr) (a : Act), Kn n F a → planC1 all.toArray y l2 xs l listed = true → ePh1 (wreal S P) all l F w K1 →
  (∀ F a listed, Kn n F a → planC2 all.toArray y l2 xs listed = true → K1 F w → wpAnyH P .any all.toArray (QK Pn n K) S (xs.length + 1 + l2.length) listed a w0) → wpAnyH P .any all.toArray (QK Pn n K) S (l.length + (xs.length + 1 + l2.length)) listed a w0
 | [], listed, F, a, hk, hB, h, h2 => by
  rw [a4_, Nat.zero_add]
  exact h2 F a listed hk hB h
 | k :: l, listed, F, a, hk, hB, h, h2 => by
  simp only [planC1, Bool.and_eq_true] at hB
  obtain ⟨⟨hf, hr⟩, hB⟩ := hB
  simp only [ePh1] at h
  split at h
  ·exact h.elim
  ·rename_i o ho
   obtain ⟨v, F', hy, hk', h⟩ := step_yields (P := P) (n := n) (S := S) (E' := wreal S P) (fun _ _ => rfl) (fun _ _ _ ⟨v, h1, h2⟩ => ⟨v, fun w1 hw1 => h1 w1 hw1, h2⟩) (hd o (m1_ ho)) hk h
   have := wpAnyH_take (by simpa using ho) hs hf hr panic_put hy hS (ePh1_soundC hs hd hS xs y l2 K1 l _ F' _ hk' hB h h2)
   rw [show (k :: l).length + (xs.length + 1 + l2.length) = l.length + (xs.length + 1 + l2.length) + 1 by simp only [a3_]; omega]
   exact this
theorem draw_y0 (S : World → Prop) (l1 xs : List Nat) (y : Nat) (l2 : List (Nat × Bool)) {E : Sym} (hE : E = real P Pn n) {id : Nat} {ops : Array Oper} {F : Fr} {w : World} {K : Exit → Fr → World → Prop} (hm : P.follows .mixedOrders = true) (hB : planC ops l1 xs y l2 = true) (hS : ∀ w0, Same w w0 → S w0)
  (h : ∀ E', EngW S P E' → ∀ w0, Same w w0 → ePh1 E' ops.toList l1 F w0 (fun F' w' => ePhC E S ops.toList y l2 xs F' w' (K .normal))) : E.draw id ops F w K := by
 subst hE
 intro hd a hk
 simp only [planC, Bool.and_eq_true, Nat.beq_eq] at hB
 obtain ⟨⟨hs, hl⟩, hB⟩ := hB
 have hs' : Region.noSelect ops.toList.toArray = true := by simpa using hs
 have h0 : S { w with drawn := w.drawn + 1 } := hS _ (Same.drew w)
 refine wp_region_held (S := S) hm ?_
 have := ePh1_soundC (Pn := Pn) (K := K) (n := n) (S := S) (w := { w with drawn := w.drawn + 1 }) hs' (okDst_ops hd) h0 xs y l2 _ l1 (Array.replicate ops.size false) F a hk (by simpa using hB) (h (wreal S P) ⟨fun {_ _ _ v _} h hk => ⟨v, h, hk⟩⟩ _ (Same.drew w))
  (fun F a listed hk hB h => ePhC_sound hs' (okDst_ops hd) xs listed F a _ h0 hk hB h)
 rw [hl] at this
 simpa using this
theorem draw_y (S : World → Prop) (l1 xs : List Nat) (y : Nat) (l2 : List (Nat × Bool)) {E : Sym} (hE : E = real P Pn n) {id : Nat} {ops : Array Oper} {F : Fr} {w : World} {K : Exit → Fr → World → Prop} {St : Type} (I : St → World → Prop) (G : St → Fr) (hm : P.follows .mixedOrders = true) (hB : planC ops l1 xs y l2 = true) (hS : ∀ w0, Same w w0 → S w0)
  (h : ∀ I' : St → World → Prop, (∀ s w, I s w → I' s w) → ∀ E', EngW S P E' → ∀ w0, Same w w0 → ePh1 E' ops.toList l1 F w0 (fun F' w' => ePhC E S ops.toList y l2 xs F' w' (fun F'' w'' => ∃ s, Fits (G s) F'' ∧ I' s w'')))
  (hk : ∀ s w', I s w' → K .normal (G s) w') : E.draw id ops F w K := by
 have h1 : E.draw id ops F w (fun e F' w' => match e with
   | .normal => ∃ s, Fits (G s) F' ∧ I s w'
   | e => K e F' w') := draw_y0 S l1 xs y l2 hE hm hB hS (h I fun _ _ h => h)
 subst hE
 intro hd a hka
 refine Code.wp_mono (fun e a' w' hq => ?_) (h1 hd a hka)
 cases e with
 | normal => obtain ⟨F', hk', s, hf, hi⟩ := hq; exact ⟨G s, hk'.sub hf, hk s w' hi⟩
 | panic c => exact hq
 | outgrown => exact hq.elim
 | exit id => exact hq
 | goto l => exact hq
 | ret => exact hq
end
end Go.Eng
namespace Go.Proofs.YtgnjkdkedjljjaaGreatDoor
open Go.Eng
set_option linter.unusedVariables false
set_option linter.unusedSimpArgs false
theorem ctL_bd2 {α : Type} {ct : α → Nat} {C : Nat} : ∀ (l : List α), (∀ v ∈ l, ct v ≤ C) → ctL ct l ≤ l.length * C
 | [], _ => by simp [ctL]
 | v :: l, h => by
  have h1 := h v (List.mem_cons_self ..)
  have h2 := ctL_bd2 l fun u hu => h u (List.mem_cons_of_mem _ hu)
  rw [ctL, a3_, Nat.add_mul]
  omega
theorem OT.otK_bd2 {B : Nat} {w : World} {A A2 A3 : Option Addr} {n c n2 c2 n3 c3 : Nat} {vs : List VN} {sv : List PS} {tyl : List Int} (h : OT B w A n c A2 n2 c2 A3 n3 c3 vs sv tyl) (hw : wtNs (vs.map (·.p)) + wtSs sv ≤ 1048576) (hw3 : tyl.length ≤ 1048576) : otK vs sv n3 ≤ 1000000000000000 := by
 obtain ⟨b1, b2, b3⟩ := wt_b (nv := vs.map (·.p)) (by omega)
 have b4 := wtSs_len sv
 have hl : vs.length ≤ 1048576 := by rw [List.length_map] at b1; exact b1
 have c1 := ctL_bd2 (ct := ctNode) (C := 3000000) vs fun v hv => by
  have hm := (h.nd.sub v hv ⟨v.A0, v.m0, v.c0, 9, v.p.xs.map .string⟩ (by simp [sbNode])).len
  have hm1 := (h.nd.sub v hv ⟨v.A1, v.m1, v.c1, 3, v.p.ks.map (.int .i64)⟩ (by simp [sbNode])).len
  simp only [List.length_map] at hm hm1
  have := b2 v.p (List.mem_map.2 ⟨v, hv, rfl⟩)
  have := b3 v.p (List.mem_map.2 ⟨v, hv, rfl⟩)
  unfold ctNode; omega
 have c2 := ctL_bd2 (ct := ctStmt) (C := 4) sv fun v hv => by unfold ctStmt; omega
 have c3 := h.ty.len
 rw [List.length_map] at c3
 have : vs.length * 3000000 ≤ 1048576 * 3000000 := Nat.mul_le_mul_right _ hl
 unfold otK; omega
theorem dj_bd2 {lo hi : Nat} {r X : Option Addr} (h1 : ∀ g, blk r = some g → lo ≤ g ∧ g < hi) (h2 : ∀ g, blk X = some g → g < lo ∨ hi ≤ g) : Dj r X := fun g hg e => by
 have := h1 g hg
 have := h2 g e
 omega
theorem apart_bd {B : Nat} {e : TypeId} {k : Nat} {w : World} {X C : Option Addr} {m c lo hi : Nat} {xs : List Value} (h : Own B e k w X m c xs) (hC : ∀ g, blk C = some g → lo ≤ g ∧ g < hi) (hX : ∀ g, blk X = some g → g < lo ∨ hi ≤ g) : Apart X C := by
 obtain rfl | ⟨g, rfl, _⟩ := h.blk
 ·exact .inl rfl
 ·refine .inr ?_
  intro e
  have h1 := hC g e.symm
  have h2 := hX g rfl
  omega
theorem at_blk {q : Addr} (h : blk (some q) = some q.block) {p : Nat → Prop} (hp : p q.block) : ∀ g, blk (some q) = some g → p g := fun g hg => by rw [h] at hg; cases hg; exact hp
theorem lawDecide {A A2 A3 : Option Addr} {n c n2 c2 n3 c3 : Nat} {nv : List PN} {sv : List PS} {tyl : List Int} {cl us : ByteArray} {lv nw : Int} {Q Q2 : Option Addr} {m d m2 d2 : Nat} {xs ys : List ByteArray} {z o v : Addr} (w : World) (hT : STab w 4 words ∧ Tab w 6 constF ∧ Tab w 7 calcF ∧ Errs w z o v) (h0 : PolR w A n A2 n2 nv sv ∧ Ints w A3 n3 c3 tyl) (hn : n ≤ 9223372036854775807) (hn2 : n2 ≤ 9223372036854775807) (hf : ∀ p ∈ nv, fits p.z)
  (hcl : cl.size ≤ 9223372036854775807) (hus : us.size ≤ 9223372036854775807) (hs : Strs w Q m d xs) (hs2 : Strs w Q2 m2 d2 ys) (fl : fits lv) (fn : fits nw) :
  Law Tryz.prog 5 [typV A n c A2 n2 c2 A3 n3 c3, reqV cl us lv nw Q m d Q2 m2 d2] w := by
 have h : TypR w A n A2 n2 A3 n3 c3 nv sv tyl := ⟨h0.1, h0.2⟩
 clear h0
 refine FC.intro (cs := []) Tryz.func5 (by kernel_rfl) fun E R hE hr hR => ?_
 have en : ∀ z : Int, ¬ E.cmp .neq z z = true := fun z => by rw [hE.cmp]; simp [cmpR]
 conv => cbv
 refine st_box hr fun a0 w1 hx hb0 => ?_
 have hb := hb0 _ (n1_ _)
 have bA := own_blk hb
 clear hb0
 conv => cbv
 refine st_box hr fun a1 w2 hx2 hb0 => ?_
 have hc := hb0 w.heap.size hx.size
 clear hb0
 replace hb := hb.bel hx2
 replace hx := hx.trans hx2
 clear hx2
 conv => cbv
 refine st_loadS hE tLTyp rfl hb.at ?_
 conv => cbv
 refine st_f hr (szTyped_f (c := c) (c2 := c2) (h.ext hx) hn hn2) fun v w3 hx3 ⟨r, ev, hr1, hsz⟩ => ?_
 subst ev
 replace hb := hb.bel hx3
 replace hc := hc.bel hx3
 replace hx := hx.trans hx3
 clear hx3
 conv => cbv
 refine br (fun g => ?_) (fun g => ?_)
 ·conv => cbv
  rw [hR]; exact ⟨hx, rfl⟩
 have g : 0 ≤ r := by simpa [hE.cmp, cmpR] using g
 obtain ⟨hwt, hwt3⟩ := hsz g
 conv => cbv
 refine st_loadS hE tLReq rfl hc.at ?_
 conv => cbv
 refine st_f hr (szRequest2_f g hr1 hcl hus (hs.ext hx) (hs2.ext hx)) fun v w4 hx4 ⟨z1, ev, hz1⟩ => ?_
 subst ev
 replace hb := hb.bel hx4
 replace hc := hc.bel hx4
 replace hx := hx.trans hx4
 clear hx4
 conv => cbv
 refine br (fun g => ?_) (fun g => ?_)
 ·conv => cbv
  rw [hR]; exact ⟨hx, rfl⟩
 obtain ⟨hm1, hm2⟩ := hz1 (by simpa [hE.cmp, cmpR] using g)
 conv => cbv
 refine draw_y (Ext w4) [0, 2] [1, 3, 4] 5 [(6, false)] hr (St := Addr × Int × Int × Option Addr × Nat × Nat × List ByteArray) (fun s w' => Ext w4 w' ∧ Box w4.heap.size 55 3 w' s.1 [.int .i64 s.2.1, .int .i64 s.2.2.1, .slice s.2.2.2.1 s.2.2.2.2.1 s.2.2.2.2.2.1] ∧ Own w4.heap.size 9 1 w' s.2.2.2.1 s.2.2.2.2.1 s.2.2.2.2.2.1 (s.2.2.2.2.2.2.map .string) ∧ (∀ x ∈ s.2.2.2.2.2.2, x.size ≤ 9223372036854775807) ∧ s.2.2.2.2.2.2.length ≤ 64 ∧ Apart s.2.2.2.1 (some s.1) ∧ Apart (some s.1) s.2.2.2.1 ∧ DecP nv sv tyl cl us lv nw xs ys (s.2.1, s.2.2.1, s.2.2.2.2.2.2)) (fun s => [(2, .pointer (some a0)), (3, .pointer (some a1)), (6, .pointer (some s.1))]) fol (by kernel_rfl) (fun w0 hs => hs.ext) (fun I hI E' hE' v0 hs0 => ?_) ?_
 ·have hxv := hs0.ext
  have s0 := hxv.size
  conv => cbv
  refine sw_loadS hE' tLTyp (vs := [.slice A n c, .slice A2 n2 c2, .slice A3 n3 c3]) rfl (fun w1 h1 j v hv => h1.cell (hb.at j v hv)) ?_
  conv => cbv
  refine sw_loadS hE' tLReq (vs := [.string cl, .string us, .int .i64 lv, .int .i64 nw, .slice Q m d, .slice Q2 m2 d2]) rfl (fun w1 h1 j v hv => h1.cell (hc.at j v hv)) ?_
  conv => cbv
  refine ⟨?_, ?_⟩
  ·skip
   refine st_f hr (toTyped_f (c := c) (c2 := c2) (h.ext (hx.trans hxv)) hwt hwt3) fun r v1 hy ⟨B1, d1, B4, d4, B5, d5, ev, hty⟩ => ?_
   subst ev
   replace hxv := hxv.trans hy
   refine ⟨hxv, ?_⟩
   clear hy
   conv => cbv
   refine ⟨?_, ?_⟩
   ·skip
    refine st_f hr (toRequest_f (cl := cl) (us := us) (lv := lv) (nw := nw) (hs.ext (hx.trans hxv)) (hs2.ext (hx.trans hxv)) hm1 hm2) fun r v2 hy ⟨C1, e1, f1, C2, e2, f2, ev, hq1, hq2⟩ => ?_
    subst ev
    replace hty := hty.ext hy
    replace hxv := hxv.trans hy
    refine ⟨hxv, ?_⟩
    clear hy
    conv => cbv
    refine ⟨?_, ?_⟩
    ·skip
     refine st_f hr (specDecide_f (c := d1) (c2 := d4)  hty hn hn2 hf hcl hus hq1 hq2 fl fn) fun r v3 hy ⟨k, cd, N, nm, nc, zs, ev, ho, ho1, ho2, hDP⟩ => ?_
     subst ev
     have szD := hxv.size
     replace hxv := hxv.trans hy
     refine ⟨hxv, ?_⟩
     clear hy
     conv => cbv
     refine st_alloc hr tOc rfl fun q v4 hy hq0 => ?_
     have szA := hxv.size
     have hq := hq0 w4.heap.size szA
     have ap : Apart N (some q) ∧ Apart (some q) N := (ho.apart (hq0 _ (n1_ _)) (n1_ _))
     replace ho := (ho.mono szD).bel hy
     replace hxv := hxv.trans hy
     refine ⟨hxv, ?_⟩
     clear hy
     conv => cbv
     refine st_putS hr (by kernel_rfl) hq (add_zero _).symm (by simp [zOc]) (by simp [Value.oneCell']) fun v5 hw hq9 => ?_
     simp only [zOc, a1_, a2_, a3_, a4_, a5_, a6_, a7_] at hq9
     have hxw := hxv.then (hw.bel hq hxv.size)
     refine ⟨hxw, (q, k, cd, N, nm, nc, zs), by simp [Fits, lk, put], hI _ _ ⟨hxw, hq9, ho.wr hw ap.1, ho1, ho2, ap.1, ap.2, hDP⟩⟩
    ·skip
     refine st_alloc hr tOc rfl fun q v3 hy hq0 => ?_
     have szA := hxv.size
     have hq := hq0 w4.heap.size szA
     replace hty := hty.ext hy
     replace hq1 := hq1.ext hy
     replace hq2 := hq2.ext hy
     replace hxv := hxv.trans hy
     refine ⟨hxv, ?_⟩
     clear hy
     conv => cbv
     refine st_f hr (specDecide_f (c := d1) (c2 := d4)  hty hn hn2 hf hcl hus hq1 hq2 fl fn) fun r v4 hy ⟨k, cd, N, nm, nc, zs, ev, ho, ho1, ho2, hDP⟩ => ?_
     subst ev
     have szD := hxv.size
     have ap := own_low ho (bx_form hq).2.1 (bx_form hq).2.2
     replace ho := ho.mono szD
     replace hq := hq.bel hy
     replace hxv := hxv.trans hy
     refine ⟨hxv, ?_⟩
     clear hy
     conv => cbv
     refine st_putS hr (by kernel_rfl) hq (add_zero _).symm (by simp [zOc]) (by simp [Value.oneCell']) fun v5 hw hq9 => ?_
     simp only [zOc, a1_, a2_, a3_, a4_, a5_, a6_, a7_] at hq9
     have hxw := hxv.then (hw.bel hq hxv.size)
     refine ⟨hxw, (q, k, cd, N, nm, nc, zs), by simp [Fits, lk, put], hI _ _ ⟨hxw, hq9, ho.wr hw ap.1, ho1, ho2, ap.1, ap.2, hDP⟩⟩
   ·skip
    refine st_alloc hr tOc rfl fun q v2 hy hq0 => ?_
    have szA := hxv.size
    have hq := hq0 w4.heap.size szA
    replace hty := hty.ext hy
    replace hxv := hxv.trans hy
    refine ⟨hxv, ?_⟩
    clear hy
    conv => cbv
    refine st_f hr (toRequest_f (cl := cl) (us := us) (lv := lv) (nw := nw) (hs.ext (hx.trans hxv)) (hs2.ext (hx.trans hxv)) hm1 hm2) fun r v3 hy ⟨C1, e1, f1, C2, e2, f2, ev, hq1, hq2⟩ => ?_
    subst ev
    replace hty := hty.ext hy
    replace hq := hq.bel hy
    replace hxv := hxv.trans hy
    refine ⟨hxv, ?_⟩
    clear hy
    conv => cbv
    refine st_f hr (specDecide_f (c := d1) (c2 := d4)  hty hn hn2 hf hcl hus hq1 hq2 fl fn) fun r v4 hy ⟨k, cd, N, nm, nc, zs, ev, ho, ho1, ho2, hDP⟩ => ?_
    subst ev
    have szD := hxv.size
    have ap := own_low ho (bx_form hq).2.1 (bx_form hq).2.2
    replace ho := ho.mono szD
    replace hq := hq.bel hy
    replace hxv := hxv.trans hy
    refine ⟨hxv, ?_⟩
    clear hy
    conv => cbv
    refine st_putS hr (by kernel_rfl) hq (add_zero _).symm (by simp [zOc]) (by simp [Value.oneCell']) fun v5 hw hq9 => ?_
    simp only [zOc, a1_, a2_, a3_, a4_, a5_, a6_, a7_] at hq9
    have hxw := hxv.then (hw.bel hq hxv.size)
    refine ⟨hxw, (q, k, cd, N, nm, nc, zs), by simp [Fits, lk, put], hI _ _ ⟨hxw, hq9, ho.wr hw ap.1, ho1, ho2, ap.1, ap.2, hDP⟩⟩
  ·skip
   refine st_alloc hr tOc rfl fun q v1 hy hq0 => ?_
   have szA := hxv.size
   have hq := hq0 w4.heap.size szA
   replace hxv := hxv.trans hy
   refine ⟨hxv, ?_⟩
   clear hy
   conv => cbv
   refine st_f hr (toTyped_f (c := c) (c2 := c2) (h.ext (hx.trans hxv)) hwt hwt3) fun r v2 hy ⟨B1, d1, B4, d4, B5, d5, ev, hty⟩ => ?_
   subst ev
   replace hq := hq.bel hy
   replace hxv := hxv.trans hy
   refine ⟨hxv, ?_⟩
   clear hy
   conv => cbv
   refine st_f hr (toRequest_f (cl := cl) (us := us) (lv := lv) (nw := nw) (hs.ext (hx.trans hxv)) (hs2.ext (hx.trans hxv)) hm1 hm2) fun r v3 hy ⟨C1, e1, f1, C2, e2, f2, ev, hq1, hq2⟩ => ?_
   subst ev
   replace hty := hty.ext hy
   replace hq := hq.bel hy
   replace hxv := hxv.trans hy
   refine ⟨hxv, ?_⟩
   clear hy
   conv => cbv
   refine st_f hr (specDecide_f (c := d1) (c2 := d4)  hty hn hn2 hf hcl hus hq1 hq2 fl fn) fun r v4 hy ⟨k, cd, N, nm, nc, zs, ev, ho, ho1, ho2, hDP⟩ => ?_
   subst ev
   have szD := hxv.size
   have ap := own_low ho (bx_form hq).2.1 (bx_form hq).2.2
   replace ho := ho.mono szD
   replace hq := hq.bel hy
   replace hxv := hxv.trans hy
   refine ⟨hxv, ?_⟩
   clear hy
   conv => cbv
   refine st_putS hr (by kernel_rfl) hq (add_zero _).symm (by simp [zOc]) (by simp [Value.oneCell']) fun v5 hw hq9 => ?_
   simp only [zOc, a1_, a2_, a3_, a4_, a5_, a6_, a7_] at hq9
   have hxw := hxv.then (hw.bel hq hxv.size)
   refine ⟨hxw, (q, k, cd, N, nm, nc, zs), by simp [Fits, lk, put], hI _ _ ⟨hxw, hq9, ho.wr hw ap.1, ho1, ho2, ap.1, ap.2, hDP⟩⟩
 rintro ⟨q6, k, cd, N, nm, nc, zs⟩ w5 ⟨hxJ, hJ, hoJ, hz1J, hz2J, ap1J, ap2J, hDPJ⟩
 simp only at hJ hoJ hz1J hz2J ap1J ap2J hDPJ
 have h6 := hJ
 have f6 := bx_form hJ
 have b6 := own_blk hJ
 have bW := own_blk hoJ
 have hoW := hoJ
 have s45 := hxJ.size
 replace hb := hb.bel hxJ
 replace hc := hc.bel hxJ
 replace hx := hx.trans hxJ
 have sw5 := hx.size
 have bA1 : a0.block < w5.heap.size ∧ a1.block < w5.heap.size := ⟨(bx_form hb).2.1, (bx_form hc).2.1⟩
 have fa0 := bx_form hb
 have fa1 := bx_form hc
 clear hJ hoJ
 conv => cbv
 refine st_loadS hE tLTyp rfl hb.at ?_
 conv => cbv
 refine st_f hr (toTypedO_f (c := c) (c2 := c2) (h.ext hx) hwt hwt3) fun v w6 hx6 ⟨A7, c7, A8, c8, A9, c9, us1, ev, hus1, hot, h5⟩ => ?_
 subst ev
 have bO := hot.lo
 have s56 := hx6.size
 replace hb := hb.bel hx6
 replace hc := hc.bel hx6
 replace h6 := h6.bel hx6
 replace hoW := hoW.bel hx6
 replace hx := hx.trans hx6
 conv => cbv
 refine st_alloc hr tITyp rfl fun q7 w7 hx7 hq0 => ?_
 have h7 := hq0 w.heap.size hx.size
 have f7 := bx_form (hq0 _ (n1_ _))
 have hqb := hq0 _ (n1_ _)
 clear hq0
 conv => cbv
 refine st_putS hr (by kernel_rfl) h7 (add_zero _).symm (by simp) (by simp [Value.oneCell']) fun w8 hw hq9 => ?_
 simp only [a1_, a2_, a3_, a4_, a5_, a6_, a7_] at hq9
 have hx68 : Ext w6 w8 := hx7.then (hw.bel hqb hx7.size)
 replace h7 := hq9
 clear hw hqb hq9 hx7
 have s68 := hx68.size
 replace hb := hb.bel hx68
 replace hc := hc.bel hx68
 replace h6 := h6.bel hx68
 replace hoW := hoW.bel hx68
 replace hot := hot.ext hx68
 replace h5 := h5.ext hx68
 replace hx := hx.trans hx68
 conv => cbv
 refine st_loadS hE tLReq rfl hc.at ?_
 conv => cbv
 refine st_f hr (toRequestO_f (cl := cl) (us := us) (lv := lv) (nw := nw) (hs.ext hx) (hs2.ext hx) hm1 hm2) fun v w9 hx9 ⟨C1, e1, f1, C2, e2, f2, ev, hq1, hq2, ho1, ho2, apC1, apC2⟩ => ?_
 subst ev
 have bC1 := own_blk ho1
 have bC2 := own_blk ho2
 have s89 := hx9.size
 replace hb := hb.bel hx9
 replace hc := hc.bel hx9
 replace h6 := h6.bel hx9
 replace hoW := hoW.bel hx9
 replace h7 := h7.bel hx9
 replace hot := hot.ext hx9
 replace h5 := h5.ext hx9
 replace hx := hx.trans hx9
 conv => cbv
 refine st_alloc hr tIReq rfl fun q8 w10 hx10 hq0 => ?_
 have h8 := hq0 w.heap.size hx.size
 have f8 := bx_form (hq0 _ (n1_ _))
 have hqb := hq0 _ (n1_ _)
 clear hq0
 conv => cbv
 refine st_putS hr (by kernel_rfl) h8 (add_zero _).symm (by simp) (by simp [Value.oneCell']) fun w11 hw hq9 => ?_
 simp only [a1_, a2_, a3_, a4_, a5_, a6_, a7_] at hq9
 have hx911 : Ext w9 w11 := hx10.then (hw.bel hqb hx10.size)
 replace h8 := hq9
 clear hw hqb hq9 hx10
 have s911 := hx911.size
 replace hb := hb.bel hx911
 replace hc := hc.bel hx911
 replace h6 := h6.bel hx911
 replace hoW := hoW.bel hx911
 replace h7 := h7.bel hx911
 replace hot := hot.ext hx911
 replace h5 := h5.ext hx911
 replace hq1 := hq1.ext hx911
 replace hq2 := hq2.ext hx911
 replace ho1 := ho1.bel hx911
 replace ho2 := ho2.bel hx911
 replace hx := hx.trans hx911
 conv => cbv
 refine st_loadS hE tITyp rfl h7.at ?_
 conv => cbv
 refine st_loadS hE tIReq rfl h8.at ?_
 conv => cbv
 refine st_f hr (implDecide_f (c := c7) (c2 := c8) (hT.2.1.ext hx) (hT.1.ext hx) (hT.2.2.1.ext hx) (hT.2.2.2.ext hx) h5 hn hn2 hf hcl hus hq1 hq2 fl fn) fun v w12 hx12 ⟨k1, cd1, N1, nm1, nc1, zs1, ev, hoG, hg1, hg2, hDP1⟩ => ?_
 subst ev
 obtain ⟨rfl, rfl, rfl⟩ : k1 = k ∧ cd1 = cd ∧ zs1 = zs := by simpa using hDP1.unique hDPJ
 have bG := own_blk hoG
 have s1112 := hx12.size
 replace hb := hb.bel hx12
 replace hc := hc.bel hx12
 replace h6 := h6.bel hx12
 replace hoW := hoW.bel hx12
 replace h7 := h7.bel hx12
 replace hot := hot.ext hx12
 replace h5 := h5.ext hx12
 replace hq1 := hq1.ext hx12
 replace hq2 := hq2.ext hx12
 replace ho1 := ho1.bel hx12
 replace ho2 := ho2.bel hx12
 replace h8 := h8.bel hx12
 replace hx := hx.trans hx12
 conv => cbv
 refine st_alloc hr tOc rfl fun q9 w13 hx13 hq0 => ?_
 have h9 := hq0 w.heap.size hx.size
 have f9 := bx_form (hq0 _ (n1_ _))
 have hqb := hq0 _ (n1_ _)
 clear hq0
 conv => cbv
 refine st_putS hr (by kernel_rfl) h9 (add_zero _).symm (by simp [zOc]) (by simp [Value.oneCell']) fun w14 hw hq9 => ?_
 simp only [a1_, a2_, a3_, a4_, a5_, a6_, a7_, zOc] at hq9
 have hx1214 : Ext w12 w14 := hx13.then (hw.bel hqb hx13.size)
 replace h9 := hq9
 clear hw hqb hq9 hx13
 have s1214 := hx1214.size
 replace hb := hb.bel hx1214
 replace hc := hc.bel hx1214
 replace h6 := h6.bel hx1214
 replace hoW := hoW.bel hx1214
 replace h7 := h7.bel hx1214
 replace hot := hot.ext hx1214
 replace h5 := h5.ext hx1214
 replace hq1 := hq1.ext hx1214
 replace hq2 := hq2.ext hx1214
 replace ho1 := ho1.bel hx1214
 replace ho2 := ho2.bel hx1214
 replace h8 := h8.bel hx1214
 replace hoG := hoG.bel hx1214
 replace hx := hx.trans hx1214
 conv => cbv
 refine st_loadS hE tOc rfl h9.at ?_
 conv => cbv
 refine st_loadS hE tOc rfl h6.at ?_
 conv => cbv
 refine st_f hr (eqOutcome_f (hoG.strs hg1) (hoW.strs hz1J)) fun v w15 hx15 ev => ?_
 subst ev
 replace hb := hb.bel hx15
 replace hc := hc.bel hx15
 replace h6 := h6.bel hx15
 replace hoW := hoW.bel hx15
 replace h7 := h7.bel hx15
 replace hot := hot.ext hx15
 replace h5 := h5.ext hx15
 replace hq1 := hq1.ext hx15
 replace hq2 := hq2.ext hx15
 replace ho1 := ho1.bel hx15
 replace ho2 := ho2.bel hx15
 replace h8 := h8.bel hx15
 replace hoG := hoG.bel hx15
 replace h9 := h9.bel hx15
 replace hx := hx.trans hx15
 conv => cbv
 refine draw_h [0, 1] [(2, false), (3, false), (4, true)] hr fol (by kernel_rfl) fun E' hE' w16 hs16 S hS => ?_
 have hx16 := hs16.ext
 replace hb := hb.bel hx16
 replace hc := hc.bel hx16
 replace h6 := h6.bel hx16
 replace hoW := hoW.bel hx16
 replace h7 := h7.bel hx16
 replace hot := hot.ext hx16
 replace h5 := h5.ext hx16
 replace hq1 := hq1.ext hx16
 replace hq2 := hq2.ext hx16
 replace ho1 := ho1.bel hx16
 replace ho2 := ho2.bel hx16
 replace h8 := h8.bel hx16
 replace hoG := hoG.bel hx16
 replace h9 := h9.bel hx16
 replace hx := hx.trans hx16
 conv => cbv
 refine st_loadS hE' tITyp rfl h7.at ?_
 conv => cbv
 refine st_loadS hE' tLTyp rfl hb.at ?_
 conv => cbv
 refine st_f hr (toTyped_f (c := c) (c2 := c2) (h.ext hx) hwt hwt3) fun v w17 hx17 ⟨B7, d7, B8, d8, B9, d9, ev, hty⟩ => ?_
 subst ev
 refine ⟨hS _ hx17, ?_⟩
 conv => cbv
 refine st_f hr (eqTyped_f (c := c7) (c2 := c8) (d := d7) (d2 := d8) (h5.ext hx17) hty hn hn2) fun v w18 hx18 ev => ?_
 subst ev
 have x18 := hx17.trans hx18
 refine ⟨hS _ x18, ?_⟩
 replace hb := hb.bel x18
 replace hc := hc.bel x18
 replace h6 := h6.bel x18
 replace hoW := hoW.bel x18
 replace h7 := h7.bel x18
 replace hot := hot.ext x18
 replace h5 := h5.ext x18
 replace hq1 := hq1.ext x18
 replace hq2 := hq2.ext x18
 replace ho1 := ho1.bel x18
 replace ho2 := ho2.bel x18
 replace h8 := h8.bel x18
 replace hoG := hoG.bel x18
 replace h9 := h9.bel x18
 replace hx := hx.trans x18
 conv => cbv
 refine draw_h [0, 1] [(2, false), (3, false), (4, true)] hr fol (by kernel_rfl) fun E'' hE'' w19 hs19 S2 hS2 => ?_
 have hx19 := hs19.ext
 replace hb := hb.bel hx19
 replace hc := hc.bel hx19
 replace h6 := h6.bel hx19
 replace hoW := hoW.bel hx19
 replace h7 := h7.bel hx19
 replace hot := hot.ext hx19
 replace h5 := h5.ext hx19
 replace hq1 := hq1.ext hx19
 replace hq2 := hq2.ext hx19
 replace ho1 := ho1.bel hx19
 replace ho2 := ho2.bel hx19
 replace h8 := h8.bel hx19
 replace hoG := hoG.bel hx19
 replace h9 := h9.bel hx19
 replace hx := hx.trans hx19
 conv => cbv
 refine st_loadS hE'' tIReq rfl h8.at ?_
 conv => cbv
 refine st_loadS hE'' tLReq rfl hc.at ?_
 conv => cbv
 refine st_f hr (toRequest_f (cl := cl) (us := us) (lv := lv) (nw := nw) (hs.ext hx) (hs2.ext hx) hm1 hm2) fun v w20 hx20 ⟨C3, e3, f3, C4, e4, f4, ev, hq3, hq4⟩ => ?_
 subst ev
 refine ⟨hS2 _ hx20, ?_⟩
 conv => cbv
 refine st_f hr (eqRequest_f (hq1.ext hx20) (hq2.ext hx20) hq3 hq4) fun v w21 hx21 ev => ?_
 have ev := ev ⟨rfl, rfl, rfl, rfl, rfl, rfl⟩
 subst ev
 have x21 := hx20.trans hx21
 refine ⟨hS2 _ x21, ?_⟩
 replace hb := hb.bel x21
 replace hc := hc.bel x21
 replace h6 := h6.bel x21
 replace hoW := hoW.bel x21
 replace h7 := h7.bel x21
 replace hot := hot.ext x21
 replace h5 := h5.ext x21
 replace hq1 := hq1.ext x21
 replace hq2 := hq2.ext x21
 replace ho1 := ho1.bel x21
 replace ho2 := ho2.bel x21
 replace h8 := h8.bel x21
 replace hoG := hoG.bel x21
 replace h9 := h9.bel x21
 replace hx := hx.trans x21
 conv => cbv
 refine st_loadS hE tITyp rfl h7.at ?_
 have kb := hot.otK_bd2 (by rw [hus1]; exact hwt) hwt3
 have mt := markTyped_g hot 1 (by omega) (by omega)
 obtain ⟨kk, hkk⟩ : ∃ z : Int, z = 1 + otK us1 sv n3 := ⟨_, rfl⟩
 rw [← hkk] at mt
 conv => cbv
 refine st_g hr mt fun v w22 ⟨ev, _, hC⟩ => ?_
 subst ev
 have s21 := hx.size
 have b65 := b6
 have dO : ∀ {X : Option Addr}, (∀ g, blk X = some g → g < w5.heap.size ∨ w6.heap.size ≤ g) → ∀ r ∈ otA A7 A8 A9 us1, Dj r X := fun h2 r hr => dj_bd2 (bO r hr) h2
 have f65 : q6.block < w5.heap.size := (b6 _ f6.2.2).2
 replace hb := (hC.own hb (dO (at_blk fa0.2.2 (p := fun g => g < w5.heap.size ∨ w6.heap.size ≤ g) (by omega)))).1
 replace hc := (hC.own hc (dO (at_blk fa1.2.2 (p := fun g => g < w5.heap.size ∨ w6.heap.size ≤ g) (by omega)))).1
 replace h6 := (hC.own h6 (dO (at_blk f6.2.2 (p := fun g => g < w5.heap.size ∨ w6.heap.size ≤ g) (by omega)))).1
 replace hoW := (hC.own hoW (dO (fun g hg => by have := bW g hg; omega))).1
 replace ho1 := (hC.own ho1 (dO (fun g hg => by have := bC1 g hg; omega))).1
 replace ho2 := (hC.own ho2 (dO (fun g hg => by have := bC2 g hg; omega))).1
 replace h8 := (hC.own h8 (dO (at_blk f8.2.2 (p := fun g => g < w5.heap.size ∨ w6.heap.size ≤ g) (by omega)))).1
 replace hoG := (hC.own hoG (dO (fun g hg => by have := bG g hg; omega))).1
 replace h9 := (hC.own h9 (dO (at_blk f9.2.2 (p := fun g => g < w5.heap.size ∨ w6.heap.size ≤ g) (by omega)))).1
 replace hx := hC.ext0 hx fun r hr g hg => by have := bO r hr g hg; omega
 have s22 := hx.size
 clear h7 hot h5 hC mt
 have l1 := hq1.len
 have l2 := hq2.len
 have l3 := hs.len
 have l4 := hs2.len
 conv => cbv
 refine st_loadS hE tIReq rfl h8.at ?_
 conv => cbv
 have mr := markRequest_g (cl := cl) (us := us) (lv := lv) (nw := nw) ho1 ho2 ⟨apC1, apC2⟩ kk (by omega) (by omega)
 obtain ⟨kq, hkq⟩ : ∃ z : Int, z = kk + (e1 : Int) + (e2 : Int) := ⟨_, rfl⟩
 rw [← hkq] at mr
 refine st_g hr mr fun v w24 ⟨ev, w23, hM1, hM2⟩ => ?_
 subst ev
 have s23 := hM1.size
 have s24 := hM2.size
 replace hb := (hb.wr hM1 (apart_bd hb bC1 (at_blk fa0.2.2 (p := fun g => g < w8.heap.size ∨ w9.heap.size ≤ g) (by omega))))
 replace hb := (hb.wr hM2 (apart_bd hb bC2 (at_blk fa0.2.2 (p := fun g => g < w8.heap.size ∨ w9.heap.size ≤ g) (by omega))))
 replace hc := (hc.wr hM1 (apart_bd hc bC1 (at_blk fa1.2.2 (p := fun g => g < w8.heap.size ∨ w9.heap.size ≤ g) (by omega))))
 replace hc := (hc.wr hM2 (apart_bd hc bC2 (at_blk fa1.2.2 (p := fun g => g < w8.heap.size ∨ w9.heap.size ≤ g) (by omega))))
 replace h6 := (h6.wr hM1 (apart_bd h6 bC1 (at_blk f6.2.2 (p := fun g => g < w8.heap.size ∨ w9.heap.size ≤ g) (by omega))))
 replace h6 := (h6.wr hM2 (apart_bd h6 bC2 (at_blk f6.2.2 (p := fun g => g < w8.heap.size ∨ w9.heap.size ≤ g) (by omega))))
 replace hoW := (hoW.wr hM1 (apart_bd hoW bC1 (fun g hg => by have := bW g hg; omega)))
 replace hoW := (hoW.wr hM2 (apart_bd hoW bC2 (fun g hg => by have := bW g hg; omega)))
 replace hoG := (hoG.wr hM1 (apart_bd hoG bC1 (fun g hg => by have := bG g hg; omega)))
 replace hoG := (hoG.wr hM2 (apart_bd hoG bC2 (fun g hg => by have := bG g hg; omega)))
 replace h9 := (h9.wr hM1 (apart_bd h9 bC1 (at_blk f9.2.2 (p := fun g => g < w8.heap.size ∨ w9.heap.size ≤ g) (by omega))))
 replace h9 := (h9.wr hM2 (apart_bd h9 bC2 (at_blk f9.2.2 (p := fun g => g < w8.heap.size ∨ w9.heap.size ≤ g) (by omega))))
 replace hx := (hx.then (hM1.bel (ho1.mono (B' := w.heap.size) (by omega)) (by omega))).then (hM2.bel (ho2.mono (B' := w.heap.size) (by omega)) (by omega))
 clear hM1 hM2 ho1 ho2 h8 mr
 conv => cbv
 refine br (fun g => absurd (show kq < 0 by simpa [hE.cmp, cmpR] using g) (by omega)) (fun _ => ?_)
 conv => cbv
 refine st_loadS hE tOc rfl h9.at ?_
 conv => cbv
 refine st_loadS hE tOc rfl h6.at ?_
 conv => cbv
 refine st_f hr (eqOutcome_f (hoG.strs hg1) (hoW.strs hz1J)) fun v w25 hx25 ev => ?_
 subst ev
 replace hb := hb.bel hx25
 replace hc := hc.bel hx25
 replace h6 := h6.bel hx25
 replace hoW := hoW.bel hx25
 replace hoG := hoG.bel hx25
 replace h9 := h9.bel hx25
 replace hx := hx.trans hx25
 have s25 := hx.size
 have lG := (hoG.strs hg1).len
 conv => cbv
 refine st_loadS hE tOc rfl h9.at ?_
 conv => cbv
 obtain ⟨mm, hmm⟩ : ∃ z : Int, z = 1 + (nm1 : Int) := ⟨_, rfl⟩
 refine st_g hr (markOutcome_g hoG 1 (by omega) (by omega)) fun v w26 ⟨ev, hoM, hwM⟩ => ?_
 subst ev
 rw [← hmm]
 have s26 := hwM.size
 replace hb := (hb.wr hwM (apart_bd hb bG (at_blk fa0.2.2 (p := fun g => g < w11.heap.size ∨ w12.heap.size ≤ g) (by omega))))
 replace hc := (hc.wr hwM (apart_bd hc bG (at_blk fa1.2.2 (p := fun g => g < w11.heap.size ∨ w12.heap.size ≤ g) (by omega))))
 replace h6 := (h6.wr hwM (apart_bd h6 bG (at_blk f6.2.2 (p := fun g => g < w11.heap.size ∨ w12.heap.size ≤ g) (by omega))))
 replace hoW := (hoW.wr hwM (apart_bd hoW bG (fun g hg => by have := bW g hg; omega)))
 replace h9 := (h9.wr hwM (apart_bd h9 bG (at_blk f9.2.2 (p := fun g => g < w11.heap.size ∨ w12.heap.size ≤ g) (by omega))))
 replace hx := hx.then (hwM.bel (hoG.mono (B' := w.heap.size) (by omega)) (by omega))
 clear hwM hoG
 conv => cbv
 refine st_loadS hE tOc rfl h9.at ?_
 conv => cbv
 have hd := heldOutcome_f (k := k1) (cd := cd1) (hoM.strs (marks_small (by omega))) (by omega) (by omega)
 rw [← hmm] at hd
 refine st_f hr hd fun v w27 hx27 ev => ?_
 subst ev
 clear hd
 replace hb := hb.bel hx27
 replace hc := hc.bel hx27
 replace h6 := h6.bel hx27
 replace hoW := hoW.bel hx27
 replace hoM := hoM.bel hx27
 replace h9 := h9.bel hx27
 replace hx := hx.trans hx27
 conv => cbv
 refine br (fun g => absurd (show mm < 0 by simpa [hE.cmp, cmpR] using g) (by omega)) (fun _ => ?_)
 conv => cbv
 refine br (fun q => absurd q (en _)) (fun _ => ?_)
 conv => cbv
 refine draw_y (Ext w27) [0, 2] [1, 3, 4] 5 [(6, false)] hr (St := Addr × Int × Int × Option Addr × Nat × Nat × List ByteArray) (fun s w' => Ext w27 w' ∧ Box w27.heap.size 55 3 w' s.1 [.int .i64 s.2.1, .int .i64 s.2.2.1, .slice s.2.2.2.1 s.2.2.2.2.1 s.2.2.2.2.2.1] ∧ Own w27.heap.size 9 1 w' s.2.2.2.1 s.2.2.2.2.1 s.2.2.2.2.2.1 (s.2.2.2.2.2.2.map .string) ∧ (∀ x ∈ s.2.2.2.2.2.2, x.size ≤ 9223372036854775807) ∧ s.2.2.2.2.2.2.length ≤ 64 ∧ Apart s.2.2.2.1 (some s.1) ∧ Apart (some s.1) s.2.2.2.1 ∧ DecP nv sv tyl cl us lv nw xs ys (s.2.1, s.2.2.1, s.2.2.2.2.2.2)) (fun s => [(6, .pointer (some q6)), (9, .pointer (some q9)), (11, .int .i64 mm), (13, .pointer (some s.1))]) fol (by kernel_rfl) (fun w0 hs => hs.ext) (fun I hI E' hE' v0 hs0 => ?_) ?_
 ·have hxv := hs0.ext
  have s0 := hxv.size
  conv => cbv
  refine sw_loadS hE' tLTyp (vs := [.slice A n c, .slice A2 n2 c2, .slice A3 n3 c3]) rfl (fun w1 h1 j v hv => h1.cell (hb.at j v hv)) ?_
  conv => cbv
  refine sw_loadS hE' tLReq (vs := [.string cl, .string us, .int .i64 lv, .int .i64 nw, .slice Q m d, .slice Q2 m2 d2]) rfl (fun w1 h1 j v hv => h1.cell (hc.at j v hv)) ?_
  conv => cbv
  refine ⟨?_, ?_⟩
  ·skip
   refine st_f hr (toTyped_f (c := c) (c2 := c2) (h.ext (hx.trans hxv)) hwt hwt3) fun r v1 hy ⟨B1, d1, B4, d4, B5, d5, ev, hty⟩ => ?_
   subst ev
   replace hxv := hxv.trans hy
   refine ⟨hxv, ?_⟩
   clear hy
   conv => cbv
   refine ⟨?_, ?_⟩
   ·skip
    refine st_f hr (toRequest_f (cl := cl) (us := us) (lv := lv) (nw := nw) (hs.ext (hx.trans hxv)) (hs2.ext (hx.trans hxv)) hm1 hm2) fun r v2 hy ⟨C1, e1, f1, C2, e2, f2, ev, hq1, hq2⟩ => ?_
    subst ev
    replace hty := hty.ext hy
    replace hxv := hxv.trans hy
    refine ⟨hxv, ?_⟩
    clear hy
    conv => cbv
    refine ⟨?_, ?_⟩
    ·skip
     refine st_f hr (implDecide_f (c := d1) (c2 := d4) (hT.2.1.ext (hx.trans hxv)) (hT.1.ext (hx.trans hxv)) (hT.2.2.1.ext (hx.trans hxv)) (hT.2.2.2.ext (hx.trans hxv)) hty hn hn2 hf hcl hus hq1 hq2 fl fn) fun r v3 hy ⟨k, cd, N, nm, nc, zs, ev, ho, ho1, ho2, hDP⟩ => ?_
     subst ev
     have szD := hxv.size
     replace hxv := hxv.trans hy
     refine ⟨hxv, ?_⟩
     clear hy
     conv => cbv
     refine st_alloc hr tOc rfl fun q v4 hy hq0 => ?_
     have szA := hxv.size
     have hq := hq0 w27.heap.size szA
     have ap : Apart N (some q) ∧ Apart (some q) N := (ho.apart (hq0 _ (n1_ _)) (n1_ _))
     replace ho := (ho.mono szD).bel hy
     replace hxv := hxv.trans hy
     refine ⟨hxv, ?_⟩
     clear hy
     conv => cbv
     refine st_putS hr (by kernel_rfl) hq (add_zero _).symm (by simp [zOc]) (by simp [Value.oneCell']) fun v5 hw hq9 => ?_
     simp only [zOc, a1_, a2_, a3_, a4_, a5_, a6_, a7_] at hq9
     have hxw := hxv.then (hw.bel hq hxv.size)
     refine ⟨hxw, (q, k, cd, N, nm, nc, zs), by simp [Fits, lk, put], hI _ _ ⟨hxw, hq9, ho.wr hw ap.1, ho1, ho2, ap.1, ap.2, hDP⟩⟩
    ·skip
     refine st_alloc hr tOc rfl fun q v3 hy hq0 => ?_
     have szA := hxv.size
     have hq := hq0 w27.heap.size szA
     replace hty := hty.ext hy
     replace hq1 := hq1.ext hy
     replace hq2 := hq2.ext hy
     replace hxv := hxv.trans hy
     refine ⟨hxv, ?_⟩
     clear hy
     conv => cbv
     refine st_f hr (implDecide_f (c := d1) (c2 := d4) (hT.2.1.ext (hx.trans hxv)) (hT.1.ext (hx.trans hxv)) (hT.2.2.1.ext (hx.trans hxv)) (hT.2.2.2.ext (hx.trans hxv)) hty hn hn2 hf hcl hus hq1 hq2 fl fn) fun r v4 hy ⟨k, cd, N, nm, nc, zs, ev, ho, ho1, ho2, hDP⟩ => ?_
     subst ev
     have szD := hxv.size
     have ap := own_low ho (bx_form hq).2.1 (bx_form hq).2.2
     replace ho := ho.mono szD
     replace hq := hq.bel hy
     replace hxv := hxv.trans hy
     refine ⟨hxv, ?_⟩
     clear hy
     conv => cbv
     refine st_putS hr (by kernel_rfl) hq (add_zero _).symm (by simp [zOc]) (by simp [Value.oneCell']) fun v5 hw hq9 => ?_
     simp only [zOc, a1_, a2_, a3_, a4_, a5_, a6_, a7_] at hq9
     have hxw := hxv.then (hw.bel hq hxv.size)
     refine ⟨hxw, (q, k, cd, N, nm, nc, zs), by simp [Fits, lk, put], hI _ _ ⟨hxw, hq9, ho.wr hw ap.1, ho1, ho2, ap.1, ap.2, hDP⟩⟩
   ·skip
    refine st_alloc hr tOc rfl fun q v2 hy hq0 => ?_
    have szA := hxv.size
    have hq := hq0 w27.heap.size szA
    replace hty := hty.ext hy
    replace hxv := hxv.trans hy
    refine ⟨hxv, ?_⟩
    clear hy
    conv => cbv
    refine st_f hr (toRequest_f (cl := cl) (us := us) (lv := lv) (nw := nw) (hs.ext (hx.trans hxv)) (hs2.ext (hx.trans hxv)) hm1 hm2) fun r v3 hy ⟨C1, e1, f1, C2, e2, f2, ev, hq1, hq2⟩ => ?_
    subst ev
    replace hty := hty.ext hy
    replace hq := hq.bel hy
    replace hxv := hxv.trans hy
    refine ⟨hxv, ?_⟩
    clear hy
    conv => cbv
    refine st_f hr (implDecide_f (c := d1) (c2 := d4) (hT.2.1.ext (hx.trans hxv)) (hT.1.ext (hx.trans hxv)) (hT.2.2.1.ext (hx.trans hxv)) (hT.2.2.2.ext (hx.trans hxv)) hty hn hn2 hf hcl hus hq1 hq2 fl fn) fun r v4 hy ⟨k, cd, N, nm, nc, zs, ev, ho, ho1, ho2, hDP⟩ => ?_
    subst ev
    have szD := hxv.size
    have ap := own_low ho (bx_form hq).2.1 (bx_form hq).2.2
    replace ho := ho.mono szD
    replace hq := hq.bel hy
    replace hxv := hxv.trans hy
    refine ⟨hxv, ?_⟩
    clear hy
    conv => cbv
    refine st_putS hr (by kernel_rfl) hq (add_zero _).symm (by simp [zOc]) (by simp [Value.oneCell']) fun v5 hw hq9 => ?_
    simp only [zOc, a1_, a2_, a3_, a4_, a5_, a6_, a7_] at hq9
    have hxw := hxv.then (hw.bel hq hxv.size)
    refine ⟨hxw, (q, k, cd, N, nm, nc, zs), by simp [Fits, lk, put], hI _ _ ⟨hxw, hq9, ho.wr hw ap.1, ho1, ho2, ap.1, ap.2, hDP⟩⟩
  ·skip
   refine st_alloc hr tOc rfl fun q v1 hy hq0 => ?_
   have szA := hxv.size
   have hq := hq0 w27.heap.size szA
   replace hxv := hxv.trans hy
   refine ⟨hxv, ?_⟩
   clear hy
   conv => cbv
   refine st_f hr (toTyped_f (c := c) (c2 := c2) (h.ext (hx.trans hxv)) hwt hwt3) fun r v2 hy ⟨B1, d1, B4, d4, B5, d5, ev, hty⟩ => ?_
   subst ev
   replace hq := hq.bel hy
   replace hxv := hxv.trans hy
   refine ⟨hxv, ?_⟩
   clear hy
   conv => cbv
   refine st_f hr (toRequest_f (cl := cl) (us := us) (lv := lv) (nw := nw) (hs.ext (hx.trans hxv)) (hs2.ext (hx.trans hxv)) hm1 hm2) fun r v3 hy ⟨C1, e1, f1, C2, e2, f2, ev, hq1, hq2⟩ => ?_
   subst ev
   replace hty := hty.ext hy
   replace hq := hq.bel hy
   replace hxv := hxv.trans hy
   refine ⟨hxv, ?_⟩
   clear hy
   conv => cbv
   refine st_f hr (implDecide_f (c := d1) (c2 := d4) (hT.2.1.ext (hx.trans hxv)) (hT.1.ext (hx.trans hxv)) (hT.2.2.1.ext (hx.trans hxv)) (hT.2.2.2.ext (hx.trans hxv)) hty hn hn2 hf hcl hus hq1 hq2 fl fn) fun r v4 hy ⟨k, cd, N, nm, nc, zs, ev, ho, ho1, ho2, hDP⟩ => ?_
   subst ev
   have szD := hxv.size
   have ap := own_low ho (bx_form hq).2.1 (bx_form hq).2.2
   replace ho := ho.mono szD
   replace hq := hq.bel hy
   replace hxv := hxv.trans hy
   refine ⟨hxv, ?_⟩
   clear hy
   conv => cbv
   refine st_putS hr (by kernel_rfl) hq (add_zero _).symm (by simp [zOc]) (by simp [Value.oneCell']) fun v5 hw hq9 => ?_
   simp only [zOc, a1_, a2_, a3_, a4_, a5_, a6_, a7_] at hq9
   have hxw := hxv.then (hw.bel hq hxv.size)
   refine ⟨hxw, (q, k, cd, N, nm, nc, zs), by simp [Fits, lk, put], hI _ _ ⟨hxw, hq9, ho.wr hw ap.1, ho1, ho2, ap.1, ap.2, hDP⟩⟩
 rintro ⟨q13, k2, cd2, N2, nm2, nc2, zs2⟩ w28 ⟨hxJ, hJ, hoJ, hz1J, hz2J, ap1J, ap2J, hDPJ⟩
 simp only at hJ hoJ hz1J hz2J ap1J ap2J hDPJ
 have eqq := hDP1.unique hDPJ
 simp only [Prod.mk.injEq] at eqq
 obtain ⟨rfl, rfl, rfl⟩ := eqq
 replace h6 := h6.bel hxJ
 replace hoW := hoW.bel hxJ
 replace hoM := hoM.bel hxJ
 replace h9 := h9.bel hxJ
 replace hx := hx.trans hxJ
 conv => cbv
 refine st_loadS hE tOc rfl hJ.at ?_
 conv => cbv
 refine st_loadS hE tOc rfl h6.at ?_
 conv => cbv
 refine st_f hr (eqOutcome_f (hoJ.strs hz1J) (hoW.strs hz1J)) fun v w29 hx29 ev => ?_
 subst ev
 replace hoM := hoM.bel hx29
 replace h9 := h9.bel hx29
 replace hx := hx.trans hx29
 conv => cbv
 refine st_loadS hE tOc rfl h9.at ?_
 conv => cbv
 have hd := heldOutcome_f (k := k1) (cd := cd1) (hoM.strs (marks_small (by omega))) (by omega) (by omega)
 rw [← hmm] at hd
 refine st_f hr hd fun v w30 hx30 ev => ?_
 subst ev
 clear hd
 conv => cbv
 refine br (fun g => absurd (show mm < 0 by simpa [hE.cmp, cmpR] using g) (by omega)) (fun _ => ?_)
 conv => cbv
 refine br (fun q => absurd q (en _)) (fun _ => ?_)
 conv => cbv
 rw [hR]; exact ⟨hx.trans hx30, rfl⟩
open Go.ChangeShapes Go.WideShapes Go.ChangeAt Go.RowKit Go.Eng
set_option maxRecDepth 100000
theorem gZ : Tryz.prog.globalNamed "loop.example/s01308/impl.errZero" = some 2 := by kernel_rfl
theorem gO : Tryz.prog.globalNamed "loop.example/s01308/impl.errOverflow" = some 1 := by kernel_rfl
theorem gW : Tryz.prog.globalNamed "loop.example/s01308/impl.errWide" = some 3 := by kernel_rfl
theorem yZ : (Tryz.prog.globals[2]?).map (·.type) = some 99 := by kernel_rfl
theorem yO : (Tryz.prog.globals[1]?).map (·.type) = some 99 := by kernel_rfl
theorem yW : (Tryz.prog.globals[3]?).map (·.type) = some 99 := by kernel_rfl
theorem star : "*" ++ "errors.errorString" = "*errors.errorString" := by decide
theorem rowE (u : TypeId) (h : Tryz.prog.typeName? 3 u = some "*errors.errorString") : u = 391 :=
 typeName_ptr_named (nm := "errors.errorString") (by rw [star]; kernel_rfl) (by kernel_rfl) (by decide) u (by rw [star]; exact h)
theorem cellsE : Tryz.prog.cellsOf 412 = 1 := by kernel_rfl
theorem cellsS : Tryz.prog.cellsOf 9 = 1 := by kernel_rfl
def errV (a : Addr) : Value := .iface 391 (.pointer (some a))
theorem errs_of_laid {W : World} {tO tZ tW : List UInt8}
  (h : laidMet Tryz.prog [("loop.example/s01308/impl.errOverflow", .iface "*errors.errorString" (.ptr (.agg [.lit (.string tO)]))), ("loop.example/s01308/impl.errZero", .iface "*errors.errorString" (.ptr (.agg [.lit (.string tZ)]))), ("loop.example/s01308/impl.errWide", .iface "*errors.errorString" (.ptr (.agg [.lit (.string tW)])))] W) :
  ∃ z o v, Errs W z o v ∧ W.var? Tryz.prog "loop.example/s01308/impl.errZero" = some #[errV z] ∧ W.var? Tryz.prog "loop.example/s01308/impl.errOverflow" = some #[errV o] ∧ W.var? Tryz.prog "loop.example/s01308/impl.errWide" = some #[errV v] := by
 obtain ⟨ps, ⟨g0, t0, cs0, f0, p0, q0, hg0, ht0, hv0, hd0, ⟨g1, t1, cs1, f1, p1, q1, hg1, ht1, hv1, hd1, ⟨g2, t2, cs2, f2, p2, q2, hg2, ht2, hv2, hd2, _, e2⟩, e1⟩, e0⟩, hnd, hrows⟩ := h
 obtain rfl := Option.some.inj (gO.symm.trans hg0)
 obtain rfl := Option.some.inj (gZ.symm.trans hg1)
 obtain rfl := Option.some.inj (gW.symm.trans hg2)
 obtain rfl := Option.some.inj (yO.symm.trans ht0)
 obtain rfl := Option.some.inj (yZ.symm.trans ht1)
 obtain rfl := Option.some.inj (yW.symm.trans ht2)
 subst e2
 subst e1
 subst e0
 obtain ⟨l0⟩ := cs0
 obtain ⟨l1⟩ := cs1
 obtain ⟨l2⟩ := cs2
 have ok0 : ∀ u v, l0 = [.iface u v] → Value.okWide Tryz.prog W .any 0 u v := fun u v e => by
  subst e
  exact (hrows 1 0 (by simp [MemPlace.row])).2 u v (by simpa using World.var?_cell hg0 hv0 0)
 have ok1 : ∀ u v, l1 = [.iface u v] → Value.okWide Tryz.prog W .any 0 u v := fun u v e => by
  subst e
  exact (hrows 2 0 (by simp [MemPlace.row])).2 u v (by simpa using World.var?_cell hg1 hv1 0)
 have ok2 : ∀ u v, l2 = [.iface u v] → Value.okWide Tryz.prog W .any 0 u v := fun u v e => by
  subst e
  exact (hrows 3 0 (by simp [MemPlace.row])).2 u v (by simpa using World.var?_cell hg2 hv2 0)
 obtain ⟨a0, s0, rfl, hc0, hs0, hz0, rfl⟩ := errorString_of_trod Tryz.underlying99 rowE Tryz.underlying391 Tryz.underlying412 rfl rfl uStr cellsE cellsS hd0 ok0
 obtain ⟨a1, s1, rfl, hc1, hs1, hz1, rfl⟩ := errorString_of_trod Tryz.underlying99 rowE Tryz.underlying391 Tryz.underlying412 rfl rfl uStr cellsE cellsS hd1 ok1
 obtain ⟨a2, s2, rfl, hc2, hs2, hz2, rfl⟩ := errorString_of_trod Tryz.underlying99 rowE Tryz.underlying391 Tryz.underlying412 rfl rfl uStr cellsE cellsS hd2 ok2
 obtain ⟨c0, t0, hb0⟩ := (hrows a0.block a0.off (by simp [MemPlace.row])).1
 obtain ⟨c1, t1, hb1⟩ := (hrows a1.block a1.off (by simp [MemPlace.row])).1
 obtain ⟨c2, t2, hb2⟩ := (hrows a2.block a2.off (by simp [MemPlace.row])).1
 refine ⟨a1, a0, a2, ⟨by simpa using World.var?_cell hg1 hv1 0, by simpa using World.var?_cell hg0 hv0 0, by simpa using World.var?_cell hg2 hv2 0, ⟨_, _, hb1⟩, ⟨_, _, hb0⟩, ⟨_, _, hb2⟩, ?_, ?_, ?_⟩, hv1, hv0, hv2⟩
 ·rintro rfl
  simp [MemPlace.row] at hnd
 ·rintro rfl
  simp [MemPlace.row] at hnd
 ·rintro rfl
  simp [MemPlace.row] at hnd
theorem laidVars_take {P : Program} {w : World} {r : List (String × DataW Unit)} : ∀ {l : List (String × DataW Unit)} {ps : List MemPlace}, DataW.LaidVars P w (l ++ r) ps → ∃ qs rs, DataW.LaidVars P w l qs ∧ ps = qs ++ rs
 | [], ps, h => ⟨[], ps, rfl, rfl⟩
 | (n, d) :: l, ps, h => by
  obtain ⟨g, t, cs, fuel, p, q, h1, h2, h3, h4, h5, e⟩ := h
  obtain ⟨qs, rs, k1, k2⟩ := laidVars_take h5
  exact ⟨_, rs, ⟨g, t, cs, fuel, p, qs, h1, h2, h3, h4, k1, rfl⟩, by rw [e, k2]; simp⟩
theorem laidMet_take {P : Program} {w : World} {l r : List (String × DataW Unit)} (h : laidMet P (l ++ r) w) : laidMet P l w := by
 obtain ⟨ps, h1, h2, h3⟩ := h
 obtain ⟨qs, rs, k1, rfl⟩ := laidVars_take h1
 exact ⟨qs, k1, (List.nodup_append.1 h2).1, fun b off hm => h3 b off (List.mem_append_left _ hm)⟩
set_option maxRecDepth 100000
theorem list6i {α : Type} {l : List α} (h : l.length = 6) : ∃ a b c d e f, l = [a, b, c, d, e, f] := by
 match l, h with
 | [a, b, c, d, e, f], _ => exact ⟨a, b, c, d, e, f, rfl⟩
section
variable {H : Type} {enc : TypeId × Value → H} {w : World} {base : Nat} {held : Bool} {fuel : Nat} {x : DataW H × List MemPlace}
theorem open_lreqF {v : Value} {d : DataW H} {ps : List MemPlace} {r : Reach} {b0 : Nat} (hv : Value.okWide Tryz.prog w r b0 51 v) (h : DataW.Trod enc Tryz.prog w base (fun _ => true) held 51 v d ps) :
  ∃ cl us lv nw A n c xs A' n' c' ys, v = .agg ⟨[.string cl, .string us, .int .i64 lv, .int .i64 nw, .slice A n c, .slice A' n' c']⟩ ∧ cl.size ≤ 9223372036854775807 ∧ us.size ≤ 9223372036854775807 ∧ Strs w A n c xs ∧ Strs w A' n' c' ys ∧ fits lv ∧ fits nw := by
 obtain ⟨cs, rfl, hl⟩ := okWide_struct Tryz.underlying51 hv
 obtain ⟨fuel, hf⟩ := h
 obtain ⟨xs, m, _, _, _, hlen, hfs⟩ := DataW.trod_struct Tryz.underlying51 hf
 rw [show Tryz.prog.cellsOf 51 = 6 by kernel_rfl] at hl
 obtain ⟨l⟩ := cs
 obtain ⟨c0, c1, c2, c3, c4, c5, rfl⟩ := list6i (by simpa using hl)
 obtain ⟨x0, h0⟩ := fldAtM hlen hfs 0 _ rfl
 obtain ⟨x1, h1⟩ := fldAtM hlen hfs 1 _ rfl
 obtain ⟨x2, h2⟩ := fldAtM hlen hfs 2 _ rfl
 obtain ⟨x3, h3⟩ := fldAtM hlen hfs 3 _ rfl
 obtain ⟨x4, h4⟩ := fldAtM hlen hfs 4 _ rfl
 obtain ⟨x5, h5⟩ := fldAtM hlen hfs 5 _ rfl
 obtain ⟨s0, g0, _, k0⟩ := DataW.trod_string uStr h0
 obtain ⟨s1, g1, _, k1⟩ := DataW.trod_string uStr h1
 obtain ⟨z2, g2, _, w2⟩ := DataW.trod_int uI64 h2
 obtain ⟨z3, g3, _, w3⟩ := DataW.trod_int uI64 h3
 obtain ⟨A4, n4, d4, q4, g4, k4⟩ := strs_of_cellsM h4
 obtain ⟨A5, n5, d5, q5, g5, k5⟩ := strs_of_cellsM h5
 cases g0; cases g1; cases g2; cases g3; cases g4; cases g5
 unfold maxLen at k0 k1
 exact ⟨s0, s1, z2, z3, A4, n4, d4, q4, A5, n5, d5, q5, rfl, by omega, by omega, k4, k5, by simp only [Lit.wf, Bool.and_eq_true, decide_eq_true_eq] at w2; exact w2, by simp only [Lit.wf, Bool.and_eq_true, decide_eq_true_eq] at w3; exact w3⟩
end
end Go.Proofs.YtgnjkdkedjljjaaGreatDoor
