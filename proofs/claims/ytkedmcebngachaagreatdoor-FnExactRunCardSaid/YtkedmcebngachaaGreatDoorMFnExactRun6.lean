/- Texts that the law FnExactRun leans on, part 6 of 11: contracts of the functions that it reaches and plain lemmas. Each holds under the conditions that it states. -/
import Derived.Test.YtkedmcebngachaaGreatDoorMFnExactRun5
set_option maxHeartbeats 16000000
set_option linter.unusedVariables false
set_option linter.unusedSimpArgs false
namespace Go.Proofs.YtkedmcebngachaaGreatDoor
open Go.Eng
set_option linter.unusedVariables false
set_option linter.unusedSimpArgs false
def ResM (z o v : Addr) (D : Nat → Prop) (w : World) (R : Int ⊕ PV) (r : Value) : Prop := match R with
 | .inl c => (c = 1 ∨ c = 2 ∨ c = 3) ∧ ∃ (x : VV) (op : Int), r = .tuple ⟨[.agg ⟨vC x⟩, wwV op (sentA z o v c)]⟩
 | .inr p => ∃ x : VV, r = .tuple ⟨[.agg ⟨vC x⟩, .nilIface]⟩ ∧ x.p = p ∧ ValM w x ∧ InD D x.A x.m
def DNew (w0 w : World) (b : Nat) : Prop := w0.heap.size ≤ b ∧ b < w.heap.size
def calcF : List (Int × Int) := [(11, 1), (12, 2), (13, 3), (14, 4), (15, 5)]
theorem calcF_iff (k z : Int) : (k, z) ∈ calcF ↔ 11 ≤ k ∧ k ≤ 15 ∧ z = k - 10 := by
 unfold calcF
 simp only [List.mem_cons, Prod.mk.injEq, List.not_mem_nil, or_false]
 omega
theorem out_R {v r c : Int} (h : OutOf v r c) : (c = 0 ∧ outR v = .inr (numV r)) ∨ (c = 1 ∧ outR v = .inl 1) := by
 unfold outR
 rcases h with ⟨h1, rfl, rfl⟩ | ⟨h1, rfl, rfl⟩
 ·rw [if_pos h1]; exact .inl ⟨rfl, rfl⟩
 ·rw [if_neg h1]; exact .inr ⟨rfl, rfl⟩
theorem calc_R {op a b r c : Int} (h1 : 1 ≤ op) (h5 : op ≤ 5) (h : CalcOf op a b r c) : (c = 0 ∧ calcR op a b = .inr (numV r)) ∨ ((c = 1 ∨ c = 2) ∧ calcR op a b = .inl c) := by
 have fin : ∀ {v : Int}, OutOf v r c → calcR op a b = outR v → (c = 0 ∧ calcR op a b = .inr (numV r)) ∨ ((c = 1 ∨ c = 2) ∧ calcR op a b = .inl c) := fun ho e => by
  rw [e]
  rcases out_R ho with ⟨k1, k2⟩ | ⟨k1, k2⟩
  ·exact .inl ⟨k1, k2⟩
  ·exact .inr ⟨.inl k1, by rw [k2, k1]⟩
 rcases h with ⟨e, ho⟩ | ⟨e, ho⟩ | ⟨e, ho⟩ | ⟨e, hb, hr, hc⟩ | ⟨e, hb, ho⟩ | ⟨e, hb, ho⟩ | ⟨e, _⟩
 ·exact fin ho (by unfold calcR; rw [if_pos e])
 ·exact fin ho (by unfold calcR; rw [if_neg (by omega), if_pos e])
 ·exact fin ho (by unfold calcR; rw [if_neg (by omega), if_neg (by omega), if_pos e])
 ·refine .inr ⟨.inr hc, ?_⟩
  unfold calcR; rw [if_neg (by omega), if_neg (by omega), if_neg (by omega), if_pos hb, hc]
 ·exact fin ho (by unfold calcR; rw [if_neg (by omega), if_neg (by omega), if_neg (by omega), if_neg hb, if_pos e])
 ·exact fin ho (by unfold calcR; rw [if_neg (by omega), if_neg (by omega), if_neg (by omega), if_neg hb, if_neg (by omega)])
 ·omega
def opOK (op : Int) (a b : PV) : Prop := (op = 8 → fits a.n) ∧ (op = 10 → a.xs.length ≤ 64) ∧ (11 ≤ op ∧ op ≤ 15 → fits a.n ∧ fits b.n) ∧ (16 ≤ op ∧ op ≤ 18 ∨ op = 24 → isSet a.xs ∧ isSet b.xs)
theorem union_q {xs ys q : List ByteArray} (hx : isSet xs) (hy : isSet ys) (h : SortOf (xs ++ ys) q) : q = unionS xs ys := h.same (mrg_all hx.2.1 hy.2.1)
theorem inD_none {D : Nat → Prop} {m : Nat} : InD D none m := fun a h => by cases h
theorem inD_own {B e k : Nat} {w : World} {A : Option Addr} {m c : Nat} {xs : List Value} (h : Own B e k w A m c xs) {D : Nat → Prop} (hD : ∀ b, B ≤ b → b < w.heap.size → D b) : InD D A m := fun a ha hm => by
 obtain ⟨g, hg, h1, h2⟩ := h.addr hm
 rw [ha] at hg; cases hg
 exact hD _ h1 h2
theorem numX_m (z : Int) (w : World) : ValM w (numX z) := ⟨⟨rfl, by simp [numX], by simp [numX], ⟨by simp [numX], by simp [numX]⟩, by simp [numX]⟩, by simp [numX, ByteArray.size]⟩
theorem setX_m {w : World} {A : Option Addr} {m c : Nat} {xs : List ByteArray} (h : Strs w A m c xs) : ValM w (setX A m c xs) := ⟨h, by simp [setX, ByteArray.size]⟩
theorem operate_f {w : World} {z o v : Addr} (he : Errs w z o v) (hT : Tab w 5 calcF) {op : Int} (h8 : 8 ≤ op) (h24 : op ≤ 24) {A : Option Addr} {n c : Nat} {vs : List VV} (hcl : Cells w A (vs.flatMap vC)) (hn : vs.length = n) (hn3 : n ≤ 3) {x y : VV} (hvx : vs[0]? = some x) (hvy : 11 ≤ op → vs[1]? = some y) (hmx : ValM w x) (hmy : 11 ≤ op → ValM w y) (hok : opOK op x.p y.p) :
  FC Tryz.prog 179 [.int .i64 op, .slice A n c] w fun r w' => ResM z o v (DNew w w') w' (opR op x.p y.p) r := by
 refine FC.intro (cs := []) Tryz.func179 (by kernel_rfl) fun E R hE hr hR => ?_
 obtain ⟨ms, hu⟩ := uErr
 obtain ⟨aA, hA, hcx⟩ := fl_at vC_len hcl (by omega) hvx
 have hn1 : 1 ≤ n := by have := (List.getElem?_eq_some_iff.1 hvx).1; omega
 have hn2 : 11 ≤ op → 2 ≤ n := fun q => by have := (List.getElem?_eq_some_iff.1 (hvy q)).1; omega
 have hcy : 11 ≤ op → ∀ j u, (vC y)[j]? = some u → w.cell? ((aA.add (1 * 4)).add j) = some u := fun q => by
  obtain ⟨a2, hA2, h2⟩ := fl_at vC_len hcl (by omega) (hvy q)
  rw [hA] at hA2; cases hA2; exact h2
 obtain ⟨⟨kx, nx, tx, xx⟩, Ax, mx, cx⟩ := x
 obtain ⟨⟨ky, ny, ty, xy⟩, Ay, my, cy⟩ := y
 have sx := hmx.1
 have sy := fun q => (hmy q).1
 simp only at sx sy hok
 obtain ⟨ok8, ok10, okA, okS⟩ := hok
 simp only at ok8 ok10 okA okS
 obtain ⟨T, hT0⟩ : ∃ T, T = opR op ⟨kx, nx, tx, xx⟩ ⟨ky, ny, ty, xy⟩ := ⟨_, rfl⟩
 replace hR : R = fun r w' => Ext w w' ∧ ResM z o v (DNew w w') w' T r := by rw [hR, hT0]
 conv => cbv
 refine st_box1 hr rfl fun q2 w1 hx1 h20 => ?_
 have h2 := h20 _ (n1_ _)
 have f20 := (bx_form h2).2.1
 clear h20
 conv => cbv
 refine st_alloc hr tIV rfl fun q4 w2 hx2 h40 => ?_
 have h4 := h40 _ hx1.size
 have f40 := (bx_form (h40 _ (n1_ _))).1
 replace h2 := h2.bel hx2
 have hx0 := hx1.trans hx2
 clear h40 hx1 hx2
 have hs0 := hx0.size
 have f2 := bx_form h2
 have f4 := bx_form h4
 have hc2 : w2.cell? q2 = some (.int .i64 op) := by have := h2.at 0 (.int .i64 op) rfl; rwa [add_zero] at this
 have finT : ∀ (b : Bool) (w' : World), Ext w w' → T = .inr (truthV b) → R (.tuple ⟨[.agg ⟨vC (trV b)⟩, .nilIface]⟩) w' := fun b w' hx e => by
  rw [hR, e]; exact ⟨hx, trV b, rfl, rfl, trV_m b w', inD_none⟩
 have finN : ∀ (i : Int) (w' : World), Ext w w' → T = .inr (numV i) → R (.tuple ⟨[.agg ⟨vC (numX i)⟩, .nilIface]⟩) w' := fun i w' hx e => by
  rw [hR, e]; exact ⟨hx, numX i, rfl, rfl, numX_m i w', inD_none⟩
 have finS : ∀ (A : Option Addr) (m c : Nat) (xs : List ByteArray) (w5 w' : World) (B : Nat), Ext w w' → T = .inr (setV xs) → Strs w5 A m c xs → Own B 9 1 w5 A m c (xs.map .string) → Wr (some q4) w5 w' → w2.heap.size ≤ B → R (.tuple ⟨[.agg ⟨vC (setX A m c xs)⟩, .nilIface]⟩) w' := fun A m c xs w5 w' B hx e hs ho hw hB => by
  have ho9 := ho.wr hw (own_low ho (by omega) f4.2.2).1
  rw [hR, e]; exact ⟨hx, setX A m c xs, rfl, rfl, setX_m (ho9.strs hs.5), inD_own ho9 fun b h1 h2 => ⟨by omega, h2⟩⟩
 have finE : ∀ (c : Int) (x : VV) (op' : Int) (w' : World), Ext w w' → T = .inl c → (c = 1 ∨ c = 2 ∨ c = 3) → R (.tuple ⟨[.agg ⟨vC x⟩, wwV op' (sentA z o v c)]⟩) w' := fun c x op' w' hx e hc => by
  rw [hR, e]; exact ⟨hx, hc, x, op', rfl⟩
 conv => cbv
 refine st_load hE cInt hc2 ?_
 conv => cbv
 refine br (fun g => ?_) (fun g => ?_)
 ·have g : op = 8 := by simpa [hE.cmp, cmpR] using g
  conv => cbv
  refine st_idx hE sIV hA (by omega) (by omega) fun q hq => ?_
  conv => cbv
  refine st_fld hE fIV1 fun p hp => ?_
  conv => cbv
  refine st_load hE cI64 (by rw [hp, hq]; exact hx0.cell (hcx 1 _ rfl)) ?_
  clear hp hq
  conv => cbv
  refine st_f hr (calc_f (he.ext hx0) 2 0 nx (by unfold fits; omega) (ok8 g) (by omega) (by omega)) fun r w3 hx3' hcr => ?_
  obtain ⟨i, hcr⟩ := hcr
  have hx := hx0.trans hx3'
  replace h4 := h4.bel hx3'
  have hT8 : T = calcR 2 0 nx := by rw [hT0]; unfold opR; rw [if_pos g]
  rcases hcr with ⟨rfl, hco⟩ | ⟨rfl, hco⟩ | ⟨rfl, hco⟩
  ·conv => cbv
   refine st_f hr (number_f (a := o) (hx3'.cell hc2) (.inl rfl)) fun r w5 hx5 hnr => ?_
   rcases hnr with ⟨_, rfl⟩ | ⟨q, _⟩
   rotate_left
   ·cases q
   replace h4 := h4.bel hx5
   have hx6 := hx.trans hx5
   have s6 := hx6.size
   conv => cbv
   refine st_putS hr (by kernel_rfl) h4 (add_zero _).symm (by simp [zV]) (by simp [Value.oneCell']) fun w9 hw9 h49 => ?_
   simp only [zV, a1_, a2_, a3_, a4_, a5_, a6_, a7_] at h49
   have hx9 := hx6.then (hw9.bel h4 (by omega))
   conv => cbv
   refine st_cell hr tIV rfl h49.at ?_
   conv => cbv
   exact finN i w9 hx9 (by rw [hT8]; rcases calc_R (by omega) (by omega) hco with ⟨_, e⟩ | ⟨q, _⟩; exact e; omega)
  ·conv => cbv
   refine st_f hr (number_f (a := o) (hx3'.cell hc2) (.inr rfl)) fun r w5 hx5 hnr => ?_
   rcases hnr with ⟨q, _⟩ | ⟨_, rfl⟩
   ·cases q
   replace h4 := h4.bel hx5
   have hx6 := hx.trans hx5
   have s6 := hx6.size
   conv => cbv
   refine st_putS hr (by kernel_rfl) h4 (add_zero _).symm (by simp [zV]) (by simp [Value.oneCell']) fun w9 hw9 h49 => ?_
   simp only [zV, a1_, a2_, a3_, a4_, a5_, a6_, a7_] at h49
   have hx9 := hx6.then (hw9.bel h4 (by omega))
   conv => cbv
   refine st_cell hr tIV rfl h49.at ?_
   conv => cbv
   exact finE 1 zX op w9 hx9 (by rw [hT8]; rcases calc_R (by omega) (by omega) hco with ⟨q, _⟩ | ⟨_, e⟩; omega; exact e) (by omega)
  ·conv => cbv
   refine st_f hr (number_f (a := z) (hx3'.cell hc2) (.inr rfl)) fun r w5 hx5 hnr => ?_
   rcases hnr with ⟨q, _⟩ | ⟨_, rfl⟩
   ·cases q
   replace h4 := h4.bel hx5
   have hx6 := hx.trans hx5
   have s6 := hx6.size
   conv => cbv
   refine st_putS hr (by kernel_rfl) h4 (add_zero _).symm (by simp [zV]) (by simp [Value.oneCell']) fun w9 hw9 h49 => ?_
   simp only [zV, a1_, a2_, a3_, a4_, a5_, a6_, a7_] at h49
   have hx9 := hx6.then (hw9.bel h4 (by omega))
   conv => cbv
   refine st_cell hr tIV rfl h49.at ?_
   conv => cbv
   exact finE 2 zX op w9 hx9 (by rw [hT8]; rcases calc_R (by omega) (by omega) hco with ⟨q, _⟩ | ⟨_, e⟩; omega; exact e) (by omega)
 have g8 : op ≠ 8 := by simpa [hE.cmp, cmpR] using g
 clear g
 conv => cbv
 refine br (fun g => ?_) (fun g => ?_)
 ·have g : op = 9 := by simpa [hE.cmp, cmpR] using g
  conv => cbv
  refine st_idx hE sIV hA (by omega) (by omega) fun q hq => ?_
  conv => cbv
  refine st_fld hE fIV1 fun p hp => ?_
  conv => cbv
  refine st_load hE cI64 (by rw [hp, hq]; exact hx0.cell (hcx 1 _ rfl)) ?_
  clear hp hq
  conv => cbv
  have hb2 : E.cmp .eql nx 0 = true ↔ nx = 0 := by simp [hE.cmp, cmpR]
  refine st_f hr (truth_f (E.cmp .eql nx 0)) fun r w3 hx3' ev => ?_
  obtain ⟨b, hbe⟩ : ∃ b, b = E.cmp .eql nx 0 := ⟨_, rfl⟩
  rw [← hbe] at hb2 ev
  subst ev
  have hx := hx0.trans hx3'
  replace h4 := h4.bel hx3'
  have sx9 := hx.size
  conv => cbv
  refine st_putS hr (by kernel_rfl) h4 (add_zero _).symm (by simp [zV]) (by simp [Value.oneCell']) fun w9 hw9 h49 => ?_
  simp only [zV, a1_, a2_, a3_, a4_, a5_, a6_, a7_] at h49
  have hx9 := hx.then (hw9.bel h4 (by omega))
  conv => cbv
  refine st_cell hr tIV rfl h49.at ?_
  conv => cbv
  exact finT b w9 hx9 (by rw [hT0]; unfold opR; rw [if_neg g8, if_pos g]; exact congrArg (fun b => Sum.inr (truthV b)) (Bool.eq_iff_iff.2 (by simp [hb2])))
 have g9 : op ≠ 9 := by simpa [hE.cmp, cmpR] using g
 clear g
 conv => cbv
 refine br (fun g => ?_) (fun g => ?_)
 ·have g : op = 10 := by simpa [hE.cmp, cmpR] using g
  conv => cbv
  refine st_idx hE sIV hA (by omega) (by omega) fun q hq => ?_
  conv => cbv
  refine st_fld hE fIV3 fun p hp => ?_
  conv => cbv
  refine st_load hE cStrs (by rw [hp, hq]; exact hx0.cell (hcx 3 _ rfl)) ?_
  clear hp hq
  conv => cbv
  refine st_len hE tStrs fun i hi => ?_
  conv => cbv
  refine st_f hr (number_f (a := o) hc2 (.inl rfl)) fun r w3 hx3' hnr => ?_
  rcases hnr with ⟨_, rfl⟩ | ⟨q, _⟩
  rotate_left
  ·cases q
  have hx := hx0.trans hx3'
  replace h4 := h4.bel hx3'
  have sx9 := hx.size
  conv => cbv
  refine st_putS hr (by kernel_rfl) h4 (add_zero _).symm (by simp [zV]) (by simp [Value.oneCell']) fun w9 hw9 h49 => ?_
  simp only [zV, a1_, a2_, a3_, a4_, a5_, a6_, a7_] at h49
  have hx9 := hx.then (hw9.bel h4 (by omega))
  conv => cbv
  refine st_cell hr tIV rfl h49.at ?_
  conv => cbv
  exact finN i w9 hx9 (by rw [hT0]; unfold opR; rw [if_neg g8, if_neg g9, if_pos g]; simp only; rw [hi, sx.len])
 have g10 : op ≠ 10 := by simpa [hE.cmp, cmpR] using g
 clear g
 conv => cbv
 have arith : 11 ≤ op → op ≤ 15 → ∀ {K : Prop}, K → K := fun _ _ _ h => h
 refine br (fun g => ?_) (fun g => ?_)
 ·have g0 := g
  have g : op = 11 := by simpa [hE.cmp, cmpR] using g
  conv => cbv
  refine br (fun _ => ?_) (fun q => absurd g0 q)
  conv => cbv
  refine draw_z [1, 2, 3, 5, 6, 7, 9, 10, 11] [0, 1, 2, 3, 4, 5, 6, 7, 8, 9, 10, 11] [(12, .c), (13, .p), (14, .p), (15, .c), (16, .p), (17, .p), (18, .w), (19, .w)] hr fol (by kernel_rfl) fun E' hE' w3 hs3 S hS => ?_
  replace h4 := h4.bel hs3.ext
  have hc23 := hs3.ext.cell hc2
  have hx := hx0.trans hs3.ext
  obtain ⟨bm, es, clock, t1, t2, t3, t4, _⟩ := (hT.ext hx).ex
  conv => cbv
  refine st_load hE' cMap t1 ?_
  conv => cbv
  refine st_load hE' cInt hc23 ?_
  conv => cbv
  refine st_tab hE' Tryz.underlying262 uInt (by kernel_rfl) t2 t3 t4 fun co hco => ?_
  have hcop : co = op - 10 := by
   have hin : (op, op - 10) ∈ calcF := (calcF_iff op (op - 10)).2 ⟨by omega, by omega, rfl⟩
   rcases hco with hco | ⟨_, hco⟩
   ·exact ((calcF_iff op co).1 hco).2.2
   ·exact absurd hin (hco _)
  conv => cbv
  refine st_idx hE' sIV hA (by omega) (by omega) fun q hq => ?_
  conv => cbv
  refine st_fld hE' fIV1 fun p hp => ?_
  conv => cbv
  refine st_load hE' cI64 (by rw [hp, hq]; exact hx.cell (hcx 1 _ rfl)) ?_
  clear hp hq
  conv => cbv
  refine st_idx hE' sIV hA (by omega) (by omega) fun q hq => ?_
  conv => cbv
  refine st_fld hE' fIV1 fun p hp => ?_
  conv => cbv
  refine st_load hE' cI64 (by rw [hp, hq]; exact hx.cell (hcy (by omega) 1 _ rfl)) ?_
  clear hp hq
  conv => cbv
  have okn := okA ⟨by omega, by omega⟩
  refine st_f hr (calc_f (he.ext hx) co nx ny okn.1 okn.2 (by omega) (by omega)) fun r w4 hx4 hcr => ?_
  obtain ⟨i, hcr⟩ := hcr
  have hx34 := hx.trans hx4
  replace h4 := h4.bel hx4
  have hT8 : T = calcR co nx ny := by rw [hT0, hcop]; unfold opR; rw [if_neg g8, if_neg g9, if_neg g10, if_pos ⟨by omega, by omega⟩]
  refine ⟨hS _ hx4, ?_⟩
  rcases hcr with ⟨rfl, hco2⟩ | ⟨rfl, hco2⟩ | ⟨rfl, hco2⟩
  ·conv => cbv
   refine st_f hr (number_f (a := o) ((hs3.ext.trans hx4).cell hc2) (.inl rfl)) fun r w5 hx5 hnr => ?_
   rcases hnr with ⟨_, rfl⟩ | ⟨q, _⟩
   rotate_left
   ·cases q
   replace h4 := h4.bel hx5
   have hx6 := hx34.trans hx5
   have s6 := hx6.size
   refine ⟨hS _ (hx4.trans hx5), ?_⟩
   conv => cbv
   refine st_putS hr (by kernel_rfl) h4 (add_zero _).symm (by simp [zV]) (by simp [Value.oneCell']) fun w9 hw9 h49 => ?_
   simp only [zV, a1_, a2_, a3_, a4_, a5_, a6_, a7_] at h49
   have hx9 := hx6.then (hw9.bel h4 (by omega))
   conv => cbv
   refine st_cell hr tIV rfl h49.at ?_
   conv => cbv
   exact finN i w9 hx9 (by rw [hT8]; rcases calc_R (by omega) (by omega) hco2 with ⟨_, e⟩ | ⟨q, _⟩; exact e; omega)
  ·conv => cbv
   refine st_f hr (number_f (a := o) ((hs3.ext.trans hx4).cell hc2) (.inr rfl)) fun r w5 hx5 hnr => ?_
   rcases hnr with ⟨q, _⟩ | ⟨_, rfl⟩
   ·cases q
   replace h4 := h4.bel hx5
   have hx6 := hx34.trans hx5
   have s6 := hx6.size
   refine ⟨hS _ (hx4.trans hx5), ?_⟩
   conv => cbv
   refine st_putS hr (by kernel_rfl) h4 (add_zero _).symm (by simp [zV]) (by simp [Value.oneCell']) fun w9 hw9 h49 => ?_
   simp only [zV, a1_, a2_, a3_, a4_, a5_, a6_, a7_] at h49
   have hx9 := hx6.then (hw9.bel h4 (by omega))
   conv => cbv
   refine st_cell hr tIV rfl h49.at ?_
   conv => cbv
   exact finE 1 zX op w9 hx9 (by rw [hT8]; rcases calc_R (by omega) (by omega) hco2 with ⟨q, _⟩ | ⟨_, e⟩; omega; exact e) (by omega)
  ·conv => cbv
   refine st_f hr (number_f (a := z) ((hs3.ext.trans hx4).cell hc2) (.inr rfl)) fun r w5 hx5 hnr => ?_
   rcases hnr with ⟨q, _⟩ | ⟨_, rfl⟩
   ·cases q
   replace h4 := h4.bel hx5
   have hx6 := hx34.trans hx5
   have s6 := hx6.size
   refine ⟨hS _ (hx4.trans hx5), ?_⟩
   conv => cbv
   refine st_putS hr (by kernel_rfl) h4 (add_zero _).symm (by simp [zV]) (by simp [Value.oneCell']) fun w9 hw9 h49 => ?_
   simp only [zV, a1_, a2_, a3_, a4_, a5_, a6_, a7_] at h49
   have hx9 := hx6.then (hw9.bel h4 (by omega))
   conv => cbv
   refine st_cell hr tIV rfl h49.at ?_
   conv => cbv
   exact finE 2 zX op w9 hx9 (by rw [hT8]; rcases calc_R (by omega) (by omega) hco2 with ⟨q, _⟩ | ⟨_, e⟩; omega; exact e) (by omega)
 have g11 : op ≠ 11 := by simpa [hE.cmp, cmpR] using g
 clear g
 conv => cbv
 refine br (fun g => ?_) (fun g => ?_)
 ·have g0 := g
  have g : op = 12 := by simpa [hE.cmp, cmpR] using g
  conv => cbv
  refine br (fun _ => ?_) (fun q => absurd g0 q)
  conv => cbv
  refine draw_z [1, 2, 3, 5, 6, 7, 9, 10, 11] [0, 1, 2, 3, 4, 5, 6, 7, 8, 9, 10, 11] [(12, .c), (13, .p), (14, .p), (15, .c), (16, .p), (17, .p), (18, .w), (19, .w)] hr fol (by kernel_rfl) fun E' hE' w3 hs3 S hS => ?_
  replace h4 := h4.bel hs3.ext
  have hc23 := hs3.ext.cell hc2
  have hx := hx0.trans hs3.ext
  obtain ⟨bm, es, clock, t1, t2, t3, t4, _⟩ := (hT.ext hx).ex
  conv => cbv
  refine st_load hE' cMap t1 ?_
  conv => cbv
  refine st_load hE' cInt hc23 ?_
  conv => cbv
  refine st_tab hE' Tryz.underlying262 uInt (by kernel_rfl) t2 t3 t4 fun co hco => ?_
  have hcop : co = op - 10 := by
   have hin : (op, op - 10) ∈ calcF := (calcF_iff op (op - 10)).2 ⟨by omega, by omega, rfl⟩
   rcases hco with hco | ⟨_, hco⟩
   ·exact ((calcF_iff op co).1 hco).2.2
   ·exact absurd hin (hco _)
  conv => cbv
  refine st_idx hE' sIV hA (by omega) (by omega) fun q hq => ?_
  conv => cbv
  refine st_fld hE' fIV1 fun p hp => ?_
  conv => cbv
  refine st_load hE' cI64 (by rw [hp, hq]; exact hx.cell (hcx 1 _ rfl)) ?_
  clear hp hq
  conv => cbv
  refine st_idx hE' sIV hA (by omega) (by omega) fun q hq => ?_
  conv => cbv
  refine st_fld hE' fIV1 fun p hp => ?_
  conv => cbv
  refine st_load hE' cI64 (by rw [hp, hq]; exact hx.cell (hcy (by omega) 1 _ rfl)) ?_
  clear hp hq
  conv => cbv
  have okn := okA ⟨by omega, by omega⟩
  refine st_f hr (calc_f (he.ext hx) co nx ny okn.1 okn.2 (by omega) (by omega)) fun r w4 hx4 hcr => ?_
  obtain ⟨i, hcr⟩ := hcr
  have hx34 := hx.trans hx4
  replace h4 := h4.bel hx4
  have hT8 : T = calcR co nx ny := by rw [hT0, hcop]; unfold opR; rw [if_neg g8, if_neg g9, if_neg g10, if_pos ⟨by omega, by omega⟩]
  refine ⟨hS _ hx4, ?_⟩
  rcases hcr with ⟨rfl, hco2⟩ | ⟨rfl, hco2⟩ | ⟨rfl, hco2⟩
  ·conv => cbv
   refine st_f hr (number_f (a := o) ((hs3.ext.trans hx4).cell hc2) (.inl rfl)) fun r w5 hx5 hnr => ?_
   rcases hnr with ⟨_, rfl⟩ | ⟨q, _⟩
   rotate_left
   ·cases q
   replace h4 := h4.bel hx5
   have hx6 := hx34.trans hx5
   have s6 := hx6.size
   refine ⟨hS _ (hx4.trans hx5), ?_⟩
   conv => cbv
   refine st_putS hr (by kernel_rfl) h4 (add_zero _).symm (by simp [zV]) (by simp [Value.oneCell']) fun w9 hw9 h49 => ?_
   simp only [zV, a1_, a2_, a3_, a4_, a5_, a6_, a7_] at h49
   have hx9 := hx6.then (hw9.bel h4 (by omega))
   conv => cbv
   refine st_cell hr tIV rfl h49.at ?_
   conv => cbv
   exact finN i w9 hx9 (by rw [hT8]; rcases calc_R (by omega) (by omega) hco2 with ⟨_, e⟩ | ⟨q, _⟩; exact e; omega)
  ·conv => cbv
   refine st_f hr (number_f (a := o) ((hs3.ext.trans hx4).cell hc2) (.inr rfl)) fun r w5 hx5 hnr => ?_
   rcases hnr with ⟨q, _⟩ | ⟨_, rfl⟩
   ·cases q
   replace h4 := h4.bel hx5
   have hx6 := hx34.trans hx5
   have s6 := hx6.size
   refine ⟨hS _ (hx4.trans hx5), ?_⟩
   conv => cbv
   refine st_putS hr (by kernel_rfl) h4 (add_zero _).symm (by simp [zV]) (by simp [Value.oneCell']) fun w9 hw9 h49 => ?_
   simp only [zV, a1_, a2_, a3_, a4_, a5_, a6_, a7_] at h49
   have hx9 := hx6.then (hw9.bel h4 (by omega))
   conv => cbv
   refine st_cell hr tIV rfl h49.at ?_
   conv => cbv
   exact finE 1 zX op w9 hx9 (by rw [hT8]; rcases calc_R (by omega) (by omega) hco2 with ⟨q, _⟩ | ⟨_, e⟩; omega; exact e) (by omega)
  ·conv => cbv
   refine st_f hr (number_f (a := z) ((hs3.ext.trans hx4).cell hc2) (.inr rfl)) fun r w5 hx5 hnr => ?_
   rcases hnr with ⟨q, _⟩ | ⟨_, rfl⟩
   ·cases q
   replace h4 := h4.bel hx5
   have hx6 := hx34.trans hx5
   have s6 := hx6.size
   refine ⟨hS _ (hx4.trans hx5), ?_⟩
   conv => cbv
   refine st_putS hr (by kernel_rfl) h4 (add_zero _).symm (by simp [zV]) (by simp [Value.oneCell']) fun w9 hw9 h49 => ?_
   simp only [zV, a1_, a2_, a3_, a4_, a5_, a6_, a7_] at h49
   have hx9 := hx6.then (hw9.bel h4 (by omega))
   conv => cbv
   refine st_cell hr tIV rfl h49.at ?_
   conv => cbv
   exact finE 2 zX op w9 hx9 (by rw [hT8]; rcases calc_R (by omega) (by omega) hco2 with ⟨q, _⟩ | ⟨_, e⟩; omega; exact e) (by omega)
 have g12 : op ≠ 12 := by simpa [hE.cmp, cmpR] using g
 clear g
 conv => cbv
 refine br (fun g => ?_) (fun g => ?_)
 ·have g0 := g
  have g : op = 13 := by simpa [hE.cmp, cmpR] using g
  conv => cbv
  refine br (fun _ => ?_) (fun q => absurd g0 q)
  conv => cbv
  refine draw_z [1, 2, 3, 5, 6, 7, 9, 10, 11] [0, 1, 2, 3, 4, 5, 6, 7, 8, 9, 10, 11] [(12, .c), (13, .p), (14, .p), (15, .c), (16, .p), (17, .p), (18, .w), (19, .w)] hr fol (by kernel_rfl) fun E' hE' w3 hs3 S hS => ?_
  replace h4 := h4.bel hs3.ext
  have hc23 := hs3.ext.cell hc2
  have hx := hx0.trans hs3.ext
  obtain ⟨bm, es, clock, t1, t2, t3, t4, _⟩ := (hT.ext hx).ex
  conv => cbv
  refine st_load hE' cMap t1 ?_
  conv => cbv
  refine st_load hE' cInt hc23 ?_
  conv => cbv
  refine st_tab hE' Tryz.underlying262 uInt (by kernel_rfl) t2 t3 t4 fun co hco => ?_
  have hcop : co = op - 10 := by
   have hin : (op, op - 10) ∈ calcF := (calcF_iff op (op - 10)).2 ⟨by omega, by omega, rfl⟩
   rcases hco with hco | ⟨_, hco⟩
   ·exact ((calcF_iff op co).1 hco).2.2
   ·exact absurd hin (hco _)
  conv => cbv
  refine st_idx hE' sIV hA (by omega) (by omega) fun q hq => ?_
  conv => cbv
  refine st_fld hE' fIV1 fun p hp => ?_
  conv => cbv
  refine st_load hE' cI64 (by rw [hp, hq]; exact hx.cell (hcx 1 _ rfl)) ?_
  clear hp hq
  conv => cbv
  refine st_idx hE' sIV hA (by omega) (by omega) fun q hq => ?_
  conv => cbv
  refine st_fld hE' fIV1 fun p hp => ?_
  conv => cbv
  refine st_load hE' cI64 (by rw [hp, hq]; exact hx.cell (hcy (by omega) 1 _ rfl)) ?_
  clear hp hq
  conv => cbv
  have okn := okA ⟨by omega, by omega⟩
  refine st_f hr (calc_f (he.ext hx) co nx ny okn.1 okn.2 (by omega) (by omega)) fun r w4 hx4 hcr => ?_
  obtain ⟨i, hcr⟩ := hcr
  have hx34 := hx.trans hx4
  replace h4 := h4.bel hx4
  have hT8 : T = calcR co nx ny := by rw [hT0, hcop]; unfold opR; rw [if_neg g8, if_neg g9, if_neg g10, if_pos ⟨by omega, by omega⟩]
  refine ⟨hS _ hx4, ?_⟩
  rcases hcr with ⟨rfl, hco2⟩ | ⟨rfl, hco2⟩ | ⟨rfl, hco2⟩
  ·conv => cbv
   refine st_f hr (number_f (a := o) ((hs3.ext.trans hx4).cell hc2) (.inl rfl)) fun r w5 hx5 hnr => ?_
   rcases hnr with ⟨_, rfl⟩ | ⟨q, _⟩
   rotate_left
   ·cases q
   replace h4 := h4.bel hx5
   have hx6 := hx34.trans hx5
   have s6 := hx6.size
   refine ⟨hS _ (hx4.trans hx5), ?_⟩
   conv => cbv
   refine st_putS hr (by kernel_rfl) h4 (add_zero _).symm (by simp [zV]) (by simp [Value.oneCell']) fun w9 hw9 h49 => ?_
   simp only [zV, a1_, a2_, a3_, a4_, a5_, a6_, a7_] at h49
   have hx9 := hx6.then (hw9.bel h4 (by omega))
   conv => cbv
   refine st_cell hr tIV rfl h49.at ?_
   conv => cbv
   exact finN i w9 hx9 (by rw [hT8]; rcases calc_R (by omega) (by omega) hco2 with ⟨_, e⟩ | ⟨q, _⟩; exact e; omega)
  ·conv => cbv
   refine st_f hr (number_f (a := o) ((hs3.ext.trans hx4).cell hc2) (.inr rfl)) fun r w5 hx5 hnr => ?_
   rcases hnr with ⟨q, _⟩ | ⟨_, rfl⟩
   ·cases q
   replace h4 := h4.bel hx5
   have hx6 := hx34.trans hx5
   have s6 := hx6.size
   refine ⟨hS _ (hx4.trans hx5), ?_⟩
   conv => cbv
   refine st_putS hr (by kernel_rfl) h4 (add_zero _).symm (by simp [zV]) (by simp [Value.oneCell']) fun w9 hw9 h49 => ?_
   simp only [zV, a1_, a2_, a3_, a4_, a5_, a6_, a7_] at h49
   have hx9 := hx6.then (hw9.bel h4 (by omega))
   conv => cbv
   refine st_cell hr tIV rfl h49.at ?_
   conv => cbv
   exact finE 1 zX op w9 hx9 (by rw [hT8]; rcases calc_R (by omega) (by omega) hco2 with ⟨q, _⟩ | ⟨_, e⟩; omega; exact e) (by omega)
  ·conv => cbv
   refine st_f hr (number_f (a := z) ((hs3.ext.trans hx4).cell hc2) (.inr rfl)) fun r w5 hx5 hnr => ?_
   rcases hnr with ⟨q, _⟩ | ⟨_, rfl⟩
   ·cases q
   replace h4 := h4.bel hx5
   have hx6 := hx34.trans hx5
   have s6 := hx6.size
   refine ⟨hS _ (hx4.trans hx5), ?_⟩
   conv => cbv
   refine st_putS hr (by kernel_rfl) h4 (add_zero _).symm (by simp [zV]) (by simp [Value.oneCell']) fun w9 hw9 h49 => ?_
   simp only [zV, a1_, a2_, a3_, a4_, a5_, a6_, a7_] at h49
   have hx9 := hx6.then (hw9.bel h4 (by omega))
   conv => cbv
   refine st_cell hr tIV rfl h49.at ?_
   conv => cbv
   exact finE 2 zX op w9 hx9 (by rw [hT8]; rcases calc_R (by omega) (by omega) hco2 with ⟨q, _⟩ | ⟨_, e⟩; omega; exact e) (by omega)
 have g13 : op ≠ 13 := by simpa [hE.cmp, cmpR] using g
 clear g
 conv => cbv
 refine br (fun g => ?_) (fun g => ?_)
 ·have g0 := g
  have g : op = 14 := by simpa [hE.cmp, cmpR] using g
  conv => cbv
  refine br (fun _ => ?_) (fun q => absurd g0 q)
  conv => cbv
  refine draw_z [1, 2, 3, 5, 6, 7, 9, 10, 11] [0, 1, 2, 3, 4, 5, 6, 7, 8, 9, 10, 11] [(12, .c), (13, .p), (14, .p), (15, .c), (16, .p), (17, .p), (18, .w), (19, .w)] hr fol (by kernel_rfl) fun E' hE' w3 hs3 S hS => ?_
  replace h4 := h4.bel hs3.ext
  have hc23 := hs3.ext.cell hc2
  have hx := hx0.trans hs3.ext
  obtain ⟨bm, es, clock, t1, t2, t3, t4, _⟩ := (hT.ext hx).ex
  conv => cbv
  refine st_load hE' cMap t1 ?_
  conv => cbv
  refine st_load hE' cInt hc23 ?_
  conv => cbv
  refine st_tab hE' Tryz.underlying262 uInt (by kernel_rfl) t2 t3 t4 fun co hco => ?_
  have hcop : co = op - 10 := by
   have hin : (op, op - 10) ∈ calcF := (calcF_iff op (op - 10)).2 ⟨by omega, by omega, rfl⟩
   rcases hco with hco | ⟨_, hco⟩
   ·exact ((calcF_iff op co).1 hco).2.2
   ·exact absurd hin (hco _)
  conv => cbv
  refine st_idx hE' sIV hA (by omega) (by omega) fun q hq => ?_
  conv => cbv
  refine st_fld hE' fIV1 fun p hp => ?_
  conv => cbv
  refine st_load hE' cI64 (by rw [hp, hq]; exact hx.cell (hcx 1 _ rfl)) ?_
  clear hp hq
  conv => cbv
  refine st_idx hE' sIV hA (by omega) (by omega) fun q hq => ?_
  conv => cbv
  refine st_fld hE' fIV1 fun p hp => ?_
  conv => cbv
  refine st_load hE' cI64 (by rw [hp, hq]; exact hx.cell (hcy (by omega) 1 _ rfl)) ?_
  clear hp hq
  conv => cbv
  have okn := okA ⟨by omega, by omega⟩
  refine st_f hr (calc_f (he.ext hx) co nx ny okn.1 okn.2 (by omega) (by omega)) fun r w4 hx4 hcr => ?_
  obtain ⟨i, hcr⟩ := hcr
  have hx34 := hx.trans hx4
  replace h4 := h4.bel hx4
  have hT8 : T = calcR co nx ny := by rw [hT0, hcop]; unfold opR; rw [if_neg g8, if_neg g9, if_neg g10, if_pos ⟨by omega, by omega⟩]
  refine ⟨hS _ hx4, ?_⟩
  rcases hcr with ⟨rfl, hco2⟩ | ⟨rfl, hco2⟩ | ⟨rfl, hco2⟩
  ·conv => cbv
   refine st_f hr (number_f (a := o) ((hs3.ext.trans hx4).cell hc2) (.inl rfl)) fun r w5 hx5 hnr => ?_
   rcases hnr with ⟨_, rfl⟩ | ⟨q, _⟩
   rotate_left
   ·cases q
   replace h4 := h4.bel hx5
   have hx6 := hx34.trans hx5
   have s6 := hx6.size
   refine ⟨hS _ (hx4.trans hx5), ?_⟩
   conv => cbv
   refine st_putS hr (by kernel_rfl) h4 (add_zero _).symm (by simp [zV]) (by simp [Value.oneCell']) fun w9 hw9 h49 => ?_
   simp only [zV, a1_, a2_, a3_, a4_, a5_, a6_, a7_] at h49
   have hx9 := hx6.then (hw9.bel h4 (by omega))
   conv => cbv
   refine st_cell hr tIV rfl h49.at ?_
   conv => cbv
   exact finN i w9 hx9 (by rw [hT8]; rcases calc_R (by omega) (by omega) hco2 with ⟨_, e⟩ | ⟨q, _⟩; exact e; omega)
  ·conv => cbv
   refine st_f hr (number_f (a := o) ((hs3.ext.trans hx4).cell hc2) (.inr rfl)) fun r w5 hx5 hnr => ?_
   rcases hnr with ⟨q, _⟩ | ⟨_, rfl⟩
   ·cases q
   replace h4 := h4.bel hx5
   have hx6 := hx34.trans hx5
   have s6 := hx6.size
   refine ⟨hS _ (hx4.trans hx5), ?_⟩
   conv => cbv
   refine st_putS hr (by kernel_rfl) h4 (add_zero _).symm (by simp [zV]) (by simp [Value.oneCell']) fun w9 hw9 h49 => ?_
   simp only [zV, a1_, a2_, a3_, a4_, a5_, a6_, a7_] at h49
   have hx9 := hx6.then (hw9.bel h4 (by omega))
   conv => cbv
   refine st_cell hr tIV rfl h49.at ?_
   conv => cbv
   exact finE 1 zX op w9 hx9 (by rw [hT8]; rcases calc_R (by omega) (by omega) hco2 with ⟨q, _⟩ | ⟨_, e⟩; omega; exact e) (by omega)
  ·conv => cbv
   refine st_f hr (number_f (a := z) ((hs3.ext.trans hx4).cell hc2) (.inr rfl)) fun r w5 hx5 hnr => ?_
   rcases hnr with ⟨q, _⟩ | ⟨_, rfl⟩
   ·cases q
   replace h4 := h4.bel hx5
   have hx6 := hx34.trans hx5
   have s6 := hx6.size
   refine ⟨hS _ (hx4.trans hx5), ?_⟩
   conv => cbv
   refine st_putS hr (by kernel_rfl) h4 (add_zero _).symm (by simp [zV]) (by simp [Value.oneCell']) fun w9 hw9 h49 => ?_
   simp only [zV, a1_, a2_, a3_, a4_, a5_, a6_, a7_] at h49
   have hx9 := hx6.then (hw9.bel h4 (by omega))
   conv => cbv
   refine st_cell hr tIV rfl h49.at ?_
   conv => cbv
   exact finE 2 zX op w9 hx9 (by rw [hT8]; rcases calc_R (by omega) (by omega) hco2 with ⟨q, _⟩ | ⟨_, e⟩; omega; exact e) (by omega)
 have g14 : op ≠ 14 := by simpa [hE.cmp, cmpR] using g
 clear g
 conv => cbv
 refine br (fun g => ?_) (fun g => ?_)
 ·have g0 := g
  have g : op = 15 := by simpa [hE.cmp, cmpR] using g
  conv => cbv
  refine draw_z [1, 2, 3, 5, 6, 7, 9, 10, 11] [0, 1, 2, 3, 4, 5, 6, 7, 8, 9, 10, 11] [(12, .c), (13, .p), (14, .p), (15, .c), (16, .p), (17, .p), (18, .w), (19, .w)] hr fol (by kernel_rfl) fun E' hE' w3 hs3 S hS => ?_
  replace h4 := h4.bel hs3.ext
  have hc23 := hs3.ext.cell hc2
  have hx := hx0.trans hs3.ext
  obtain ⟨bm, es, clock, t1, t2, t3, t4, _⟩ := (hT.ext hx).ex
  conv => cbv
  refine st_load hE' cMap t1 ?_
  conv => cbv
  refine st_load hE' cInt hc23 ?_
  conv => cbv
  refine st_tab hE' Tryz.underlying262 uInt (by kernel_rfl) t2 t3 t4 fun co hco => ?_
  have hcop : co = op - 10 := by
   have hin : (op, op - 10) ∈ calcF := (calcF_iff op (op - 10)).2 ⟨by omega, by omega, rfl⟩
   rcases hco with hco | ⟨_, hco⟩
   ·exact ((calcF_iff op co).1 hco).2.2
   ·exact absurd hin (hco _)
  conv => cbv
  refine st_idx hE' sIV hA (by omega) (by omega) fun q hq => ?_
  conv => cbv
  refine st_fld hE' fIV1 fun p hp => ?_
  conv => cbv
  refine st_load hE' cI64 (by rw [hp, hq]; exact hx.cell (hcx 1 _ rfl)) ?_
  clear hp hq
  conv => cbv
  refine st_idx hE' sIV hA (by omega) (by omega) fun q hq => ?_
  conv => cbv
  refine st_fld hE' fIV1 fun p hp => ?_
  conv => cbv
  refine st_load hE' cI64 (by rw [hp, hq]; exact hx.cell (hcy (by omega) 1 _ rfl)) ?_
  clear hp hq
  conv => cbv
  have okn := okA ⟨by omega, by omega⟩
  refine st_f hr (calc_f (he.ext hx) co nx ny okn.1 okn.2 (by omega) (by omega)) fun r w4 hx4 hcr => ?_
  obtain ⟨i, hcr⟩ := hcr
  have hx34 := hx.trans hx4
  replace h4 := h4.bel hx4
  have hT8 : T = calcR co nx ny := by rw [hT0, hcop]; unfold opR; rw [if_neg g8, if_neg g9, if_neg g10, if_pos ⟨by omega, by omega⟩]
  refine ⟨hS _ hx4, ?_⟩
  rcases hcr with ⟨rfl, hco2⟩ | ⟨rfl, hco2⟩ | ⟨rfl, hco2⟩
  ·conv => cbv
   refine st_f hr (number_f (a := o) ((hs3.ext.trans hx4).cell hc2) (.inl rfl)) fun r w5 hx5 hnr => ?_
   rcases hnr with ⟨_, rfl⟩ | ⟨q, _⟩
   rotate_left
   ·cases q
   replace h4 := h4.bel hx5
   have hx6 := hx34.trans hx5
   have s6 := hx6.size
   refine ⟨hS _ (hx4.trans hx5), ?_⟩
   conv => cbv
   refine st_putS hr (by kernel_rfl) h4 (add_zero _).symm (by simp [zV]) (by simp [Value.oneCell']) fun w9 hw9 h49 => ?_
   simp only [zV, a1_, a2_, a3_, a4_, a5_, a6_, a7_] at h49
   have hx9 := hx6.then (hw9.bel h4 (by omega))
   conv => cbv
   refine st_cell hr tIV rfl h49.at ?_
   conv => cbv
   exact finN i w9 hx9 (by rw [hT8]; rcases calc_R (by omega) (by omega) hco2 with ⟨_, e⟩ | ⟨q, _⟩; exact e; omega)
  ·conv => cbv
   refine st_f hr (number_f (a := o) ((hs3.ext.trans hx4).cell hc2) (.inr rfl)) fun r w5 hx5 hnr => ?_
   rcases hnr with ⟨q, _⟩ | ⟨_, rfl⟩
   ·cases q
   replace h4 := h4.bel hx5
   have hx6 := hx34.trans hx5
   have s6 := hx6.size
   refine ⟨hS _ (hx4.trans hx5), ?_⟩
   conv => cbv
   refine st_putS hr (by kernel_rfl) h4 (add_zero _).symm (by simp [zV]) (by simp [Value.oneCell']) fun w9 hw9 h49 => ?_
   simp only [zV, a1_, a2_, a3_, a4_, a5_, a6_, a7_] at h49
   have hx9 := hx6.then (hw9.bel h4 (by omega))
   conv => cbv
   refine st_cell hr tIV rfl h49.at ?_
   conv => cbv
   exact finE 1 zX op w9 hx9 (by rw [hT8]; rcases calc_R (by omega) (by omega) hco2 with ⟨q, _⟩ | ⟨_, e⟩; omega; exact e) (by omega)
  ·conv => cbv
   refine st_f hr (number_f (a := z) ((hs3.ext.trans hx4).cell hc2) (.inr rfl)) fun r w5 hx5 hnr => ?_
   rcases hnr with ⟨q, _⟩ | ⟨_, rfl⟩
   ·cases q
   replace h4 := h4.bel hx5
   have hx6 := hx34.trans hx5
   have s6 := hx6.size
   refine ⟨hS _ (hx4.trans hx5), ?_⟩
   conv => cbv
   refine st_putS hr (by kernel_rfl) h4 (add_zero _).symm (by simp [zV]) (by simp [Value.oneCell']) fun w9 hw9 h49 => ?_
   simp only [zV, a1_, a2_, a3_, a4_, a5_, a6_, a7_] at h49
   have hx9 := hx6.then (hw9.bel h4 (by omega))
   conv => cbv
   refine st_cell hr tIV rfl h49.at ?_
   conv => cbv
   exact finE 2 zX op w9 hx9 (by rw [hT8]; rcases calc_R (by omega) (by omega) hco2 with ⟨q, _⟩ | ⟨_, e⟩; omega; exact e) (by omega)
 have g15 : op ≠ 15 := by simpa [hE.cmp, cmpR] using g
 clear g
 conv => cbv
 refine br (fun g => ?_) (fun g => ?_)
 ·have g : op = 16 := by simpa [hE.cmp, cmpR] using g
  conv => cbv
  have oks := okS (.inl ⟨by omega, by omega⟩)
  refine draw_z [1, 2, 3, 5, 6, 7] [0, 1, 2, 3, 4, 5, 6, 7] [(8, .c), (9, .p), (10, .p), (11, .p), (12, .p), (13, .p)] hr fol (by kernel_rfl) fun E' hE' w3 hs3 S hS => ?_
  replace h4 := h4.bel hs3.ext
  have hc23 := hs3.ext.cell hc2
  have hx := hx0.trans hs3.ext
  conv => cbv
  refine st_idx hE' sIV hA (by omega) (by omega) fun q hq => ?_
  conv => cbv
  refine st_fld hE' fIV3 fun p hp => ?_
  conv => cbv
  refine st_load hE' cStrs (by rw [hp, hq]; exact hx.cell (hcx 3 _ rfl)) ?_
  clear hp hq
  conv => cbv
  refine st_idx hE' sIV hA (by omega) (by omega) fun q hq => ?_
  conv => cbv
  refine st_fld hE' fIV3 fun p hp => ?_
  conv => cbv
  refine st_load hE' cStrs (by rw [hp, hq]; exact hx.cell (hcy (by omega) 3 _ rfl)) ?_
  clear hp hq
  conv => cbv
  have lx := sx.len
  have ly := (sy (by omega)).len
  have l1 := oks.1.2.2
  have l2 := oks.2.2.2
  refine st_f hr (union_f (he.ext hx) (sx.ext hx) ((sy (by omega)).ext hx) oks.1.2.1 oks.2.2.1 (by omega)) fun r w4 hx4 ⟨qq, hso, hor⟩ => ?_
  have hqq := union_q oks.1 oks.2 hso
  have hx34 := hx.trans hx4
  replace h4 := h4.bel hx4
  have hc24 := hx4.cell hc23
  refine ⟨hS _ hx4, ?_⟩
  have hT8 : T = if 64 < (unionS xx xy).length then .inl 3 else .inr (setV (unionS xx xy)) := by
   rw [hT0]; unfold opR; rw [if_neg g8, if_neg g9, if_neg g10, if_neg (by omega), if_pos g]
  rcases hor with ⟨hl, rfl⟩ | ⟨hl, A1, n1, c1, rfl, hst, hown⟩
  ·conv => cbv
   refine st_neSome hE hu ?_
   conv => cbv
   refine draw_s (fun w' => w'.cell? q2 = some (.int .i64 op)) [0, 1, 2, 3, 4] [(5, false), (6, true)] hr fol (by kernel_rfl) (fun w0 hs => by rw [hs.cell]; exact hc24) fun E'' hE'' w5 hs5 => ?_
   replace h4 := h4.bel hs5.ext
   have hx5 := hx34.trans hs5.ext
   have hc25 := hs5.ext.cell hc24
   have s5 := hx5.size
   conv => cbv
   refine sw_bV0 hE'' ?_
   conv => cbv
   refine sw_load hE'' cInt (fun _ h => h) ?_
   conv => cbv
   refine sw_bWw hE'' ?_
   conv => cbv
   refine sw_mk hE'' uWw ?_
   conv => cbv
   refine st_putS hr (by kernel_rfl) h4 (add_zero _).symm (by simp [zV]) (by simp [Value.oneCell']) fun w9 hw9 h49 => ?_
   simp only [zV, a1_, a2_, a3_, a4_, a5_, a6_, a7_] at h49
   have hx9 := hx5.then (hw9.bel h4 (by omega))
   have h29 := (h2.bel ((hs3.ext.trans hx4).trans hs5.ext)).wr hw9 (bx_apart f2.2.2 f4.2.2 (by omega))
   refine ⟨by have := h29.at 0 (.int .i64 op) rfl; rwa [add_zero] at this, ?_⟩
   conv => cbv
   refine st_cell hr tIV rfl h49.at ?_
   conv => cbv
   exact finE 3 zX op w9 hx9 (by rw [hT8, if_pos (by rw [← hqq]; exact hl)]) (.inr (.inr rfl))
  ·conv => cbv
   refine st_neNil hE hu ?_
   conv => cbv
   refine st_f hr (setOf_f (xs := qq)) fun r w5 hx5 ev => ?_
   subst ev
   replace h4 := h4.bel hx5
   have hx6 := hx34.trans hx5
   have s6 := hx6.size
   conv => cbv
   refine st_putS hr (by kernel_rfl) h4 (add_zero _).symm (by simp [zV]) (by simp [Value.oneCell']) fun w9 hw9 h49 => ?_
   simp only [zV, a1_, a2_, a3_, a4_, a5_, a6_, a7_] at h49
   have hx9 := hx6.then (hw9.bel h4 (by omega))
   conv => cbv
   refine st_cell hr tIV rfl h49.at ?_
   conv => cbv
   exact finS A1 n1 c1 qq _ w9 _ hx9 (by rw [hT8, if_neg (by rw [← hqq]; omega), hqq]) (hst.ext hx5) (hown.bel hx5) hw9 hs3.ext.size
 have g16 : op ≠ 16 := by simpa [hE.cmp, cmpR] using g
 clear g
 conv => cbv
 refine br (fun g => ?_) (fun g => ?_)
 ·have g : op = 17 := by simpa [hE.cmp, cmpR] using g
  conv => cbv
  have oks := okS (.inl ⟨by omega, by omega⟩)
  refine draw_t [0, 1, 2, 3, 4, 5, 6, 7, 8] [(9, true), (10, true), (11, false), (12, false)] hr fol (by kernel_rfl) fun E' hE' w3 hs3 S hS => ?_
  replace h4 := h4.bel hs3.ext
  have hx := hx0.trans hs3.ext
  conv => cbv
  refine st_idx hE' sIV hA (by omega) (by omega) fun q hq => ?_
  conv => cbv
  refine st_fld hE' fIV3 fun p hp => ?_
  conv => cbv
  refine st_load hE' cStrs (by rw [hp, hq]; exact hx.cell (hcx 3 _ rfl)) ?_
  clear hp hq
  conv => cbv
  refine st_idx hE' sIV hA (by omega) (by omega) fun q hq => ?_
  conv => cbv
  refine st_fld hE' fIV3 fun p hp => ?_
  conv => cbv
  refine st_load hE' cStrs (by rw [hp, hq]; exact hx.cell (hcy (by omega) 3 _ rfl)) ?_
  clear hp hq
  conv => cbv
  have lx := sx.len
  have ly := (sy (by omega)).len
  have l1 := oks.1.2.2
  have l2 := oks.2.2.2
  refine st_f hr (meet_f (sx.ext hx) ((sy (by omega)).ext hx) oks.1.2.1 oks.2.2.1 (by omega)) fun r w4 hx4 ⟨A1, n1, c1, ev, hst, hown⟩ => ?_
  subst ev
  have hx34 := hx.trans hx4
  replace h4 := h4.bel hx4
  refine ⟨hS _ hx4, ?_⟩
  conv => cbv
  obtain ⟨qq, hqq⟩ : ∃ qq, qq = picked xx xy true := ⟨_, rfl⟩
  rw [← hqq] at hst hown
  refine st_f hr (setOf_f (xs := qq)) fun r w5 hx5 ev => ?_
  subst ev
  replace h4 := h4.bel hx5
  have hx6 := hx34.trans hx5
  have s6 := hx6.size
  refine ⟨hS _ (hx4.trans hx5), ?_⟩
  conv => cbv
  refine st_putS hr (by kernel_rfl) h4 (add_zero _).symm (by simp [zV]) (by simp [Value.oneCell']) fun w9 hw9 h49 => ?_
  simp only [zV, a1_, a2_, a3_, a4_, a5_, a6_, a7_] at h49
  have hx9 := hx6.then (hw9.bel h4 (by omega))
  conv => cbv
  refine st_cell hr tIV rfl h49.at ?_
  conv => cbv
  exact finS A1 n1 c1 qq _ w9 _ hx9 (by rw [hT0, hqq]; unfold opR; rw [if_neg g8, if_neg g9, if_neg g10, if_neg (by omega), if_neg g16, if_pos g]) (hst.ext hx5) (hown.bel hx5) hw9 hs3.ext.size
 have g17 : op ≠ 17 := by simpa [hE.cmp, cmpR] using g
 clear g
 conv => cbv
 refine br (fun g => ?_) (fun g => ?_)
 ·have g : op = 18 := by simpa [hE.cmp, cmpR] using g
  conv => cbv
  have oks := okS (.inl ⟨by omega, by omega⟩)
  refine draw_t [0, 1, 2, 3, 4, 5, 6, 7, 8] [(9, true), (10, true), (11, false), (12, false)] hr fol (by kernel_rfl) fun E' hE' w3 hs3 S hS => ?_
  replace h4 := h4.bel hs3.ext
  have hx := hx0.trans hs3.ext
  conv => cbv
  refine st_idx hE' sIV hA (by omega) (by omega) fun q hq => ?_
  conv => cbv
  refine st_fld hE' fIV3 fun p hp => ?_
  conv => cbv
  refine st_load hE' cStrs (by rw [hp, hq]; exact hx.cell (hcx 3 _ rfl)) ?_
  clear hp hq
  conv => cbv
  refine st_idx hE' sIV hA (by omega) (by omega) fun q hq => ?_
  conv => cbv
  refine st_fld hE' fIV3 fun p hp => ?_
  conv => cbv
  refine st_load hE' cStrs (by rw [hp, hq]; exact hx.cell (hcy (by omega) 3 _ rfl)) ?_
  clear hp hq
  conv => cbv
  have lx := sx.len
  have ly := (sy (by omega)).len
  have l1 := oks.1.2.2
  have l2 := oks.2.2.2
  refine st_f hr (minus_f (sx.ext hx) ((sy (by omega)).ext hx) oks.1.2.1 oks.2.2.1 (by omega)) fun r w4 hx4 ⟨A1, n1, c1, ev, hst, hown⟩ => ?_
  subst ev
  have hx34 := hx.trans hx4
  replace h4 := h4.bel hx4
  refine ⟨hS _ hx4, ?_⟩
  conv => cbv
  obtain ⟨qq, hqq⟩ : ∃ qq, qq = picked xx xy false := ⟨_, rfl⟩
  rw [← hqq] at hst hown
  refine st_f hr (setOf_f (xs := qq)) fun r w5 hx5 ev => ?_
  subst ev
  replace h4 := h4.bel hx5
  have hx6 := hx34.trans hx5
  have s6 := hx6.size
  refine ⟨hS _ (hx4.trans hx5), ?_⟩
  conv => cbv
  refine st_putS hr (by kernel_rfl) h4 (add_zero _).symm (by simp [zV]) (by simp [Value.oneCell']) fun w9 hw9 h49 => ?_
  simp only [zV, a1_, a2_, a3_, a4_, a5_, a6_, a7_] at h49
  have hx9 := hx6.then (hw9.bel h4 (by omega))
  conv => cbv
  refine st_cell hr tIV rfl h49.at ?_
  conv => cbv
  exact finS A1 n1 c1 qq _ w9 _ hx9 (by rw [hT0, hqq]; unfold opR; rw [if_neg g8, if_neg g9, if_neg g10, if_neg (by omega), if_neg g16, if_neg g17, if_pos g]) (hst.ext hx5) (hown.bel hx5) hw9 hs3.ext.size
 have g18 : op ≠ 18 := by simpa [hE.cmp, cmpR] using g
 clear g
 conv => cbv
 refine br (fun g => ?_) (fun g => ?_)
 ·have g : op = 19 := by simpa [hE.cmp, cmpR] using g
  conv => cbv
  refine draw_t [0, 1, 2, 3, 4, 5] [(6, true), (7, true), (8, false), (9, false)] hr fol (by kernel_rfl) fun E' hE' w3 hs3 S hS => ?_
  replace h4 := h4.bel hs3.ext
  have hx := hx0.trans hs3.ext
  conv => cbv
  refine st_idx hE' sIV hA (by omega) (by omega) fun q hq => ?_
  conv => cbv
  refine st_loadS hE' tIV (vs := [.int .i64 kx, .int .i64 nx, .string tx, .slice Ax mx cx]) rfl (by rw [hq]; exact fun j u hu => hx.cell (hcx j u hu)) ?_
  clear hq
  conv => cbv
  refine st_idx hE' sIV hA (by omega) (by omega) fun q hq => ?_
  conv => cbv
  refine st_loadS hE' tIV (vs := [.int .i64 ky, .int .i64 ny, .string ty, .slice Ay my cy]) rfl (by rw [hq]; exact fun j u hu => hx.cell (hcy (by omega) j u hu)) ?_
  clear hq
  conv => cbv
  refine st_f hr (equal_f (a := ⟨⟨kx, nx, tx, xx⟩, Ax, mx, cx⟩) (b := ⟨⟨ky, ny, ty, xy⟩, Ay, my, cy⟩) (hmx.ext hx) ((hmy (by omega)).ext hx)) fun r w4 hx4 ⟨b, ev, hb2⟩ => ?_
  subst ev
  have hx34 := hx.trans hx4
  replace h4 := h4.bel hx4
  refine ⟨hS _ hx4, ?_⟩
  conv => cbv
  refine st_f hr (truth_f b) fun r w5 hx5 ev => ?_
  subst ev
  replace h4 := h4.bel hx5
  have hx6 := hx34.trans hx5
  have s6 := hx6.size
  refine ⟨hS _ (hx4.trans hx5), ?_⟩
  conv => cbv
  refine st_putS hr (by kernel_rfl) h4 (add_zero _).symm (by simp [zV]) (by simp [Value.oneCell']) fun w9 hw9 h49 => ?_
  simp only [zV, a1_, a2_, a3_, a4_, a5_, a6_, a7_] at h49
  have hx9 := hx6.then (hw9.bel h4 (by omega))
  conv => cbv
  refine st_cell hr tIV rfl h49.at ?_
  conv => cbv
  exact finT b w9 hx9 (by rw [hT0]; unfold opR; rw [if_neg g8, if_neg g9, if_neg g10, if_neg (by omega), if_neg g16, if_neg g17, if_neg g18, if_pos g]; exact congrArg (fun b => Sum.inr (truthV b)) (Bool.eq_iff_iff.2 (by rw [hb2]; simp)))
 have g19 : op ≠ 19 := by simpa [hE.cmp, cmpR] using g
 clear g
 conv => cbv
 refine br (fun g => ?_) (fun g => ?_)
 ·have g : op = 20 := by simpa [hE.cmp, cmpR] using g
  conv => cbv
  refine draw_t [0, 1, 2, 3, 4, 5] [(6, true), (7, true), (8, true), (9, false), (10, false)] hr fol (by kernel_rfl) fun E' hE' w3 hs3 S hS => ?_
  replace h4 := h4.bel hs3.ext
  have hx := hx0.trans hs3.ext
  conv => cbv
  refine st_idx hE' sIV hA (by omega) (by omega) fun q hq => ?_
  conv => cbv
  refine st_loadS hE' tIV (vs := [.int .i64 kx, .int .i64 nx, .string tx, .slice Ax mx cx]) rfl (by rw [hq]; exact fun j u hu => hx.cell (hcx j u hu)) ?_
  clear hq
  conv => cbv
  refine st_idx hE' sIV hA (by omega) (by omega) fun q hq => ?_
  conv => cbv
  refine st_loadS hE' tIV (vs := [.int .i64 ky, .int .i64 ny, .string ty, .slice Ay my cy]) rfl (by rw [hq]; exact fun j u hu => hx.cell (hcy (by omega) j u hu)) ?_
  clear hq
  conv => cbv
  refine st_f hr (equal_f (a := ⟨⟨kx, nx, tx, xx⟩, Ax, mx, cx⟩) (b := ⟨⟨ky, ny, ty, xy⟩, Ay, my, cy⟩) (hmx.ext hx) ((hmy (by omega)).ext hx)) fun r w4 hx4 ⟨b, ev, hb2⟩ => ?_
  subst ev
  have hx34 := hx.trans hx4
  replace h4 := h4.bel hx4
  refine ⟨hS _ hx4, ?_⟩
  cases b with
  | true =>
   conv => cbv
   refine ⟨hS _ hx4, ?_⟩
   refine st_f hr (truth_f false) fun r w5 hx5 ev => ?_
   subst ev
   replace h4 := h4.bel hx5
   have hx6 := hx34.trans hx5
   have s6 := hx6.size
   refine ⟨hS _ (hx4.trans hx5), ?_⟩
   conv => cbv
   refine st_putS hr (by kernel_rfl) h4 (add_zero _).symm (by simp [zV]) (by simp [Value.oneCell']) fun w9 hw9 h49 => ?_
   simp only [zV, a1_, a2_, a3_, a4_, a5_, a6_, a7_] at h49
   have hx9 := hx6.then (hw9.bel h4 (by omega))
   conv => cbv
   refine st_cell hr tIV rfl h49.at ?_
   conv => cbv
   exact finT false w9 hx9 (by rw [hT0]; unfold opR; rw [if_neg g8, if_neg g9, if_neg g10, if_neg (by omega), if_neg g16, if_neg g17, if_neg g18, if_neg g19, if_pos g]; exact congrArg (fun b => Sum.inr (truthV b)) (by rw [decide_eq_true (hb2.1 rfl)]; rfl))
  | false =>
   conv => cbv
   refine ⟨hS _ hx4, ?_⟩
   refine st_f hr (truth_f true) fun r w5 hx5 ev => ?_
   subst ev
   replace h4 := h4.bel hx5
   have hx6 := hx34.trans hx5
   have s6 := hx6.size
   refine ⟨hS _ (hx4.trans hx5), ?_⟩
   conv => cbv
   refine st_putS hr (by kernel_rfl) h4 (add_zero _).symm (by simp [zV]) (by simp [Value.oneCell']) fun w9 hw9 h49 => ?_
   simp only [zV, a1_, a2_, a3_, a4_, a5_, a6_, a7_] at h49
   have hx9 := hx6.then (hw9.bel h4 (by omega))
   conv => cbv
   refine st_cell hr tIV rfl h49.at ?_
   conv => cbv
   exact finT true w9 hx9 (by rw [hT0]; unfold opR; rw [if_neg g8, if_neg g9, if_neg g10, if_neg (by omega), if_neg g16, if_neg g17, if_neg g18, if_neg g19, if_pos g]; exact congrArg (fun b => Sum.inr (truthV b)) (by rw [decide_eq_false (fun q => by simpa using hb2.2 q)]; rfl))
 have g20 : op ≠ 20 := by simpa [hE.cmp, cmpR] using g
 clear g
 conv => cbv
 refine br (fun g => ?_) (fun g => ?_)
 ·have g : op = 21 := by simpa [hE.cmp, cmpR] using g
  conv => cbv
  refine draw_t [0, 1, 2, 3, 4, 5, 6, 7, 8] [(9, true), (10, false), (11, false)] hr fol (by kernel_rfl) fun E' hE' w3 hs3 S hS => ?_
  replace h4 := h4.bel hs3.ext
  have hx := hx0.trans hs3.ext
  conv => cbv
  refine st_idx hE' sIV hA (by omega) (by omega) fun q hq => ?_
  conv => cbv
  refine st_fld hE' fIV1 fun p hp => ?_
  conv => cbv
  refine st_load hE' cI64 (by rw [hp, hq]; exact hx.cell (hcx 1 _ rfl)) ?_
  clear hp hq
  conv => cbv
  refine st_idx hE' sIV hA (by omega) (by omega) fun q hq => ?_
  conv => cbv
  refine st_fld hE' fIV1 fun p hp => ?_
  conv => cbv
  refine st_load hE' cI64 (by rw [hp, hq]; exact hx.cell (hcy (by omega) 1 _ rfl)) ?_
  clear hp hq
  conv => cbv
  have hb2 : E'.cmp .lss nx ny = true ↔ nx < ny := by simp [hE'.cmp, cmpR]
  refine st_f hr (truth_f (E'.cmp .lss nx ny)) fun r w5 hx5 ev => ?_
  obtain ⟨b, hbe⟩ : ∃ b, b = E'.cmp .lss nx ny := ⟨_, rfl⟩
  rw [← hbe] at hb2 ev
  subst ev
  replace h4 := h4.bel hx5
  have hx6 := hx.trans hx5
  have s6 := hx6.size
  refine ⟨hS _ hx5, ?_⟩
  conv => cbv
  refine st_putS hr (by kernel_rfl) h4 (add_zero _).symm (by simp [zV]) (by simp [Value.oneCell']) fun w9 hw9 h49 => ?_
  simp only [zV, a1_, a2_, a3_, a4_, a5_, a6_, a7_] at h49
  have hx9 := hx6.then (hw9.bel h4 (by omega))
  conv => cbv
  refine st_cell hr tIV rfl h49.at ?_
  conv => cbv
  exact finT b w9 hx9 (by rw [hT0]; unfold opR; rw [if_neg g8, if_neg g9, if_neg g10, if_neg (by omega), if_neg g16, if_neg g17, if_neg g18, if_neg g19, if_neg g20, if_pos g]; exact congrArg (fun b => Sum.inr (truthV b)) (Bool.eq_iff_iff.2 (by rw [hb2]; simp)))
 have g21 : op ≠ 21 := by simpa [hE.cmp, cmpR] using g
 clear g
 conv => cbv
 refine br (fun g => ?_) (fun g => ?_)
 ·have g : op = 22 := by simpa [hE.cmp, cmpR] using g
  conv => cbv
  refine draw_t [0, 1, 2, 3, 4, 5, 6, 7, 8] [(9, true), (10, false), (11, false)] hr fol (by kernel_rfl) fun E' hE' w3 hs3 S hS => ?_
  replace h4 := h4.bel hs3.ext
  have hx := hx0.trans hs3.ext
  conv => cbv
  refine st_idx hE' sIV hA (by omega) (by omega) fun q hq => ?_
  conv => cbv
  refine st_fld hE' fIV1 fun p hp => ?_
  conv => cbv
  refine st_load hE' cI64 (by rw [hp, hq]; exact hx.cell (hcx 1 _ rfl)) ?_
  clear hp hq
  conv => cbv
  refine st_idx hE' sIV hA (by omega) (by omega) fun q hq => ?_
  conv => cbv
  refine st_fld hE' fIV1 fun p hp => ?_
  conv => cbv
  refine st_load hE' cI64 (by rw [hp, hq]; exact hx.cell (hcy (by omega) 1 _ rfl)) ?_
  clear hp hq
  conv => cbv
  have hb2 : E'.cmp .leq nx ny = true ↔ nx ≤ ny := by simp [hE'.cmp, cmpR]
  refine st_f hr (truth_f (E'.cmp .leq nx ny)) fun r w5 hx5 ev => ?_
  obtain ⟨b, hbe⟩ : ∃ b, b = E'.cmp .leq nx ny := ⟨_, rfl⟩
  rw [← hbe] at hb2 ev
  subst ev
  replace h4 := h4.bel hx5
  have hx6 := hx.trans hx5
  have s6 := hx6.size
  refine ⟨hS _ hx5, ?_⟩
  conv => cbv
  refine st_putS hr (by kernel_rfl) h4 (add_zero _).symm (by simp [zV]) (by simp [Value.oneCell']) fun w9 hw9 h49 => ?_
  simp only [zV, a1_, a2_, a3_, a4_, a5_, a6_, a7_] at h49
  have hx9 := hx6.then (hw9.bel h4 (by omega))
  conv => cbv
  refine st_cell hr tIV rfl h49.at ?_
  conv => cbv
  exact finT b w9 hx9 (by rw [hT0]; unfold opR; rw [if_neg g8, if_neg g9, if_neg g10, if_neg (by omega), if_neg g16, if_neg g17, if_neg g18, if_neg g19, if_neg g20, if_neg g21, if_pos g]; exact congrArg (fun b => Sum.inr (truthV b)) (Bool.eq_iff_iff.2 (by rw [hb2]; simp)))
 have g22 : op ≠ 22 := by simpa [hE.cmp, cmpR] using g
 clear g
 conv => cbv
 refine br (fun g => ?_) (fun g => ?_)
 ·have g : op = 23 := by simpa [hE.cmp, cmpR] using g
  conv => cbv
  refine draw_t [0, 1, 2, 3, 4, 5, 6, 7] [(8, true), (9, true), (10, false), (11, false)] hr fol (by kernel_rfl) fun E' hE' w3 hs3 S hS => ?_
  replace h4 := h4.bel hs3.ext
  have hx := hx0.trans hs3.ext
  conv => cbv
  refine st_idx hE' sIV hA (by omega) (by omega) fun q hq => ?_
  conv => cbv
  refine st_fld hE' fIV3 fun p hp => ?_
  conv => cbv
  refine st_load hE' cStrs (by rw [hp, hq]; exact hx.cell (hcy (by omega) 3 _ rfl)) ?_
  clear hp hq
  conv => cbv
  refine st_idx hE' sIV hA (by omega) (by omega) fun q hq => ?_
  conv => cbv
  refine st_fld hE' fIV2 fun p hp => ?_
  conv => cbv
  refine st_load hE' cStr (by rw [hp, hq]; exact hx.cell (hcx 2 _ rfl)) ?_
  clear hp hq
  conv => cbv
  refine st_f hr (Contains_f ((sy (by omega)).ext hx) tx) fun r w4 hx4 ⟨b, ev, hb2⟩ => ?_
  subst ev
  have hx34 := hx.trans hx4
  replace h4 := h4.bel hx4
  refine ⟨hS _ hx4, ?_⟩
  conv => cbv
  refine st_f hr (truth_f b) fun r w5 hx5 ev => ?_
  subst ev
  replace h4 := h4.bel hx5
  have hx6 := hx34.trans hx5
  have s6 := hx6.size
  refine ⟨hS _ (hx4.trans hx5), ?_⟩
  conv => cbv
  refine st_putS hr (by kernel_rfl) h4 (add_zero _).symm (by simp [zV]) (by simp [Value.oneCell']) fun w9 hw9 h49 => ?_
  simp only [zV, a1_, a2_, a3_, a4_, a5_, a6_, a7_] at h49
  have hx9 := hx6.then (hw9.bel h4 (by omega))
  conv => cbv
  refine st_cell hr tIV rfl h49.at ?_
  conv => cbv
  exact finT b w9 hx9 (by rw [hT0]; unfold opR; rw [if_neg g8, if_neg g9, if_neg g10, if_neg (by omega), if_neg g16, if_neg g17, if_neg g18, if_neg g19, if_neg g20, if_neg g21, if_neg g22, if_pos g]; exact congrArg (fun b => Sum.inr (truthV b)) (Bool.eq_iff_iff.2 (by rw [hb2]; simp)))
 have g23 : op ≠ 23 := by simpa [hE.cmp, cmpR] using g
 clear g
 conv => cbv
 have g24 : op = 24 := by omega
 have oks := okS (.inr g24)
 refine draw_t [0, 1, 2, 3, 4, 5, 6, 7] [(8, true), (9, true), (10, false), (11, false)] hr fol (by kernel_rfl) fun E' hE' w3 hs3 S hS => ?_
 replace h4 := h4.bel hs3.ext
 have hx := hx0.trans hs3.ext
 conv => cbv
 refine st_idx hE' sIV hA (by omega) (by omega) fun q hq => ?_
 conv => cbv
 refine st_fld hE' fIV3 fun p hp => ?_
 conv => cbv
 refine st_load hE' cStrs (by rw [hp, hq]; exact hx.cell (hcx 3 _ rfl)) ?_
 clear hp hq
 conv => cbv
 refine st_idx hE' sIV hA (by omega) (by omega) fun q hq => ?_
 conv => cbv
 refine st_fld hE' fIV3 fun p hp => ?_
 conv => cbv
 refine st_load hE' cStrs (by rw [hp, hq]; exact hx.cell (hcy (by omega) 3 _ rfl)) ?_
 clear hp hq
 conv => cbv
 have lx := sx.len
 have ly := (sy (by omega)).len
 have l1 := oks.1.2.2
 have l2 := oks.2.2.2
 refine st_f hr (within_q (sx.ext hx) ((sy (by omega)).ext hx) oks.1.2.1 oks.2.2.1 (by omega)) fun r w4 hx4 ⟨b, ev, hb2⟩ => ?_
 subst ev
 have hx34 := hx.trans hx4
 replace h4 := h4.bel hx4
 refine ⟨hS _ hx4, ?_⟩
 conv => cbv
 refine st_f hr (truth_f b) fun r w5 hx5 ev => ?_
 subst ev
 replace h4 := h4.bel hx5
 have hx6 := hx34.trans hx5
 have s6 := hx6.size
 refine ⟨hS _ (hx4.trans hx5), ?_⟩
 conv => cbv
 refine st_putS hr (by kernel_rfl) h4 (add_zero _).symm (by simp [zV]) (by simp [Value.oneCell']) fun w9 hw9 h49 => ?_
 simp only [zV, a1_, a2_, a3_, a4_, a5_, a6_, a7_] at h49
 have hx9 := hx6.then (hw9.bel h4 (by omega))
 conv => cbv
 refine st_cell hr tIV rfl h49.at ?_
 conv => cbv
 exact finT b w9 hx9 (by rw [hT0]; unfold opR; rw [if_neg g8, if_neg g9, if_neg g10, if_neg (by omega), if_neg g16, if_neg g17, if_neg g18, if_neg g19, if_neg g20, if_neg g21, if_neg g22, if_neg g23]; exact congrArg (fun b => Sum.inr (truthV b)) (Bool.eq_iff_iff.2 (by rw [hb2]; simp)))
theorem tLReq : Stc Tryz.prog 28 6 [.string ⟨#[]⟩, .string ⟨#[]⟩, .int .i64 0, .int .i64 0, .slice none 0 0, .slice none 0 0] := ⟨by kernel_rfl, by kernel_rfl⟩
theorem tIReq : Stc Tryz.prog 41 6 [.string ⟨#[]⟩, .string ⟨#[]⟩, .int .i64 0, .int .i64 0, .slice none 0 0, .slice none 0 0] := ⟨by kernel_rfl, by kernel_rfl⟩
theorem fL0 : Fld Tryz.prog 28 0 0 := ⟨by kernel_rfl⟩
theorem fL1 : Fld Tryz.prog 28 1 1 := ⟨by kernel_rfl⟩
theorem fL2 : Fld Tryz.prog 28 2 2 := ⟨by kernel_rfl⟩
theorem fL3 : Fld Tryz.prog 28 3 3 := ⟨by kernel_rfl⟩
theorem fL4 : Fld Tryz.prog 28 4 4 := ⟨by kernel_rfl⟩
theorem fL5 : Fld Tryz.prog 28 5 5 := ⟨by kernel_rfl⟩
theorem fI0 : Fld Tryz.prog 41 0 0 := ⟨by kernel_rfl⟩
theorem fI1 : Fld Tryz.prog 41 1 1 := ⟨by kernel_rfl⟩
theorem fI2 : Fld Tryz.prog 41 2 2 := ⟨by kernel_rfl⟩
theorem fI3 : Fld Tryz.prog 41 3 3 := ⟨by kernel_rfl⟩
theorem fI4 : Fld Tryz.prog 41 4 4 := ⟨by kernel_rfl⟩
theorem fI5 : Fld Tryz.prog 41 5 5 := ⟨by kernel_rfl⟩
section
variable {w : World} {cl us : ByteArray} {lv nw : Int} {A A' : Option Addr} {n c n' c' : Nat} {xs ys : List ByteArray}
theorem toRequest_f (h : Strs w A n c xs) (h' : Strs w A' n' c' ys) (hn : n ≤ 1048576) (hn' : n' ≤ 1048576) :
  FC Tryz.prog 10 [.agg ⟨[.string cl, .string us, .int .i64 lv, .int .i64 nw, .slice A n c, .slice A' n' c']⟩] w fun v w' => ∃ A1 n1 c1 A2 n2 c2, v = .agg ⟨[.string cl, .string us, .int .i64 lv, .int .i64 nw, .slice A1 n1 c1, .slice A2 n2 c2]⟩ ∧ Strs w' A1 n1 c1 xs ∧ Strs w' A2 n2 c2 ys := by
 refine FC.intro (cs := []) Tryz.func10 (by kernel_rfl) fun E R hE hr hR => ?_
 conv => cbv
 refine st_box hr fun a w1 hx hb0 => ?_
 have hb := hb0 _ (n1_ _)
 conv => cbv
 refine st_alloc hr tIReq rfl fun o w2 hx2 ho0 => ?_
 have ho := ho0 _ hx.size
 have hb := hb.bel hx2
 have hx := hx.trans hx2
 conv => cbv
 refine st_alloc hr tIReq rfl fun q w3 hx3 hq0 => ?_
 have hq := hq0 _ hx.size
 have aq := (hb.apart (hq0 _ (n1_ _)) (n1_ _)).1
 have oq := (ho.apart (hq0 _ (n1_ _)) (n1_ _)).1
 have hb := hb.bel hx3
 have ho := ho.bel hx3
 have hx := hx.trans hx3
 clear hb0 ho0 hq0
 conv => cbv
 (refine st_fld hE fL0 fun p hp => ?_; (conv => cbv); refine st_load hE cStr (by rw [hp]; exact (hb).at _ _ rfl) ?_; clear hp; (conv => cbv))
 (refine st_fld hE fI0 fun p hp => ?_; (conv => cbv); refine st_put hr zStr hq hp (by simp) rfl fun wn hw hq2 => ?_; replace hx := hx.then (hw.bel hq hx.size); (try clear hq); (have hq := hq2); clear hq2; (simp only [b4_, b5_] at hq); clear hp)
 replace hb := hb.wr hw aq
 replace ho := ho.wr hw oq
 conv => cbv
 (refine st_fld hE fL1 fun p hp => ?_; (conv => cbv); refine st_load hE cStr (by rw [hp]; exact (hb).at _ _ rfl) ?_; clear hp; (conv => cbv))
 (refine st_fld hE fI1 fun p hp => ?_; (conv => cbv); refine st_put hr zStr hq hp (by simp) rfl fun wn hw hq2 => ?_; replace hx := hx.then (hw.bel hq hx.size); (try clear hq); (have hq := hq2); clear hq2; (simp only [b4_, b5_] at hq); clear hp)
 replace hb := hb.wr hw aq
 replace ho := ho.wr hw oq
 conv => cbv
 (refine st_fld hE fL2 fun p hp => ?_; (conv => cbv); refine st_load hE cI64 (by rw [hp]; exact (hb).at _ _ rfl) ?_; clear hp; (conv => cbv))
 (refine st_fld hE fI2 fun p hp => ?_; (conv => cbv); refine st_put hr zI64 hq hp (by simp) rfl fun wn hw hq2 => ?_; replace hx := hx.then (hw.bel hq hx.size); (try clear hq); (have hq := hq2); clear hq2; (simp only [b4_, b5_] at hq); clear hp)
 replace hb := hb.wr hw aq
 replace ho := ho.wr hw oq
 conv => cbv
 (refine st_fld hE fL3 fun p hp => ?_; (conv => cbv); refine st_load hE cI64 (by rw [hp]; exact (hb).at _ _ rfl) ?_; clear hp; (conv => cbv))
 (refine st_fld hE fI3 fun p hp => ?_; (conv => cbv); refine st_put hr zI64 hq hp (by simp) rfl fun wn hw hq2 => ?_; replace hx := hx.then (hw.bel hq hx.size); (try clear hq); (have hq := hq2); clear hq2; (simp only [b4_, b5_] at hq); clear hp)
 replace hb := hb.wr hw aq
 replace ho := ho.wr hw oq
 conv => cbv
 (refine st_fld hE fL4 fun p hp => ?_; (conv => cbv); refine st_load hE cStrs (by rw [hp]; exact (hb).at _ _ rfl) ?_; clear hp; (conv => cbv))
 refine st_f hr (toStringS_f (h.ext hx) hn) fun v w4 hx4 ⟨A4, n4, c4, ev, h4, o4⟩ => ?_
 subst ev
 have ax := (hq.apart o4 (n1_ _)).2
 have bx := (ho.apart o4 (n1_ _)).2
 replace o4 := o4.mono hx.size
 replace hb := hb.bel hx4
 replace ho := ho.bel hx4
 replace hq := hq.bel hx4
 replace hx := hx.trans hx4
 conv => cbv
 (refine st_fld hE fI4 fun p hp => ?_; (conv => cbv); refine st_put hr zStrs hq hp (by simp) rfl fun wn hw hq2 => ?_; replace hx := hx.then (hw.bel hq hx.size); (try clear hq); (have hq := hq2); clear hq2; (simp only [b4_, b5_] at hq); clear hp)
 replace hb := hb.wr hw aq
 replace ho := ho.wr hw oq
 replace o4 := o4.wr hw ax
 conv => cbv
 (refine st_fld hE fL5 fun p hp => ?_; (conv => cbv); refine st_load hE cStrs (by rw [hp]; exact (hb).at _ _ rfl) ?_; clear hp; (conv => cbv))
 refine st_f hr (toStringS_f (h'.ext hx) hn') fun v w5 hx5 ⟨A5, n5, c5, ev, h5, o5⟩ => ?_
 subst ev
 have ay := (hq.apart o5 (n1_ _)).2
 have bY := (ho.apart o5 (n1_ _)).2
 replace o5 := o5.mono hx.size
 replace hb := hb.bel hx5
 replace ho := ho.bel hx5
 replace hq := hq.bel hx5
 replace o4 := o4.bel hx5
 replace hx := hx.trans hx5
 conv => cbv
 (refine st_fld hE fI5 fun p hp => ?_; (conv => cbv); refine st_put hr zStrs hq hp (by simp) rfl fun wn hw hq2 => ?_; replace hx := hx.then (hw.bel hq hx.size); (try clear hq); (have hq := hq2); clear hq2; (simp only [b4_, b5_] at hq); clear hp)
 replace o4 := o4.wr hw ax
 replace o5 := o5.wr hw ay
 replace ho := ho.wr hw oq
 conv => cbv
 refine st_loadS hE tIReq rfl hq.at ?_
 conv => cbv
 refine st_putS hr (by kernel_rfl) ho (add_zero _).symm (by simp) (by simp [Value.oneCell']) fun w7 hw ho2 => ?_
 replace hx := hx.then (hw.bel ho hx.size)
 simp only [a1_, a2_, a3_, a4_, a5_, a6_, a7_] at ho2
 conv => cbv
 refine st_cell hr tIReq rfl ho2.at ?_
 rw [hR]; exact ⟨hx, A4, n4, c4, A5, n5, c5, rfl, (o4.wr hw bx).strs h.small, (o5.wr hw bY).strs h'.small⟩
def validReq (cl us : ByteArray) (xs ys : List ByteArray) : Prop := validName cl ∧ validName us ∧ isSet xs ∧ isSet ys
theorem ValidRequest_f (hc : cl.size ≤ 9223372036854775807) (hu : us.size ≤ 9223372036854775807) (h : Strs w A n c xs) (h' : Strs w A' n' c' ys) :
  FC Tryz.prog 44 [.agg ⟨[.string cl, .string us, .int .i64 lv, .int .i64 nw, .slice A n c, .slice A' n' c']⟩] w fun v _ => ∃ b : Bool, v = .bool b ∧ (b = true ↔ validReq cl us xs ys) := by
 refine FC.intro (cs := []) Tryz.func44 (by kernel_rfl) fun E R hE hr hR => ?_
 conv => cbv
 refine st_box hr fun a w1 hx hb0 => ?_
 have hb := hb0 _ (n1_ _)
 conv => cbv
 (refine st_fld hE fI0 fun p hp => ?_; (conv => cbv); refine st_load hE cStr (by rw [hp]; exact (hb).at _ _ rfl) ?_; clear hp; (conv => cbv))
 refine st_qb hE (ValidName_q cl _ hc) fun b1 hb1 w2 hs2 => ?_
 replace hb := hb.bel hs2.ext
 replace hx := hx.trans hs2.ext
 cases b1
 ·conv => cbv
  rw [hR]; exact ⟨hx, false, rfl, by simp only [Bool.false_eq_true, false_iff] at hb1 ⊢; exact fun k => hb1 k.1⟩
 have hb1 := hb1.1 rfl
 conv => cbv
 (refine st_fld hE fI1 fun p hp => ?_; (conv => cbv); refine st_load hE cStr (by rw [hp]; exact (hb).at _ _ rfl) ?_; clear hp; (conv => cbv))
 refine st_qb hE (ValidName_q us _ hu) fun b2 hb2 w3 hs3 => ?_
 replace hb := hb.bel hs3.ext
 replace hx := hx.trans hs3.ext
 cases b2
 ·conv => cbv
  rw [hR]; exact ⟨hx, false, rfl, by simp only [Bool.false_eq_true, false_iff] at hb2 ⊢; exact fun k => hb2 k.2.1⟩
 have hb2 := hb2.1 rfl
 conv => cbv
 (refine st_fld hE fI4 fun p hp => ?_; (conv => cbv); refine st_load hE cStrs (by rw [hp]; exact (hb).at _ _ rfl) ?_; clear hp; (conv => cbv))
 refine st_qb hE (IsSet_q (h.ext hx)) fun b3 hb3 w4 hs4 => ?_
 replace hb := hb.bel hs4.ext
 replace hx := hx.trans hs4.ext
 cases b3
 ·conv => cbv
  rw [hR]; exact ⟨hx, false, rfl, by simp only [Bool.false_eq_true, false_iff] at hb3 ⊢; exact fun k => hb3 k.2.2.1⟩
 have hb3 := hb3.1 rfl
 conv => cbv
 (refine st_fld hE fI5 fun p hp => ?_; (conv => cbv); refine st_load hE cStrs (by rw [hp]; exact (hb).at _ _ rfl) ?_; clear hp; (conv => cbv))
 refine st_qb hE (IsSet_q (h'.ext hx)) fun b4 hb4 w5 hs5 => ?_
 replace hx := hx.trans hs5.ext
 conv => cbv
 rw [hR]; exact ⟨hx, b4, rfl, by rw [hb4]; exact ⟨fun k => ⟨hb1, hb2, hb3, k⟩, fun k => k.2.2.2⟩⟩
theorem sValidRequest_f (hc : cl.size ≤ 9223372036854775807) (hu : us.size ≤ 9223372036854775807) (h : Strs w A n c xs) (h' : Strs w A' n' c' ys) :
  FC Tryz.prog 38 [.agg ⟨[.string cl, .string us, .int .i64 lv, .int .i64 nw, .slice A n c, .slice A' n' c']⟩] w fun v _ => ∃ b : Bool, v = .bool b ∧ (b = true ↔ validReq cl us xs ys) := by
 refine FC.intro (cs := []) Tryz.func38 (by kernel_rfl) fun E R hE hr hR => ?_
 conv => cbv
 refine st_box hr fun a w1 hx hb0 => ?_
 have hb := hb0 _ (n1_ _)
 conv => cbv
 (refine st_fld hE fI0 fun p hp => ?_; (conv => cbv); refine st_load hE cStr (by rw [hp]; exact (hb).at _ _ rfl) ?_; clear hp; (conv => cbv))
 refine st_qb hE (sValidName_q cl _ hc) fun b1 hb1 w2 hs2 => ?_
 replace hb := hb.bel hs2.ext
 replace hx := hx.trans hs2.ext
 cases b1
 ·conv => cbv
  rw [hR]; exact ⟨hx, false, rfl, by simp only [Bool.false_eq_true, false_iff] at hb1 ⊢; exact fun k => hb1 k.1⟩
 have hb1 := hb1.1 rfl
 conv => cbv
 (refine st_fld hE fI1 fun p hp => ?_; (conv => cbv); refine st_load hE cStr (by rw [hp]; exact (hb).at _ _ rfl) ?_; clear hp; (conv => cbv))
 refine st_qb hE (sValidName_q us _ hu) fun b2 hb2 w3 hs3 => ?_
 replace hb := hb.bel hs3.ext
 replace hx := hx.trans hs3.ext
 cases b2
 ·conv => cbv
  rw [hR]; exact ⟨hx, false, rfl, by simp only [Bool.false_eq_true, false_iff] at hb2 ⊢; exact fun k => hb2 k.2.1⟩
 have hb2 := hb2.1 rfl
 conv => cbv
 (refine st_fld hE fI4 fun p hp => ?_; (conv => cbv); refine st_load hE cStrs (by rw [hp]; exact (hb).at _ _ rfl) ?_; clear hp; (conv => cbv))
 refine st_qb hE (sIsSet_q (h.ext hx)) fun b3 hb3 w4 hs4 => ?_
 replace hb := hb.bel hs4.ext
 replace hx := hx.trans hs4.ext
 cases b3
 ·conv => cbv
  rw [hR]; exact ⟨hx, false, rfl, by simp only [Bool.false_eq_true, false_iff] at hb3 ⊢; exact fun k => hb3 k.2.2.1⟩
 have hb3 := hb3.1 rfl
 conv => cbv
 (refine st_fld hE fI5 fun p hp => ?_; (conv => cbv); refine st_load hE cStrs (by rw [hp]; exact (hb).at _ _ rfl) ?_; clear hp; (conv => cbv))
 refine st_qb hE (sIsSet_q (h'.ext hx)) fun b4 hb4 w5 hs5 => ?_
 replace hx := hx.trans hs5.ext
 conv => cbv
 rw [hR]; exact ⟨hx, b4, rfl, by rw [hb4]; exact ⟨fun k => ⟨hb1, hb2, hb3, k⟩, fun k => k.2.2.2⟩⟩
end
theorem eqRequest_f {w : World} {cl us cl' us' : ByteArray} {lv nw lv' nw' : Int} {A A' A1 A1' : Option Addr} {n c n' c' m k m' k' : Nat} {xs ys xs' ys' : List ByteArray} (h : Strs w A n c xs) (h' : Strs w A' n' c' ys) (h1 : Strs w A1 m k xs') (h1' : Strs w A1' m' k' ys') :
  FC Tryz.prog 14 [.agg ⟨[.string cl, .string us, .int .i64 lv, .int .i64 nw, .slice A n c, .slice A' n' c']⟩, .agg ⟨[.string cl', .string us', .int .i64 lv', .int .i64 nw', .slice A1 m k, .slice A1' m' k']⟩] w fun v _ => (cl = cl' ∧ us = us' ∧ lv = lv' ∧ nw = nw' ∧ xs = xs' ∧ ys = ys') → v = .bool true := by
 refine FC.intro (cs := []) Tryz.func14 (by kernel_rfl) fun E R hE hr hR => ?_
 conv => cbv
 refine st_box hr fun a w1 hx ha0 => ?_
 have ha := ha0 _ (n1_ _)
 conv => cbv
 refine st_box hr fun b w2 hx2 hb0 => ?_
 have hb := hb0 _ hx.size
 replace ha := ha.bel hx2
 replace hx := hx.trans hx2
 clear ha0 hb0
 conv => cbv
 (refine st_fld hE fI0 fun p hp => ?_; (conv => cbv); refine st_load hE cStr (by rw [hp]; exact (ha).at _ _ rfl) ?_; clear hp; (conv => cbv))
 (refine st_fld hE fI0 fun p hp => ?_; (conv => cbv); refine st_load hE cStr (by rw [hp]; exact (hb).at _ _ rfl) ?_; clear hp; (conv => cbv))
 refine br (fun g => ?_) (fun _ => ?_)
 ·conv => cbv
  rw [hR]; exact ⟨hx, fun e => absurd e.1 (by simpa [hE.scmp, scmp_neq] using g)⟩
 conv => cbv
 (refine st_fld hE fI1 fun p hp => ?_; (conv => cbv); refine st_load hE cStr (by rw [hp]; exact (ha).at _ _ rfl) ?_; clear hp; (conv => cbv))
 (refine st_fld hE fI1 fun p hp => ?_; (conv => cbv); refine st_load hE cStr (by rw [hp]; exact (hb).at _ _ rfl) ?_; clear hp; (conv => cbv))
 refine br (fun g => ?_) (fun _ => ?_)
 ·conv => cbv
  rw [hR]; exact ⟨hx, fun e => absurd e.2.1 (by simpa [hE.scmp, scmp_neq] using g)⟩
 conv => cbv
 (refine st_fld hE fI2 fun p hp => ?_; (conv => cbv); refine st_load hE cI64 (by rw [hp]; exact (ha).at _ _ rfl) ?_; clear hp; (conv => cbv))
 (refine st_fld hE fI2 fun p hp => ?_; (conv => cbv); refine st_load hE cI64 (by rw [hp]; exact (hb).at _ _ rfl) ?_; clear hp; (conv => cbv))
 refine br (fun g => ?_) (fun _ => ?_)
 ·conv => cbv
  rw [hR]; exact ⟨hx, fun e => absurd e.2.2.1 (by simpa [hE.cmp, cmpR] using g)⟩
 conv => cbv
 (refine st_fld hE fI3 fun p hp => ?_; (conv => cbv); refine st_load hE cI64 (by rw [hp]; exact (ha).at _ _ rfl) ?_; clear hp; (conv => cbv))
 (refine st_fld hE fI3 fun p hp => ?_; (conv => cbv); refine st_load hE cI64 (by rw [hp]; exact (hb).at _ _ rfl) ?_; clear hp; (conv => cbv))
 refine br (fun g => ?_) (fun _ => ?_)
 ·conv => cbv
  rw [hR]; exact ⟨hx, fun e => absurd e.2.2.2.1 (by simpa [hE.cmp, cmpR] using g)⟩
 conv => cbv
 (refine st_fld hE fI4 fun p hp => ?_; (conv => cbv); refine st_load hE cStrs (by rw [hp]; exact (ha).at _ _ rfl) ?_; clear hp; (conv => cbv))
 (refine st_fld hE fI4 fun p hp => ?_; (conv => cbv); refine st_load hE cStrs (by rw [hp]; exact (hb).at _ _ rfl) ?_; clear hp; (conv => cbv))
 refine st_qb hE (eqStringS_q (h.ext hx) (h1.ext hx)) fun v hv w3 hs3 => ?_
 replace ha := ha.bel hs3.ext
 replace hb := hb.bel hs3.ext
 replace hx := hx.trans hs3.ext
 cases v
 ·conv => cbv
  rw [hR]; exact ⟨hx, fun e => absurd (hv.2 e.2.2.2.2.1) (by simp)⟩
 conv => cbv
 (refine st_fld hE fI5 fun p hp => ?_; (conv => cbv); refine st_load hE cStrs (by rw [hp]; exact (ha).at _ _ rfl) ?_; clear hp; (conv => cbv))
 (refine st_fld hE fI5 fun p hp => ?_; (conv => cbv); refine st_load hE cStrs (by rw [hp]; exact (hb).at _ _ rfl) ?_; clear hp; (conv => cbv))
 refine st_qb hE (eqStringS_q (h'.ext hx) (h1'.ext hx)) fun v hv w4 hs4 => ?_
 replace hx := hx.trans hs4.ext
 cases v
 ·conv => cbv
  rw [hR]; exact ⟨hx, fun e => absurd (hv.2 e.2.2.2.2.2) (by simp)⟩
 conv => cbv
 rw [hR]; exact ⟨hx, fun _ => rfl⟩
structure RQ where
 cl : ByteArray
 us : ByteArray
 lv : Int
 nw : Int
 A : Option Addr
 n : Nat
 c : Nat
 xs : List ByteArray
 A2 : Option Addr
 n2 : Nat
 c2 : Nat
 ys : List ByteArray
def rqC (q : RQ) : List Value := [.string q.cl, .string q.us, .int .i64 q.lv, .int .i64 q.nw, .slice q.A q.n q.c, .slice q.A2 q.n2 q.c2]
def rqP (q : RQ) : List PV := [⟨3, 0, q.cl, []⟩, ⟨3, 0, q.us, []⟩, ⟨2, q.lv, noS, []⟩, ⟨2, q.nw, noS, []⟩, ⟨4, 0, noS, q.xs⟩, ⟨4, 0, noS, q.ys⟩]
structure RqR (D : Nat → Prop) (w : World) (ra : Addr) (q : RQ) : Prop where
 cells : ∀ j u, (rqC q)[j]? = some u → w.cell? (ra.add j) = some u
 s1 : Strs w q.A q.n q.c q.xs
 s2 : Strs w q.A2 q.n2 q.c2 q.ys
 d1 : InD D q.A q.n
 d2 : InD D q.A2 q.n2
 t1 : q.cl.size ≤ 9223372036854775807
 t2 : q.us.size ≤ 9223372036854775807
theorem RqR.ext {D : Nat → Prop} {w w' : World} {ra : Addr} {q : RQ} (h : RqR D w ra q) (hx : Ext w w') : RqR D w' ra q := ⟨fun j u hu => hx.cell (h.cells j u hu), h.s1.ext hx, h.s2.ext hx, h.d1, h.d2, h.t1, h.t2⟩
section
variable {E : Sym} {w : World} {K : Value → World → Prop} {d : Option Tmp} {ty : TypeId} {pos : String} {aft : Array Edge} {g : Option (Nat × Bool)} {bq : Bool}
theorem run_bV3 (s : ByteArray) (w : World) : (Instr.build 153 #[(0, .int .i64 3), (2, .string s)]).run Tryz.prog w = .ok (.agg ⟨[.int .i64 3, .int .i64 0, .string s, .slice none 0 0]⟩) w := by kernel_rfl
theorem st_bV3 (hE : EngB bq Tryz.prog E) {s : ByteArray} {c : Value} {x : Operand} (hk : K (.agg ⟨[.int .i64 3, .int .i64 0, .string s, .slice none 0 0]⟩) w) : E.stop ⟨d, .build 153 ⟨[(0, .const c), (2, x)]⟩, ty, pos, aft, g⟩ [.int .i64 3, .string s] w K := by
 refine hE.det (v := .agg ⟨[.int .i64 3, .int .i64 0, .string s, .slice none 0 0]⟩) (fun w1 _ ρ hρ => ?_) hk
 simp only [opnds, b2_, b3_, b1_, and_true] at hρ
 have := run_bV3 s w1
 simp [execOp, hρ, this]
end
theorem attr1_f {D : Nat → Prop} {w : World} {ra : Addr} {q : RQ} (h : RqR D w ra q) : FC Tryz.prog 172 [.pointer (some ra)] w fun r w' => ∃ x : VV, r = .agg ⟨vC x⟩ ∧ (rqP q)[0]? = some x.p ∧ ValM w' x ∧ InD D x.A x.m := by
 refine FC.intro (cs := []) Tryz.func172 (by kernel_rfl) fun E R hE hr hR => ?_
 conv => cbv
 refine st_alloc hr tIV rfl fun q4 w1 hx1 hb0 => ?_
 have hb := hb0 _ (n1_ _)
 clear hb0
 conv => cbv
 refine st_nil hE ?_
 conv => cbv
 refine st_fld hE fI0 fun p hp => ?_
 conv => cbv
 refine st_load hE cStr (by rw [hp]; exact hx1.cell (h.cells 0 _ rfl)) ?_
 conv => cbv
 refine st_bV3 hE ?_
 conv => cbv
 refine st_putS hr (by kernel_rfl) hb (add_zero _).symm (by simp [zV]) (by simp [Value.oneCell']) fun w2 hw2 hb2 => ?_
 simp only [zV, a1_, a2_, a3_, a4_, a5_, a6_, a7_] at hb2
 have hx := hx1.then (hw2.bel hb hx1.size)
 conv => cbv
 refine st_cell hr tIV rfl hb2.at ?_
 rw [hR]; exact ⟨hx, ⟨⟨3, 0, q.cl, []⟩, none, 0, 0⟩, rfl, rfl, ⟨⟨rfl, by simp, by simp, ⟨by simp, by simp⟩, by simp⟩, h.t1⟩, inD_none⟩
theorem attr2_f {D : Nat → Prop} {w : World} {ra : Addr} {q : RQ} (h : RqR D w ra q) : FC Tryz.prog 173 [.pointer (some ra)] w fun r w' => ∃ x : VV, r = .agg ⟨vC x⟩ ∧ (rqP q)[1]? = some x.p ∧ ValM w' x ∧ InD D x.A x.m := by
 refine FC.intro (cs := []) Tryz.func173 (by kernel_rfl) fun E R hE hr hR => ?_
 conv => cbv
 refine st_alloc hr tIV rfl fun q4 w1 hx1 hb0 => ?_
 have hb := hb0 _ (n1_ _)
 clear hb0
 conv => cbv
 refine st_nil hE ?_
 conv => cbv
 refine st_fld hE fI1 fun p hp => ?_
 conv => cbv
 refine st_load hE cStr (by rw [hp]; exact hx1.cell (h.cells 1 _ rfl)) ?_
 conv => cbv
 refine st_bV3 hE ?_
 conv => cbv
 refine st_putS hr (by kernel_rfl) hb (add_zero _).symm (by simp [zV]) (by simp [Value.oneCell']) fun w2 hw2 hb2 => ?_
 simp only [zV, a1_, a2_, a3_, a4_, a5_, a6_, a7_] at hb2
 have hx := hx1.then (hw2.bel hb hx1.size)
 conv => cbv
 refine st_cell hr tIV rfl hb2.at ?_
 rw [hR]; exact ⟨hx, ⟨⟨3, 0, q.us, []⟩, none, 0, 0⟩, rfl, rfl, ⟨⟨rfl, by simp, by simp, ⟨by simp, by simp⟩, by simp⟩, h.t2⟩, inD_none⟩
theorem attr3_f {D : Nat → Prop} {w : World} {ra : Addr} {q : RQ} (h : RqR D w ra q) : FC Tryz.prog 174 [.pointer (some ra)] w fun r w' => ∃ x : VV, r = .agg ⟨vC x⟩ ∧ (rqP q)[2]? = some x.p ∧ ValM w' x ∧ InD D x.A x.m := by
 refine FC.intro (cs := []) Tryz.func174 (by kernel_rfl) fun E R hE hr hR => ?_
 conv => cbv
 refine st_alloc hr tIV rfl fun q4 w1 hx1 hb0 => ?_
 have hb := hb0 _ (n1_ _)
 clear hb0
 conv => cbv
 refine st_nil hE ?_
 conv => cbv
 refine st_fld hE fI2 fun p hp => ?_
 conv => cbv
 refine st_load hE cI64 (by rw [hp]; exact hx1.cell (h.cells 2 _ rfl)) ?_
 conv => cbv
 refine st_bV2 hE ?_
 conv => cbv
 refine st_putS hr (by kernel_rfl) hb (add_zero _).symm (by simp [zV]) (by simp [Value.oneCell']) fun w2 hw2 hb2 => ?_
 simp only [zV, a1_, a2_, a3_, a4_, a5_, a6_, a7_] at hb2
 have hx := hx1.then (hw2.bel hb hx1.size)
 conv => cbv
 refine st_cell hr tIV rfl hb2.at ?_
 rw [hR]; exact ⟨hx, numX q.lv, rfl, rfl, numX_m _ _, inD_none⟩
theorem attr4_f {D : Nat → Prop} {w : World} {ra : Addr} {q : RQ} (h : RqR D w ra q) : FC Tryz.prog 175 [.pointer (some ra)] w fun r w' => ∃ x : VV, r = .agg ⟨vC x⟩ ∧ (rqP q)[3]? = some x.p ∧ ValM w' x ∧ InD D x.A x.m := by
 refine FC.intro (cs := []) Tryz.func175 (by kernel_rfl) fun E R hE hr hR => ?_
 conv => cbv
 refine st_alloc hr tIV rfl fun q4 w1 hx1 hb0 => ?_
 have hb := hb0 _ (n1_ _)
 clear hb0
 conv => cbv
 refine st_nil hE ?_
 conv => cbv
 refine st_fld hE fI3 fun p hp => ?_
 conv => cbv
 refine st_load hE cI64 (by rw [hp]; exact hx1.cell (h.cells 3 _ rfl)) ?_
 conv => cbv
 refine st_bV2 hE ?_
 conv => cbv
 refine st_putS hr (by kernel_rfl) hb (add_zero _).symm (by simp [zV]) (by simp [Value.oneCell']) fun w2 hw2 hb2 => ?_
 simp only [zV, a1_, a2_, a3_, a4_, a5_, a6_, a7_] at hb2
 have hx := hx1.then (hw2.bel hb hx1.size)
 conv => cbv
 refine st_cell hr tIV rfl hb2.at ?_
 rw [hR]; exact ⟨hx, numX q.nw, rfl, rfl, numX_m _ _, inD_none⟩
theorem attr5_f {D : Nat → Prop} {w : World} {ra : Addr} {q : RQ} (h : RqR D w ra q) : FC Tryz.prog 176 [.pointer (some ra)] w fun r w' => ∃ x : VV, r = .agg ⟨vC x⟩ ∧ (rqP q)[4]? = some x.p ∧ ValM w' x ∧ InD D x.A x.m := by
 refine FC.intro (cs := []) Tryz.func176 (by kernel_rfl) fun E R hE hr hR => ?_
 conv => cbv
 refine st_alloc hr tIV rfl fun q4 w1 hx1 hb0 => ?_
 have hb := hb0 _ (n1_ _)
 clear hb0
 conv => cbv
 refine st_nil hE ?_
 conv => cbv
 refine st_fld hE fI4 fun p hp => ?_
 conv => cbv
 refine st_load hE cStrs (by rw [hp]; exact hx1.cell (h.cells 4 _ rfl)) ?_
 conv => cbv
 refine st_bV4 hE ?_
 conv => cbv
 refine st_putS hr (by kernel_rfl) hb (add_zero _).symm (by simp [zV]) (by simp [Value.oneCell']) fun w2 hw2 hb2 => ?_
 simp only [zV, a1_, a2_, a3_, a4_, a5_, a6_, a7_] at hb2
 have hx := hx1.then (hw2.bel hb hx1.size)
 conv => cbv
 refine st_cell hr tIV rfl hb2.at ?_
 rw [hR]; exact ⟨hx, setX q.A q.n q.c q.xs, rfl, rfl, setX_m (h.s1.ext hx), h.d1⟩
theorem attr6_f {D : Nat → Prop} {w : World} {ra : Addr} {q : RQ} (h : RqR D w ra q) : FC Tryz.prog 177 [.pointer (some ra)] w fun r w' => ∃ x : VV, r = .agg ⟨vC x⟩ ∧ (rqP q)[5]? = some x.p ∧ ValM w' x ∧ InD D x.A x.m := by
 refine FC.intro (cs := []) Tryz.func177 (by kernel_rfl) fun E R hE hr hR => ?_
 conv => cbv
 refine st_alloc hr tIV rfl fun q4 w1 hx1 hb0 => ?_
 have hb := hb0 _ (n1_ _)
 clear hb0
 conv => cbv
 refine st_nil hE ?_
 conv => cbv
 refine st_fld hE fI5 fun p hp => ?_
 conv => cbv
 refine st_load hE cStrs (by rw [hp]; exact hx1.cell (h.cells 5 _ rfl)) ?_
 conv => cbv
 refine st_bV4 hE ?_
 conv => cbv
 refine st_putS hr (by kernel_rfl) hb (add_zero _).symm (by simp [zV]) (by simp [Value.oneCell']) fun w2 hw2 hb2 => ?_
 simp only [zV, a1_, a2_, a3_, a4_, a5_, a6_, a7_] at hb2
 have hx := hx1.then (hw2.bel hb hx1.size)
 conv => cbv
 refine st_cell hr tIV rfl hb2.at ?_
 rw [hR]; exact ⟨hx, setX q.A2 q.n2 q.c2 q.ys, rfl, rfl, setX_m (h.s2.ext hx), h.d2⟩
theorem attr_f {D : Nat → Prop} {w : World} {ra : Addr} {q : RQ} (h : RqR D w ra q) {i : Nat} (hi : i < 6) : ∃ s t f, arT[i]? = some (s, t, f) ∧ FC Tryz.prog f [.pointer (some ra)] w fun r w' => ∃ x : VV, r = .agg ⟨vC x⟩ ∧ (rqP q)[i]? = some x.p ∧ ValM w' x ∧ InD D x.A x.m := by
 have : i = 0 ∨ i = 1 ∨ i = 2 ∨ i = 3 ∨ i = 4 ∨ i = 5 := by omega
 rcases this with rfl | rfl | rfl | rfl | rfl | rfl
 ·exact ⟨_, _, _, rfl, attr1_f h⟩
 ·exact ⟨_, _, _, rfl, attr2_f h⟩
 ·exact ⟨_, _, _, rfl, attr3_f h⟩
 ·exact ⟨_, _, _, rfl, attr4_f h⟩
 ·exact ⟨_, _, _, rfl, attr5_f h⟩
 ·exact ⟨_, _, _, rfl, attr6_f h⟩
structure DecR (D : Nat → Prop) (w : World) (q ra : Addr) (rq : RQ) (LA : Option Addr) (ln lc : Nat) (lv : List VV) : Prop where
 box : ∀ j u, ([.pointer (some ra), .slice LA ln lc] : List Value)[j]? = some u → w.cell? (q.add j) = some u
 req : RqR D w ra rq
 len : lv.length = ln
 cells : Cells w LA (lv.flatMap vC)
 vals : ∀ x ∈ lv, ValM w x ∧ InD D x.A x.m
theorem DecR.ext {D : Nat → Prop} {w w' : World} {q ra : Addr} {rq : RQ} {LA : Option Addr} {ln lc : Nat} {lv : List VV} (h : DecR D w q ra rq LA ln lc lv) (hx : Ext w w') : DecR D w' q ra rq LA ln lc lv :=
 ⟨fun j u hu => hx.cell (h.box j u hu), h.req.ext hx, h.len, h.cells.ext hx, fun x hx' => ⟨(h.vals x hx').1.ext hx, (h.vals x hx').2⟩⟩
theorem ResM.mono {z o v : Addr} {D D' : Nat → Prop} {w : World} {R : Int ⊕ PV} {r : Value} (h : ResM z o v D w R r) (hD : ∀ b, D b → D' b) : ResM z o v D' w R r := by
 cases R with
 | inl c => exact h
 | inr p => obtain ⟨x, h1, h2, h3, h4⟩ := h; exact ⟨x, h1, h2, h3, fun a ha hm => hD _ (h4 a ha hm)⟩
theorem ResM.ext {z o v : Addr} {D : Nat → Prop} {w w' : World} {R : Int ⊕ PV} {r : Value} (h : ResM z o v D w R r) (hx : Ext w w') : ResM z o v D w' R r := by
 cases R with
 | inl c => exact h
 | inr p => obtain ⟨x, h1, h2, h3, h4⟩ := h; exact ⟨x, h1, h2, h3.ext hx, h4⟩
theorem fAr2 : Fld Tryz.prog 175 2 2 := ⟨by kernel_rfl⟩
theorem cPrq : Cel Tryz.prog 84 := ⟨_, Tryz.underlying84, by simp, by simp⟩
theorem cFat : Cel Tryz.prog 173 := ⟨_, Tryz.underlying173, by simp, by simp⟩
theorem opOK_of {o : Int} {ts : List Int} (hk : (ts.length : Int) = kidsF o) (h1 : 1 ≤ ts.length) (hz : typG o ts ≠ 0) {x y : PV} (hx : ∀ t, ts[0]? = some t → valV t x) (hy : ∀ t, ts[1]? = some t → valV t y) : opOK o x y := by
 have f2 : ∀ {v : PV}, valV 2 v → fits v.n := fun h => (val2 h).2.1
 have s4 : ∀ {v : PV}, valV 4 v → isSet v.xs := fun h => (val4 h).2.2.2
 rcases typG_cases hk h1 hz with ⟨ho, e, ht⟩ | ⟨ho, e, ht⟩ | ⟨ho, e, ht⟩ | ⟨ho, e, ht⟩ | ⟨ho, e, ht⟩ | ⟨ho, ⟨a, e⟩, ht⟩ | ⟨ho, e, ht⟩ | ⟨ho, e, ht⟩ | ⟨ho, e, ht⟩ | ⟨ho, e, ht⟩ | ⟨ho, a, e, ht⟩
 ·exact ⟨fun _ => f2 (hx 2 (by rw [e]; rfl)), fun _ => by omega, fun _ => by omega, fun _ => by omega⟩
 ·exact ⟨fun _ => by omega, fun _ => by omega, fun _ => by omega, fun _ => by omega⟩
 ·exact ⟨fun _ => by omega, fun _ => (s4 (hx 4 (by rw [e]; rfl))).2.2, fun _ => by omega, fun _ => by omega⟩
 ·exact ⟨fun _ => by omega, fun _ => by omega, fun _ => ⟨f2 (hx 2 (by rw [e]; rfl)), f2 (hy 2 (by rw [e]; rfl))⟩, fun _ => by omega⟩
 ·exact ⟨fun _ => by omega, fun _ => by omega, fun _ => by omega, fun _ => ⟨s4 (hx 4 (by rw [e]; rfl)), s4 (hy 4 (by rw [e]; rfl))⟩⟩
 ·exact ⟨fun _ => by omega, fun _ => by omega, fun _ => by omega, fun _ => by omega⟩
 ·exact ⟨fun _ => by omega, fun _ => by omega, fun _ => by omega, fun _ => by omega⟩
 ·exact ⟨fun _ => by omega, fun _ => by omega, fun _ => by omega, fun _ => by omega⟩
 ·exact ⟨fun _ => by omega, fun _ => by omega, fun _ => by omega, fun _ => ⟨s4 (hx 4 (by rw [e]; rfl)), s4 (hy 4 (by rw [e]; rfl))⟩⟩
 ·exact ⟨fun _ => by omega, fun _ => by omega, fun _ => by omega, fun _ => by omega⟩
 ·exact ⟨fun _ => by omega, fun _ => by omega, fun _ => by omega, fun _ => by omega⟩
def ValF (names : List ByteArray) (tys : List Int) (n : Nat) : Prop := ∀ (t : Tr) (tv : Value), dep t ≤ n → goodT tys.length t → conOK t → (tyT names tys t).2 = 0 → ∀ (w : World) (D : Nat → Prop), (∀ b, D b → b < w.heap.size) → TreeV D w t tv → ∀ (q ra : Addr) (rq : RQ) (LA : Option Addr) (ln lc : Nat) (lv : List VV), DecR D w q ra rq LA ln lc lv → LetsV tys (lv.map (·.p)) → ReqV (rqP rq) → ∀ z o v : Addr, Errs w z o v → Tab w 5 calcF →
 FC Tryz.prog 145 [.pointer (some q), tv] w fun r w' => ResM z o v (fun b => D b ∨ DNew w w' b) w' (evT (rqP rq) (lv.map (·.p)) t) r
def resS : List (PS × PT) → CK → List PT
 | [], _ => []
 | (s, p) :: l, x => match ckP s x p with
  | .inl _ => []
  | .inr y => ⟨p.c.map (resT x.names), p.g.map (resT y.names)⟩ :: resS l y
def spOf (es : List SV) : List (PS × PT) := es.map fun e => (e.s, e.p)
def poS (es : List SV) : Nat := (pos (es.flatMap fun e => trs e.p)).length
structure SVs (w : World) (A : Option Addr) (m c : Nat) (es : List SV) : Prop where
 len : es.length = m
 cap : m ≤ c
 cells : Cells w A (es.flatMap fV)
 trees : ES (fun b => b < w.heap.size) w es
theorem SVs.ext {w w' : World} {A : Option Addr} {m c : Nat} {es : List SV} (h : SVs w A m c es) (hx : Ext w w') : SVs w' A m c es :=
 ⟨h.len, h.cap, h.cells.ext hx, h.trees.keep (fun b hb => hx.block b hb) (fun b hb => n3_ hb hx.size)⟩
def DO (w0s ws : Nat) (w : World) (A TA B : Option Addr) (b : Nat) : Prop := b < w0s ∨ (ws ≤ b ∧ b < w.heap.size ∧ blk A ≠ some b ∧ blk TA ≠ some b ∧ blk B ≠ some b)
abbrev typV (A : Option Addr) (n c : Nat) (A2 : Option Addr) (n2 c2 : Nat) (A3 : Option Addr) (n3 c3 : Nat) : Value := .agg ⟨[.slice A n c, .slice A2 n2 c2, .slice A3 n3 c3]⟩
abbrev zTyp : List Value := [.slice none 0 0, .slice none 0 0, .slice none 0 0]
structure TypR (w : World) (A : Option Addr) (n : Nat) (A2 : Option Addr) (n2 : Nat) (A3 : Option Addr) (n3 c3 : Nat) (nv : List PN) (sv : List PS) (tyl : List Int) : Prop where
 pol : PolR w A n A2 n2 nv sv
 tys : Ints w A3 n3 c3 tyl
theorem TypR.ext {w w' : World} {A A2 A3 : Option Addr} {n n2 n3 c3 : Nat} {nv : List PN} {sv : List PS} {tyl : List Int} (h : TypR w A n A2 n2 A3 n3 c3 nv sv tyl) (hx : Ext w w') : TypR w' A n A2 n2 A3 n3 c3 nv sv tyl := ⟨h.1.ext hx, h.2.ext hx⟩
end Go.Proofs.YtkedmcebngachaaGreatDoor
namespace Go.Eng
set_option linter.unusedVariables false
set_option linter.unusedSimpArgs false
def ePh2V (E E' : Sym) (w0 : World) (S : World → Prop) (all : List Oper) : List (Nat × Bool) → Fr → World → (Fr → World → Prop) → Prop
 | [], F, w, K => K F w
 | (k, true) :: l, F, w, K => match all[k]? with
  | none => False
  | some o => eOps E' all [o] F w0 fun F' _ => ePh2V E E' w0 S all l F' w K
 | (k, false) :: l, F, w, K => match all[k]? with
  | none => False
  | some o => eOps E all [o] F w fun F' w' => S w' ∧ ePh2V E E' w0 S all l F' w' K
section
variable {P : Program} {Pn : List PanicEntry → World → Prop} {n : Nat}
end
end Go.Eng
namespace Go.Proofs.YtkedmcebngachaaGreatDoor
open Go.Eng
set_option linter.unusedVariables false
set_option linter.unusedSimpArgs false
theorem LaidS.ext {w w' : World} {A : Option Addr} {m c : Nat} {sv : List PS} {acc : List PT} (h : LaidS w A m c sv acc) (hx : Ext w w') : LaidS w' A m c sv acc := by
 obtain ⟨es, h1, h2, h3, h4, h5, h6, h7⟩ := h
 exact ⟨es, h1, h2, h3, h4, h5.ext hx, h6, h7.keep (fun b hb => hx.block b hb) (fun b hb => n3_ hb hx.size)⟩
def TypedP (nv : List PN) (sv : List PS) (tyl : List Int) (acc : List PT) (x : CK) : Prop :=
 (nv.length ≤ 4000 ∧ 1 ≤ sv.length ∧ sv.length ≤ 600) ∧ runS nv leafT sv 0 0 [] = some (acc, nv.length) ∧ ckS (sv.zip acc) ⟨[], [], []⟩ = .inr x ∧ x.acc = tyl
structure TOK (names : List ByteArray) (tys : List Int) (t : Tr) : Prop where
 g : goodT tys.length t
 c : conOK t
 e : (tyT names tys t).2 = 0
 d : dep t ≤ 64
def DecOK : List (PS × PT) → List ByteArray → List Int → Prop
 | [], _, _ => False
 | (s, p) :: l, names, tys => (∀ t, p.g = some t → TOK names tys t ∧ (tyT names tys t).1 = 4) ∧
  ((s.k = 3 ∧ p.c = none) ∨ (s.k = 1 ∧ ∃ t, p.c = some t ∧ TOK names tys t ∧ DecOK l (names ++ [s.nm]) (tys ++ [(tyT names tys t).1])) ∨
   (s.k = 2 ∧ ∃ t, p.c = some t ∧ TOK names tys t ∧ (tyT names tys t).1 = 1 ∧ DecOK l names tys))
def zOc : List Value := [.int .i64 0, .int .i64 0, .slice none 0 0]
theorem tOc : Stc Tryz.prog 32 3 zOc := ⟨by kernel_rfl, by kernel_rfl⟩
theorem fOc2 : Fld Tryz.prog 32 2 2 := ⟨by kernel_rfl⟩
section
variable {E : Sym} {w : World} {K : Value → World → Prop} {d : Option Tmp} {ty : TypeId} {pos : String} {aft : Array Edge} {g : Option (Nat × Bool)} {bq : Bool}
theorem run_bO1 (k : Int) (w : World) : (Instr.build 32 #[(0, .int .i64 k)]).run Tryz.prog w = .ok (.agg ⟨[.int .i64 k, .int .i64 0, .slice none 0 0]⟩) w := by kernel_rfl
theorem run_bO2 (k : Int) (A : Option Addr) (m c : Nat) (w : World) : (Instr.build 32 #[(0, .int .i64 k), (2, .slice A m c)]).run Tryz.prog w = .ok (.agg ⟨[.int .i64 k, .int .i64 0, .slice A m c]⟩) w := by kernel_rfl
theorem run_bO3 (k z : Int) (w : World) : (Instr.build 32 #[(0, .int .i64 k), (1, .int .i64 z)]).run Tryz.prog w = .ok (.agg ⟨[.int .i64 k, .int .i64 z, .slice none 0 0]⟩) w := by kernel_rfl
theorem st_bO1 (hE : EngB bq Tryz.prog E) {k : Int} {x : Operand} (hk : K (.agg ⟨[.int .i64 k, .int .i64 0, .slice none 0 0]⟩) w) : E.stop ⟨d, .build 32 ⟨[(0, x)]⟩, ty, pos, aft, g⟩ [.int .i64 k] w K := by
 refine hE.det (v := .agg ⟨[.int .i64 k, .int .i64 0, .slice none 0 0]⟩) (fun w1 _ ρ hρ => ?_) hk
 simp only [opnds, b2_, b3_, b1_, and_true] at hρ
 have := run_bO1 k w1
 simp [execOp, hρ, this]
end
def OutM (z o v : Addr) (B : Nat) (w : World) (R : Out) (r : Value) : Prop := match R with
 | .deny => r = .tuple ⟨[.agg ⟨[.int .i64 1, .int .i64 0, .slice none 0 0]⟩, .nilIface]⟩
 | .grant xs => ∃ A m c, r = .tuple ⟨[.agg ⟨[.int .i64 2, .int .i64 0, .slice A m c]⟩, .nilIface]⟩ ∧ Own B 9 1 w A m c (xs.map .string) ∧ (∀ s ∈ xs, s.size ≤ 9223372036854775807) ∧ xs.length ≤ 64
 | .err c => (c = 1 ∨ c = 2 ∨ c = 3) ∧ ∃ op, r = .tuple ⟨[.agg ⟨[.int .i64 0, .int .i64 0, .slice none 0 0]⟩, wwV op (sentA z o v c)]⟩
def DL (w : World) (q : Addr) (LA : Option Addr) (b : Nat) : Prop := b < w.heap.size ∧ b ≠ q.block ∧ blk LA ≠ some b
def lastO (rq lets : List PV) : Option Tr → Out
 | none => .deny
 | some g => grantR (evT rq lets g)
abbrev rqL (cl us : ByteArray) (lv nw : Int) (xs ys : List ByteArray) : List PV := [⟨3, 0, cl, []⟩, ⟨3, 0, us, []⟩, ⟨2, lv, noS, []⟩, ⟨2, nw, noS, []⟩, ⟨4, 0, noS, xs⟩, ⟨4, 0, noS, ys⟩]
abbrev reqV (cl us : ByteArray) (lv nw : Int) (A : Option Addr) (n c : Nat) (A2 : Option Addr) (n2 c2 : Nat) : Value := .agg ⟨[.string cl, .string us, .int .i64 lv, .int .i64 nw, .slice A n c, .slice A2 n2 c2]⟩
def ocOf : Out → Int × Int × List ByteArray
 | .deny => (1, 0, [])
 | .grant xs => (2, 0, xs)
 | .err c => (3, c, [])
def DecP (nv : List PN) (sv : List PS) (tyl : List Int) (cl us : ByteArray) (lv nw : Int) (xs ys : List ByteArray) (x : Int × Int × List ByteArray) : Prop :=
 (¬ (wellP nv sv tyl ∧ validReq cl us xs ys) ∧ x = (4, 0, [])) ∨ ((wellP nv sv tyl ∧ validReq cl us xs ys) ∧ ∃ acc y, TypedP nv sv tyl acc y ∧ x = ocOf (decR (rqL cl us lv nw xs ys) (sv.zip acc) []))
theorem DecP.unique {nv : List PN} {sv : List PS} {tyl : List Int} {cl us : ByteArray} {lv nw : Int} {xs ys : List ByteArray} {x y : Int × Int × List ByteArray} (h : DecP nv sv tyl cl us lv nw xs ys x) (k : DecP nv sv tyl cl us lv nw xs ys y) : x = y := by
 rcases h with ⟨h1, rfl⟩ | ⟨h1, acc, a, ha, rfl⟩ <;> rcases k with ⟨k1, rfl⟩ | ⟨k1, acc2, b, hb, rfl⟩
 ·rfl
 ·exact absurd k1 h1
 ·exact absurd h1 k1
 ·have := ha.2.1.symm.trans hb.2.1
  cases this; rfl
theorem req_val {cl us : ByteArray} {lv nw : Int} {xs ys : List ByteArray} (h : validReq cl us xs ys) (h1 : fits lv) (h2 : fits nw) : ReqV (rqL cl us lv nw xs ys) := by
 refine ⟨rfl, fun i v hv => ?_⟩
 obtain ⟨a, b, c, d⟩ := h
 have hi : i = 0 ∨ i = 1 ∨ i = 2 ∨ i = 3 ∨ i = 4 ∨ i = 5 := by
  have := (List.getElem?_eq_some_iff.1 hv).1
  simp at this; omega
 have sz : ∀ {s : ByteArray}, validName s → s.size ≤ 9223372036854775807 := fun h => by have := h.2.2; omega
 rcases hi with rfl | rfl | rfl | rfl | rfl | rfl <;> simp at hv <;> subst hv
 ·exact ⟨rfl, .inr (.inr (.inl ⟨rfl, rfl, rfl, sz a⟩))⟩
 ·exact ⟨rfl, .inr (.inr (.inl ⟨rfl, rfl, rfl, sz b⟩))⟩
 ·exact ⟨rfl, .inr (.inl ⟨rfl, h1, rfl, rfl⟩)⟩
 ·exact ⟨rfl, .inr (.inl ⟨rfl, h2, rfl, rfl⟩)⟩
 ·exact ⟨rfl, .inr (.inr (.inr ⟨rfl, rfl, rfl, c⟩))⟩
 ·exact ⟨rfl, .inr (.inr (.inr ⟨rfl, rfl, rfl, d⟩))⟩
theorem cells_in {w : World} {A : Option Addr} {vs : List Value} (h : Cells w A vs) : InD (fun b => b < w.heap.size) A vs.length := fun a ha hm => by
 subst ha
 obtain ⟨v, hv⟩ : ∃ v, vs[0]? = some v := ⟨_, g2_ hm⟩
 have := h.2 a rfl 0 v hv
 rw [add_zero] at this
 rcases Nat.lt_or_ge a.block w.heap.size with h | h
 ·exact h
 ·simp [World.cell?, Array.getElem?_eq_none h] at this
theorem strs_in {w : World} {A : Option Addr} {n c : Nat} {xs : List ByteArray} (h : Strs w A n c xs) : InD (fun b => b < w.heap.size) A n := by
 have := cells_in h.cells
 rw [List.length_map, h.len] at this
 exact this
section
variable {E : Sym} {w : World} {K : Value → World → Prop} {d : Option Tmp} {ty : TypeId} {pos : String} {aft : Array Edge} {g : Option (Nat × Bool)} {bq : Bool}
end
end Go.Proofs.YtkedmcebngachaaGreatDoor
