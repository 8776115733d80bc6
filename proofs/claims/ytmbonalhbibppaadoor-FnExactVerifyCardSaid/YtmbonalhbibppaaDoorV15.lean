/- The program's know, place, Verify (printed by gen_v15.py). -/
import Derived.Test.YtmbonalhbibppaaDoorV14
import Derived.Test.YtmbonalhbibppaaDoorEng14
namespace Go.Proofs.YtmbonalhbibppaaDoor
open Go.Eng
set_option linter.unusedVariables false
set_option linter.unusedSimpArgs false
theorem zPt : (Tryd.prog.info? 96).map (·.size) = some 1 := by kernel_rfl
theorem uPt : Tryd.prog.underlying 96 = some (.pointer 98) := Tryd.underlying96
/-- The row of pointers stands for f, from place a on. -/
def IRep (B : Nat) (w : World) (sl : Int) (ps : List (Option Addr)) (a : Nat) (f : Sts) : Prop :=
  ∀ k p, a ≤ k → ps[k]? = some p → (p = none → f k = none) ∧ ∀ x, p = some x → ∃ st, f k = some st ∧ okS sl st ∧ StB B w x st
theorem IRep.ext {B : Nat} {w w' : World} {sl : Int} {ps : List (Option Addr)} {a : Nat} {f : Sts} (h : IRep B w sl ps a f) (hx : Ext w w') : IRep B w' sl ps a f := fun k p hk hp =>
  ⟨(h k p hk hp).1, fun x e => by obtain ⟨st, h1, h2, h3⟩ := (h k p hk hp).2 x e; exact ⟨st, h1, h2, h3.ext hx⟩⟩
theorem IRep.above {B : Nat} {w w' : World} {sl : Int} {ps : List (Option Addr)} {a : Nat} {f : Sts} (h : IRep B w sl ps a f) (hx : Above B w w') : IRep B w' sl ps a f := fun k p hk hp =>
  ⟨(h k p hk hp).1, fun x e => by obtain ⟨st, h1, h2, h3⟩ := (h k p hk hp).2 x e; exact ⟨st, h1, h2, h3.above hx⟩⟩
theorem IRep.mono {B : Nat} {w : World} {sl : Int} {ps : List (Option Addr)} {a a' : Nat} {f : Sts} (h : IRep B w sl ps a f) (ha : a ≤ a') : IRep B w sl ps a' f := fun k p hk hp => h k p (by omega) hp
theorem IRep.set {B : Nat} {w : World} {sl : Int} {ps : List (Option Addr)} {a k : Nat} {f : Sts} (h : IRep B w sl ps a f) {x : Addr} {t : St} (hok : okS sl t) (hx : StB B w x t) : IRep B w sl (ps.set k (some x)) a (fun j => if j = k then some t else f j) := by
  intro j p hj hp
  rw [List.getElem?_set] at hp
  by_cases e : k = j
  · subst e
    rw [if_pos rfl] at hp
    split at hp
    · cases hp
      exact ⟨fun q => (by cases q), fun y e => by cases e; exact ⟨t, if_pos rfl, hok, hx⟩⟩
    · cases hp
  · rw [if_neg e] at hp
    obtain ⟨h1, h2⟩ := h j p hj hp
    refine ⟨fun q => by simp only; rw [if_neg (Ne.symm e)]; exact h1 q, fun y q => ?_⟩
    obtain ⟨st, h3, h4⟩ := h2 y q
    exact ⟨st, by simp only; rw [if_neg (Ne.symm e)]; exact h3, h4⟩
/-- What stands while the verifier runs. -/
structure VfR (B B1 : Nat) (w : World) (a : Addr) (A : Option Addr) (n c : Nat) (sl : Int) (A2 : Option Addr) (n2 c2 : Nat) (gs : Nat) (m : Int) (ps : List (Option Addr)) : Prop where
  box : Box B 95 5 w a (vfV A n c sl A2 n2 c2 (some ⟨gs, 0, none⟩) n2 n2 m)
  row : Own B 96 1 w (some ⟨gs, 0, none⟩) n2 n2 (ps.map .pointer)
  apt : Apart (some a) (some ⟨gs, 0, none⟩) ∧ Apart (some ⟨gs, 0, none⟩) (some a)
  abA : ∀ {wa wb : World}, Wr (some a) wa wb → Above B1 wa wb
  abS : ∀ {wa wb : World}, Wr (some ⟨gs, 0, none⟩) wa wb → Above B1 wa wb
  siz : B1 ≤ w.heap.size
theorem VfR.ext {B B1 : Nat} {w w' : World} {a : Addr} {A : Option Addr} {n c : Nat} {sl : Int} {A2 : Option Addr} {n2 c2 gs : Nat} {m : Int} {ps : List (Option Addr)} (h : VfR B B1 w a A n c sl A2 n2 c2 gs m ps) (hx : Ext w w') : VfR B B1 w' a A n c sl A2 n2 c2 gs m ps :=
  ⟨h.box.bel hx, h.row.bel hx, h.apt, h.abA, h.abS, by have := h.siz; have := hx.size; omega⟩
set_option maxHeartbeats 1000000 in
theorem know_g {w : World} {B B1 : Nat} {a : Addr} {A : Option Addr} {n c : Nat} {sl : Int} {A2 : Option Addr} {n2 c2 gs : Nat} {m : Int} {ps : List (Option Addr)} (hv : VfR B B1 w a A n c sl A2 n2 c2 gs m ps) {b : Nat} {f : Sts} (hrep : IRep B1 w sl ps b f)
    {k : Nat} {kk : Int} (hkk : kk = (k : Int)) (hk : b ≤ k) (hk2 : k < n2) {x : Addr} {t : St} (hok : okS sl t) (hx : StB B1 w x t) :
    GC Tryd.prog 95 [.pointer (some a), .int .i64 kk, .pointer (some x)] w fun v w' => ∃ b' : Bool, v = .bool b' ∧ Bel B w w' ∧ Above B1 w w' ∧ (b' = false → know f k t = none) ∧ (b' = true → ∃ f' ps', know f k t = some f' ∧ VfR B B1 w' a A n c sl A2 n2 c2 gs m ps' ∧ IRep B1 w' sl ps' b f') := by
  refine GC.intro (cs := []) Tryd.func95 (by kernel_rfl) fun E R hE hr hR => ?_
  have hb := hv.box
  have hro := hv.row
  have hpl := hro.len
  rw [List.length_map, Nat.mul_one] at hpl
  obtain ⟨p0, hp0⟩ : ∃ p0, ps[k]? = some p0 := ⟨_, List.getElem?_eq_getElem (by omega)⟩
  have hpk : (ps.map Value.pointer)[k]? = some (.pointer p0) := by rw [List.getElem?_map, hp0]; rfl
  obtain ⟨r1, r2⟩ := hrep k p0 hk hp0
  conv => cbv
  (refine st_nil hE ?_; (conv => cbv); refine st_fld hE fVf1 fun p hp => ?_; (conv => cbv); refine st_load hE cPs (by rw [hp]; exact (hb).at _ _ rfl) ?_; clear hp; (conv => cbv))
  refine st_elem hE sPs hro.cells (by rw [List.length_map]; omega) (by omega) (by omega) fun q v hv1 hq1 => ?_
  rw [show kk.toNat = k by omega, hpk] at hv1
  cases hv1
  conv => cbv
  refine st_load hE cPt hq1 ?_
  conv => cbv
  refine st_pnil hE uPt fun b2 hb2 => ?_
  cases b2 with
  | true =>
    have e0 := hb2.1 rfl
    have hfn := r1 e0
    conv => cbv
    (refine st_nil hE ?_; (conv => cbv); refine st_fld hE fVf1 fun p hp => ?_; (conv => cbv); refine st_load hE cPs (by rw [hp]; exact (hb).at _ _ rfl) ?_; clear hp; (conv => cbv))
    refine st_idx hE sPs rfl (by omega) (by omega) fun q2 hq2 => ?_
    rw [show kk.toNat = k by omega, Nat.mul_one] at hq2
    conv => cbv
    refine st_put hr zPt hro hq2 (by rw [List.length_map]; omega) rfl fun w2 hw2 ho2 => ?_
    conv => cbv
    rw [hR]; refine ⟨true, rfl, hw2.bel hro (by have := hv.siz; have := hro.form; obtain ⟨_, _, h7, h8⟩ := this; omega), hv.abS hw2, fun q => (by cases q), fun _ => ?_⟩
    refine ⟨fun j => if j = k then some t else f j, ps.set k (some x), by rw [know, hfn], ⟨hb.wr hw2 hv.apt.1, by rw [List.map_set]; exact ho2, hv.apt, hv.abA, hv.abS, by have := hv.siz; have := hw2.size; omega⟩, ?_⟩
    exact (hrep.above (hv.abS hw2)).set hok (hx.above (hv.abS hw2))
  | false =>
    cases p0 with
    | none => exact absurd (hb2.2 rfl) (by simp)
    | some y =>
    obtain ⟨u, hfn, hok2, hy⟩ := r2 y rfl
    conv => cbv
    (refine st_nil hE ?_; (conv => cbv); refine st_fld hE fVf1 fun p hp => ?_; (conv => cbv); refine st_load hE cPs (by rw [hp]; exact (hb).at _ _ rfl) ?_; clear hp; (conv => cbv))
    refine st_elem hE sPs hro.cells (by rw [List.length_map]; omega) (by omega) (by omega) fun q2 v hv2 hq2 => ?_
    rw [show kk.toNat = k by omega, hpk] at hv2
    cases hv2
    conv => cbv
    refine st_load hE cPt hq2 ?_
    conv => cbv
    refine st_qb hE (same_q hy hx) fun b3 hb3 w2 hs2 => ?_
    conv => cbv
    rw [hR]; refine ⟨b3, rfl, (RowKit.Below.mono hs2.ext (by have := hv.siz; have := hro.form; obtain ⟨_, _, h7, h8⟩ := this; omega)), hs2.ext.above _, fun q => ?_, fun q => ?_⟩
    · have : u ≠ t := fun e => by rw [q] at hb3; exact absurd (hb3.2 e) (by simp)
      rw [know, hfn]; simp only; rw [if_neg this]
    · have e := hb3.1 q
      exact ⟨f, ps, by rw [know, hfn]; simp only; rw [if_pos e], hv.ext hs2.ext, hrep.ext hs2.ext⟩
/-- One place. -/
def oneF (pv : List PV) (sl : Int) (ni a : Nat) (o g : Int) (f : Sts) (m : Int) : Int × Option (Sts × Int) :=
  match f a with
  | none => (2, none)
  | some s =>
    if (stepF pv sl ni a o g s).1 ≠ 0 then ((stepF pv sl ni a o g s).1, none)
    else if goesF o ∧ a + 1 = ni then (8, none)
    else match merge (stepF pv sl ni a o g s).2 (nexts a o g) f with
      | none => (9, none)
      | some f' => (0, some (f', max (max m s.1.length) (stepF pv sl ni a o g s).2.1.length))
theorem verL_cons (pv : List PV) (sl : Int) (ni a : Nat) (o g : Int) (r : List (Int × Int)) (f : Sts) (m : Int) :
    verL pv sl ni ((o, g) :: r) a f m = match oneF pv sl ni a o g f m with
      | (cd, none) => (0, cd)
      | (_, some (f', m')) => verL pv sl ni r (a + 1) f' m' := by
  rw [verL, oneF]
  cases f a with
  | none => rfl
  | some s =>
    simp only
    split
    · rfl
    split
    · rfl
    cases merge (stepF pv sl ni a o g s).2 (nexts a o g) f <;> rfl
theorem run_bSt (A A2 : Option Addr) (n c n2 c2 : Nat) (w : World) : (Instr.build 98 #[(0, .slice A n c), (1, .slice A2 n2 c2)]).run Tryd.prog w = .ok (.agg #[.slice A n c, .slice A2 n2 c2]) w := by kernel_rfl
theorem st_bSt {E : Sym} {w : World} {K : Value → World → Prop} {d : Option Tmp} {ty : TypeId} {pos : String} {aft : Array Edge} {g : Option (Nat × Bool)} {bq : Bool} (hE : EngB bq Tryd.prog E) {A A2 : Option Addr} {n c n2 c2 : Nat} {x y : Operand} (hk : K (.agg ⟨[.slice A n c, .slice A2 n2 c2]⟩) w) : E.stop ⟨d, .build 98 ⟨[(0, x), (1, y)]⟩, ty, pos, aft, g⟩ [.slice A n c, .slice A2 n2 c2] w K := by
  refine hE.det (v := .agg ⟨[.slice A n c, .slice A2 n2 c2]⟩) (fun w1 _ ρ hρ => ?_) hk
  simp only [opnds, List.map_cons, List.map_nil, List.cons.injEq, and_true] at hρ
  have := run_bSt A A2 n c n2 c2 w1
  simp [execOp, hρ, this]
theorem VfR.putm {B B1 : Nat} {w w' : World} {a : Addr} {A : Option Addr} {n c : Nat} {sl : Int} {A2 : Option Addr} {n2 c2 gs : Nat} {m m' : Int} {ps : List (Option Addr)} (h : VfR B B1 w a A n c sl A2 n2 c2 gs m ps) (hw : Wr (some a) w w') (hb : Box B 95 5 w' a (vfV A n c sl A2 n2 c2 (some ⟨gs, 0, none⟩) n2 n2 m')) : VfR B B1 w' a A n c sl A2 n2 c2 gs m' ps :=
  ⟨hb, h.row.wr hw h.apt.2, h.apt, h.abA, h.abS, by have := h.siz; have := hw.size; omega⟩
set_option maxHeartbeats 8000000 in
theorem place_g {w0 w : World} {B1 : Nat} {a : Addr} {A : Option Addr} {n c : Nat} {sl : Int} {A2 : Option Addr} {n2 c2 gs : Nat} {m : Int} {ps : List (Option Addr)} {pv : List PV} {is : List (Int × Int)} (h : CodeR w0 A n A2 n2 pv is) (hT : Tab w0 8 opF) (hx : Ext w0 w) (hB0 : w0.heap.size ≤ B1)
    (hv : VfR w0.heap.size B1 w a A n c sl A2 n2 c2 gs m ps) {i : Nat} {f : Sts} (hrep : IRep B1 w sl ps i f) (hsh : shapeP pv sl is) {ii o gg : Int} (hii : ii = (i : Int)) (hi : i < n2) (hi2 : is[i]? = some (o, gg)) :
    GC Tryd.prog 48 [.pointer (some a), .int .i64 ii] w fun v w' => ∃ cd : Int, v = .int .i64 cd ∧ Ext w0 w' ∧
      ((cd ≠ 0 ∧ oneF pv sl n2 i o gg f m = (cd, none)) ∨ (cd = 0 ∧ ∃ f' m' ps', oneF pv sl n2 i o gg f m = (0, some (f', m')) ∧ VfR w0.heap.size B1 w' a A n c sl A2 n2 c2 gs m' ps' ∧ IRep B1 w' sl ps' (i + 1) f')) := by
  refine GC.intro (cs := []) Tryd.func48 (by kernel_rfl) fun E R hE hr hR => ?_
  have hpk := shape_k hsh
  have hpl := h.pool.len
  obtain ⟨q1, q2, q3, q4, q5, q6⟩ := id hsh
  obtain ⟨o1, o2, g0, _⟩ := q6 _ (List.mem_of_getElem? hi2)
  simp only at o1 o2 g0
  have hil := h.ins.len
  obtain ⟨V, hV⟩ : ∃ V, V = oneF pv sl n2 i o gg f m := ⟨_, rfl⟩
  rw [← hV] at hR
  unfold oneF at hV
  conv => cbv
  refine draw_t [0, 1, 2, 3, 4, 5, 6, 7, 8, 9, 10, 11, 12, 13, 14] [(15, true), (16, true), (17, false)] hr fol (by kernel_rfl) fun E' hE' w1 hs1 S hS => ?_
  replace hx := hx.trans hs1.ext
  replace hv := hv.ext hs1.ext
  replace hrep := hrep.ext hs1.ext
  have hpsl := hv.row.len
  rw [List.length_map, Nat.mul_one] at hpsl
  obtain ⟨p0, hp0⟩ : ∃ p0, ps[i]? = some p0 := ⟨_, List.getElem?_eq_getElem (by omega)⟩
  have hpi : (ps.map Value.pointer)[i]? = some (.pointer p0) := by rw [List.getElem?_map, hp0]; rfl
  obtain ⟨r1, r2⟩ := hrep i p0 (Nat.le_refl _) hp0
  conv => cbv
  (refine st_nil hE' ?_; (conv => cbv); refine st_fld hE' fVf0 fun p hp => ?_; (conv => cbv); refine st_fld hE' fIC2 fun p2 hp2 => ?_; (conv => cbv); refine st_load hE' cIIs (by rw [hp2, hp, add_add]; exact (hv.box).at _ _ rfl) ?_; clear hp hp2; (conv => cbv))
  obtain ⟨ai, o', g', hA, hg, hc⟩ := (h.ins.ext hx).get hi
  rw [hi2] at hg
  cases hg
  refine st_idx hE' sII hA (by omega) (by omega) fun q hq => ?_
  rw [show ii.toNat = i by omega] at hq
  conv => cbv
  refine st_loadS hE' tII rfl (by rw [hq]; exact hc) ?_
  conv => cbv
  (refine st_nil hE' ?_; (conv => cbv); refine st_fld hE' fVf1 fun p hp => ?_; (conv => cbv); refine st_load hE' cPs (by rw [hp]; exact (hv.box).at _ _ rfl) ?_; clear hp; (conv => cbv))
  refine st_elem hE' sPs hv.row.cells (by rw [List.length_map]; omega) (by omega) (by omega) fun q1 v hv1 hq1 => ?_
  rw [show ii.toNat = i by omega, hpi] at hv1
  cases hv1
  conv => cbv
  refine st_load hE' cPt hq1 ?_
  conv => cbv
  refine st_alloc hr tII rfl fun q2 w2 hx2 hq0 => ?_
  refine ⟨hS _ hx2, ?_⟩
  conv => cbv
  refine st_putS hr (by kernel_rfl) (hq0 B1 hv.siz) (add_zero _).symm (by simp) (by simp [Value.oneCell']) fun w3 hw3 hq3 => ?_
  simp only [List.take_zero, List.nil_append, List.length_cons, List.length_nil, List.drop_succ_cons, List.drop_nil, List.append_nil] at hq3
  have hx3 : Ext w1 w3 := hx2.then (hw3.bel (hq0 _ (Nat.le_refl _)) hx2.size)
  refine ⟨hS _ hx3, ?_⟩
  replace hx := hx.trans hx3
  replace hv := hv.ext hx3
  replace hrep := hrep.ext hx3
  have hq3f : Above B1 w1 w3 := hx3.above _
  clear hq1 hq hc hx2 hq0 hw3
  conv => cbv
  refine st_pnil hE uPt fun b2 hb2 => ?_
  cases b2 with
  | true =>
    rw [r1 (hb2.1 rfl)] at hV
    simp only at hV
    conv => cbv
    rw [hR]; exact ⟨2, rfl, hx, .inl ⟨by decide, by rw [hV]⟩⟩
  | false =>
  cases p0 with
  | none => exact absurd (hb2.2 rfl) (by simp)
  | some x0 =>
  obtain ⟨⟨st1, st2⟩, hf, hok, hstb⟩ := r2 x0 rfl
  replace hstb := hstb.ext hx3
  clear hx3 hq3f r1 r2 hb2
  rw [hf] at hV
  simp only at hV
  have hst := hok.hgt
  have hsl := hok.len
  simp only at hst hsl
  have hwl : popsF o = ((wantF o).length : Int) := pops_want o1 o2
  conv => cbv
  refine st_loadS hE tII rfl hq3.at ?_
  conv => cbv
  refine st_f hr (ranged_f (o := o) (gg := gg) hpl hv.box hii) fun v w4 hx4 ⟨b, ev, hrg⟩ => ?_
  subst ev
  replace hx := hx.trans hx4
  replace hv := hv.ext hx4
  replace hrep := hrep.ext hx4
  replace hstb := hstb.ext hx4
  replace hq3 := hq3.bel hx4
  clear hx4
  obtain ⟨SR, hSR0⟩ : ∃ SR, SR = stepF pv sl n2 i o gg (st1, st2) := ⟨_, rfl⟩
  rw [← hSR0] at hV
  have hSR := hSR0
  unfold stepF at hSR
  cases b with
  | false =>
    have hrg : ¬ rangeF pv.length sl n2 i o gg := fun q => absurd (hrg.2 q) (by simp)
    rw [if_pos hrg] at hSR
    conv => cbv
    rw [hR]; exact ⟨3, rfl, hx, .inl ⟨by decide, by rw [hV, hSR, if_pos (by simp)]⟩⟩
  | true =>
  have hrg := hrg.1 rfl
  rw [if_neg (fun q => q hrg)] at hSR
  obtain ⟨A6, n6, c6, A7, n7, c7, hsb, hrs⟩ := id hstb
  have hn6 := hrs.a.len
  have hn7 := hrs.b.len
  rw [List.length_map, Nat.mul_one] at hn6 hn7
  simp only at hn6 hn7
  conv => cbv
  refine draw_h [0, 1, 2, 3, 4, 5, 6] [(7, false), (8, true), (9, true)] hr fol (by kernel_rfl) fun E' hE' w5 hs5 S hS => ?_
  replace hx := hx.trans hs5.ext
  replace hv := hv.ext hs5.ext
  replace hrep := hrep.ext hs5.ext
  replace hstb := hstb.ext hs5.ext
  replace hrs := hrs.ext hs5.ext
  replace hsb := hsb.bel hs5.ext
  replace hq3 := hq3.bel hs5.ext
  clear hs5
  conv => cbv
  refine st_nil hE' ?_
  conv => cbv
  (refine st_fld hE' fSt0 fun p hp => ?_; (conv => cbv); refine st_load hE' cInts (by rw [hp]; exact (hsb).at _ _ rfl) ?_; clear hp; (conv => cbv))
  refine st_len hE' tInts fun x1 hx1 => ?_
  conv => cbv
  (refine st_fld hE' fII0 fun p hp => ?_; (conv => cbv); refine st_load hE' cInt (by rw [hp]; exact (hq3).at _ _ rfl) ?_; clear hp; (conv => cbv))
  refine st_f hr (pops_f (hT.ext hx) o) fun v w6 hx6 ev => ?_
  subst ev
  refine ⟨hS _ hx6, ?_⟩
  replace hx := hx.trans hx6
  replace hv := hv.ext hx6
  replace hrep := hrep.ext hx6
  replace hstb := hstb.ext hx6
  replace hrs := hrs.ext hx6
  replace hsb := hsb.bel hx6
  replace hq3 := hq3.bel hx6
  clear hx6 hS
  obtain ⟨nn, hnn⟩ : ∃ z, z = x1 - popsF o := ⟨_, rfl⟩
  obtain ⟨po, hpo⟩ : ∃ z, z = popsF o := ⟨_, rfl⟩
  have hpo2 : po ≤ 2 := by
    rw [hpo, hwl]; rcases o25 o1 o2 with rfl | rfl | rfl | rfl | rfl | rfl | rfl | rfl | rfl | rfl | rfl | rfl | rfl | rfl | rfl | rfl | rfl | rfl | rfl | rfl | rfl | rfl | rfl | rfl | rfl <;> decide
  have en : E.ar .sub .i64 x1 po = nn := by rw [hE.ar, hnn, ← hpo, show arR .sub .i64 x1 po = IntKind.i64.wrap (x1 - po) from rfl, wrap_in (by omega) (by omega)]
  rw [← hpo]
  conv => cbv
  simp only [en]
  refine br (fun g => ?_) (fun g => ?_)
  · have g : nn < 0 := by simpa [hE.cmp, cmpR] using g
    rw [if_pos (show (st1, st2).1.length < (wantF o).length by simp only; omega)] at hSR
    conv => cbv
    rw [hR]; exact ⟨4, rfl, hx, .inl ⟨by decide, by rw [hV, hSR, if_pos (by simp)]⟩⟩
  have g : ¬ nn < 0 := by simpa [hE.cmp, cmpR] using g
  obtain ⟨nb, hnb⟩ : ∃ nb : Nat, nn = nb := ⟨nn.toNat, by omega⟩
  have hnbs : (st1, st2).1.length - (wantF o).length = nb := by simp only; omega
  rw [if_neg (show ¬ (st1, st2).1.length < (wantF o).length by simp only; omega), hnbs] at hSR
  conv => cbv
  refine draw_h [0, 1, 2, 3, 4, 5, 6, 7, 8] [(9, false), (10, true), (11, true), (12, true), (13, true), (14, true)] hr fol (by kernel_rfl) fun E' hE' w7 hs7 S hS => ?_
  replace hx := hx.trans hs7.ext
  replace hv := hv.ext hs7.ext
  replace hrep := hrep.ext hs7.ext
  replace hstb := hstb.ext hs7.ext
  replace hrs := hrs.ext hs7.ext
  replace hsb := hsb.bel hs7.ext
  replace hq3 := hq3.bel hs7.ext
  clear hs7
  conv => cbv
  refine st_loadS hE' tII rfl hq3.at ?_
  conv => cbv
  refine st_nil hE' ?_
  conv => cbv
  (refine st_fld hE' fSt0 fun p hp => ?_; (conv => cbv); refine st_load hE' cInts (by rw [hp]; exact (hsb).at _ _ rfl) ?_; clear hp; (conv => cbv))
  refine st_intsFrom hE' tInts hrs.a.ints hnb (by omega) fun A8 n8 c8 hn8 ha8 => ?_
  conv => cbv
  have hal8 := ha8.len
  refine st_f hr (fits_f (hT.ext hx) (h.pool.ext hx) hv.box o1 o2 g0 hrg hstb hok ha8 (by simp only; rw [List.length_drop]; omega)) fun v w8 hx8 ⟨t, b, ev, hfit, ht⟩ => ?_
  subst ev
  refine ⟨hS _ hx8, ?_⟩
  replace hx := hx.trans hx8
  replace hv := hv.ext hx8
  replace hrep := hrep.ext hx8
  replace hstb := hstb.ext hx8
  replace hrs := hrs.ext hx8
  replace hsb := hsb.bel hx8
  replace hq3 := hq3.bel hx8
  clear hx8 hS ha8
  conv => cbv
  cases b with
  | false =>
    have hfit : ¬ fitF o (slotF st2 gg) (st1.drop nb) := fun q => absurd (hfit.2 q) (by simp)
    rw [if_pos hfit] at hSR
    conv => cbv
    rw [hR]; exact ⟨5, rfl, hx, .inl ⟨by decide, by rw [hV, hSR, if_pos (by simp)]⟩⟩
  | true =>
  have hfit := hfit.1 rfl
  have ht := ht rfl
  simp only at ht
  rw [if_neg (fun q => q hfit)] at hSR
  simp only at hSR
  rw [← ht] at hSR
  have ht0 : 0 ≤ t := by rw [ht]; exact push_nn hpk hok.nn
  conv => cbv
  (refine st_fld hE fII0 fun p hp => ?_; (conv => cbv); refine st_load hE cInt (by rw [hp]; exact (hq3).at _ _ rfl) ?_; clear hp; (conv => cbv))
  refine br (fun g3 => ?_) (fun g3 => ?_)
  · have g3 : o = 3 := by simpa [hE.cmp, cmpR] using g3
    conv => cbv
    refine br (fun g12 => ?_) (fun g12 => ?_)
    · have g12 : t = 0 := by simpa [hE.cmp, cmpR] using g12
      rw [if_pos ⟨g3, g12⟩] at hSR
      conv => cbv
      rw [hR]; exact ⟨6, rfl, hx, .inl ⟨by decide, by rw [hV, hSR, if_pos (by simp)]⟩⟩
    have g12 : t ≠ 0 := by simpa [hE.cmp, cmpR] using g12
    rw [if_neg (fun q => g12 q.2)] at hSR
    conv => cbv
    obtain ⟨T, hTd⟩ : ∃ T, T = nextS o gg (st1, st2) nb t := ⟨_, rfl⟩
    rw [← hTd] at hSR
    refine draw_h [1, 2, 3, 4, 5, 6, 8, 9, 10, 11] [(0, false), (7, false), (12, false), (13, false), (14, true)] hr fol (by kernel_rfl) fun E' hE' wS hs9 S hS => ?_
    replace hx := hx.trans hs9.ext
    replace hv := hv.ext hs9.ext
    replace hrep := hrep.ext hs9.ext
    replace hrs := hrs.ext hs9.ext
    replace hsb := hsb.bel hs9.ext
    replace hq3 := hq3.bel hs9.ext
    clear hs9
    have hBS := hv.siz
    conv => cbv
    refine st_nil hE' ?_
    conv => cbv
    (refine st_fld hE' fSt0 fun p hp => ?_; (conv => cbv); refine st_load hE' cInts (by rw [hp]; exact (hsb).at _ _ rfl) ?_; clear hp; (conv => cbv))
    refine st_intsUpto hE' tInts hrs.a.ints hnb (by omega) fun ha8 => ?_
    conv => cbv
    refine st_nil hE' ?_
    conv => cbv
    (refine st_fld hE' fSt1 fun p hp => ?_; (conv => cbv); refine st_load hE' cInts (by rw [hp]; exact (hsb).at _ _ rfl) ?_; clear hp; (conv => cbv))
    refine st_none hr tInts fun A9 w9 hx9 ho9 => ?_
    refine ⟨hS _ hx9, ?_⟩
    conv => cbv
    refine st_apps hr tInts rfl (ho9 _ (Nat.le_refl _)) (ha8.ext hx9).cells (by rw [List.length_map]; exact ha8.len) (fun v hv => by obtain ⟨x, _, rfl⟩ := List.mem_map.1 hv; rfl) hx9.size (by omega) (by omega) fun A10 c10 n10 w10 hn10 hw10 o10 => ?_
    rw [Nat.zero_add] at hn10
    replace hn10 := hn10.symm
    subst hn10
    have hy := hx9.then (hw10.bel (ho9 _ (Nat.le_refl _)) hx9.size)
    rw [List.nil_append] at o10
    refine ⟨hS _ hy, ?_⟩
    clear ho9 hw10 hx9 ha8
    conv => cbv
    refine st_bSt hE ?_
    refine ⟨hS _ hy, ?_⟩
    conv => cbv
    refine st_box hr fun x10 w11 hx11 hb11 => ?_
    have hs10 := hb11 _ hy.size
    have ap10 := o10.apart (hb11 _ (Nat.le_refl _)) (Nat.le_refl _)
    replace o10 := o10.bel hx11
    replace hy := hy.trans hx11
    clear hb11 hx11
    refine ⟨hS _ hy, ?_⟩
    clear hS
    conv => cbv
    refine br (fun g15 => ?_) (fun g15 => ?_)
    · have g15 : t ≠ 0 := by simpa [hE.cmp, cmpR] using g15
      have no4 : o ≠ 4 := fun q => g15 (by rw [ht]; simp [pushF, q])
      conv => cbv
      refine st_nil hE ?_
      conv => cbv
      (refine st_fld hE fSt0 fun p hp => ?_; (conv => cbv); refine st_load hE cInts (by rw [hp]; exact (hs10).at _ _ rfl) ?_; clear hp; (conv => cbv))
      refine st_one hr tInts rfl rfl fun A12 w12 hx12 hc12 => ?_
      replace o10 := o10.bel hx12
      replace hs10 := hs10.bel hx12
      replace hy := hy.trans hx12
      conv => cbv
      refine st_appsG hr tInts rfl o10 hc12 rfl (by simp [Value.oneCell']) hy.size (by omega) (by omega) fun A13 c13 n13 w13 hn13 hw13 o13 hbk => ?_
      subst hn13
      have ap13 := apart_grow hs10 ap10.1 hbk
      rw [show [Value.int .i64 t] = [t].map (Value.int .i64) from rfl, ← List.map_append] at o13
      replace hs10 := hs10.wr hw13 ap10.2
      replace hy := hy.then (hw13.bel o10 hy.size)
      clear hbk hw13 o10 hc12 hx12
      conv => cbv
      refine st_nil hE ?_
      conv => cbv
      refine st_fld hE fSt0 fun p hp => ?_
      conv => cbv
      refine st_put hr zInts hs10 hp (by simp) rfl fun w14 hw14 hs14 => ?_
      simp only [List.set_cons_zero, List.set_cons_succ] at hs14
      replace o13 := o13.wr hw14 ap13
      replace hy := hy.then (hw14.bel hs10 hy.size)
      clear hw14 hp
      conv => cbv
      (refine st_fld hE fII0 fun p hp => ?_; (conv => cbv); refine st_load hE cInt (by rw [hp]; exact ((hq3.bel hy)).at _ _ rfl) ?_; clear hp; (conv => cbv))
      refine br (fun g17 => ?_) (fun g17 => ?_)
      · have g17 : o = 4 := by simpa [hE.cmp, cmpR] using g17
        exact absurd g17 no4
      have hTe : T = (st1.take nb ++ [t], st2) := by rw [hTd]; simp only [nextS, if_neg g15, if_neg no4]
      have hx10 : StB B1 w14 x10 T := by
        rw [hTe]
        exact ⟨_, _, _, _, _, _, hs14.mono hBS, ⟨by simpa using o13.mono hBS, (hrs.b.bel hy)⟩⟩
      replace hx := hx.trans hy
      replace hv := hv.ext hy
      replace hrep := hrep.ext hy
      replace hrs := hrs.ext hy
      replace hsb := hsb.bel hy
      replace hq3 := hq3.bel hy
      obtain ⟨A20, n20, c20, A21, n21, c21, hs20, hr20⟩ := id hx10
      have hn20 := hr20.a.len
      rw [List.length_map, Nat.mul_one] at hn20
      clear hstb
      conv => cbv
      refine st_nil hE ?_
      conv => cbv
      (refine st_fld hE fSt0 fun p hp => ?_; (conv => cbv); refine st_load hE cInts (by rw [hp]; exact (hs20).at _ _ rfl) ?_; clear hp; (conv => cbv))
      refine st_len hE tInts fun x20 hx20 => ?_
      conv => cbv
      refine br (fun g20 => ?_) (fun g20 => ?_)
      · have g20 : 100 < x20 := by simpa [hE.cmp, cmpR] using g20
        rw [if_pos (show 100 < T.1.length by omega)] at hSR
        conv => cbv
        rw [hR]; exact ⟨7, rfl, hx, .inl ⟨by decide, by rw [hV, hSR, if_pos (by simp)]⟩⟩
      have g20 : ¬ 100 < x20 := by simpa [hE.cmp, cmpR] using g20
      rw [if_neg (show ¬ 100 < T.1.length by omega)] at hSR
      have hTok : okS sl T := by
        have := step_ok (sl := sl) (ni := n2) (a := i) (o := o) (g := gg) hpk hok (by rw [← hSR0, hSR])
        rw [← hSR0, hSR] at this
        exact this
      rw [hSR, if_neg (by simp)] at hV
      simp only at hV
      obtain ⟨m2, hm2⟩ : ∃ z, z = max (max m x1) x20 := ⟨_, rfl⟩
      rw [show max (max m (st1.length : Int)) (T.1.length : Int) = m2 by rw [hm2, show (st1.length : Int) = x1 by omega, show (T.1.length : Int) = x20 by omega]] at hV
      conv => cbv
      refine draw_t [0, 1, 2, 3, 4, 5, 6, 7, 8, 9, 10, 11, 12, 13, 14, 15] [(16, false), (17, false), (18, false)] hr fol (by kernel_rfl) fun E' hE' w30 hs30 S hS => ?_
      replace hx := hx.trans hs30.ext
      replace hv := hv.ext hs30.ext
      replace hrep := hrep.ext hs30.ext
      replace hsb := hsb.bel hs30.ext
      replace hq3 := hq3.bel hs30.ext
      replace hs20 := hs20.bel hs30.ext
      replace hx10 := hx10.ext hs30.ext
      clear hs30 hr20 hS
      conv => cbv
      (refine st_nil hE' ?_; (conv => cbv); refine st_fld hE' fVf2 fun p hp => ?_; (conv => cbv); refine st_load hE' cInt (by rw [hp]; exact (hv.box).at _ _ rfl) ?_; clear hp; (conv => cbv))
      refine st_nil hE' ?_
      conv => cbv
      (refine st_fld hE' fSt0 fun p hp => ?_; (conv => cbv); refine st_load hE' cInts (by rw [hp]; exact (hsb).at _ _ rfl) ?_; clear hp; (conv => cbv))
      refine st_len hE' tInts fun x21 hx21 => ?_
      conv => cbv
      refine st_nil hE' ?_
      conv => cbv
      (refine st_fld hE' fSt0 fun p hp => ?_; (conv => cbv); refine st_load hE' cInts (by rw [hp]; exact (hs20).at _ _ rfl) ?_; clear hp; (conv => cbv))
      refine st_len hE' tInts fun x22 hx22 => ?_
      conv => cbv
      refine st_max3 hE' fun m3 hm3 => ?_
      have hm3 : m3 = m2 := by rw [hm3, hm2, hx21, hx22, hx1, hx20]
      subst hm3
      refine st_nil hE ?_
      conv => cbv
      refine st_fld hE fVf2 fun p hp => ?_
      conv => cbv
      refine st_put hr zInt hv.box hp (by simp) rfl fun w31 hw31 hb31 => ?_
      simp only [List.set_cons_zero, List.set_cons_succ] at hb31
      replace hx := hx.then (hw31.bel hv.box hx.size)
      replace hv := hv.putm hw31 hb31
      replace hrep := (hrep.above (hv.abA hw31)).mono (Nat.le_succ i)
      replace hx10 := hx10.above (hv.abA hw31)
      replace hq3 := hq3.above (hv.abA hw31)
      clear hw31 hb31 hp hsb hs20
      conv => cbv
      (refine st_fld hE fII0 fun p hp => ?_; (conv => cbv); refine st_load hE cInt (by rw [hp]; exact (hq3).at _ _ rfl) ?_; clear hp; (conv => cbv))
      refine st_qb hE (goesOn_q o w31) fun bg hbg w32 hs32 => ?_
      replace hx := hx.trans hs32.ext
      replace hv := hv.ext hs32.ext
      replace hrep := hrep.ext hs32.ext
      replace hx10 := hx10.ext hs32.ext
      replace hq3 := hq3.bel hs32.ext
      clear hs32
      obtain ⟨ij, hij⟩ : ∃ z, z = ii + 1 := ⟨_, rfl⟩
      have ei : E.ar .add .i64 ii 1 = ij := by rw [hE.ar, hij]; exact wrap_in (by omega) (by omega)
      cases bg with
      | true =>
        have hgo := hbg.1 rfl
        conv => cbv
        simp only [ei]
        (refine st_nil hE ?_; (conv => cbv); refine st_fld hE fVf0 fun p hp => ?_; (conv => cbv); refine st_fld hE fIC2 fun p2 hp2 => ?_; (conv => cbv); refine st_load hE cIIs (by rw [hp2, hp, add_add]; exact (hv.box).at _ _ rfl) ?_; clear hp hp2; (conv => cbv))
        refine st_len hE sII fun x30 hx30 => ?_
        conv => cbv
        refine br (fun g30 => ?_) (fun g30 => ?_)
        · have g30 : ij = x30 := by simpa [hE.cmp, cmpR] using g30
          rw [if_pos ⟨hgo, by omega⟩] at hV
          conv => cbv
          rw [hR]; exact ⟨8, rfl, hx, .inl ⟨by decide, by rw [hV]⟩⟩
        have g30 : ij ≠ x30 := by simpa [hE.cmp, cmpR] using g30
        rw [if_neg (fun q => g30 (by have := q.2; omega))] at hV
        conv => cbv
        (refine st_fld hE fII0 fun p hp => ?_; (conv => cbv); refine st_load hE cInt (by rw [hp]; exact (hq3).at _ _ rfl) ?_; clear hp; (conv => cbv))
        refine st_qb hE (goesOn_q o w32) fun bg2 hbg2 w33 hs33 => ?_
        replace hx := hx.trans hs33.ext
        replace hv := hv.ext hs33.ext
        replace hrep := hrep.ext hs33.ext
        replace hx10 := hx10.ext hs33.ext
        replace hq3 := hq3.bel hs33.ext
        clear hs33
        have : bg2 = true := hbg2.2 hgo
        subst this
        conv => cbv
        simp only [ei]
        refine st_g hr (know_g hv hrep (k := i + 1) (kk := ij) (by omega) (Nat.le_refl _) (by omega) hTok hx10) fun v w34 ⟨b34, ev, hbl, hab, hkf, hkt⟩ => ?_
        subst ev
        replace hx := hx.then hbl
        cases b34 with
        | false =>
          have hkf := hkf rfl
          have hnx : merge T (nexts i o gg) f = none := by
            unfold nexts
            rw [if_neg (by obtain ⟨z1, z2, z3⟩ := hgo; omega), if_neg hgo.1]
            split <;> simp only [merge, show ((i : Int) + 1).toNat = i + 1 by omega, hkf]
          conv => cbv
          rw [hR]; exact ⟨9, rfl, hx, .inl ⟨by decide, by rw [hV, hnx]⟩⟩
        | true =>
        obtain ⟨f2, ps2, hkn, hv2, hrep2⟩ := hkt rfl
        replace hx10 := hx10.above hab
        replace hq3 := hq3.above hab
        clear hrep hv hab
        conv => cbv
        (refine st_fld hE fII0 fun p hp => ?_; (conv => cbv); refine st_load hE cInt (by rw [hp]; exact (hq3).at _ _ rfl) ?_; clear hp; (conv => cbv))
        refine br (fun g31 => ?_) (fun g31 => ?_)
        · have g31 : o = 22 := by simpa [hE.cmp, cmpR] using g31
          exact absurd g31 hgo.1
        conv => cbv
        (refine st_fld hE fII0 fun p hp => ?_; (conv => cbv); refine st_load hE cInt (by rw [hp]; exact (hq3).at _ _ rfl) ?_; clear hp; (conv => cbv))
        refine br (fun g32 => ?_) (fun g32 => ?_)
        · have g32 : o = 23 := by simpa [hE.cmp, cmpR] using g32
          have hgb := hrg.2.2.2 (.inr g32)
          conv => cbv
          (refine st_fld hE fII1 fun p hp => ?_; (conv => cbv); refine st_load hE cInt (by rw [hp]; exact (hq3).at _ _ rfl) ?_; clear hp; (conv => cbv))
          refine st_g hr (know_g hv2 hrep2 (k := gg.toNat) (kk := gg) (by omega) (by omega) (by omega) hTok hx10) fun v w35 ⟨b35, ev, hbl2, hab2, hkf2, hkt2⟩ => ?_
          subst ev
          replace hx := hx.then hbl2
          have hnx : merge T (nexts i o gg) f = match know f2 gg.toNat T with | none => none | some f' => some f' := by
            unfold nexts
            rw [if_neg (by omega), if_neg (by omega), if_pos g32]
            simp only [merge, show ((i : Int) + 1).toNat = i + 1 by omega, hkn]
            cases know f2 gg.toNat T <;> rfl
          cases b35 with
          | false =>
            rw [hkf2 rfl] at hnx
            conv => cbv
            rw [hR]; exact ⟨9, rfl, hx, .inl ⟨by decide, by rw [hV, hnx]⟩⟩
          | true =>
          obtain ⟨f3, ps3, hkn3, hv3, hrep3⟩ := hkt2 rfl
          rw [hkn3] at hnx
          conv => cbv
          rw [hR]; exact ⟨0, rfl, hx, .inr ⟨rfl, f3, m3, ps3, by rw [hV, hnx], hv3, hrep3⟩⟩
        have g32 : o ≠ 23 := by simpa [hE.cmp, cmpR] using g32
        have hnx : merge T (nexts i o gg) f = some f2 := by
          unfold nexts
          rw [if_neg (by obtain ⟨z1, z2, z3⟩ := hgo; omega), if_neg hgo.1, if_neg g32]
          simp only [merge, show ((i : Int) + 1).toNat = i + 1 by omega, hkn]
        conv => cbv
        rw [hR]; exact ⟨0, rfl, hx, .inr ⟨rfl, f2, m3, ps2, by rw [hV, hnx], hv2, hrep2⟩⟩
      | false =>
        have hgo : ¬ goesF o := fun q => absurd (hbg.2 q) (by simp)
        rw [if_neg (fun q => hgo q.1)] at hV
        conv => cbv
        (refine st_fld hE fII0 fun p hp => ?_; (conv => cbv); refine st_load hE cInt (by rw [hp]; exact (hq3).at _ _ rfl) ?_; clear hp; (conv => cbv))
        refine st_qb hE (goesOn_q o w32) fun bg2 hbg2 w33 hs33 => ?_
        replace hx := hx.trans hs33.ext
        replace hv := hv.ext hs33.ext
        replace hrep := hrep.ext hs33.ext
        replace hx10 := hx10.ext hs33.ext
        replace hq3 := hq3.bel hs33.ext
        clear hs33
        have : bg2 = false := by
          cases bg2 with
          | false => rfl
          | true => exact absurd (hbg2.1 rfl) hgo
        subst this
        conv => cbv
        (refine st_fld hE fII0 fun p hp => ?_; (conv => cbv); refine st_load hE cInt (by rw [hp]; exact (hq3).at _ _ rfl) ?_; clear hp; (conv => cbv))
        refine br (fun g31 => ?_) (fun g31 => ?_)
        · have g31 : o = 22 := by simpa [hE.cmp, cmpR] using g31
          have hgb := hrg.2.2.2 (.inl g31)
          conv => cbv
          (refine st_fld hE fII1 fun p hp => ?_; (conv => cbv); refine st_load hE cInt (by rw [hp]; exact (hq3).at _ _ rfl) ?_; clear hp; (conv => cbv))
          refine st_g hr (know_g hv hrep (k := gg.toNat) (kk := gg) (by omega) (by omega) (by omega) hTok hx10) fun v w35 ⟨b35, ev, hbl2, hab2, hkf2, hkt2⟩ => ?_
          subst ev
          replace hx := hx.then hbl2
          have hnx : merge T (nexts i o gg) f = match know f gg.toNat T with | none => none | some f' => some f' := by
            unfold nexts
            rw [if_neg (by omega), if_pos g31]
            simp only [merge]
            cases know f gg.toNat T <;> rfl
          cases b35 with
          | false =>
            rw [hkf2 rfl] at hnx
            conv => cbv
            rw [hR]; exact ⟨9, rfl, hx, .inl ⟨by decide, by rw [hV, hnx]⟩⟩
          | true =>
          obtain ⟨f3, ps3, hkn3, hv3, hrep3⟩ := hkt2 rfl
          rw [hkn3] at hnx
          conv => cbv
          rw [hR]; exact ⟨0, rfl, hx, .inr ⟨rfl, f3, m3, ps3, by rw [hV, hnx], hv3, hrep3⟩⟩
        have g31 : o ≠ 22 := by simpa [hE.cmp, cmpR] using g31
        conv => cbv
        (refine st_fld hE fII0 fun p hp => ?_; (conv => cbv); refine st_load hE cInt (by rw [hp]; exact (hq3).at _ _ rfl) ?_; clear hp; (conv => cbv))
        refine br (fun g32 => ?_) (fun g32 => ?_)
        · have g32 : o = 23 := by simpa [hE.cmp, cmpR] using g32
          exact absurd (show goesF o by unfold goesF; omega) hgo
        have hnx : merge T (nexts i o gg) f = some f := by
          unfold nexts
          rw [if_pos (by unfold goesF at hgo; omega)]
          rfl
        conv => cbv
        rw [hR]; exact ⟨0, rfl, hx, .inr ⟨rfl, f, m3, ps, by rw [hV, hnx], hv, hrep⟩⟩
    · have g15 : t = 0 := by simpa [hE.cmp, cmpR] using g15
      exact absurd g15 g12
  have g3 : o ≠ 3 := by simpa [hE.cmp, cmpR] using g3
  rw [if_neg (fun q => g3 q.1)] at hSR
  conv => cbv
  obtain ⟨T, hTd⟩ : ∃ T, T = nextS o gg (st1, st2) nb t := ⟨_, rfl⟩
  rw [← hTd] at hSR
  refine draw_h [1, 2, 3, 4, 5, 6, 8, 9, 10, 11] [(0, false), (7, false), (12, false), (13, false), (14, true)] hr fol (by kernel_rfl) fun E' hE' wS hs9 S hS => ?_
  replace hx := hx.trans hs9.ext
  replace hv := hv.ext hs9.ext
  replace hrep := hrep.ext hs9.ext
  replace hrs := hrs.ext hs9.ext
  replace hsb := hsb.bel hs9.ext
  replace hq3 := hq3.bel hs9.ext
  clear hs9
  have hBS := hv.siz
  conv => cbv
  refine st_nil hE' ?_
  conv => cbv
  (refine st_fld hE' fSt0 fun p hp => ?_; (conv => cbv); refine st_load hE' cInts (by rw [hp]; exact (hsb).at _ _ rfl) ?_; clear hp; (conv => cbv))
  refine st_intsUpto hE' tInts hrs.a.ints hnb (by omega) fun ha8 => ?_
  conv => cbv
  refine st_nil hE' ?_
  conv => cbv
  (refine st_fld hE' fSt1 fun p hp => ?_; (conv => cbv); refine st_load hE' cInts (by rw [hp]; exact (hsb).at _ _ rfl) ?_; clear hp; (conv => cbv))
  refine st_none hr tInts fun A9 w9 hx9 ho9 => ?_
  refine ⟨hS _ hx9, ?_⟩
  conv => cbv
  refine st_apps hr tInts rfl (ho9 _ (Nat.le_refl _)) (ha8.ext hx9).cells (by rw [List.length_map]; exact ha8.len) (fun v hv => by obtain ⟨x, _, rfl⟩ := List.mem_map.1 hv; rfl) hx9.size (by omega) (by omega) fun A10 c10 n10 w10 hn10 hw10 o10 => ?_
  rw [Nat.zero_add] at hn10
  replace hn10 := hn10.symm
  subst hn10
  have hy := hx9.then (hw10.bel (ho9 _ (Nat.le_refl _)) hx9.size)
  rw [List.nil_append] at o10
  refine ⟨hS _ hy, ?_⟩
  clear ho9 hw10 hx9 ha8
  conv => cbv
  refine st_bSt hE ?_
  refine ⟨hS _ hy, ?_⟩
  conv => cbv
  refine st_box hr fun x10 w11 hx11 hb11 => ?_
  have hs10 := hb11 _ hy.size
  have ap10 := o10.apart (hb11 _ (Nat.le_refl _)) (Nat.le_refl _)
  replace o10 := o10.bel hx11
  replace hy := hy.trans hx11
  clear hb11 hx11
  refine ⟨hS _ hy, ?_⟩
  clear hS
  conv => cbv
  refine br (fun g15 => ?_) (fun g15 => ?_)
  · have g15 : t ≠ 0 := by simpa [hE.cmp, cmpR] using g15
    have no4 : o ≠ 4 := fun q => g15 (by rw [ht]; simp [pushF, q])
    conv => cbv
    refine st_nil hE ?_
    conv => cbv
    (refine st_fld hE fSt0 fun p hp => ?_; (conv => cbv); refine st_load hE cInts (by rw [hp]; exact (hs10).at _ _ rfl) ?_; clear hp; (conv => cbv))
    refine st_one hr tInts rfl rfl fun A12 w12 hx12 hc12 => ?_
    replace o10 := o10.bel hx12
    replace hs10 := hs10.bel hx12
    replace hy := hy.trans hx12
    conv => cbv
    refine st_appsG hr tInts rfl o10 hc12 rfl (by simp [Value.oneCell']) hy.size (by omega) (by omega) fun A13 c13 n13 w13 hn13 hw13 o13 hbk => ?_
    subst hn13
    have ap13 := apart_grow hs10 ap10.1 hbk
    rw [show [Value.int .i64 t] = [t].map (Value.int .i64) from rfl, ← List.map_append] at o13
    replace hs10 := hs10.wr hw13 ap10.2
    replace hy := hy.then (hw13.bel o10 hy.size)
    clear hbk hw13 o10 hc12 hx12
    conv => cbv
    refine st_nil hE ?_
    conv => cbv
    refine st_fld hE fSt0 fun p hp => ?_
    conv => cbv
    refine st_put hr zInts hs10 hp (by simp) rfl fun w14 hw14 hs14 => ?_
    simp only [List.set_cons_zero, List.set_cons_succ] at hs14
    replace o13 := o13.wr hw14 ap13
    replace hy := hy.then (hw14.bel hs10 hy.size)
    clear hw14 hp
    conv => cbv
    (refine st_fld hE fII0 fun p hp => ?_; (conv => cbv); refine st_load hE cInt (by rw [hp]; exact ((hq3.bel hy)).at _ _ rfl) ?_; clear hp; (conv => cbv))
    refine br (fun g17 => ?_) (fun g17 => ?_)
    · have g17 : o = 4 := by simpa [hE.cmp, cmpR] using g17
      exact absurd g17 no4
    have hTe : T = (st1.take nb ++ [t], st2) := by rw [hTd]; simp only [nextS, if_neg g15, if_neg no4]
    have hx10 : StB B1 w14 x10 T := by
      rw [hTe]
      exact ⟨_, _, _, _, _, _, hs14.mono hBS, ⟨by simpa using o13.mono hBS, (hrs.b.bel hy)⟩⟩
    replace hx := hx.trans hy
    replace hv := hv.ext hy
    replace hrep := hrep.ext hy
    replace hrs := hrs.ext hy
    replace hsb := hsb.bel hy
    replace hq3 := hq3.bel hy
    obtain ⟨A20, n20, c20, A21, n21, c21, hs20, hr20⟩ := id hx10
    have hn20 := hr20.a.len
    rw [List.length_map, Nat.mul_one] at hn20
    clear hstb
    conv => cbv
    refine st_nil hE ?_
    conv => cbv
    (refine st_fld hE fSt0 fun p hp => ?_; (conv => cbv); refine st_load hE cInts (by rw [hp]; exact (hs20).at _ _ rfl) ?_; clear hp; (conv => cbv))
    refine st_len hE tInts fun x20 hx20 => ?_
    conv => cbv
    refine br (fun g20 => ?_) (fun g20 => ?_)
    · have g20 : 100 < x20 := by simpa [hE.cmp, cmpR] using g20
      rw [if_pos (show 100 < T.1.length by omega)] at hSR
      conv => cbv
      rw [hR]; exact ⟨7, rfl, hx, .inl ⟨by decide, by rw [hV, hSR, if_pos (by simp)]⟩⟩
    have g20 : ¬ 100 < x20 := by simpa [hE.cmp, cmpR] using g20
    rw [if_neg (show ¬ 100 < T.1.length by omega)] at hSR
    have hTok : okS sl T := by
      have := step_ok (sl := sl) (ni := n2) (a := i) (o := o) (g := gg) hpk hok (by rw [← hSR0, hSR])
      rw [← hSR0, hSR] at this
      exact this
    rw [hSR, if_neg (by simp)] at hV
    simp only at hV
    obtain ⟨m2, hm2⟩ : ∃ z, z = max (max m x1) x20 := ⟨_, rfl⟩
    rw [show max (max m (st1.length : Int)) (T.1.length : Int) = m2 by rw [hm2, show (st1.length : Int) = x1 by omega, show (T.1.length : Int) = x20 by omega]] at hV
    conv => cbv
    refine draw_t [0, 1, 2, 3, 4, 5, 6, 7, 8, 9, 10, 11, 12, 13, 14, 15] [(16, false), (17, false), (18, false)] hr fol (by kernel_rfl) fun E' hE' w30 hs30 S hS => ?_
    replace hx := hx.trans hs30.ext
    replace hv := hv.ext hs30.ext
    replace hrep := hrep.ext hs30.ext
    replace hsb := hsb.bel hs30.ext
    replace hq3 := hq3.bel hs30.ext
    replace hs20 := hs20.bel hs30.ext
    replace hx10 := hx10.ext hs30.ext
    clear hs30 hr20 hS
    conv => cbv
    (refine st_nil hE' ?_; (conv => cbv); refine st_fld hE' fVf2 fun p hp => ?_; (conv => cbv); refine st_load hE' cInt (by rw [hp]; exact (hv.box).at _ _ rfl) ?_; clear hp; (conv => cbv))
    refine st_nil hE' ?_
    conv => cbv
    (refine st_fld hE' fSt0 fun p hp => ?_; (conv => cbv); refine st_load hE' cInts (by rw [hp]; exact (hsb).at _ _ rfl) ?_; clear hp; (conv => cbv))
    refine st_len hE' tInts fun x21 hx21 => ?_
    conv => cbv
    refine st_nil hE' ?_
    conv => cbv
    (refine st_fld hE' fSt0 fun p hp => ?_; (conv => cbv); refine st_load hE' cInts (by rw [hp]; exact (hs20).at _ _ rfl) ?_; clear hp; (conv => cbv))
    refine st_len hE' tInts fun x22 hx22 => ?_
    conv => cbv
    refine st_max3 hE' fun m3 hm3 => ?_
    have hm3 : m3 = m2 := by rw [hm3, hm2, hx21, hx22, hx1, hx20]
    subst hm3
    refine st_nil hE ?_
    conv => cbv
    refine st_fld hE fVf2 fun p hp => ?_
    conv => cbv
    refine st_put hr zInt hv.box hp (by simp) rfl fun w31 hw31 hb31 => ?_
    simp only [List.set_cons_zero, List.set_cons_succ] at hb31
    replace hx := hx.then (hw31.bel hv.box hx.size)
    replace hv := hv.putm hw31 hb31
    replace hrep := (hrep.above (hv.abA hw31)).mono (Nat.le_succ i)
    replace hx10 := hx10.above (hv.abA hw31)
    replace hq3 := hq3.above (hv.abA hw31)
    clear hw31 hb31 hp hsb hs20
    conv => cbv
    (refine st_fld hE fII0 fun p hp => ?_; (conv => cbv); refine st_load hE cInt (by rw [hp]; exact (hq3).at _ _ rfl) ?_; clear hp; (conv => cbv))
    refine st_qb hE (goesOn_q o w31) fun bg hbg w32 hs32 => ?_
    replace hx := hx.trans hs32.ext
    replace hv := hv.ext hs32.ext
    replace hrep := hrep.ext hs32.ext
    replace hx10 := hx10.ext hs32.ext
    replace hq3 := hq3.bel hs32.ext
    clear hs32
    obtain ⟨ij, hij⟩ : ∃ z, z = ii + 1 := ⟨_, rfl⟩
    have ei : E.ar .add .i64 ii 1 = ij := by rw [hE.ar, hij]; exact wrap_in (by omega) (by omega)
    cases bg with
    | true =>
      have hgo := hbg.1 rfl
      conv => cbv
      simp only [ei]
      (refine st_nil hE ?_; (conv => cbv); refine st_fld hE fVf0 fun p hp => ?_; (conv => cbv); refine st_fld hE fIC2 fun p2 hp2 => ?_; (conv => cbv); refine st_load hE cIIs (by rw [hp2, hp, add_add]; exact (hv.box).at _ _ rfl) ?_; clear hp hp2; (conv => cbv))
      refine st_len hE sII fun x30 hx30 => ?_
      conv => cbv
      refine br (fun g30 => ?_) (fun g30 => ?_)
      · have g30 : ij = x30 := by simpa [hE.cmp, cmpR] using g30
        rw [if_pos ⟨hgo, by omega⟩] at hV
        conv => cbv
        rw [hR]; exact ⟨8, rfl, hx, .inl ⟨by decide, by rw [hV]⟩⟩
      have g30 : ij ≠ x30 := by simpa [hE.cmp, cmpR] using g30
      rw [if_neg (fun q => g30 (by have := q.2; omega))] at hV
      conv => cbv
      (refine st_fld hE fII0 fun p hp => ?_; (conv => cbv); refine st_load hE cInt (by rw [hp]; exact (hq3).at _ _ rfl) ?_; clear hp; (conv => cbv))
      refine st_qb hE (goesOn_q o w32) fun bg2 hbg2 w33 hs33 => ?_
      replace hx := hx.trans hs33.ext
      replace hv := hv.ext hs33.ext
      replace hrep := hrep.ext hs33.ext
      replace hx10 := hx10.ext hs33.ext
      replace hq3 := hq3.bel hs33.ext
      clear hs33
      have : bg2 = true := hbg2.2 hgo
      subst this
      conv => cbv
      simp only [ei]
      refine st_g hr (know_g hv hrep (k := i + 1) (kk := ij) (by omega) (Nat.le_refl _) (by omega) hTok hx10) fun v w34 ⟨b34, ev, hbl, hab, hkf, hkt⟩ => ?_
      subst ev
      replace hx := hx.then hbl
      cases b34 with
      | false =>
        have hkf := hkf rfl
        have hnx : merge T (nexts i o gg) f = none := by
          unfold nexts
          rw [if_neg (by obtain ⟨z1, z2, z3⟩ := hgo; omega), if_neg hgo.1]
          split <;> simp only [merge, show ((i : Int) + 1).toNat = i + 1 by omega, hkf]
        conv => cbv
        rw [hR]; exact ⟨9, rfl, hx, .inl ⟨by decide, by rw [hV, hnx]⟩⟩
      | true =>
      obtain ⟨f2, ps2, hkn, hv2, hrep2⟩ := hkt rfl
      replace hx10 := hx10.above hab
      replace hq3 := hq3.above hab
      clear hrep hv hab
      conv => cbv
      (refine st_fld hE fII0 fun p hp => ?_; (conv => cbv); refine st_load hE cInt (by rw [hp]; exact (hq3).at _ _ rfl) ?_; clear hp; (conv => cbv))
      refine br (fun g31 => ?_) (fun g31 => ?_)
      · have g31 : o = 22 := by simpa [hE.cmp, cmpR] using g31
        exact absurd g31 hgo.1
      conv => cbv
      (refine st_fld hE fII0 fun p hp => ?_; (conv => cbv); refine st_load hE cInt (by rw [hp]; exact (hq3).at _ _ rfl) ?_; clear hp; (conv => cbv))
      refine br (fun g32 => ?_) (fun g32 => ?_)
      · have g32 : o = 23 := by simpa [hE.cmp, cmpR] using g32
        have hgb := hrg.2.2.2 (.inr g32)
        conv => cbv
        (refine st_fld hE fII1 fun p hp => ?_; (conv => cbv); refine st_load hE cInt (by rw [hp]; exact (hq3).at _ _ rfl) ?_; clear hp; (conv => cbv))
        refine st_g hr (know_g hv2 hrep2 (k := gg.toNat) (kk := gg) (by omega) (by omega) (by omega) hTok hx10) fun v w35 ⟨b35, ev, hbl2, hab2, hkf2, hkt2⟩ => ?_
        subst ev
        replace hx := hx.then hbl2
        have hnx : merge T (nexts i o gg) f = match know f2 gg.toNat T with | none => none | some f' => some f' := by
          unfold nexts
          rw [if_neg (by omega), if_neg (by omega), if_pos g32]
          simp only [merge, show ((i : Int) + 1).toNat = i + 1 by omega, hkn]
          cases know f2 gg.toNat T <;> rfl
        cases b35 with
        | false =>
          rw [hkf2 rfl] at hnx
          conv => cbv
          rw [hR]; exact ⟨9, rfl, hx, .inl ⟨by decide, by rw [hV, hnx]⟩⟩
        | true =>
        obtain ⟨f3, ps3, hkn3, hv3, hrep3⟩ := hkt2 rfl
        rw [hkn3] at hnx
        conv => cbv
        rw [hR]; exact ⟨0, rfl, hx, .inr ⟨rfl, f3, m3, ps3, by rw [hV, hnx], hv3, hrep3⟩⟩
      have g32 : o ≠ 23 := by simpa [hE.cmp, cmpR] using g32
      have hnx : merge T (nexts i o gg) f = some f2 := by
        unfold nexts
        rw [if_neg (by obtain ⟨z1, z2, z3⟩ := hgo; omega), if_neg hgo.1, if_neg g32]
        simp only [merge, show ((i : Int) + 1).toNat = i + 1 by omega, hkn]
      conv => cbv
      rw [hR]; exact ⟨0, rfl, hx, .inr ⟨rfl, f2, m3, ps2, by rw [hV, hnx], hv2, hrep2⟩⟩
    | false =>
      have hgo : ¬ goesF o := fun q => absurd (hbg.2 q) (by simp)
      rw [if_neg (fun q => hgo q.1)] at hV
      conv => cbv
      (refine st_fld hE fII0 fun p hp => ?_; (conv => cbv); refine st_load hE cInt (by rw [hp]; exact (hq3).at _ _ rfl) ?_; clear hp; (conv => cbv))
      refine st_qb hE (goesOn_q o w32) fun bg2 hbg2 w33 hs33 => ?_
      replace hx := hx.trans hs33.ext
      replace hv := hv.ext hs33.ext
      replace hrep := hrep.ext hs33.ext
      replace hx10 := hx10.ext hs33.ext
      replace hq3 := hq3.bel hs33.ext
      clear hs33
      have : bg2 = false := by
        cases bg2 with
        | false => rfl
        | true => exact absurd (hbg2.1 rfl) hgo
      subst this
      conv => cbv
      (refine st_fld hE fII0 fun p hp => ?_; (conv => cbv); refine st_load hE cInt (by rw [hp]; exact (hq3).at _ _ rfl) ?_; clear hp; (conv => cbv))
      refine br (fun g31 => ?_) (fun g31 => ?_)
      · have g31 : o = 22 := by simpa [hE.cmp, cmpR] using g31
        have hgb := hrg.2.2.2 (.inl g31)
        conv => cbv
        (refine st_fld hE fII1 fun p hp => ?_; (conv => cbv); refine st_load hE cInt (by rw [hp]; exact (hq3).at _ _ rfl) ?_; clear hp; (conv => cbv))
        refine st_g hr (know_g hv hrep (k := gg.toNat) (kk := gg) (by omega) (by omega) (by omega) hTok hx10) fun v w35 ⟨b35, ev, hbl2, hab2, hkf2, hkt2⟩ => ?_
        subst ev
        replace hx := hx.then hbl2
        have hnx : merge T (nexts i o gg) f = match know f gg.toNat T with | none => none | some f' => some f' := by
          unfold nexts
          rw [if_neg (by omega), if_pos g31]
          simp only [merge]
          cases know f gg.toNat T <;> rfl
        cases b35 with
        | false =>
          rw [hkf2 rfl] at hnx
          conv => cbv
          rw [hR]; exact ⟨9, rfl, hx, .inl ⟨by decide, by rw [hV, hnx]⟩⟩
        | true =>
        obtain ⟨f3, ps3, hkn3, hv3, hrep3⟩ := hkt2 rfl
        rw [hkn3] at hnx
        conv => cbv
        rw [hR]; exact ⟨0, rfl, hx, .inr ⟨rfl, f3, m3, ps3, by rw [hV, hnx], hv3, hrep3⟩⟩
      have g31 : o ≠ 22 := by simpa [hE.cmp, cmpR] using g31
      conv => cbv
      (refine st_fld hE fII0 fun p hp => ?_; (conv => cbv); refine st_load hE cInt (by rw [hp]; exact (hq3).at _ _ rfl) ?_; clear hp; (conv => cbv))
      refine br (fun g32 => ?_) (fun g32 => ?_)
      · have g32 : o = 23 := by simpa [hE.cmp, cmpR] using g32
        exact absurd (show goesF o by unfold goesF; omega) hgo
      have hnx : merge T (nexts i o gg) f = some f := by
        unfold nexts
        rw [if_pos (by unfold goesF at hgo; omega)]
        rfl
      conv => cbv
      rw [hR]; exact ⟨0, rfl, hx, .inr ⟨rfl, f, m3, ps, by rw [hV, hnx], hv, hrep⟩⟩
  have g15 : t = 0 := by simpa [hE.cmp, cmpR] using g15
  conv => cbv
  (refine st_fld hE fII0 fun p hp => ?_; (conv => cbv); refine st_load hE cInt (by rw [hp]; exact ((hq3.bel hy)).at _ _ rfl) ?_; clear hp; (conv => cbv))
  refine br (fun g17 => ?_) (fun g17 => ?_)
  · have g17 : o = 4 := by simpa [hE.cmp, cmpR] using g17
    have hgb := hrg.2.2.1 (.inr g17)
    conv => cbv
    refine st_none hr tInts fun A15 w15 hx15 ho15 => ?_
    conv => cbv
    refine st_nil hE ?_
    conv => cbv
    (refine st_fld hE fSt1 fun p hp => ?_; (conv => cbv); refine st_load hE cInts (by rw [hp]; exact ((hsb.bel (hy.trans hx15))).at _ _ rfl) ?_; clear hp; (conv => cbv))
    refine st_apps hr tInts rfl (ho15 _ (Nat.le_refl _)) (hrs.b.bel (hy.trans hx15)).cells (by rw [List.length_map]; exact hn7) (by simp [Value.oneCell']) hx15.size (by omega) (by omega) fun A16 c16 n16 w16 hn16 hw16 o16 => ?_
    rw [Nat.zero_add] at hn16
    replace hn16 := hn16.symm
    subst hn16
    have hz := hx15.then (hw16.bel (ho15 _ (Nat.le_refl _)) hx15.size)
    rw [List.nil_append] at o16
    have ap16 := hs10.apart o16 (Nat.le_refl _)
    have aq16 := o10.apart o16 (Nat.le_refl _)
    replace o16 := o16.mono hy.size
    replace o10 := o10.bel hz
    replace hs10 := hs10.bel hz
    replace hy := hy.trans hz
    clear hz hw16 ho15 hx15
    conv => cbv
    refine st_nil hE ?_
    conv => cbv
    refine st_fld hE fSt1 fun p hp => ?_
    conv => cbv
    refine st_put hr zInts hs10 hp (by simp) rfl fun w17 hw17 hs17 => ?_
    simp only [List.set_cons_zero, List.set_cons_succ] at hs17
    replace o16 := o16.wr hw17 ap16.2
    replace o10 := o10.wr hw17 ap10.1
    replace hy := hy.then (hw17.bel hs10 hy.size)
    clear hw17 hp hs10
    conv => cbv
    refine draw_t [0, 1, 2, 3, 4, 5, 6, 7, 8, 9, 10, 11, 12, 13] [(14, false)] hr fol (by kernel_rfl) fun E' hE' w18 hs18 S hS => ?_
    replace o10 := o10.bel hs18.ext
    replace o16 := o16.bel hs18.ext
    replace hs17 := hs17.bel hs18.ext
    replace hy := hy.trans hs18.ext
    clear hs18 hS
    obtain ⟨gn, hgn⟩ : ∃ gn : Nat, gg = gn := ⟨gg.toNat, by omega⟩
    have hw1 : (wantF o).length = 1 := by rw [g17]; decide
    obtain ⟨g16, hA16, _⟩ := o16.addr (by omega)
    subst hA16
    conv => cbv
    refine st_nil hE' ?_
    conv => cbv
    (refine st_fld hE' fSt1 fun p hp => ?_; (conv => cbv); refine st_load hE' cInts (by rw [hp]; exact (hs17).at _ _ rfl) ?_; clear hp; (conv => cbv))
    (refine st_fld hE' fII1 fun p hp => ?_; (conv => cbv); refine st_load hE' cInt (by rw [hp]; exact ((hq3.bel hy)).at _ _ rfl) ?_; clear hp; (conv => cbv))
    refine st_nil hE' ?_
    conv => cbv
    (refine st_fld hE' fSt0 fun p hp => ?_; (conv => cbv); refine st_load hE' cInts (by rw [hp]; exact ((hsb.bel hy)).at _ _ rfl) ?_; clear hp; (conv => cbv))
    refine st_int hE' tInts (hrs.a.bel hy).ints (k := nb) (by omega) (by omega) fun p3 u hu hp3 => ?_
    conv => cbv
    refine st_load hE' cInt hp3 ?_
    conv => cbv
    refine st_idx hE' tInts rfl (by omega) (by omega) fun p4 hp4 => ?_
    rw [show gg.toNat = gn by omega] at hp4
    conv => cbv
    refine st_set hr tInts o16 rfl (j := gn) (by omega) hp4 rfl fun w19 hb19 hw19 o19 => ?_
    rw [← List.map_set] at o19
    replace o10 := o10.wr hw19 aq16.1
    replace hs17 := hs17.wr hw19 ap16.1
    replace hy := hy.then (hw19.bel o16 hy.size)
    clear hp3 hp4 hb19 hw19 o16
    have hTe : T = (st1.take nb, st2.set gn u) := by rw [hTd]; simp only [nextS, g15, if_true, if_pos g17, List.append_nil, show gg.toNat = gn by omega, hu, Option.getD_some]
    have hx10 : StB B1 w19 x10 T := by
      rw [hTe]
      exact ⟨_, _, _, _, _, _, hs17.mono hBS, ⟨by simpa using o10.mono hBS, (o19.mono hBS)⟩⟩
    replace hx := hx.trans hy
    replace hv := hv.ext hy
    replace hrep := hrep.ext hy
    replace hrs := hrs.ext hy
    replace hsb := hsb.bel hy
    replace hq3 := hq3.bel hy
    obtain ⟨A20, n20, c20, A21, n21, c21, hs20, hr20⟩ := id hx10
    have hn20 := hr20.a.len
    rw [List.length_map, Nat.mul_one] at hn20
    clear hstb
    conv => cbv
    refine st_nil hE ?_
    conv => cbv
    (refine st_fld hE fSt0 fun p hp => ?_; (conv => cbv); refine st_load hE cInts (by rw [hp]; exact (hs20).at _ _ rfl) ?_; clear hp; (conv => cbv))
    refine st_len hE tInts fun x20 hx20 => ?_
    conv => cbv
    refine br (fun g20 => ?_) (fun g20 => ?_)
    · have g20 : 100 < x20 := by simpa [hE.cmp, cmpR] using g20
      rw [if_pos (show 100 < T.1.length by omega)] at hSR
      conv => cbv
      rw [hR]; exact ⟨7, rfl, hx, .inl ⟨by decide, by rw [hV, hSR, if_pos (by simp)]⟩⟩
    have g20 : ¬ 100 < x20 := by simpa [hE.cmp, cmpR] using g20
    rw [if_neg (show ¬ 100 < T.1.length by omega)] at hSR
    have hTok : okS sl T := by
      have := step_ok (sl := sl) (ni := n2) (a := i) (o := o) (g := gg) hpk hok (by rw [← hSR0, hSR])
      rw [← hSR0, hSR] at this
      exact this
    rw [hSR, if_neg (by simp)] at hV
    simp only at hV
    obtain ⟨m2, hm2⟩ : ∃ z, z = max (max m x1) x20 := ⟨_, rfl⟩
    rw [show max (max m (st1.length : Int)) (T.1.length : Int) = m2 by rw [hm2, show (st1.length : Int) = x1 by omega, show (T.1.length : Int) = x20 by omega]] at hV
    conv => cbv
    refine draw_t [0, 1, 2, 3, 4, 5, 6, 7, 8, 9, 10, 11, 12, 13, 14, 15] [(16, false), (17, false), (18, false)] hr fol (by kernel_rfl) fun E' hE' w30 hs30 S hS => ?_
    replace hx := hx.trans hs30.ext
    replace hv := hv.ext hs30.ext
    replace hrep := hrep.ext hs30.ext
    replace hsb := hsb.bel hs30.ext
    replace hq3 := hq3.bel hs30.ext
    replace hs20 := hs20.bel hs30.ext
    replace hx10 := hx10.ext hs30.ext
    clear hs30 hr20 hS
    conv => cbv
    (refine st_nil hE' ?_; (conv => cbv); refine st_fld hE' fVf2 fun p hp => ?_; (conv => cbv); refine st_load hE' cInt (by rw [hp]; exact (hv.box).at _ _ rfl) ?_; clear hp; (conv => cbv))
    refine st_nil hE' ?_
    conv => cbv
    (refine st_fld hE' fSt0 fun p hp => ?_; (conv => cbv); refine st_load hE' cInts (by rw [hp]; exact (hsb).at _ _ rfl) ?_; clear hp; (conv => cbv))
    refine st_len hE' tInts fun x21 hx21 => ?_
    conv => cbv
    refine st_nil hE' ?_
    conv => cbv
    (refine st_fld hE' fSt0 fun p hp => ?_; (conv => cbv); refine st_load hE' cInts (by rw [hp]; exact (hs20).at _ _ rfl) ?_; clear hp; (conv => cbv))
    refine st_len hE' tInts fun x22 hx22 => ?_
    conv => cbv
    refine st_max3 hE' fun m3 hm3 => ?_
    have hm3 : m3 = m2 := by rw [hm3, hm2, hx21, hx22, hx1, hx20]
    subst hm3
    refine st_nil hE ?_
    conv => cbv
    refine st_fld hE fVf2 fun p hp => ?_
    conv => cbv
    refine st_put hr zInt hv.box hp (by simp) rfl fun w31 hw31 hb31 => ?_
    simp only [List.set_cons_zero, List.set_cons_succ] at hb31
    replace hx := hx.then (hw31.bel hv.box hx.size)
    replace hv := hv.putm hw31 hb31
    replace hrep := (hrep.above (hv.abA hw31)).mono (Nat.le_succ i)
    replace hx10 := hx10.above (hv.abA hw31)
    replace hq3 := hq3.above (hv.abA hw31)
    clear hw31 hb31 hp hsb hs20
    conv => cbv
    (refine st_fld hE fII0 fun p hp => ?_; (conv => cbv); refine st_load hE cInt (by rw [hp]; exact (hq3).at _ _ rfl) ?_; clear hp; (conv => cbv))
    refine st_qb hE (goesOn_q o w31) fun bg hbg w32 hs32 => ?_
    replace hx := hx.trans hs32.ext
    replace hv := hv.ext hs32.ext
    replace hrep := hrep.ext hs32.ext
    replace hx10 := hx10.ext hs32.ext
    replace hq3 := hq3.bel hs32.ext
    clear hs32
    obtain ⟨ij, hij⟩ : ∃ z, z = ii + 1 := ⟨_, rfl⟩
    have ei : E.ar .add .i64 ii 1 = ij := by rw [hE.ar, hij]; exact wrap_in (by omega) (by omega)
    cases bg with
    | true =>
      have hgo := hbg.1 rfl
      conv => cbv
      simp only [ei]
      (refine st_nil hE ?_; (conv => cbv); refine st_fld hE fVf0 fun p hp => ?_; (conv => cbv); refine st_fld hE fIC2 fun p2 hp2 => ?_; (conv => cbv); refine st_load hE cIIs (by rw [hp2, hp, add_add]; exact (hv.box).at _ _ rfl) ?_; clear hp hp2; (conv => cbv))
      refine st_len hE sII fun x30 hx30 => ?_
      conv => cbv
      refine br (fun g30 => ?_) (fun g30 => ?_)
      · have g30 : ij = x30 := by simpa [hE.cmp, cmpR] using g30
        rw [if_pos ⟨hgo, by omega⟩] at hV
        conv => cbv
        rw [hR]; exact ⟨8, rfl, hx, .inl ⟨by decide, by rw [hV]⟩⟩
      have g30 : ij ≠ x30 := by simpa [hE.cmp, cmpR] using g30
      rw [if_neg (fun q => g30 (by have := q.2; omega))] at hV
      conv => cbv
      (refine st_fld hE fII0 fun p hp => ?_; (conv => cbv); refine st_load hE cInt (by rw [hp]; exact (hq3).at _ _ rfl) ?_; clear hp; (conv => cbv))
      refine st_qb hE (goesOn_q o w32) fun bg2 hbg2 w33 hs33 => ?_
      replace hx := hx.trans hs33.ext
      replace hv := hv.ext hs33.ext
      replace hrep := hrep.ext hs33.ext
      replace hx10 := hx10.ext hs33.ext
      replace hq3 := hq3.bel hs33.ext
      clear hs33
      have : bg2 = true := hbg2.2 hgo
      subst this
      conv => cbv
      simp only [ei]
      refine st_g hr (know_g hv hrep (k := i + 1) (kk := ij) (by omega) (Nat.le_refl _) (by omega) hTok hx10) fun v w34 ⟨b34, ev, hbl, hab, hkf, hkt⟩ => ?_
      subst ev
      replace hx := hx.then hbl
      cases b34 with
      | false =>
        have hkf := hkf rfl
        have hnx : merge T (nexts i o gg) f = none := by
          unfold nexts
          rw [if_neg (by obtain ⟨z1, z2, z3⟩ := hgo; omega), if_neg hgo.1]
          split <;> simp only [merge, show ((i : Int) + 1).toNat = i + 1 by omega, hkf]
        conv => cbv
        rw [hR]; exact ⟨9, rfl, hx, .inl ⟨by decide, by rw [hV, hnx]⟩⟩
      | true =>
      obtain ⟨f2, ps2, hkn, hv2, hrep2⟩ := hkt rfl
      replace hx10 := hx10.above hab
      replace hq3 := hq3.above hab
      clear hrep hv hab
      conv => cbv
      (refine st_fld hE fII0 fun p hp => ?_; (conv => cbv); refine st_load hE cInt (by rw [hp]; exact (hq3).at _ _ rfl) ?_; clear hp; (conv => cbv))
      refine br (fun g31 => ?_) (fun g31 => ?_)
      · have g31 : o = 22 := by simpa [hE.cmp, cmpR] using g31
        exact absurd g31 hgo.1
      conv => cbv
      (refine st_fld hE fII0 fun p hp => ?_; (conv => cbv); refine st_load hE cInt (by rw [hp]; exact (hq3).at _ _ rfl) ?_; clear hp; (conv => cbv))
      refine br (fun g32 => ?_) (fun g32 => ?_)
      · have g32 : o = 23 := by simpa [hE.cmp, cmpR] using g32
        have hgb := hrg.2.2.2 (.inr g32)
        conv => cbv
        (refine st_fld hE fII1 fun p hp => ?_; (conv => cbv); refine st_load hE cInt (by rw [hp]; exact (hq3).at _ _ rfl) ?_; clear hp; (conv => cbv))
        refine st_g hr (know_g hv2 hrep2 (k := gg.toNat) (kk := gg) (by omega) (by omega) (by omega) hTok hx10) fun v w35 ⟨b35, ev, hbl2, hab2, hkf2, hkt2⟩ => ?_
        subst ev
        replace hx := hx.then hbl2
        have hnx : merge T (nexts i o gg) f = match know f2 gg.toNat T with | none => none | some f' => some f' := by
          unfold nexts
          rw [if_neg (by omega), if_neg (by omega), if_pos g32]
          simp only [merge, show ((i : Int) + 1).toNat = i + 1 by omega, hkn]
          cases know f2 gg.toNat T <;> rfl
        cases b35 with
        | false =>
          rw [hkf2 rfl] at hnx
          conv => cbv
          rw [hR]; exact ⟨9, rfl, hx, .inl ⟨by decide, by rw [hV, hnx]⟩⟩
        | true =>
        obtain ⟨f3, ps3, hkn3, hv3, hrep3⟩ := hkt2 rfl
        rw [hkn3] at hnx
        conv => cbv
        rw [hR]; exact ⟨0, rfl, hx, .inr ⟨rfl, f3, m3, ps3, by rw [hV, hnx], hv3, hrep3⟩⟩
      have g32 : o ≠ 23 := by simpa [hE.cmp, cmpR] using g32
      have hnx : merge T (nexts i o gg) f = some f2 := by
        unfold nexts
        rw [if_neg (by obtain ⟨z1, z2, z3⟩ := hgo; omega), if_neg hgo.1, if_neg g32]
        simp only [merge, show ((i : Int) + 1).toNat = i + 1 by omega, hkn]
      conv => cbv
      rw [hR]; exact ⟨0, rfl, hx, .inr ⟨rfl, f2, m3, ps2, by rw [hV, hnx], hv2, hrep2⟩⟩
    | false =>
      have hgo : ¬ goesF o := fun q => absurd (hbg.2 q) (by simp)
      rw [if_neg (fun q => hgo q.1)] at hV
      conv => cbv
      (refine st_fld hE fII0 fun p hp => ?_; (conv => cbv); refine st_load hE cInt (by rw [hp]; exact (hq3).at _ _ rfl) ?_; clear hp; (conv => cbv))
      refine st_qb hE (goesOn_q o w32) fun bg2 hbg2 w33 hs33 => ?_
      replace hx := hx.trans hs33.ext
      replace hv := hv.ext hs33.ext
      replace hrep := hrep.ext hs33.ext
      replace hx10 := hx10.ext hs33.ext
      replace hq3 := hq3.bel hs33.ext
      clear hs33
      have : bg2 = false := by
        cases bg2 with
        | false => rfl
        | true => exact absurd (hbg2.1 rfl) hgo
      subst this
      conv => cbv
      (refine st_fld hE fII0 fun p hp => ?_; (conv => cbv); refine st_load hE cInt (by rw [hp]; exact (hq3).at _ _ rfl) ?_; clear hp; (conv => cbv))
      refine br (fun g31 => ?_) (fun g31 => ?_)
      · have g31 : o = 22 := by simpa [hE.cmp, cmpR] using g31
        have hgb := hrg.2.2.2 (.inl g31)
        conv => cbv
        (refine st_fld hE fII1 fun p hp => ?_; (conv => cbv); refine st_load hE cInt (by rw [hp]; exact (hq3).at _ _ rfl) ?_; clear hp; (conv => cbv))
        refine st_g hr (know_g hv hrep (k := gg.toNat) (kk := gg) (by omega) (by omega) (by omega) hTok hx10) fun v w35 ⟨b35, ev, hbl2, hab2, hkf2, hkt2⟩ => ?_
        subst ev
        replace hx := hx.then hbl2
        have hnx : merge T (nexts i o gg) f = match know f gg.toNat T with | none => none | some f' => some f' := by
          unfold nexts
          rw [if_neg (by omega), if_pos g31]
          simp only [merge]
          cases know f gg.toNat T <;> rfl
        cases b35 with
        | false =>
          rw [hkf2 rfl] at hnx
          conv => cbv
          rw [hR]; exact ⟨9, rfl, hx, .inl ⟨by decide, by rw [hV, hnx]⟩⟩
        | true =>
        obtain ⟨f3, ps3, hkn3, hv3, hrep3⟩ := hkt2 rfl
        rw [hkn3] at hnx
        conv => cbv
        rw [hR]; exact ⟨0, rfl, hx, .inr ⟨rfl, f3, m3, ps3, by rw [hV, hnx], hv3, hrep3⟩⟩
      have g31 : o ≠ 22 := by simpa [hE.cmp, cmpR] using g31
      conv => cbv
      (refine st_fld hE fII0 fun p hp => ?_; (conv => cbv); refine st_load hE cInt (by rw [hp]; exact (hq3).at _ _ rfl) ?_; clear hp; (conv => cbv))
      refine br (fun g32 => ?_) (fun g32 => ?_)
      · have g32 : o = 23 := by simpa [hE.cmp, cmpR] using g32
        exact absurd (show goesF o by unfold goesF; omega) hgo
      have hnx : merge T (nexts i o gg) f = some f := by
        unfold nexts
        rw [if_pos (by unfold goesF at hgo; omega)]
        rfl
      conv => cbv
      rw [hR]; exact ⟨0, rfl, hx, .inr ⟨rfl, f, m3, ps, by rw [hV, hnx], hv, hrep⟩⟩
  have no4 : o ≠ 4 := by simpa [hE.cmp, cmpR] using g17
  have hTe : T = (st1.take nb, st2) := by rw [hTd]; simp only [nextS, g15, if_true, if_neg no4, List.append_nil]
  have hx10 : StB B1 w11 x10 T := by
    rw [hTe]
    exact ⟨_, _, _, _, _, _, hs10.mono hBS, ⟨by simpa using o10.mono hBS, (hrs.b.bel hy)⟩⟩
  replace hx := hx.trans hy
  replace hv := hv.ext hy
  replace hrep := hrep.ext hy
  replace hrs := hrs.ext hy
  replace hsb := hsb.bel hy
  replace hq3 := hq3.bel hy
  obtain ⟨A20, n20, c20, A21, n21, c21, hs20, hr20⟩ := id hx10
  have hn20 := hr20.a.len
  rw [List.length_map, Nat.mul_one] at hn20
  clear hstb
  conv => cbv
  refine st_nil hE ?_
  conv => cbv
  (refine st_fld hE fSt0 fun p hp => ?_; (conv => cbv); refine st_load hE cInts (by rw [hp]; exact (hs20).at _ _ rfl) ?_; clear hp; (conv => cbv))
  refine st_len hE tInts fun x20 hx20 => ?_
  conv => cbv
  refine br (fun g20 => ?_) (fun g20 => ?_)
  · have g20 : 100 < x20 := by simpa [hE.cmp, cmpR] using g20
    rw [if_pos (show 100 < T.1.length by omega)] at hSR
    conv => cbv
    rw [hR]; exact ⟨7, rfl, hx, .inl ⟨by decide, by rw [hV, hSR, if_pos (by simp)]⟩⟩
  have g20 : ¬ 100 < x20 := by simpa [hE.cmp, cmpR] using g20
  rw [if_neg (show ¬ 100 < T.1.length by omega)] at hSR
  have hTok : okS sl T := by
    have := step_ok (sl := sl) (ni := n2) (a := i) (o := o) (g := gg) hpk hok (by rw [← hSR0, hSR])
    rw [← hSR0, hSR] at this
    exact this
  rw [hSR, if_neg (by simp)] at hV
  simp only at hV
  obtain ⟨m2, hm2⟩ : ∃ z, z = max (max m x1) x20 := ⟨_, rfl⟩
  rw [show max (max m (st1.length : Int)) (T.1.length : Int) = m2 by rw [hm2, show (st1.length : Int) = x1 by omega, show (T.1.length : Int) = x20 by omega]] at hV
  conv => cbv
  refine draw_t [0, 1, 2, 3, 4, 5, 6, 7, 8, 9, 10, 11, 12, 13, 14, 15] [(16, false), (17, false), (18, false)] hr fol (by kernel_rfl) fun E' hE' w30 hs30 S hS => ?_
  replace hx := hx.trans hs30.ext
  replace hv := hv.ext hs30.ext
  replace hrep := hrep.ext hs30.ext
  replace hsb := hsb.bel hs30.ext
  replace hq3 := hq3.bel hs30.ext
  replace hs20 := hs20.bel hs30.ext
  replace hx10 := hx10.ext hs30.ext
  clear hs30 hr20 hS
  conv => cbv
  (refine st_nil hE' ?_; (conv => cbv); refine st_fld hE' fVf2 fun p hp => ?_; (conv => cbv); refine st_load hE' cInt (by rw [hp]; exact (hv.box).at _ _ rfl) ?_; clear hp; (conv => cbv))
  refine st_nil hE' ?_
  conv => cbv
  (refine st_fld hE' fSt0 fun p hp => ?_; (conv => cbv); refine st_load hE' cInts (by rw [hp]; exact (hsb).at _ _ rfl) ?_; clear hp; (conv => cbv))
  refine st_len hE' tInts fun x21 hx21 => ?_
  conv => cbv
  refine st_nil hE' ?_
  conv => cbv
  (refine st_fld hE' fSt0 fun p hp => ?_; (conv => cbv); refine st_load hE' cInts (by rw [hp]; exact (hs20).at _ _ rfl) ?_; clear hp; (conv => cbv))
  refine st_len hE' tInts fun x22 hx22 => ?_
  conv => cbv
  refine st_max3 hE' fun m3 hm3 => ?_
  have hm3 : m3 = m2 := by rw [hm3, hm2, hx21, hx22, hx1, hx20]
  subst hm3
  refine st_nil hE ?_
  conv => cbv
  refine st_fld hE fVf2 fun p hp => ?_
  conv => cbv
  refine st_put hr zInt hv.box hp (by simp) rfl fun w31 hw31 hb31 => ?_
  simp only [List.set_cons_zero, List.set_cons_succ] at hb31
  replace hx := hx.then (hw31.bel hv.box hx.size)
  replace hv := hv.putm hw31 hb31
  replace hrep := (hrep.above (hv.abA hw31)).mono (Nat.le_succ i)
  replace hx10 := hx10.above (hv.abA hw31)
  replace hq3 := hq3.above (hv.abA hw31)
  clear hw31 hb31 hp hsb hs20
  conv => cbv
  (refine st_fld hE fII0 fun p hp => ?_; (conv => cbv); refine st_load hE cInt (by rw [hp]; exact (hq3).at _ _ rfl) ?_; clear hp; (conv => cbv))
  refine st_qb hE (goesOn_q o w31) fun bg hbg w32 hs32 => ?_
  replace hx := hx.trans hs32.ext
  replace hv := hv.ext hs32.ext
  replace hrep := hrep.ext hs32.ext
  replace hx10 := hx10.ext hs32.ext
  replace hq3 := hq3.bel hs32.ext
  clear hs32
  obtain ⟨ij, hij⟩ : ∃ z, z = ii + 1 := ⟨_, rfl⟩
  have ei : E.ar .add .i64 ii 1 = ij := by rw [hE.ar, hij]; exact wrap_in (by omega) (by omega)
  cases bg with
  | true =>
    have hgo := hbg.1 rfl
    conv => cbv
    simp only [ei]
    (refine st_nil hE ?_; (conv => cbv); refine st_fld hE fVf0 fun p hp => ?_; (conv => cbv); refine st_fld hE fIC2 fun p2 hp2 => ?_; (conv => cbv); refine st_load hE cIIs (by rw [hp2, hp, add_add]; exact (hv.box).at _ _ rfl) ?_; clear hp hp2; (conv => cbv))
    refine st_len hE sII fun x30 hx30 => ?_
    conv => cbv
    refine br (fun g30 => ?_) (fun g30 => ?_)
    · have g30 : ij = x30 := by simpa [hE.cmp, cmpR] using g30
      rw [if_pos ⟨hgo, by omega⟩] at hV
      conv => cbv
      rw [hR]; exact ⟨8, rfl, hx, .inl ⟨by decide, by rw [hV]⟩⟩
    have g30 : ij ≠ x30 := by simpa [hE.cmp, cmpR] using g30
    rw [if_neg (fun q => g30 (by have := q.2; omega))] at hV
    conv => cbv
    (refine st_fld hE fII0 fun p hp => ?_; (conv => cbv); refine st_load hE cInt (by rw [hp]; exact (hq3).at _ _ rfl) ?_; clear hp; (conv => cbv))
    refine st_qb hE (goesOn_q o w32) fun bg2 hbg2 w33 hs33 => ?_
    replace hx := hx.trans hs33.ext
    replace hv := hv.ext hs33.ext
    replace hrep := hrep.ext hs33.ext
    replace hx10 := hx10.ext hs33.ext
    replace hq3 := hq3.bel hs33.ext
    clear hs33
    have : bg2 = true := hbg2.2 hgo
    subst this
    conv => cbv
    simp only [ei]
    refine st_g hr (know_g hv hrep (k := i + 1) (kk := ij) (by omega) (Nat.le_refl _) (by omega) hTok hx10) fun v w34 ⟨b34, ev, hbl, hab, hkf, hkt⟩ => ?_
    subst ev
    replace hx := hx.then hbl
    cases b34 with
    | false =>
      have hkf := hkf rfl
      have hnx : merge T (nexts i o gg) f = none := by
        unfold nexts
        rw [if_neg (by obtain ⟨z1, z2, z3⟩ := hgo; omega), if_neg hgo.1]
        split <;> simp only [merge, show ((i : Int) + 1).toNat = i + 1 by omega, hkf]
      conv => cbv
      rw [hR]; exact ⟨9, rfl, hx, .inl ⟨by decide, by rw [hV, hnx]⟩⟩
    | true =>
    obtain ⟨f2, ps2, hkn, hv2, hrep2⟩ := hkt rfl
    replace hx10 := hx10.above hab
    replace hq3 := hq3.above hab
    clear hrep hv hab
    conv => cbv
    (refine st_fld hE fII0 fun p hp => ?_; (conv => cbv); refine st_load hE cInt (by rw [hp]; exact (hq3).at _ _ rfl) ?_; clear hp; (conv => cbv))
    refine br (fun g31 => ?_) (fun g31 => ?_)
    · have g31 : o = 22 := by simpa [hE.cmp, cmpR] using g31
      exact absurd g31 hgo.1
    conv => cbv
    (refine st_fld hE fII0 fun p hp => ?_; (conv => cbv); refine st_load hE cInt (by rw [hp]; exact (hq3).at _ _ rfl) ?_; clear hp; (conv => cbv))
    refine br (fun g32 => ?_) (fun g32 => ?_)
    · have g32 : o = 23 := by simpa [hE.cmp, cmpR] using g32
      have hgb := hrg.2.2.2 (.inr g32)
      conv => cbv
      (refine st_fld hE fII1 fun p hp => ?_; (conv => cbv); refine st_load hE cInt (by rw [hp]; exact (hq3).at _ _ rfl) ?_; clear hp; (conv => cbv))
      refine st_g hr (know_g hv2 hrep2 (k := gg.toNat) (kk := gg) (by omega) (by omega) (by omega) hTok hx10) fun v w35 ⟨b35, ev, hbl2, hab2, hkf2, hkt2⟩ => ?_
      subst ev
      replace hx := hx.then hbl2
      have hnx : merge T (nexts i o gg) f = match know f2 gg.toNat T with | none => none | some f' => some f' := by
        unfold nexts
        rw [if_neg (by omega), if_neg (by omega), if_pos g32]
        simp only [merge, show ((i : Int) + 1).toNat = i + 1 by omega, hkn]
        cases know f2 gg.toNat T <;> rfl
      cases b35 with
      | false =>
        rw [hkf2 rfl] at hnx
        conv => cbv
        rw [hR]; exact ⟨9, rfl, hx, .inl ⟨by decide, by rw [hV, hnx]⟩⟩
      | true =>
      obtain ⟨f3, ps3, hkn3, hv3, hrep3⟩ := hkt2 rfl
      rw [hkn3] at hnx
      conv => cbv
      rw [hR]; exact ⟨0, rfl, hx, .inr ⟨rfl, f3, m3, ps3, by rw [hV, hnx], hv3, hrep3⟩⟩
    have g32 : o ≠ 23 := by simpa [hE.cmp, cmpR] using g32
    have hnx : merge T (nexts i o gg) f = some f2 := by
      unfold nexts
      rw [if_neg (by obtain ⟨z1, z2, z3⟩ := hgo; omega), if_neg hgo.1, if_neg g32]
      simp only [merge, show ((i : Int) + 1).toNat = i + 1 by omega, hkn]
    conv => cbv
    rw [hR]; exact ⟨0, rfl, hx, .inr ⟨rfl, f2, m3, ps2, by rw [hV, hnx], hv2, hrep2⟩⟩
  | false =>
    have hgo : ¬ goesF o := fun q => absurd (hbg.2 q) (by simp)
    rw [if_neg (fun q => hgo q.1)] at hV
    conv => cbv
    (refine st_fld hE fII0 fun p hp => ?_; (conv => cbv); refine st_load hE cInt (by rw [hp]; exact (hq3).at _ _ rfl) ?_; clear hp; (conv => cbv))
    refine st_qb hE (goesOn_q o w32) fun bg2 hbg2 w33 hs33 => ?_
    replace hx := hx.trans hs33.ext
    replace hv := hv.ext hs33.ext
    replace hrep := hrep.ext hs33.ext
    replace hx10 := hx10.ext hs33.ext
    replace hq3 := hq3.bel hs33.ext
    clear hs33
    have : bg2 = false := by
      cases bg2 with
      | false => rfl
      | true => exact absurd (hbg2.1 rfl) hgo
    subst this
    conv => cbv
    (refine st_fld hE fII0 fun p hp => ?_; (conv => cbv); refine st_load hE cInt (by rw [hp]; exact (hq3).at _ _ rfl) ?_; clear hp; (conv => cbv))
    refine br (fun g31 => ?_) (fun g31 => ?_)
    · have g31 : o = 22 := by simpa [hE.cmp, cmpR] using g31
      have hgb := hrg.2.2.2 (.inl g31)
      conv => cbv
      (refine st_fld hE fII1 fun p hp => ?_; (conv => cbv); refine st_load hE cInt (by rw [hp]; exact (hq3).at _ _ rfl) ?_; clear hp; (conv => cbv))
      refine st_g hr (know_g hv hrep (k := gg.toNat) (kk := gg) (by omega) (by omega) (by omega) hTok hx10) fun v w35 ⟨b35, ev, hbl2, hab2, hkf2, hkt2⟩ => ?_
      subst ev
      replace hx := hx.then hbl2
      have hnx : merge T (nexts i o gg) f = match know f gg.toNat T with | none => none | some f' => some f' := by
        unfold nexts
        rw [if_neg (by omega), if_pos g31]
        simp only [merge]
        cases know f gg.toNat T <;> rfl
      cases b35 with
      | false =>
        rw [hkf2 rfl] at hnx
        conv => cbv
        rw [hR]; exact ⟨9, rfl, hx, .inl ⟨by decide, by rw [hV, hnx]⟩⟩
      | true =>
      obtain ⟨f3, ps3, hkn3, hv3, hrep3⟩ := hkt2 rfl
      rw [hkn3] at hnx
      conv => cbv
      rw [hR]; exact ⟨0, rfl, hx, .inr ⟨rfl, f3, m3, ps3, by rw [hV, hnx], hv3, hrep3⟩⟩
    have g31 : o ≠ 22 := by simpa [hE.cmp, cmpR] using g31
    conv => cbv
    (refine st_fld hE fII0 fun p hp => ?_; (conv => cbv); refine st_load hE cInt (by rw [hp]; exact (hq3).at _ _ rfl) ?_; clear hp; (conv => cbv))
    refine br (fun g32 => ?_) (fun g32 => ?_)
    · have g32 : o = 23 := by simpa [hE.cmp, cmpR] using g32
      exact absurd (show goesF o by unfold goesF; omega) hgo
    have hnx : merge T (nexts i o gg) f = some f := by
      unfold nexts
      rw [if_pos (by unfold goesF at hgo; omega)]
      rfl
    conv => cbv
    rw [hR]; exact ⟨0, rfl, hx, .inr ⟨rfl, f, m3, ps, by rw [hV, hnx], hv, hrep⟩⟩
end Go.Proofs.YtmbonalhbibppaaDoor
