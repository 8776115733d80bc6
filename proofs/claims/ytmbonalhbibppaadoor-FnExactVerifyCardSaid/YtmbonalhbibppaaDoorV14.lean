/- The program's parts of Verify: same, ranged, fits (printed by gen_v14.py). -/
import Derived.Test.YtmbonalhbibppaaDoorV13
namespace Go.Proofs.YtmbonalhbibppaaDoor
open Go.Eng
set_option linter.unusedVariables false
set_option linter.unusedSimpArgs false
abbrev zSt : List Value := [.slice none 0 0, .slice none 0 0]
theorem tSt : Stc Tryd.prog 98 2 zSt := ⟨by kernel_rfl, by kernel_rfl⟩
theorem fSt0 : Fld Tryd.prog 98 0 0 := ⟨by kernel_rfl⟩
theorem fSt1 : Fld Tryd.prog 98 1 1 := ⟨by kernel_rfl⟩
theorem fVf0 : Fld Tryd.prog 95 0 0 := ⟨by kernel_rfl⟩
theorem fVf1 : Fld Tryd.prog 95 1 3 := ⟨by kernel_rfl⟩
theorem fVf2 : Fld Tryd.prog 95 2 4 := ⟨by kernel_rfl⟩
theorem sPs : Slc Tryd.prog 93 96 (.pointer none) 1 8 := ⟨Tryd.underlying93, by kernel_rfl⟩
theorem cPs : Cel Tryd.prog 93 := ⟨_, Tryd.underlying93, by simp, by simp⟩
theorem cPt : Cel Tryd.prog 96 := ⟨_, Tryd.underlying96, by simp, by simp⟩
theorem zInts1 : (Tryd.prog.info? 49).map (·.size) = some 1 := by kernel_rfl
abbrev vfV (A : Option Addr) (n c : Nat) (sl : Int) (A2 : Option Addr) (n2 c2 : Nat) (A3 : Option Addr) (n3 c3 : Nat) (m : Int) : List Value := [.slice A n c, .int .i64 sl, .slice A2 n2 c2, .slice A3 n3 c3, .int .i64 m]
/-- A state that lies in a box. -/
def StB (B : Nat) (w : World) (x : Addr) (st : St) : Prop := ∃ A n c A2 n2 c2, Box B 98 2 w x [.slice A n c, .slice A2 n2 c2] ∧ RepS B w A n c A2 n2 c2 st
theorem StB.ext {B : Nat} {w w' : World} {x : Addr} {st : St} (h : StB B w x st) (hx : Ext w w') : StB B w' x st := by
  obtain ⟨A, n, c, A2, n2, c2, h1, h2⟩ := h
  exact ⟨A, n, c, A2, n2, c2, h1.bel hx, h2.ext hx⟩
theorem StB.above {B : Nat} {w w' : World} {x : Addr} {st : St} (h : StB B w x st) (hx : Above B w w') : StB B w' x st := by
  obtain ⟨A, n, c, A2, n2, c2, h1, h2⟩ := h
  exact ⟨A, n, c, A2, n2, c2, h1.above hx, h2.above hx⟩
theorem same_q {w : World} {B B' : Nat} {x y : Addr} {u t : St} (h : StB B w x u) (h1 : StB B' w y t) : QB Tryd.prog 131 [.pointer (some x), .pointer (some y)] w (u = t) := by
  refine QB.intro (cs := []) Tryd.func131 (by kernel_rfl) fun w0 hx0 w1 hs E R hE hr hR => ?_
  obtain ⟨A, n, c, A2, n2, c2, hb, hu⟩ := (h.ext hx0).ext hs.ext
  obtain ⟨A3, n3, c3, A4, n4, c4, hb1, ht⟩ := (h1.ext hx0).ext hs.ext
  conv => cbv
  refine draw_q hr fol (by kernel_rfl) fun E' hE' => ?_
  conv => cbv
  refine st_nil hE' ?_
  conv => cbv
  (refine st_fld hE' fSt0 fun p hp => ?_; (conv => cbv); refine st_load hE' cInts (by rw [hp]; exact (hb).at _ _ rfl) ?_; clear hp; (conv => cbv))
  refine st_nil hE' ?_
  conv => cbv
  (refine st_fld hE' fSt0 fun p hp => ?_; (conv => cbv); refine st_load hE' cInts (by rw [hp]; exact (hb1).at _ _ rfl) ?_; clear hp; (conv => cbv))
  refine st_qb hE' (Equal_q hu.a.ints ht.a.ints) fun b e1 w2 hs2 => ?_
  replace hb := hb.bel hs2.ext
  replace hb1 := hb1.bel hs2.ext
  replace hu := hu.ext hs2.ext
  replace ht := ht.ext hs2.ext
  cases b with
  | false =>
    have hne : u ≠ t := fun q => by rw [q] at e1; exact absurd (e1.2 rfl) (by simp)
    conv => cbv
    intro w3 hs3
    conv => cbv
    exact hR _ _ (hs.trans hs3) (by simp [hne])
  | true =>
    have e1 := e1.1 rfl
    conv => cbv
    refine st_nil hE' ?_
    conv => cbv
    (refine st_fld hE' fSt1 fun p hp => ?_; (conv => cbv); refine st_load hE' cInts (by rw [hp]; exact (hb).at _ _ rfl) ?_; clear hp; (conv => cbv))
    refine st_nil hE' ?_
    conv => cbv
    (refine st_fld hE' fSt1 fun p hp => ?_; (conv => cbv); refine st_load hE' cInts (by rw [hp]; exact (hb1).at _ _ rfl) ?_; clear hp; (conv => cbv))
    refine st_qb hE' (Equal_q hu.b.ints ht.b.ints) fun b e2 w4 hs4 => ?_
    obtain ⟨bb, hbb⟩ : ∃ bb, bb = b := ⟨_, rfl⟩
    conv => cbv
    intro w3 hs3
    conv => cbv
    refine hR _ _ (hs.trans hs3) (by rw [e2]; exact ⟨fun q => Prod.ext e1 q, fun q => by rw [q]⟩)
theorem ranged_f {w : World} {A A2 : Option Addr} {n c n2 c2 : Nat} {sl : Int} {pv : List PV} (hpl : pv.length = n) {B : Nat} {a : Addr} {A3 : Option Addr} {n3 c3 : Nat} {m : Int} (hb : Box B 95 5 w a (vfV A n c sl A2 n2 c2 A3 n3 c3 m)) {i : Nat} {ii o gg : Int} (hii : ii = (i : Int)) :
    FC Tryd.prog 91 [.pointer (some a), .int .i64 ii, .agg ⟨[.int .i64 o, .int .i64 gg]⟩] w fun v _ => ∃ b : Bool, v = .bool b ∧ (b = true ↔ rangeF pv.length sl n2 i o gg) := by
  refine FC.intro (cs := []) Tryd.func91 (by kernel_rfl) fun E R hE hr hR => ?_
  conv => cbv
  refine st_box hr fun q w1 hx hq0 => ?_
  have hq := hq0 _ (Nat.le_refl _)
  replace hb := hb.bel hx
  clear hq0
  conv => cbv
  (refine st_fld hE fII0 fun p hp => ?_; (conv => cbv); refine st_load hE cInt (by rw [hp]; exact (hq).at _ _ rfl) ?_; clear hp; (conv => cbv))
  refine br (fun g => ?_) (fun g => ?_)
  · have g0 := g
    have g : o = 1 := by simpa [hE.cmp, cmpR] using g
    conv => cbv
    refine draw_q hr fol (by kernel_rfl) fun E' hE' => ?_
    conv => cbv
    (refine st_fld hE' fII1 fun p hp => ?_; (conv => cbv); refine st_load hE' cInt (by rw [hp]; exact (hq).at _ _ rfl) ?_; clear hp; (conv => cbv))
    (refine st_nil hE' ?_; (conv => cbv); refine st_fld hE' fVf0 fun p hp => ?_; (conv => cbv); refine st_fld hE' fIC0 fun p2 hp2 => ?_; (conv => cbv); refine st_load hE' cIVs (by rw [hp2, hp, add_add]; exact (hb).at _ _ rfl) ?_; clear hp hp2; (conv => cbv))
    refine st_len hE' sIV fun x hx4 => ?_
    conv => cbv
    obtain ⟨q4, hq4⟩ : ∃ q4, q4 = E'.cmp .lss gg x := ⟨_, rfl⟩
    have hq5 : q4 = true ↔ gg < x := by rw [hq4, hE'.cmp]; simp [cmpR]
    simp only [← hq4]
    conv => cbv
    intro w4 hs4
    conv => cbv
    rw [hR]; exact ⟨hx.trans hs4.ext, q4, rfl, by rw [hq5]; simp [rangeF, g, hpl]; try omega⟩
  have g1 : o ≠ 1 := by simpa [hE.cmp, cmpR] using g
  clear g
  conv => cbv
  refine br (fun g => ?_) (fun g => ?_)
  · have g0 := g
    have g : o = 2 := by simpa [hE.cmp, cmpR] using g
    conv => cbv
    refine draw_h [0, 1] [(2, false), (3, false), (4, true), (5, true)] hr fol (by kernel_rfl) fun E' hE' w0 hs0 S hS => ?_
    conv => cbv
    refine st_fld hE' fII1 fun p hp => ?_
    conv => cbv
    refine st_load hE' cInt (by rw [hp]; exact (hq.bel hs0.ext).at _ _ rfl) ?_
    clear hp
    conv => cbv
    refine st_f hr attributes_f fun v w5 hx5 ⟨a5, ev, _⟩ => ?_
    subst ev
    refine ⟨hS _ hx5, ?_⟩
    conv => cbv
    refine st_len hE sAt fun x hx4 => ?_
    refine ⟨hS _ hx5, ?_⟩
    conv => cbv
    obtain ⟨q4, hq4⟩ : ∃ q4, q4 = E.cmp .lss gg x := ⟨_, rfl⟩
    have hq5 : q4 = true ↔ gg < x := by rw [hq4, hE.cmp]; simp [cmpR]
    simp only [← hq4]
    conv => cbv
    rw [hR]; exact ⟨(hx.trans hs0.ext).trans hx5, q4, rfl, by rw [hq5]; simp [rangeF, g]; omega⟩
  have g2 : o ≠ 2 := by simpa [hE.cmp, cmpR] using g
  clear g
  conv => cbv
  refine br (fun g => ?_) (fun g => ?_)
  · have g0 := g
    have g : o = 3 := by simpa [hE.cmp, cmpR] using g
    conv => cbv
    refine br (fun _ => ?_) (fun q => absurd g0 q)
    conv => cbv
    refine draw_q hr fol (by kernel_rfl) fun E' hE' => ?_
    conv => cbv
    (refine st_fld hE' fII1 fun p hp => ?_; (conv => cbv); refine st_load hE' cInt (by rw [hp]; exact (hq).at _ _ rfl) ?_; clear hp; (conv => cbv))
    (refine st_nil hE' ?_; (conv => cbv); refine st_fld hE' fVf0 fun p hp => ?_; (conv => cbv); refine st_fld hE' fIC1 fun p2 hp2 => ?_; (conv => cbv); refine st_load hE' cInt (by rw [hp2, hp, add_add]; exact (hb).at _ _ rfl) ?_; clear hp hp2; (conv => cbv))
    obtain ⟨q4, hq4⟩ : ∃ q4, q4 = E'.cmp .lss gg sl := ⟨_, rfl⟩
    have hq5 : q4 = true ↔ gg < sl := by rw [hq4, hE'.cmp]; simp [cmpR]
    simp only [← hq4]
    conv => cbv
    intro w4 hs4
    conv => cbv
    rw [hR]; exact ⟨hx.trans hs4.ext, q4, rfl, by rw [hq5]; simp [rangeF, g]; try omega⟩
  have g3 : o ≠ 3 := by simpa [hE.cmp, cmpR] using g
  clear g
  conv => cbv
  refine br (fun g => ?_) (fun g => ?_)
  · have g0 := g
    have g : o = 4 := by simpa [hE.cmp, cmpR] using g
    conv => cbv
    refine draw_q hr fol (by kernel_rfl) fun E' hE' => ?_
    conv => cbv
    (refine st_fld hE' fII1 fun p hp => ?_; (conv => cbv); refine st_load hE' cInt (by rw [hp]; exact (hq).at _ _ rfl) ?_; clear hp; (conv => cbv))
    (refine st_nil hE' ?_; (conv => cbv); refine st_fld hE' fVf0 fun p hp => ?_; (conv => cbv); refine st_fld hE' fIC1 fun p2 hp2 => ?_; (conv => cbv); refine st_load hE' cInt (by rw [hp2, hp, add_add]; exact (hb).at _ _ rfl) ?_; clear hp hp2; (conv => cbv))
    obtain ⟨q4, hq4⟩ : ∃ q4, q4 = E'.cmp .lss gg sl := ⟨_, rfl⟩
    have hq5 : q4 = true ↔ gg < sl := by rw [hq4, hE'.cmp]; simp [cmpR]
    simp only [← hq4]
    conv => cbv
    intro w4 hs4
    conv => cbv
    rw [hR]; exact ⟨hx.trans hs4.ext, q4, rfl, by rw [hq5]; simp [rangeF, g]; try omega⟩
  have g4 : o ≠ 4 := by simpa [hE.cmp, cmpR] using g
  clear g
  conv => cbv
  refine br (fun g => ?_) (fun g => ?_)
  · have g0 := g
    have g : o = 22 := by simpa [hE.cmp, cmpR] using g
    conv => cbv
    refine br (fun _ => ?_) (fun q => absurd g0 q)
    conv => cbv
    refine draw_q hr fol (by kernel_rfl) fun E' hE' => ?_
    conv => cbv
    (refine st_fld hE' fII1 fun p hp => ?_; (conv => cbv); refine st_load hE' cInt (by rw [hp]; exact (hq).at _ _ rfl) ?_; clear hp; (conv => cbv))
    obtain ⟨q6, hq6⟩ : ∃ q6, q6 = E'.cmp .gtr gg ii := ⟨_, rfl⟩
    have hq7 : q6 = true ↔ ii < gg := by rw [hq6, hE'.cmp]; simp [cmpR]
    simp only [← hq6]
    cases q6 with
    | false =>
      have g2 : ¬ ii < gg := fun q => absurd (hq7.2 q) (by simp)
      conv => cbv
      intro w4 hs4
      conv => cbv
      rw [hR]; exact ⟨hx.trans hs4.ext, false, rfl, by simp [rangeF, g]; omega⟩
    | true =>
      have g2 := hq7.1 rfl
      conv => cbv
      (refine st_fld hE' fII1 fun p hp => ?_; (conv => cbv); refine st_load hE' cInt (by rw [hp]; exact (hq).at _ _ rfl) ?_; clear hp; (conv => cbv))
      (refine st_nil hE' ?_; (conv => cbv); refine st_fld hE' fVf0 fun p hp => ?_; (conv => cbv); refine st_fld hE' fIC2 fun p2 hp2 => ?_; (conv => cbv); refine st_load hE' cIIs (by rw [hp2, hp, add_add]; exact (hb).at _ _ rfl) ?_; clear hp hp2; (conv => cbv))
      refine st_len hE' sII fun x hx4 => ?_
      conv => cbv
      obtain ⟨q4, hq4⟩ : ∃ q4, q4 = E'.cmp .lss gg x := ⟨_, rfl⟩
      have hq5 : q4 = true ↔ gg < x := by rw [hq4, hE'.cmp]; simp [cmpR]
      simp only [← hq4]
      conv => cbv
      intro w4 hs4
      conv => cbv
      rw [hR]; exact ⟨hx.trans hs4.ext, q4, rfl, by rw [hq5]; simp [rangeF, g]; try omega⟩
  have g22 : o ≠ 22 := by simpa [hE.cmp, cmpR] using g
  clear g
  conv => cbv
  refine br (fun g => ?_) (fun g => ?_)
  · have g0 := g
    have g : o = 23 := by simpa [hE.cmp, cmpR] using g
    conv => cbv
    refine draw_q hr fol (by kernel_rfl) fun E' hE' => ?_
    conv => cbv
    (refine st_fld hE' fII1 fun p hp => ?_; (conv => cbv); refine st_load hE' cInt (by rw [hp]; exact (hq).at _ _ rfl) ?_; clear hp; (conv => cbv))
    obtain ⟨q6, hq6⟩ : ∃ q6, q6 = E'.cmp .gtr gg ii := ⟨_, rfl⟩
    have hq7 : q6 = true ↔ ii < gg := by rw [hq6, hE'.cmp]; simp [cmpR]
    simp only [← hq6]
    cases q6 with
    | false =>
      have g2 : ¬ ii < gg := fun q => absurd (hq7.2 q) (by simp)
      conv => cbv
      intro w4 hs4
      conv => cbv
      rw [hR]; exact ⟨hx.trans hs4.ext, false, rfl, by simp [rangeF, g]; omega⟩
    | true =>
      have g2 := hq7.1 rfl
      conv => cbv
      (refine st_fld hE' fII1 fun p hp => ?_; (conv => cbv); refine st_load hE' cInt (by rw [hp]; exact (hq).at _ _ rfl) ?_; clear hp; (conv => cbv))
      (refine st_nil hE' ?_; (conv => cbv); refine st_fld hE' fVf0 fun p hp => ?_; (conv => cbv); refine st_fld hE' fIC2 fun p2 hp2 => ?_; (conv => cbv); refine st_load hE' cIIs (by rw [hp2, hp, add_add]; exact (hb).at _ _ rfl) ?_; clear hp hp2; (conv => cbv))
      refine st_len hE' sII fun x hx4 => ?_
      conv => cbv
      obtain ⟨q4, hq4⟩ : ∃ q4, q4 = E'.cmp .lss gg x := ⟨_, rfl⟩
      have hq5 : q4 = true ↔ gg < x := by rw [hq4, hE'.cmp]; simp [cmpR]
      simp only [← hq4]
      conv => cbv
      intro w4 hs4
      conv => cbv
      rw [hR]; exact ⟨hx.trans hs4.ext, q4, rfl, by rw [hq5]; simp [rangeF, g]; try omega⟩
  have g23 : o ≠ 23 := by simpa [hE.cmp, cmpR] using g
  clear g
  conv => cbv
  rw [hR]; exact ⟨hx, true, rfl, by simp [rangeF, g1, g2, g3, g4, g22, g23]⟩
set_option maxHeartbeats 2000000 in
theorem fits_f {w : World} (hT : Tab w 8 opF) {A A2 : Option Addr} {n c n2 c2 : Nat} {sl : Int} {pv : List PV} (hpo : Pool w A n pv) {B : Nat} {a : Addr} {A3 : Option Addr} {n3 c3 : Nat} {m : Int} (hb : Box B 95 5 w a (vfV A n c sl A2 n2 c2 A3 n3 c3 m)) {ni i : Nat} {o gg : Int} (h1 : 1 ≤ o) (h2 : o ≤ 25) (hg0 : 0 ≤ gg) (hrg : rangeF pv.length sl ni i o gg)
    {B1 : Nat} {x : Addr} {st : St} (hst : StB B1 w x st) (hok : okS sl st) {A5 : Option Addr} {n5 c5 : Nat} {args : List Int} (ha : Ints w A5 n5 c5 args) (hal : args.length = (wantF o).length) :
    FC Tryd.prog 93 [.pointer (some a), .agg ⟨[.int .i64 o, .int .i64 gg]⟩, .pointer (some x), .slice A5 n5 c5] w fun v _ => ∃ (t : Int) (b : Bool), v = .tuple ⟨[.int .i64 t, .bool b]⟩ ∧ (b = true ↔ fitF o (slotF st.2 gg) args) ∧ (b = true → t = pushF pv st.2 o gg) := by
  refine FC.intro (cs := []) Tryd.func93 (by kernel_rfl) fun E R hE hr hR => ?_
  obtain ⟨r1, r2, r3, r4⟩ := hrg
  have hpl := hpo.len
  have hanl := ha.len
  conv => cbv
  refine st_box hr fun q w1 hx hq0 => ?_
  have hq := hq0 _ (Nat.le_refl _)
  replace hb := hb.bel hx
  replace hpo := hpo.ext hx
  replace ha := ha.ext hx
  replace hT := hT.ext hx
  obtain ⟨A6, n6, c6, A7, n7, c7, hsb, hrs⟩ := hst.ext hx
  have hn7 := hrs.b.len
  rw [List.length_map, Nat.mul_one] at hn7
  have hsl := hok.len
  clear hq0
  conv => cbv
  (refine st_fld hE fII0 fun p hp => ?_; (conv => cbv); refine st_load hE cInt (by rw [hp]; exact (hq).at _ _ rfl) ?_; clear hp; (conv => cbv))
  refine br (fun g => ?_) (fun g => ?_)
  · have g0 := g
    have g : o = 1 := by simpa [hE.cmp, cmpR] using g
    conv => cbv
    refine draw_q hr fol (by kernel_rfl) fun E' hE' => ?_
    conv => cbv
    (refine st_nil hE' ?_; (conv => cbv); refine st_fld hE' fVf0 fun p hp => ?_; (conv => cbv); refine st_fld hE' fIC0 fun p2 hp2 => ?_; (conv => cbv); refine st_load hE' cIVs (by rw [hp2, hp, add_add]; exact (hb).at _ _ rfl) ?_; clear hp hp2; (conv => cbv))
    (refine st_fld hE' fII1 fun p hp => ?_; (conv => cbv); refine st_load hE' cInt (by rw [hp]; exact (hq).at _ _ rfl) ?_; clear hp; (conv => cbv))
    obtain ⟨gn, hgn2⟩ : ∃ gn : Nat, gg = gn := ⟨gg.toNat, by omega⟩
    obtain ⟨ap, k, z, tx, xs, A8, m8, c8, hA, hpg, hc, _, _⟩ := hpo.get (i := gn) (by have := r1 g; omega)
    refine st_idx hE' sIV hA (by omega) (by have := r1 g; omega) fun q hq1 => ?_
    rw [show gg.toNat = gn by omega] at hq1
    conv => cbv
    refine st_fld hE' fIV0 fun q2 hq2 => ?_
    conv => cbv
    refine st_load hE' cInt (v := .int .i64 k) (by rw [hq2, hq1]; exact hc _ _ rfl) ?_
    conv => cbv
    intro w4 hs4
    conv => cbv
    rw [hR]; refine ⟨hx.trans hs4.ext, k, true, rfl, by simp [fitF, g], fun _ => ?_⟩
    simp [pushF, g, kindF, show gg.toNat = gn by omega, hpg]
  have g1 : o ≠ 1 := by simpa [hE.cmp, cmpR] using g
  clear g
  conv => cbv
  refine br (fun g => ?_) (fun g => ?_)
  · have g0 := g
    have g : o = 2 := by simpa [hE.cmp, cmpR] using g
    conv => cbv
    have hgn := r2 g
    obtain ⟨gn, hgn2⟩ : ∃ gn : Nat, gg = gn := ⟨gg.toNat, by omega⟩
    refine draw_h [1, 2] [(0, false), (3, false), (4, false), (5, false), (6, true), (7, true)] hr fol (by kernel_rfl) fun E' hE' w0 hs0 S hS => ?_
    conv => cbv
    refine st_fld hE' fII1 fun p hp => ?_
    conv => cbv
    refine st_load hE' cInt (by rw [hp]; exact (hq.bel hs0.ext).at _ _ rfl) ?_
    clear hp
    conv => cbv
    refine st_f hr attributes_f fun v w5 hx5 ⟨a5, ev, hat⟩ => ?_
    subst ev
    refine ⟨hS _ hx5, ?_⟩
    conv => cbv
    refine st_idx hE sAt rfl (by omega) (by omega) fun p hp => ?_
    rw [show gg.toNat = gn by omega] at hp
    refine ⟨hS _ hx5, ?_⟩
    conv => cbv
    refine st_fld hE fAt1 fun p2 hp2 => ?_
    refine ⟨hS _ hx5, ?_⟩
    conv => cbv
    obtain ⟨z, hz⟩ : ∃ z, z = attrF gn := ⟨_, rfl⟩
    refine st_load hE cInt (v := .int .i64 z) (by rw [hp2, hp, hz]; exact hat gn (by omega)) ?_
    refine ⟨hS _ hx5, ?_⟩
    conv => cbv
    rw [hR]; refine ⟨(hx.trans hs0.ext).trans hx5, z, true, rfl, by simp [fitF, g], fun _ => ?_⟩
    simp [pushF, g, hz, hgn2]
  have g2 : o ≠ 2 := by simpa [hE.cmp, cmpR] using g
  clear g
  conv => cbv
  refine br (fun g => ?_) (fun g => ?_)
  · have g0 := g
    have g : o = 3 := by simpa [hE.cmp, cmpR] using g
    conv => cbv
    have hgn := r3 (.inl g)
    obtain ⟨gn, hgn2⟩ : ∃ gn : Nat, gg = gn := ⟨gg.toNat, by omega⟩
    refine draw_q hr fol (by kernel_rfl) fun E' hE' => ?_
    conv => cbv
    refine st_nil hE' ?_
    conv => cbv
    (refine st_fld hE' fSt1 fun p hp => ?_; (conv => cbv); refine st_load hE' cInts (by rw [hp]; exact (hsb).at _ _ rfl) ?_; clear hp; (conv => cbv))
    (refine st_fld hE' fII1 fun p hp => ?_; (conv => cbv); refine st_load hE' cInt (by rw [hp]; exact (hq).at _ _ rfl) ?_; clear hp; (conv => cbv))
    refine st_int hE' tInts hrs.b.ints (k := gn) (by omega) (by omega) fun p u hu hp => ?_
    conv => cbv
    refine st_load hE' cInt hp ?_
    conv => cbv
    intro w4 hs4
    conv => cbv
    rw [hR]; refine ⟨hx.trans hs4.ext, u, true, rfl, by simp [fitF, g], fun _ => ?_⟩
    simp [pushF, g, slotF, show gg.toNat = gn by omega, hu]
  have g3 : o ≠ 3 := by simpa [hE.cmp, cmpR] using g
  clear g
  conv => cbv
  refine br (fun g => ?_) (fun g => ?_)
  · have g0 := g
    have g : o = 4 := by simpa [hE.cmp, cmpR] using g
    conv => cbv
    have hgn := r3 (.inr g)
    obtain ⟨gn, hgn2⟩ : ∃ gn : Nat, gg = gn := ⟨gg.toNat, by omega⟩
    have h51 : n5 = 1 := by rw [g] at hal; rw [← hanl, hal]; decide
    refine draw_q hr fol (by kernel_rfl) fun E' hE' => ?_
    conv => cbv
    refine st_nil hE' ?_
    conv => cbv
    (refine st_fld hE' fSt1 fun p hp => ?_; (conv => cbv); refine st_load hE' cInts (by rw [hp]; exact (hsb).at _ _ rfl) ?_; clear hp; (conv => cbv))
    (refine st_fld hE' fII1 fun p hp => ?_; (conv => cbv); refine st_load hE' cInt (by rw [hp]; exact (hq).at _ _ rfl) ?_; clear hp; (conv => cbv))
    refine st_int hE' tInts hrs.b.ints (k := gn) (by omega) (by omega) fun p u hu hp => ?_
    conv => cbv
    refine st_load hE' cInt hp ?_
    conv => cbv
    have hsu : slotF st.2 gg = u := by simp [slotF, show gg.toNat = gn by omega, hu]
    obtain ⟨q6, hq6⟩ : ∃ q6, q6 = E'.cmp .eql u 0 := ⟨_, rfl⟩
    have hq7 : q6 = true ↔ u = 0 := by rw [hq6, hE'.cmp]; simp [cmpR]
    simp only [← hq6]
    cases q6 with
    | true =>
      have g2 := hq7.1 rfl
      conv => cbv
      intro w4 hs4
      conv => cbv
      rw [hR]; refine ⟨hx.trans hs4.ext, 0, true, rfl, by simp [fitF, g, hsu, g2], fun _ => by simp [pushF, g]⟩
    | false =>
      have g2 : u ≠ 0 := fun q => absurd (hq7.2 q) (by simp)
      conv => cbv
      refine st_nil hE' ?_
      conv => cbv
      (refine st_fld hE' fSt1 fun p hp => ?_; (conv => cbv); refine st_load hE' cInts (by rw [hp]; exact (hsb).at _ _ rfl) ?_; clear hp; (conv => cbv))
      (refine st_fld hE' fII1 fun p hp => ?_; (conv => cbv); refine st_load hE' cInt (by rw [hp]; exact (hq).at _ _ rfl) ?_; clear hp; (conv => cbv))
      refine st_int hE' tInts hrs.b.ints (k := gn) (by omega) (by omega) fun p4 u4 hu4 hp4 => ?_
      rw [hu] at hu4
      cases hu4
      conv => cbv
      refine st_load hE' cInt hp4 ?_
      conv => cbv
      refine st_int hE' tInts ha (k := 0) rfl (by omega) fun p3 y hy hp3 => ?_
      conv => cbv
      refine st_load hE' cInt hp3 ?_
      obtain ⟨q4, hq4⟩ : ∃ q4, q4 = E'.cmp .eql u y := ⟨_, rfl⟩
      have hq5 : q4 = true ↔ u = y := by rw [hq4, hE'.cmp]; simp [cmpR]
      conv => cbv
      simp only [← hq4]
      intro w4 hs4
      conv => cbv
      rw [hR]; refine ⟨hx.trans hs4.ext, 0, q4, rfl, by rw [hq5]; simp [fitF, g, hsu, g2, hy]; exact eq_comm, fun _ => by simp [pushF, g]⟩
  have g4 : o ≠ 4 := by simpa [hE.cmp, cmpR] using g
  clear g
  conv => cbv
  refine br (fun g => ?_) (fun g => ?_)
  · have g0 := g
    have g : o = 23 := by simpa [hE.cmp, cmpR] using g
    conv => cbv
    have h51 : n5 = 1 := by rw [g] at hal; rw [← hanl, hal]; decide
    refine draw_q hr fol (by kernel_rfl) fun E' hE' => ?_
    conv => cbv
    refine st_int hE' tInts ha (k := 0) rfl (by omega) fun p3 y hy hp3 => ?_
    conv => cbv
    refine st_load hE' cInt hp3 ?_
    obtain ⟨q4, hq4⟩ : ∃ q4, q4 = E'.cmp .eql y 1 := ⟨_, rfl⟩
    have hq5 : q4 = true ↔ y = 1 := by rw [hq4, hE'.cmp]; simp [cmpR]
    conv => cbv
    simp only [← hq4]
    intro w4 hs4
    conv => cbv
    rw [hR]; refine ⟨hx.trans hs4.ext, 0, q4, rfl, by rw [hq5]; simp [fitF, g, hy], fun _ => by simp [pushF, g]⟩
  have g23 : o ≠ 23 := by simpa [hE.cmp, cmpR] using g
  clear g
  conv => cbv
  refine br (fun g => ?_) (fun g => ?_)
  · have g0 := g
    have g : o = 25 := by simpa [hE.cmp, cmpR] using g
    conv => cbv
    have h51 : n5 = 1 := by rw [g] at hal; rw [← hanl, hal]; decide
    refine draw_q hr fol (by kernel_rfl) fun E' hE' => ?_
    conv => cbv
    refine st_int hE' tInts ha (k := 0) rfl (by omega) fun p3 y hy hp3 => ?_
    conv => cbv
    refine st_load hE' cInt hp3 ?_
    obtain ⟨q4, hq4⟩ : ∃ q4, q4 = E'.cmp .eql y 4 := ⟨_, rfl⟩
    have hq5 : q4 = true ↔ y = 4 := by rw [hq4, hE'.cmp]; simp [cmpR]
    conv => cbv
    simp only [← hq4]
    intro w4 hs4
    conv => cbv
    rw [hR]; refine ⟨hx.trans hs4.ext, 0, q4, rfl, by rw [hq5]; simp [fitF, g, hy], fun _ => by simp [pushF, g]⟩
  have g25 : o ≠ 25 := by simpa [hE.cmp, cmpR] using g
  clear g
  conv => cbv
  refine br (fun g => ?_) (fun g => ?_)
  · have g0 := g
    have g : o = 22 := by simpa [hE.cmp, cmpR] using g
    conv => cbv
    refine br (fun _ => ?_) (fun q => absurd g0 q)
    conv => cbv
    rw [hR]; exact ⟨hx, 0, true, rfl, by simp [fitF, g], fun _ => by simp [pushF, g]⟩
  have g22 : o ≠ 22 := by simpa [hE.cmp, cmpR] using g
  clear g
  conv => cbv
  refine br (fun g => ?_) (fun g => ?_)
  · have g0 := g
    have g : o = 24 := by simpa [hE.cmp, cmpR] using g
    conv => cbv
    rw [hR]; exact ⟨hx, 0, true, rfl, by simp [fitF, g], fun _ => by simp [pushF, g]⟩
  have g24 : o ≠ 24 := by simpa [hE.cmp, cmpR] using g
  clear g
  conv => cbv
  have ho5 : 5 ≤ o ∧ o ≤ 21 := by omega
  have hop : oprF o = o + 3 := by unfold oprF; rw [if_pos ho5]
  (refine st_fld hE fII0 fun p hp => ?_; (conv => cbv); refine st_load hE cInt (by rw [hp]; exact (hq).at _ _ rfl) ?_; clear hp; (conv => cbv))
  refine st_f hr (operatorOf_f hT o) fun v w4 hx4 ev => ?_
  rw [hop] at ev
  subst ev
  obtain ⟨o3, ho3⟩ : ∃ z, z = o + 3 := ⟨_, rfl⟩
  rw [← ho3]
  conv => cbv
  refine st_f hr (typeOf_f (ha.ext hx4) o3 (by omega) (by omega) (by rw [ho3, kids_want ho5.1 ho5.2, ← hal, hanl])) fun v w5 hx5 ev => ?_
  subst ev
  obtain ⟨t, ht⟩ : ∃ t, t = typF o3 args := ⟨_, rfl⟩
  rw [← ht]
  conv => cbv
  obtain ⟨q4, hq4⟩ : ∃ q4, q4 = E.cmp .neq t 0 := ⟨_, rfl⟩
  have hq5 : q4 = true ↔ t ≠ 0 := by rw [hq4, hE.cmp]; simp [cmpR]
  simp only [← hq4]
  rw [hR]; refine ⟨(hx.trans hx4).trans hx5, t, q4, rfl, ?_, fun q => ?_⟩
  · rw [hq5, ht, ho3]; simp [fitF, g4, g23, g25, ho5]
  · have := hq5.1 q
    rw [ht] at this
    have := row_typ (by omega) (by omega) this
    simp only [pushF]
    rw [if_neg g1, if_neg g2, if_neg g3, if_neg (by omega), ← ho3, ht, this]
end Go.Proofs.YtmbonalhbibppaaDoor
