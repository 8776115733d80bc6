/- Texts that the law FnExactSafe leans on, part 4 of 5: contracts of the functions that it reaches and plain lemmas. Each holds under the conditions that it states. -/
import Derived.Test.YtmbonalhbibppaaDoorMFnExactSafe3
/- The leaves that a plain policy may have; the program's closure about them. -/
namespace Go.Proofs.YtmbonalhbibppaaDoor
open Go.Eng
set_option linter.unusedVariables false
set_option linter.unusedSimpArgs false
def cOK (p : PN) : Prop := (p.o = 1 ∧ p.tx = ⟨#[]⟩ ∧ p.xs = []) ∨ (p.o = 2 ∧ p.z = 0 ∧ nameBytes p.tx ∧ p.xs = []) ∨ (p.o = 3 ∧ (p.z = 0 ∨ p.z = 1) ∧ p.tx = ⟨#[]⟩ ∧ p.xs = []) ∨ (p.o = 4 ∧ p.z = 0 ∧ p.tx = ⟨#[]⟩ ∧ isSet p.xs)
def leafU (p : PN) : Prop := if p.o = 5 then p.z = 0 ∧ ident p.tx ∧ p.xs = [] else cOK p ∧ (p.o ≠ 1 ∨ 0 ≤ p.z)
set_option maxHeartbeats 1000000 in
theorem leafU_f {w : World} (hT : STab w 5 words) (v : VN) (h : OKN w v) (l : Int) :
    FC Tryd.prog 75 [.int .i64 l, .agg ⟨cN v⟩] w fun r _ => ∃ b : Bool, r = .bool b ∧ (b = true ↔ leafU v.p) := by
  refine FC.intro (cs := []) Tryd.func75 (by kernel_rfl) fun E R hE hr hR => ?_
  obtain ⟨⟨o, z, tx, xs, ks⟩, A0, m0, c0, A1, m1, c1⟩ := v
  have s_tx := h.s_tx
  have r_xs := h.r_xs
  simp only at s_tx r_xs
  obtain ⟨FP, hFP0⟩ : ∃ FP, FP = leafU ⟨o, z, tx, xs, ks⟩ := ⟨_, rfl⟩
  simp only [← hFP0] at hR
  have hFP := hFP0
  unfold leafU at hFP
  simp only at hFP
  conv => cbv
  refine st_box hr fun a w1 hx hb0 => ?_
  have hb := hb0 _ (Nat.le_refl _)
  clear hb0
  conv => cbv
  (refine st_fld hE fINd0 fun p hp => ?_; (conv => cbv); refine st_load hE cInt (by rw [hp]; exact (hb).at _ _ rfl) ?_; clear hp; (conv => cbv))
  refine br (fun g => ?_) (fun g => ?_)
  · have g : o = 5 := by simpa [hE.cmp, cmpR] using g
    rw [if_pos g] at hFP
    conv => cbv
    refine st_loadS hE tINd rfl hb.at ?_
    conv => cbv
    refine st_f hr (bare_f (o := o) (z := z) (tx := tx) (r_xs.ext hx).len false true false) fun r w2 hx2 ⟨b, ev, hbb⟩ => ?_
    subst ev
    simp only [Bool.false_eq_true, false_or, true_or, true_and] at hbb
    replace hb := hb.bel hx2
    replace hx := hx.trans hx2
    cases b with
    | false =>
      conv => cbv
      rw [hR]; exact ⟨hx, false, rfl, by rw [hFP]; exact ⟨(fun q => nomatch q), fun q => hbb.2 ⟨q.1, q.2.2⟩⟩⟩
    | true =>
      have hbb := hbb.1 rfl
      conv => cbv
      (refine st_fld hE fINd2 fun p hp => ?_; (conv => cbv); refine st_load hE cStr (by rw [hp]; exact (hb).at _ _ rfl) ?_; clear hp; (conv => cbv))
      refine st_qb hE (isNameToken_f (hT.ext hx) tx s_tx) fun b hb2 w3 hs3 => ?_
      conv => cbv
      rw [hR]; exact ⟨hx.trans hs3.ext, b, rfl, by rw [hFP, hb2]; simp [hbb]⟩
  · have g : o ≠ 5 := by simpa [hE.cmp, cmpR] using g
    rw [if_neg g] at hFP
    conv => cbv
    refine st_loadS hE tINd rfl hb.at ?_
    conv => cbv
    refine st_f hr (validConst_f (o := o) (z := z) (tx := tx) (r_xs.ext hx) s_tx) fun r w2 hx2 ⟨b, ev, hbb⟩ => ?_
    subst ev
    have hbb : b = true ↔ cOK ⟨o, z, tx, xs, ks⟩ := hbb
    replace hb := hb.bel hx2
    replace hx := hx.trans hx2
    cases b with
    | false =>
      conv => cbv
      rw [hR]; exact ⟨hx, false, rfl, by rw [hFP]; exact ⟨(fun q => nomatch q), fun q => hbb.2 q.1⟩⟩
    | true =>
      have hbb := hbb.1 rfl
      conv => cbv
      (refine st_fld hE fINd0 fun p hp => ?_; (conv => cbv); refine st_load hE cInt (by rw [hp]; exact (hb).at _ _ rfl) ?_; clear hp; (conv => cbv))
      refine br (fun g2 => ?_) (fun g2 => ?_)
      · have g2 : o ≠ 1 := by simpa [hE.cmp, cmpR] using g2
        conv => cbv
        rw [hR]; exact ⟨hx, true, rfl, by rw [hFP]; simp [hbb, g2]⟩
      · have g2 : o = 1 := by simpa [hE.cmp, cmpR] using g2
        conv => cbv
        (refine st_fld hE fINd1 fun p hp => ?_; (conv => cbv); refine st_load hE cI64 (by rw [hp]; exact (hb).at _ _ rfl) ?_; clear hp; (conv => cbv))
        obtain ⟨q4, hq4⟩ : ∃ q4, q4 = E.cmp .geq z 0 := ⟨_, rfl⟩
        have hq5 : q4 = true ↔ 0 ≤ z := by rw [hq4, hE.cmp]; simp [cmpR]
        simp only [← hq4]
        rw [hR]; exact ⟨hx, q4, rfl, by rw [hFP, hq5]; exact ⟨fun q => ⟨hbb, .inr q⟩, fun q => q.2.resolve_left fun r => r g2⟩⟩
/-- What trees asks of the leaf function that it is given. -/
def LeafA (w0 : World) (f0 : FuncId) (lp : Nat → PN → Prop) : Prop :=
  ∀ w', Ext w0 w' → ∀ (l : Nat), l ≤ 600 → ∀ (ll : Int), ll = (l : Int) → ∀ v : VN, OKN w' v → FC Tryd.prog f0 [.int .i64 ll, .agg ⟨cN v⟩] w' fun r _ => ∃ b : Bool, r = .bool b ∧ (b = true ↔ lp l v.p)
theorem leafU_a {w0 : World} (hT : STab w0 5 words) : LeafA w0 75 (fun _ => leafU) :=
  fun w' hx l _ ll _ v hv => leafU_f (hT.ext hx) v hv ll
theorem cF2 : Cel Tryd.prog 147 := ⟨_, Tryd.underlying147, by simp, by simp⟩
theorem trees1_f {w0 w : World} {f0 : FuncId} {lp : Nat → PN → Prop} (hf : LeafA w0 f0 lp) (hx0 : Ext w0 w) {q5 q8 : Addr} {l : Nat} (hl : l ≤ 600) {ll : Int} (hll : ll = (l : Int)) (h5 : w.cell? q5 = some (.func (.func f0) #[] #[])) (h8 : w.cell? q8 = some (.int .i64 ll)) (v : VN) (h : OKN w v) :
    FC Tryd.prog 118 [.agg ⟨cN v⟩, .pointer (some q5), .pointer (some q8)] w fun r _ => ∃ b : Bool, r = .bool b ∧ (b = true ↔ lp l v.p) := by
  refine FC.intro (cs := []) Tryd.func118 (by kernel_rfl) fun E R hE hr hR => ?_
  obtain ⟨cv, hcv⟩ : ∃ cv, cv = cN v := ⟨_, rfl⟩
  have hcl : cv.length = 5 := by rw [hcv]; rfl
  rw [← hcv]
  conv => cbv
  refine st_box hr fun a w1 hx hb0 => ?_
  have hb : Box w.heap.size 137 5 w1 a cv := by have := hb0 _ (Nat.le_refl _); rwa [hcl] at this
  clear hb0
  conv => cbv
  refine st_load hE cF2 (hx.cell h5) ?_
  conv => cbv
  refine st_load hE cInt (hx.cell h8) ?_
  conv => cbv
  refine st_loadS hE tINd hcl hb.at ?_
  conv => cbv
  rw [hcv]
  refine st_f hr (hf w1 (hx0.trans hx) l hl ll hll v (h.ext hx)) fun r w2 hx2 ⟨b, ev, hbb⟩ => ?_
  subst ev
  conv => cbv
  rw [hR]; exact ⟨hx.trans hx2, b, rfl, hbb⟩
theorem trees1_a {w0 w : World} {f0 : FuncId} {lp : Nat → PN → Prop} (hf : LeafA w0 f0 lp) (hx0 : Ext w0 w) {a q5 q8 : Addr} (ha : w0.heap.size ≤ a.block ∧ a.block < w.heap.size) (ha0 : blk (some a) = some a.block) {B : Nat} {e5 e8 : TypeId} {l : Nat} (hl : l ≤ 600) {ll : Int} (hll : ll = (l : Int)) (h5 : Box B e5 1 w q5 [.func (.func f0) #[] #[]]) (h8 : Box B e8 1 w q8 [.int .i64 ll]) (a5 : Apart (some q5) (some a)) (a8 : Apart (some q8) (some a)) :
    LeafC w a 118 #[] #[.pointer (some q5), .pointer (some q8)] (lp l) := fun w' hw v hv => by
  have h5 := (h5.wr hw a5).at 0 _ rfl
  have h8 := (h8.wr hw a8).at 0 _ rfl
  rw [add_zero] at h5 h8
  have hxw : Ext w0 w' := hx0.then ⟨hw.os, hw.tape, hw.output, hw.size, fun i h1 => hw.block i (by omega) (by rw [ha0]; intro q; cases q; omega)⟩
  exact trees1_f hf hxw hl hll (h5) (h8) v hv
end Go.Proofs.YtmbonalhbibppaaDoor
/- The statements of a policy, in plain words: what the program's trees finds. -/
namespace Go.Proofs.YtmbonalhbibppaaDoor
open Go.Eng
set_option linter.unusedVariables false
set_option linter.unusedSimpArgs false
/-- What trees asks of a statement before it reads its trees. -/
def guardP (last : Bool) (s : PS) : Prop := (1 ≤ s.k ∧ s.k ≤ 3) ∧ (s.k = 3 ↔ last = true) ∧ (s.k = 3 ↔ s.c = -1) ∧ (s.k = 1 → s.g = -1) ∧ (s.k ≠ 1 → s.nm = ⟨#[]⟩) ∧ (s.k = 1 → ident s.nm)
structure PT where
  c : Option Tr
  g : Option Tr
def trs (p : PT) : List Tr := p.c.toList ++ p.g.toList
noncomputable def optM (ns : List PN) (lf : PN → Prop) (i : Nat) (top : Int) : Option (Option Tr × Nat) :=
  if top = -1 then some (none, i) else match treeM ns lf i top with
    | none => none
    | some t => some (some t, top.toNat + 1)
open Classical in
noncomputable def stmtM (ns : List PN) (lf : PN → Prop) (last : Bool) (i : Nat) (s : PS) : Option (PT × Nat) :=
  if guardP last s then match optM ns lf i s.c with
    | none => none
    | some (c, j) => match optM ns lf j s.g with
      | none => none
      | some (g, k) => some (⟨c, g⟩, k)
  else none
noncomputable def runS (ns : List PN) (lp : Nat → PN → Prop) : List PS → Nat → Nat → List PT → Option (List PT × Nat)
  | [], i, _, acc => some (acc, i)
  | s :: l, i, lets, acc => match stmtM ns (lp lets) l.isEmpty i s with
    | none => none
    | some (p, j) => runS ns lp l j (if s.k = 1 then lets + 1 else lets) (acc ++ [p])
def rootO (top : Int) : List Int := if 0 ≤ top then [top] else []
theorem IsTs.node {ns : List PN} {a b : Nat} {ks : List Int} {ts : List Tr} (h : IsTs ns a b ks ts) : ∀ q p, a ≤ q → q < b → ns[q]? = some p → (p.ks.length : Int) = kidsF p.o := by
  induction h with
  | nil a => intro q p h1 h2; omega
  | @cons a b k p ks kids ts hp hk h1 h2 i1 i2 =>
    intro q u hq1 hq2 hu
    rcases Nat.lt_trichotomy q k with e | e | e
    · exact i1 q u hq1 e hu
    · subst e; rw [hp] at hu; cases hu; exact hk
    · exact i2 q u e hq2 hu
theorem optM_iff {ns : List PN} {lf : PN → Prop} {i : Nat} {top : Int} {o : Option Tr} {j : Nat} : optM ns lf i top = some (o, j) ↔
    -1 ≤ top ∧ IsTs ns i j (rootO top) o.toList ∧ (∀ t ∈ o.toList, dep t ≤ 64) ∧ ∀ q p, i ≤ q → q < j → ns[q]? = some p → nodeOK lf p := by
  unfold optM rootO
  constructor
  · intro h
    split at h
    · rename_i e
      cases h
      subst e
      exact ⟨by omega, .nil _, by simp, fun q p h1 h2 => by omega⟩
    · cases hm : treeM ns lf i top with
      | none => rw [hm] at h; cases h
      | some t =>
        rw [hm] at h
        cases h
        obtain ⟨k, rfl, h1, h2, h3, h4, h5⟩ := treeM_iff.1 hm
        rw [if_pos (by omega)]
        exact ⟨by omega, by simpa using h3, by simpa using h4, fun q p q1 q2 => h5 q p q1 (by omega)⟩
  · rintro ⟨h0, h1, h2, h3⟩
    by_cases e : top = -1
    · rw [if_pos e]
      rw [if_neg (by omega)] at h1
      have hl := h1.len
      cases o with
      | none => cases h1; rfl
      | some t => simp at hl
    · rw [if_neg e]
      rw [if_pos (by omega)] at h1
      obtain ⟨kn, p, kids, rfl, rfl, hp, hk, _, e2⟩ := h1.one
      have hb := (List.getElem?_eq_some_iff.1 hp).1
      cases o with
      | none => cases e2
      | some t =>
        have hm : treeM ns lf i kn = some t := treeM_iff.2 ⟨kn, rfl, by have := (h1.roots kn (by simp)).1; omega, hb, h1, h2 t (by simp), h3⟩
        rw [hm]; rfl
theorem rootS_eq (s : PS) : rootS s = rootO s.c ++ rootO s.g := rfl
theorem stmtP_iff {last : Bool} {s : PS} : stmtP last s ↔ guardP last s ∧ -1 ≤ s.c ∧ -1 ≤ s.g := by
  unfold stmtP guardP
  obtain ⟨k, nm, c, g⟩ := s
  simp only
  by_cases h1 : k = 1
  · subst h1
    rw [if_pos rfl]
    constructor
    · rintro ⟨rfl, a, b, rfl⟩
      exact ⟨⟨⟨by omega, by omega⟩, by simp, ⟨fun q => by omega, fun q => by omega⟩, fun _ => rfl, fun q => absurd rfl q, fun _ => a⟩, by omega, by omega⟩
    · rintro ⟨⟨_, a, b, c1, _, d⟩, e, f⟩
      refine ⟨?_, d rfl, ?_, c1 rfl⟩
      · cases last
        · rfl
        · have := a.2 rfl; omega
      · have : c ≠ -1 := fun q => by have := b.2 q; omega
        omega
  · rw [if_neg h1]
    by_cases h2 : k = 2
    · subst h2
      rw [if_pos rfl]
      constructor
      · rintro ⟨rfl, rfl, b, d⟩
        exact ⟨⟨⟨by omega, by omega⟩, by simp, ⟨fun q => by omega, fun q => by omega⟩, fun q => absurd q h1, fun _ => rfl, fun q => absurd q h1⟩, by omega, d⟩
      · rintro ⟨⟨_, a, b, _, d, _⟩, e, f⟩
        refine ⟨?_, d h1, ?_, f⟩
        · cases last
          · rfl
          · have := a.2 rfl; omega
        · have : c ≠ -1 := fun q => by have := b.2 q; omega
          omega
    · rw [if_neg h2]
      by_cases h3 : k = 3
      · subst h3
        rw [if_pos rfl]
        constructor
        · rintro ⟨rfl, rfl, rfl, d⟩
          exact ⟨⟨⟨by omega, by omega⟩, by simp, by simp, fun q => absurd q h1, fun _ => rfl, fun q => absurd q h1⟩, by omega, d⟩
        · rintro ⟨⟨_, a, b, _, d, _⟩, e, f⟩
          exact ⟨a.1 rfl, d h1, b.1 rfl, f⟩
      · rw [if_neg h3]
        exact ⟨False.elim, fun q => by have := q.1.1; omega⟩
theorem stmtM_iff {ns : List PN} {lf : PN → Prop} {last : Bool} {i : Nat} {s : PS} {p : PT} {j : Nat} : stmtM ns lf last i s = some (p, j) ↔
    stmtP last s ∧ (p.c.isSome = true ↔ 0 ≤ s.c) ∧ IsTs ns i j (rootS s) (trs p) ∧ (∀ t ∈ trs p, dep t ≤ 64) ∧ ∀ q pn, i ≤ q → q < j → ns[q]? = some pn → nodeOK lf pn := by
  unfold stmtM
  rw [stmtP_iff]
  obtain ⟨c, g⟩ := p
  constructor
  · intro h
    split at h
    · rename_i hg
      cases h1 : optM ns lf i s.c with
      | none => rw [h1] at h; cases h
      | some x =>
        obtain ⟨c', m⟩ := x
        rw [h1] at h
        simp only at h
        cases h2 : optM ns lf m s.g with
        | none => rw [h2] at h; cases h
        | some x =>
          obtain ⟨g', k⟩ := x
          rw [h2] at h
          cases h
          obtain ⟨a1, a2, a3, a4⟩ := optM_iff.1 h1
          obtain ⟨b1, b2, b3, b4⟩ := optM_iff.1 h2
          have e1 := a2.le
          have e2 := b2.le
          refine ⟨⟨hg, a1, b1⟩, ?_, a2.append b2, fun t ht => ?_, fun q pn q1 q2 hq => ?_⟩
          · have := a2.len
            unfold rootO at this
            cases c with
            | none => simp; split at this <;> simp at this; omega
            | some t => simp; split at this <;> simp at this; omega
          · rcases List.mem_append.1 ht with ht | ht
            · exact a3 t ht
            · exact b3 t ht
          · rcases Nat.lt_or_ge q m with e | e
            · exact a4 q pn q1 e hq
            · exact b4 q pn e q2 hq
    · cases h
  · rintro ⟨⟨hg, hc, hgg⟩, hs, h1, h2, h3⟩
    rw [if_pos hg]
    rw [rootS_eq] at h1
    obtain ⟨m, ts1, ts2, e, k1, k2⟩ := h1.split
    have hl := k1.len
    obtain ⟨e1, e2⟩ := List.append_inj (show c.toList ++ g.toList = ts1 ++ ts2 from e) (by
      rw [hl]
      unfold rootO
      cases c with
      | none => rw [if_neg (fun q => by simpa using hs.2 q)]; rfl
      | some t => rw [if_pos (hs.1 rfl)]; rfl)
    rw [← e1] at k1
    rw [← e2] at k2
    have l1 := k1.le
    have l2 := k2.le
    rw [optM_iff.2 ⟨hc, k1, fun t ht => h2 t (List.mem_append_left _ ht), fun q p q1 q2 => h3 q p q1 (by omega)⟩]
    simp only
    rw [optM_iff.2 ⟨hgg, k2, fun t ht => h2 t (List.mem_append_right _ ht), fun q p q1 q2 => h3 q p (by omega) q2⟩]
theorem roots_cons (s : PS) (l : List PS) : roots (s :: l) = rootS s ++ roots l := by simp [roots]
theorem runS_iff {ns : List PN} {lf : PN → Prop} : ∀ (l : List PS) {i j lets : Nat} {acc : List PT}, (∃ acc', runS ns (fun _ => lf) l i lets acc = some (acc', j)) ↔
    stmtsP l ∧ ∃ ts, IsTs ns i j (roots l) ts ∧ (∀ t ∈ ts, dep t ≤ 64) ∧ ∀ q p, i ≤ q → q < j → ns[q]? = some p → nodeOK lf p
  | [], i, j, lets, acc => by
    unfold stmtsP
    simp only [runS, roots, List.flatMap_nil]
    constructor
    · rintro ⟨acc', h⟩
      cases h
      exact ⟨by simp, [], .nil _, by simp, fun q p h1 h2 => by omega⟩
    · rintro ⟨_, ts, h, _⟩
      cases h
      exact ⟨acc, rfl⟩
  | s :: l, i, j, lets, acc => by
    rw [runS, roots_cons]
    have hst : stmtsP (s :: l) ↔ stmtP l.isEmpty s ∧ stmtsP l := by
      have e : decide (0 + 1 = (s :: l).length) = l.isEmpty := by cases l <;> simp
      constructor
      · intro h
        refine ⟨by have := h 0 s rfl; rwa [e] at this, fun k t ht => ?_⟩
        have := h (k + 1) t (by simpa using ht)
        simpa using this
      · rintro ⟨h1, h2⟩ k t ht
        cases k with
        | zero => simp at ht; subst ht; rw [e]; exact h1
        | succ k => have := h2 k t (by simpa using ht); simpa using this
    rw [hst]
    constructor
    · rintro ⟨acc', h⟩
      cases hm : stmtM ns lf l.isEmpty i s with
      | none => rw [hm] at h; cases h
      | some x =>
        obtain ⟨p, m⟩ := x
        rw [hm] at h
        obtain ⟨a1, _, a2, a3, a4⟩ := stmtM_iff.1 hm
        obtain ⟨b1, ts, b2, b3, b4⟩ := (runS_iff l).1 ⟨acc', h⟩
        refine ⟨⟨a1, b1⟩, _, a2.append b2, fun t ht => ?_, fun q pn q1 q2 hq => ?_⟩
        · rcases List.mem_append.1 ht with ht | ht
          · exact a3 t ht
          · exact b3 t ht
        · rcases Nat.lt_or_ge q m with e | e
          · exact a4 q pn q1 e hq
          · exact b4 q pn e q2 hq
    · rintro ⟨⟨h1, h2⟩, ts, h3, h4, h5⟩
      obtain ⟨m, ts1, ts2, rfl, k1, k2⟩ := h3.split
      have l1 := k1.le
      have l2 := k2.le
      obtain ⟨p, hp1, hp2⟩ : ∃ p : PT, trs p = ts1 ∧ (p.c.isSome = true ↔ 0 ≤ s.c) := by
        have hl := k1.len
        rw [rootS_eq] at hl
        unfold rootO at hl
        by_cases e1 : 0 ≤ s.c
        · by_cases e2 : 0 ≤ s.g
          · rw [if_pos e1, if_pos e2] at hl
            match ts1, hl with
            | [a, b], _ => exact ⟨⟨some a, some b⟩, rfl, by simp [e1]⟩
          · rw [if_pos e1, if_neg e2] at hl
            match ts1, hl with
            | [a], _ => exact ⟨⟨some a, none⟩, rfl, by simp [e1]⟩
        · by_cases e2 : 0 ≤ s.g
          · rw [if_neg e1, if_pos e2] at hl
            match ts1, hl with
            | [a], _ => exact ⟨⟨none, some a⟩, rfl, by simp; omega⟩
          · rw [if_neg e1, if_neg e2] at hl
            match ts1, hl with
            | [], _ => exact ⟨⟨none, none⟩, rfl, by simp; omega⟩
      have hm : stmtM ns lf l.isEmpty i s = some (p, m) := stmtM_iff.2 ⟨h1, hp2, by rw [hp1]; exact k1, fun t ht => h4 t (List.mem_append_left _ (by rw [← hp1]; exact ht)), fun q pn q1 q2 => h5 q pn q1 (by omega)⟩
      rw [hm]
      exact (runS_iff l).2 ⟨h2, ts2, k2, fun t ht => h4 t (List.mem_append_right _ ht), fun q pn q1 q2 => h5 q pn (by omega) q2⟩
theorem fieldsU_iff {p : PN} (hk : (p.ks.length : Int) = kidsF p.o) : fieldsP false p ↔ nodeOK leafU p := by
  obtain ⟨o, z, tx, xs, ks⟩ := p
  unfold fieldsP nodeOK leafU cOK
  simp only at hk ⊢
  have h0 : kidsF o = 0 ↔ 1 ≤ o ∧ o ≤ 7 := by unfold kidsF; (repeat' split) <;> omega
  have h1 : 0 ≤ kidsF o := by omega
  by_cases e : 1 ≤ o ∧ o ≤ 7
  · have hz := h0.2 e
    have : o = 1 ∨ o = 2 ∨ o = 3 ∨ o = 4 ∨ o = 5 ∨ o = 6 ∨ o = 7 := by omega
    rcases this with rfl | rfl | rfl | rfl | rfl | rfl | rfl <;> simp [hk, hz]
    · constructor
      · rintro ⟨a, b, c⟩; exact ⟨⟨b, c⟩, a⟩
      · rintro ⟨⟨b, c⟩, a⟩; exact ⟨a, b, c⟩
    · constructor
      · rintro ⟨a, b, c⟩; exact ⟨b, a, c⟩
      · rintro ⟨b, a, c⟩; exact ⟨a, b, c⟩
  · have h2 : kidsF o ≠ 0 := fun q => e (h0.1 q)
    have h3 : 1 ≤ kidsF o := by omega
    rw [if_neg (by omega), if_neg (by omega), if_neg (by omega), if_neg (by omega), if_neg (by omega), if_neg (by omega), if_neg (by omega)]
    exact ⟨fun h => ⟨fun q => absurd q h2, fun _ => h.2⟩, fun h => ⟨hk, h.2 h3⟩⟩
theorem policyU_iff {nv : List PN} {sv : List PS} : policyP false nv sv ↔ nv.length ≤ 4000 ∧ 1 ≤ sv.length ∧ sv.length ≤ 600 ∧ ∃ acc, runS nv (fun _ => leafU) sv 0 0 [] = some (acc, nv.length) := by
  unfold policyP
  rw [runS_iff]
  constructor
  · rintro ⟨h1, h2, h3, h4, h5, ts, h6, h7⟩
    exact ⟨h1, h2, h3, h5, ts, h6, h7, fun q p _ _ hq => (fieldsU_iff (h4 p (List.mem_of_getElem? hq)).1).1 (h4 p (List.mem_of_getElem? hq))⟩
  · rintro ⟨h1, h2, h3, h5, ts, h6, h7, h8⟩
    refine ⟨h1, h2, h3, fun p hp => ?_, h5, ts, h6, h7⟩
    obtain ⟨q, hq⟩ := List.mem_iff_getElem?.1 hp
    have hl := (List.getElem?_eq_some_iff.1 hq).1
    exact (fieldsU_iff (h6.node q p (by omega) hl hq)).2 (h8 q p (by omega) hl hq)
end Go.Proofs.YtmbonalhbibppaaDoor
/- The program's trees and ValidPolicy walked. -/
namespace Go.Proofs.YtmbonalhbibppaaDoor
open Go.Eng
set_option linter.unusedVariables false
set_option linter.unusedSimpArgs false
def zSt : List Value := [.int .i64 0, .string ⟨#[]⟩, .nilIface, .nilIface, .int .i64 0]
theorem tSt : Stc Tryd.prog 195 5 zSt := ⟨by kernel_rfl, by kernel_rfl⟩
theorem sSt : Slc Tryd.prog 75 195 (.agg ⟨zSt⟩) 5 64 := ⟨Tryd.underlying75, by kernel_rfl⟩
theorem fSt2 : Fld Tryd.prog 195 2 2 := ⟨by kernel_rfl⟩
theorem fSt3 : Fld Tryd.prog 195 3 3 := ⟨by kernel_rfl⟩
section
variable {E : Sym} {w : World} {K : Value → World → Prop} {d : Option Tmp} {ty : TypeId} {pos : String} {aft : Array Edge} {g : Option (Nat × Bool)} {bq : Bool}
theorem run_bWk (A : Option Addr) (m c : Nat) (f : FuncId) (fst cap : Array Value) (w : World) : (Instr.build 201 #[(0, .slice A m c), (2, .func (.func f) fst cap)]).run Tryd.prog w = .ok (.agg #[.slice A m c, .int .i64 0, .func (.func f) fst cap]) w := by kernel_rfl
theorem st_bWk (hE : EngB bq Tryd.prog E) {A : Option Addr} {m c : Nat} {f : FuncId} {fst cap : Array Value} {x y : Operand} (hk : K (.agg ⟨[.slice A m c, .int .i64 0, .func (.func f) fst cap]⟩) w) : E.stop ⟨d, .build 201 ⟨[(0, x), (2, y)]⟩, ty, pos, aft, g⟩ [.slice A m c, .func (.func f) fst cap] w K := by
  refine hE.det (v := .agg ⟨[.slice A m c, .int .i64 0, .func (.func f) fst cap]⟩) (fun w1 _ ρ hρ => ?_) hk
  simp only [opnds, List.map_cons, List.map_nil, List.cons.injEq, and_true] at hρ
  have := run_bWk A m c f fst cap w1
  simp [execOp, hρ, this]
theorem run_bSt (k i : Int) (s : ByteArray) (w : World) : (Instr.build 195 #[(0, .int .i64 k), (1, .string s), (4, .int .i64 i)]).run Tryd.prog w = .ok (.agg #[.int .i64 k, .string s, .nilIface, .nilIface, .int .i64 i]) w := by kernel_rfl
theorem st_bSt (hE : EngB bq Tryd.prog E) {k i : Int} {s : ByteArray} {x y z : Operand} (hk : K (.agg ⟨[.int .i64 k, .string s, .nilIface, .nilIface, .int .i64 i]⟩) w) : E.stop ⟨d, .build 195 ⟨[(0, x), (1, y), (4, z)]⟩, ty, pos, aft, g⟩ [.int .i64 k, .string s, .int .i64 i] w K := by
  refine hE.det (v := .agg ⟨[.int .i64 k, .string s, .nilIface, .nilIface, .int .i64 i]⟩) (fun w1 _ ρ hρ => ?_) hk
  simp only [opnds, List.map_cons, List.map_nil, List.cons.injEq, and_true] at hρ
  have := run_bSt k i s w1
  simp [execOp, hρ, this]
end
theorem size_nil {s : ByteArray} (h : s.size = 0) : s = ⟨#[]⟩ := by
  cases s with | mk d => cases d with | mk l => cases l with
    | nil => rfl
    | cons a l => simp [ByteArray.size] at h
theorem wr_new {w w' w'' : World} {R A : Option Addr} (h : Wr R w w') (hw : Wr A w' w'') {e k m c : Nat} {xs : List Value} (ho : Own w.heap.size e k w' A m c xs) : Wr R w w'' := by
  have hb := hw.bel ho h.size
  exact ⟨hb.os.trans h.os, hb.tape.trans h.tape, hb.output.trans h.output, Nat.le_trans h.size hb.size, fun k hk hn => (hb.block k hk).trans (h.block k hk hn)⟩
def optV (D : Nat → Prop) (w : World) : Option Tr → Value → Prop
  | none, v => v = .nilIface
  | some t, v => TreeV D w t v
theorem optV.keep {D D' : Nat → Prop} {w w' : World} {o : Option Tr} {v : Value} (h : optV D w o v) (hk : Keeps D w w') (hD : ∀ b, D b → D' b) : optV D' w' o v := by
  cases o with
  | none => exact h
  | some t => exact TreeV.keep hk hD t v h
theorem optV.one {D : Nat → Prop} {w : World} {o : Option Tr} {v : Value} (h : optV D w o v) : v.oneCell' = true := by
  cases o with
  | none => rw [show v = .nilIface from h]; rfl
  | some t => exact (TreeV.one h).1
/-- A statement with its trees. -/
structure SV where
  s : PS
  p : PT
  cv : Value
  gv : Value
  i : Int
def fV (e : SV) : List Value := [.int .i64 e.s.k, .string e.s.nm, e.cv, e.gv, .int .i64 e.i]
theorem fV_len (e : SV) : (fV e).length = 5 := rfl
def ES (D : Nat → Prop) (w : World) (es : List SV) : Prop := ∀ e ∈ es, optV D w e.p.c e.cv ∧ optV D w e.p.g e.gv
theorem ES.keep {D D' : Nat → Prop} {w w' : World} {es : List SV} (h : ES D w es) (hk : Keeps D w w') (hD : ∀ b, D b → D' b) : ES D' w' es := fun e he => ⟨(h e he).1.keep hk hD, (h e he).2.keep hk hD⟩
def Nums (sv : List PS) (es : List SV) : Prop := ∀ (j : Nat) (e : SV), es[j]? = some e → e.i = (j : Int) ∧ sv[j]? = some e.s
/-- What trees gives. -/
def LaidS (w : World) (A : Option Addr) (m c : Nat) (sv : List PS) (acc : List PT) : Prop := ∃ es : List SV, es.length = m ∧ m = sv.length ∧ m ≤ c ∧ es.map (·.p) = acc ∧ Cells w A (es.flatMap fV) ∧ Nums sv es ∧ ES (fun b => b < w.heap.size) w es
theorem foot_keep {w0s ws : Nat} {w w' : World} {A : Option Addr} {a : Addr} (h0 : w0s ≤ w.heap.size) (ha : w0s ≤ a.block ∧ a.block < ws) (ha0 : blk (some a) = some a.block) (hw : Wr (some a) w w') : Keeps (Foot w0s ws w A) w w' := fun b hb => hw.block b (foot_lt h0 hb) (by
    intro e
    rw [ha0] at e
    cases e
    rcases hb with hb | hb <;> omega)
theorem bx_form {B : Nat} {e : TypeId} {k : Nat} {w : World} {a : Addr} {m c : Nat} {xs : List Value} (h : Own B e k w (some a) m c xs) : B ≤ a.block ∧ a.block < w.heap.size ∧ blk (some a) = some a.block := by
  obtain ⟨g, rfl, h1, h2⟩ := h.form
  exact ⟨h1, h2, rfl⟩
theorem bx_apart {a b : Addr} (ha : blk (some a) = some a.block) (hb : blk (some b) = some b.block) (h : a.block ≠ b.block) : Apart (some a) (some b) := .inr (by rw [ha, hb]; intro q; exact h (Option.some.inj q))
theorem drop_cons {α : Type} {l : List α} {j : Nat} {x : α} (h : l[j]? = some x) : l.drop j = x :: l.drop (j + 1) := by
  have := (List.getElem?_eq_some_iff.1 h)
  rw [List.drop_eq_getElem_cons this.1, this.2]
set_option maxHeartbeats 16000000 in
theorem trees_f {w0 : World} (hT : Tab w0 6 constF) (hR0 : STab w0 5 words) {AN A2 : Option Addr} {N cN' n2 c2 : Nat} {nv : List PN} {sv : List PS} (h : PolR w0 AN N A2 n2 nv sv) (hN : N ≤ 9223372036854775807) (hn2 : n2 ≤ 9223372036854775807) {f0 : FuncId} {lp : Nat → PN → Prop} (hf : LeafA w0 f0 lp) :
    FC Tryd.prog 74 [.slice AN N cN', .slice A2 n2 c2, .func (.func f0) #[] #[]] w0 fun v w' => ∃ (A : Option Addr) (m c : Nat) (b : Bool), v = .tuple ⟨[.slice A m c, .bool b]⟩ ∧
      (b = true ↔ nv.length ≤ 4000 ∧ 1 ≤ sv.length ∧ sv.length ≤ 600 ∧ ∃ acc, runS nv lp sv 0 0 [] = some (acc, nv.length)) ∧
      (b = true → ∃ acc, runS nv lp sv 0 0 [] = some (acc, nv.length) ∧ LaidS w' A m c sv acc) := by
  refine FC.intro (cs := []) Tryd.func74 (by kernel_rfl) fun E R hE hr hR => ?_
  have hl := h.nodes.len
  have hl2 := h.stmts.len
  obtain ⟨V, hV0⟩ : ∃ V, V = runS nv lp sv 0 0 [] := ⟨_, rfl⟩
  rw [← hV0] at hR
  have no : ¬ (nv.length ≤ 4000 ∧ 1 ≤ sv.length ∧ sv.length ≤ 600 ∧ ∃ acc, V = some (acc, nv.length)) → ∀ A m c w', Ext w0 w' → R (.tuple ⟨[.slice A m c, .bool false]⟩) w' := fun h A m c w' hx => by
    rw [hR]; exact ⟨hx, A, m, c, false, rfl, ⟨(fun q => absurd q Bool.false_ne_true), fun q => absurd q h⟩, fun q => absurd q Bool.false_ne_true⟩
  conv => cbv
  refine st_box1 hr rfl fun q5 w1 hx1 hb50 => ?_
  have hb5 := hb50 _ (Nat.le_refl _)
  have f5 := bx_form hb5
  clear hb50
  conv => cbv
  refine st_len hE sINd fun x1 hx1' => ?_
  conv => cbv
  refine br (fun g => ?_) (fun g => ?_)
  · have g : 4000 < x1 := by simpa [hE.cmp, cmpR] using g
    conv => cbv
    exact no (fun q => by have := q.1; omega) _ _ _ _ hx1
  have g1 : N ≤ 4000 := by simp [hE.cmp, cmpR] at g; omega
  clear g
  conv => cbv
  refine st_len hE sISd fun x2 hx2' => ?_
  conv => cbv
  refine br (fun g => ?_) (fun g => ?_)
  · have g : x2 < 1 := by simpa [hE.cmp, cmpR] using g
    conv => cbv
    exact no (fun q => by have := q.2.1; omega) _ _ _ _ hx1
  have g2 : 1 ≤ n2 := by simp [hE.cmp, cmpR] at g; omega
  clear g
  conv => cbv
  refine st_len hE sISd fun x3 hx3' => ?_
  conv => cbv
  refine br (fun g => ?_) (fun g => ?_)
  · have g : 600 < x3 := by simpa [hE.cmp, cmpR] using g
    conv => cbv
    exact no (fun q => by have := q.2.2.1; omega) _ _ _ _ hx1
  have g3 : n2 ≤ 600 := by simp [hE.cmp, cmpR] at g; omega
  clear g
  have bad : (∀ acc, V ≠ some (acc, N)) → ∀ A m c w', Ext w0 w' → R (.tuple ⟨[.slice A m c, .bool false]⟩) w' := fun h => no fun q => by
    obtain ⟨acc, e⟩ := q.2.2.2
    exact h acc (by rw [e, hl])
  conv => cbv
  refine st_new hr (z := .int .i64 0) (by kernel_rfl) rfl fun q8 w2 hx2 hb80 => ?_
  have hb8 := hb80 _ (Nat.le_refl _)
  have f8 := bx_form hb8
  clear hb80
  conv => cbv
  refine st_put hr zInt hb8 (add_zero _).symm (by simp) rfl fun w3 hw3 hb8' => ?_
  simp only [List.set_cons_zero] at hb8'
  have hxa := hx2.then (hw3.bel hb8 hx2.size)
  clear hb8
  have hw3s := hw3.size
  replace hb5 := hb5.bel hxa
  have hxb := hx1.trans hxa
  have hb8 : Box w0.heap.size 3 1 w3 q8 [.int .i64 0] := hb8'.mono hx1.size
  clear hb8' hw3
  conv => cbv
  refine st_bWk hE ?_
  conv => cbv
  refine st_box hr fun q9 w4 hx4 hb90 => ?_
  have hb9 := hb90 _ (Nat.le_refl _)
  have f9 := bx_form hb9
  replace hb9 := hb9.mono hxb.size
  clear hb90
  replace hb5 := hb5.bel hx4
  replace hb8 := hb8.bel hx4
  have hx := hxb.trans hx4
  have s1 := hx1.size
  have s2 := hx2.size
  have s4 := hx4.size
  have a58 := bx_apart f5.2.2 f8.2.2 (by omega)
  have a59 := bx_apart f5.2.2 f9.2.2 (by omega)
  have a89 := bx_apart f8.2.2 f9.2.2 (by omega)
  have a98 := bx_apart f9.2.2 f8.2.2 (by omega)
  have r5 : w0.heap.size ≤ q5.block ∧ q5.block < w4.heap.size := by omega
  have r8 : w0.heap.size ≤ q8.block ∧ q8.block < w4.heap.size := by omega
  have r9 : w0.heap.size ≤ q9.block ∧ q9.block < w4.heap.size := by omega
  have hs04 : w0.heap.size ≤ w4.heap.size := hx.size
  have e5 := f5.2.2
  have e8 := f8.2.2
  have e9 := f9.2.2
  clear f5 f8 f9 hxa hxb hx1 hx2 hx4 s1 s2 s4 hw3s
  conv => cbv
  refine st_none hr sSt fun AA w5 hx5 ho0 => ?_
  have ho := ho0 w4.heap.size (Nat.le_refl _)
  clear ho0
  replace hb5 := hb5.bel hx5
  replace hb8 := hb8.bel hx5
  replace hb9 := hb9.bel hx5
  replace hx := hx.trans hx5
  have hs45 := hx5.size
  clear hx5
  conv => cbv
  refine st_len hE sISd fun x4 hx4 => ?_
  conv => cbv
  refine loop_rulec [13, 16, 18, 22] hr (fun (s : Nat × Int × Nat × Int × Nat × Int × Option Addr × Nat × List SV) w' => s.1 ≤ n2 ∧ s.2.1 = (s.1 : Int) ∧ s.2.2.1 ≤ N ∧ s.2.2.2.1 = (s.2.2.1 : Int) ∧ s.2.2.2.2.1 ≤ s.1 ∧ s.2.2.2.2.2.1 = (s.2.2.2.2.1 : Int) ∧ Ext w0 w' ∧ w4.heap.size ≤ w'.heap.size ∧
      Box w0.heap.size 147 1 w' q5 [.func (.func f0) #[] #[]] ∧ Box w0.heap.size 3 1 w' q8 [.int .i64 s.2.2.2.2.2.1] ∧ Box w0.heap.size 201 3 w' q9 [.slice AN N cN', .int .i64 s.2.2.2.1, .func (.func 118) #[] #[.pointer (some q5), .pointer (some q8)]] ∧
      Own w4.heap.size 195 5 w' s.2.2.2.2.2.2.1 s.1 s.2.2.2.2.2.2.2.1 (s.2.2.2.2.2.2.2.2.flatMap fV) ∧ ES (Foot w0.heap.size w4.heap.size w' s.2.2.2.2.2.2.1) w' s.2.2.2.2.2.2.2.2 ∧ Nums sv s.2.2.2.2.2.2.2.2 ∧
      runS nv lp (sv.drop s.1) s.2.2.1 s.2.2.2.2.1 (s.2.2.2.2.2.2.2.2.map (·.p)) = V)
    (fun s => [(0, .slice AN N cN'), (1, .slice A2 n2 c2), (8, .pointer (some q8)), (9, .pointer (some q9)), (10, .slice s.2.2.2.2.2.2.1 s.1 s.2.2.2.2.2.2.2.1), (34, .slice A2 n2 c2), (35, .int .i64 x4), (36, .int .i64 s.2.1)]) (fun s => n2 - s.1) (0, 0, 0, 0, 0, 0, AA, 0, [])
    (by simp [Fits, lk]) ⟨by simp, by simp, by simp, by simp, by simp, by simp, hx, hs45, hb5, hb8, hb9, by simpa using ho, (fun e he => by cases he), (fun j e he => by simp at he), hV0.symm⟩ ?_
  clear hb5 hb8 hb9 ho hx hs45 hV0
  rintro I hI ⟨j, jj, i, ii, le, ll, A, c, es⟩ w' ⟨hj, hjj, hi, hii, hle, hll, hx, hs4, hb5, hb8, hb9, ho, hes, hnu, hV⟩
  simp only at hj hjj hi hii hle hll hb5 hb8 hb9 ho hes hnu hV
  obtain ⟨jk, hjk⟩ : ∃ z, z = jj + 1 := ⟨_, rfl⟩
  obtain ⟨lk1, hlk⟩ : ∃ z, z = ll + 1 := ⟨_, rfl⟩
  obtain ⟨im, him⟩ : ∃ z : Int, z = n2 - 1 := ⟨_, rfl⟩
  have hol := ho.len
  rw [fl_len fV_len] at hol
  have h0s := hx.size
  conv => cbv
  refine br (fun g => ?_) (fun g => ?_)
  · have g : j < n2 := by
      have : jj < x4 := by simpa [hE.cmp, cmpR] using g
      omega
    have ej : E.ar .add .i64 jj 1 = jk := by rw [hE.ar, hjk]; exact wrap_in (by omega) (by omega)
    have el : E.ar .add .i64 ll 1 = lk1 := by rw [hE.ar, hlk]; exact wrap_in (by omega) (by omega)
    obtain ⟨a, v, hA, hg, hc, hok⟩ := (h.stmts.ext hx).get g
    obtain ⟨k, nm, cc, gg⟩ := v
    have s_nm := hok.s_nm
    simp only at s_nm
    rw [drop_cons hg, runS] at hV
    obtain ⟨la, hla⟩ : ∃ la, la = E.cmp .eql jj im := ⟨_, rfl⟩
    have hla2 : la = (sv.drop (j + 1)).isEmpty := by rw [hla, hE.cmp, Bool.eq_iff_iff]; simp [cmpR]; omega
    rw [← hla2] at hV
    obtain ⟨SM, hSM0⟩ : ∃ SM, SM = stmtM nv (lp le) la i ⟨k, nm, cc, gg⟩ := ⟨_, rfl⟩
    rw [← hSM0] at hV
    have hSM := hSM0
    unfold stmtM at hSM
    simp only at hSM
    have bad2 : SM = none → ∀ w2, Ext w0 w2 → R (.tuple ⟨[.slice none 0 0, .bool false]⟩) w2 := fun h => by
      rw [h] at hV
      simp only at hV
      exact bad (fun acc q => by rw [← hV] at q; cases q) _ _ _
    conv => cbv
    refine st_idx hE sISd hA (by omega) (by omega) fun q hq => ?_
    rw [show jj.toNat = j by omega] at hq
    conv => cbv
    refine st_loadS hE tISd (vs := [.int .i64 k, .string nm, .int .i64 cc, .int .i64 gg]) rfl (by rw [hq]; exact hc) ?_
    conv => cbv
    refine st_alloc hr tISd rfl fun q12 w6 hx6 hq0 => ?_
    conv => cbv
    refine st_putS hr (by kernel_rfl) (hq0 _ (Nat.le_refl _)) (add_zero _).symm (by simp) (by simp [Value.oneCell']) fun w7 hw7 hq12 => ?_
    simp only [List.take_zero, List.nil_append, List.length_cons, List.length_nil, List.drop_succ_cons, List.drop_nil, List.append_nil] at hq12
    have hy := hx6.then (hw7.bel (hq0 _ (Nat.le_refl _)) hx6.size)
    have f12 := bx_form hq12
    clear hq0 hw7 hx6 hq hc
    conv => cbv
    (refine st_fld hE fISd0 fun p hp => ?_; (conv => cbv); refine st_load hE cInt (by rw [hp]; exact (hq12).at _ _ rfl) ?_; clear hp; (conv => cbv))
    (refine st_fld hE fISd1 fun p hp => ?_; (conv => cbv); refine st_load hE cStr (by rw [hp]; exact (hq12).at _ _ rfl) ?_; clear hp; (conv => cbv))
    refine st_bSt hE ?_
    conv => cbv
    refine st_alloc hr tSt rfl fun q13 w8 hx8 hq0 => ?_
    conv => cbv
    refine st_putS hr (by kernel_rfl) (hq0 _ (Nat.le_refl _)) (add_zero _).symm (by simp [zSt]) (by simp [Value.oneCell']) fun w9 hw9 hq13 => ?_
    simp only [zSt, List.take_zero, List.nil_append, List.length_cons, List.length_nil, List.drop_succ_cons, List.drop_nil, List.append_nil] at hq13
    have hy2 := hx8.then (hw9.bel (hq0 _ (Nat.le_refl _)) hx8.size)
    replace hq12 := hq12.bel hy2
    have f1312 := (bx_form hq13).1
    replace hq13 := hq13.mono hy.size
    have f13 := (bx_form hq13)
    replace hy := hy.trans hy2
    clear hq0 hw9 hx8 hy2
    conv => cbv
    refine st_len hE sISd fun x6 hx6 => ?_
    have em : E.ar .sub .i64 x6 1 = im := by rw [hE.ar, show arR .sub .i64 x6 1 = IntKind.i64.wrap (x6 - 1) from rfl, wrap_in (by omega) (by omega)]; omega
    conv => cbv
    simp only [em, ← hla]
    have hxz := hx.trans hy
    refine cut_rule [] [16, 18, 22] hr (fun (s : Unit) wz => guardP la ⟨k, nm, cc, gg⟩ ∧ Ext w9 wz) (fun s => [(0, .slice AN N cN'), (1, .slice A2 n2 c2), (8, .pointer (some q8)), (9, .pointer (some q9)), (10, .slice A j c), (11, .int .i64 jj), (12, .pointer (some q12)), (13, .pointer (some q13)), (34, .slice A2 n2 c2), (35, .int .i64 x4), (36, .int .i64 jj)]) (fun J hJ => ?_) ?_
    · have bad3 : ¬ guardP la ⟨k, nm, cc, gg⟩ → ∀ wz, Ext w9 wz → R (.tuple ⟨[.slice none 0 0, .bool false]⟩) wz := fun q wz h => bad2 (by rw [hSM, if_neg q]) _ (hxz.trans h)
      conv => cbv
      (refine st_fld hE fISd0 fun p hp => ?_; (conv => cbv); refine st_load hE cInt (by rw [hp]; exact (hq12).at _ _ rfl) ?_; clear hp; (conv => cbv))
      refine br (fun b1 => ?_) (fun b1 => ?_)
      · have b1 : k < 1 := by simpa [hE.cmp, cmpR] using b1
        conv => cbv
        exact bad3 (fun q => by have := q.1; simp only at this; omega) _ (Ext.refl _)
      have b1 : ¬ k < 1 := by simpa [hE.cmp, cmpR] using b1
      conv => cbv
      (refine st_fld hE fISd0 fun p hp => ?_; (conv => cbv); refine st_load hE cInt (by rw [hp]; exact (hq12).at _ _ rfl) ?_; clear hp; (conv => cbv))
      refine br (fun b2 => ?_) (fun b2 => ?_)
      · have b2 : 3 < k := by simpa [hE.cmp, cmpR] using b2
        conv => cbv
        exact bad3 (fun q => by have := q.1; simp only at this; omega) _ (Ext.refl _)
      have b2 : ¬ 3 < k := by simpa [hE.cmp, cmpR] using b2
      conv => cbv
      (refine st_fld hE fISd0 fun p hp => ?_; (conv => cbv); refine st_load hE cInt (by rw [hp]; exact (hq12).at _ _ rfl) ?_; clear hp; (conv => cbv))
      refine st_bne hE uBool fun v1 hv1 => ?_
      cases v1 with
      | true =>
        have hv1 := hv1.1 rfl
        conv => cbv
        exact bad3 (fun q => hv1 (by rw [← q.2.1]; simp [hE.cmp, cmpR])) _ (Ext.refl _)
      | false =>
      have hv1 : k = 3 ↔ la = true := by
        have := Classical.byContradiction fun q => absurd (hv1.2 q) Bool.false_ne_true
        rw [← this]; simp [hE.cmp, cmpR]
      conv => cbv
      (refine st_fld hE fISd0 fun p hp => ?_; (conv => cbv); refine st_load hE cInt (by rw [hp]; exact (hq12).at _ _ rfl) ?_; clear hp; (conv => cbv))
      (refine st_fld hE fISd2 fun p hp => ?_; (conv => cbv); refine st_load hE cInt (by rw [hp]; exact (hq12).at _ _ rfl) ?_; clear hp; (conv => cbv))
      refine st_bne hE uBool fun v2 hv2 => ?_
      cases v2 with
      | true =>
        have hv2 := hv2.1 rfl
        conv => cbv
        exact bad3 (fun q => hv2 (by have := q.2.2.1; simpa [hE.cmp, cmpR] using this)) _ (Ext.refl _)
      | false =>
      have hv2 : k = 3 ↔ cc = -1 := by
        have := Classical.byContradiction fun q => absurd (hv2.2 q) Bool.false_ne_true
        simpa [hE.cmp, cmpR] using this
      conv => cbv
      (refine st_fld hE fISd0 fun p hp => ?_; (conv => cbv); refine st_load hE cInt (by rw [hp]; exact (hq12).at _ _ rfl) ?_; clear hp; (conv => cbv))
      refine br (fun b5 => ?_) (fun b5 => ?_)
      · have b5 : k = 1 := by simpa [hE.cmp, cmpR] using b5
        conv => cbv
        (refine st_fld hE fISd3 fun p hp => ?_; (conv => cbv); refine st_load hE cInt (by rw [hp]; exact (hq12).at _ _ rfl) ?_; clear hp; (conv => cbv))
        refine br (fun b6 => ?_) (fun b6 => ?_)
        · have b6 : gg ≠ -1 := by simpa [hE.cmp, cmpR] using b6
          conv => cbv
          exact bad3 (fun q => b6 (q.2.2.2.1 b5)) _ (Ext.refl _)
        have b6 : gg = -1 := by simpa [hE.cmp, cmpR] using b6
        conv => cbv
        (refine st_fld hE fISd0 fun p hp => ?_; (conv => cbv); refine st_load hE cInt (by rw [hp]; exact (hq12).at _ _ rfl) ?_; clear hp; (conv => cbv))
        refine br (fun b7 => ?_) (fun b7 => ?_)
        · have b7 : k ≠ 1 := by simpa [hE.cmp, cmpR] using b7
          exact absurd b5 b7
        conv => cbv
        (refine st_fld hE fISd0 fun p hp => ?_; (conv => cbv); refine st_load hE cInt (by rw [hp]; exact (hq12).at _ _ rfl) ?_; clear hp; (conv => cbv))
        refine br (fun b8 => ?_) (fun b8 => ?_)
        rotate_left
        · have b8 : k ≠ 1 := by simpa [hE.cmp, cmpR] using b8
          exact absurd b5 b8
        conv => cbv
        (refine st_fld hE fISd1 fun p hp => ?_; (conv => cbv); refine st_load hE cStr (by rw [hp]; exact (hq12).at _ _ rfl) ?_; clear hp; (conv => cbv))
        refine st_qb hE (isNameToken_f (hR0.ext hxz) nm s_nm) fun b hb2 wz hsz => ?_
        cases b with
        | false =>
          conv => cbv
          exact bad3 (fun q => absurd (hb2.2 (q.2.2.2.2.2 b5)) Bool.false_ne_true) _ hsz.ext
        | true =>
          conv => cbv
          exact ⟨(), by simp [Fits, lk], hJ _ _ ⟨⟨by simp only; omega, hv1, hv2, fun _ => b6, fun q => absurd b5 q, fun _ => hb2.1 rfl⟩, hsz.ext⟩⟩
      · have b5 : k ≠ 1 := by simpa [hE.cmp, cmpR] using b5
        conv => cbv
        (refine st_fld hE fISd0 fun p hp => ?_; (conv => cbv); refine st_load hE cInt (by rw [hp]; exact (hq12).at _ _ rfl) ?_; clear hp; (conv => cbv))
        refine br (fun b7 => ?_) (fun b7 => ?_)
        rotate_left
        · have b7 : k = 1 := by simpa [hE.cmp, cmpR] using b7
          exact absurd b7 b5
        conv => cbv
        (refine st_fld hE fISd1 fun p hp => ?_; (conv => cbv); refine st_load hE cStr (by rw [hp]; exact (hq12).at _ _ rfl) ?_; clear hp; (conv => cbv))
        refine br (fun b6 => ?_) (fun b6 => ?_)
        · have b6 := (scn hE _).1 b6
          conv => cbv
          exact bad3 (fun q => b6 (by rw [show nm = _ from q.2.2.2.2.1 b5]; rfl)) _ (Ext.refl _)
        have b6 : nm = ⟨#[]⟩ := Classical.byContradiction fun q => b6 ((scn hE _).2 fun z => q (size_nil z))
        conv => cbv
        (refine st_fld hE fISd0 fun p hp => ?_; (conv => cbv); refine st_load hE cInt (by rw [hp]; exact (hq12).at _ _ rfl) ?_; clear hp; (conv => cbv))
        refine br (fun b8 => ?_) (fun b8 => ?_)
        · have b8 : k = 1 := by simpa [hE.cmp, cmpR] using b8
          exact absurd b8 b5
        conv => cbv
        exact ⟨(), by simp [Fits, lk], hJ _ _ ⟨⟨by simp only; omega, hv1, hv2, fun q => absurd q b5, fun _ => b6, fun q => absurd q b5⟩, Ext.refl _⟩⟩
    · rintro _ wz ⟨hgd, hwz⟩
      rw [if_pos hgd] at hSM
      replace hq12 := hq12.bel hwz
      replace hq13 := hq13.bel hwz
      replace hy := hy.trans hwz
      have h9z := hwz.size
      clear hxz hwz
      have xw : ∀ wz, Wr (some q9) w' wz → Ext w0 wz := fun wz hz => hx.then (hz.bel hb9 hx.size)
      have e13 := f13.2.2
      have b13 : w'.heap.size ≤ q13.block ∧ q13.block < w9.heap.size := ⟨f13.1, f13.2.1⟩
      have a139 := bx_apart e13 e9 (by omega)
      have a129 := bx_apart f12.2.2 e9 (by omega)
      have a1213 := bx_apart f12.2.2 e13 (by omega)
      have hleaf : ∀ wy, Wr (some q9) w' wy → LeafC wy q9 118 #[] #[.pointer (some q5), .pointer (some q8)] (lp le) := fun wy hz => trees1_a hf (xw _ hz) ⟨r9.1, by have := hz.size; omega⟩ e9 (by omega) hll (hb5.wr hz a59) (hb8.wr hz a89) a59 a89
      conv => cbv
      refine cut_rule [] [18, 22] hr (fun (s : Option (Option Tr × Value × Nat × Int)) wy => match s with
          | none => SM = none ∧ Ext w0 wy
          | some (co, cv, i1, ii1) => optM nv (lp le) i cc = some (co, i1) ∧ ii1 = (i1 : Int) ∧ i1 ≤ N ∧ Wr (some q9) w' wy ∧ w9.heap.size ≤ wy.heap.size ∧ Box w0.heap.size 201 3 wy q9 [.slice AN N cN', .int .i64 ii1, .func (.func 118) #[] #[.pointer (some q5), .pointer (some q8)]] ∧
              Box w'.heap.size 139 4 wy q12 [.int .i64 k, .string nm, .int .i64 cc, .int .i64 gg] ∧ Box w'.heap.size 195 5 wy q13 [.int .i64 k, .string nm, cv, .nilIface, .int .i64 jj] ∧ optV (fun b => b < w0.heap.size ∨ (w9.heap.size ≤ b ∧ b < wy.heap.size)) wy co cv)
        (fun s => match s with
          | none => [(15, .bool false)]
          | some _ => [(0, .slice AN N cN'), (1, .slice A2 n2 c2), (8, .pointer (some q8)), (9, .pointer (some q9)), (10, .slice A j c), (12, .pointer (some q12)), (13, .pointer (some q13)), (15, .bool true), (34, .slice A2 n2 c2), (35, .int .i64 x4), (36, .int .i64 jj)]) (fun J hJ => ?_) ?_
      · (refine st_fld hE fISd2 fun p hp => ?_; (conv => cbv); refine st_load hE cInt (by rw [hp]; exact (hq12).at _ _ rfl) ?_; clear hp; (conv => cbv))
        refine br (fun t1 => ?_) (fun t1 => ?_)
        rotate_left
        · have t1 : cc = -1 := by simpa [hE.cmp, cmpR] using t1
          conv => cbv
          exact ⟨some (none, .nilIface, i, ii), by simp [Fits, lk], hJ _ _ ⟨by unfold optM; rw [if_pos t1], hii, hi, hy.wr _, h9z, hb9.bel hy, hq12, hq13, rfl⟩⟩
        · have t1 : cc ≠ -1 := by simpa [hE.cmp, cmpR] using t1
          conv => cbv
          (refine st_fld hE fISd2 fun p hp => ?_; (conv => cbv); refine st_load hE cInt (by rw [hp]; exact (hq12).at _ _ rfl) ?_; clear hp; (conv => cbv))
          refine st_g hr (tree_g hT h.nodes g1 hii hi (hb9.bel hy) (hx.trans hy) (hleaf _ (hy.wr _)) cc) fun u w10 ⟨v, b, ev, hv1, hw10, hbf, hbt⟩ => ?_
          subst ev
          conv => cbv
          have hwr10 := (hy.wr (some q9)).trans hw10
          replace hq12 := hq12.wr hw10 a129
          replace hq13 := hq13.wr hw10 a139
          refine st_fld hE fSt2 fun p hp => ?_
          conv => cbv
          refine st_put hr zTr hq13 hp (by simp) hv1 fun w11 hw11 hq13' => ?_
          simp only [List.set_cons_zero, List.set_cons_succ] at hq13'
          have hwr11 := wr_new hwr10 hw11 hq13
          have s10 := hw10.size
          have s11 := hw11.size
          replace hq12 := hq12.wr hw11 a1213
          conv => cbv
          cases b with
          | false =>
            exact ⟨none, by simp [Fits, lk], hJ _ _ ⟨by rw [hSM]; unfold optM; rw [if_neg t1, hbf rfl], xw _ hwr11⟩⟩
          | true =>
            obtain ⟨t, ty, u, rfl, ht, htv, hb9'⟩ := hbt rfl
            obtain ⟨kn, hkn, hk1, hk2, _⟩ := treeM_iff.1 ht
            exact ⟨some (some t, .iface ty u, cc.toNat + 1, cc + 1), by simp [Fits, lk], hJ _ _ ⟨by unfold optM; rw [if_neg t1, ht], by omega, by omega, hwr11, by omega, hb9'.wr hw11 (bx_apart e9 e13 (by omega)), hq12, hq13', by
              refine TreeV.keep (fun b hb => hw11.block b ?_ ?_) (fun b hb => ?_) t _ htv
              · rcases hb with hb | hb <;> omega
              · rw [e13]; intro q; cases q; rcases hb with hb | hb <;> omega
              · rcases hb with hb | hb
                · exact .inl hb
                · exact .inr ⟨by omega, by omega⟩⟩⟩
      · clear hq12 hq13 hy h9z
        rintro (_ | ⟨co, cv, i1, ii1⟩) wy hI2
        · obtain ⟨hS1, hS2⟩ := hI2
          conv => cbv
          refine cut_rule [] [] hr (fun (s : Unit) wy => Ext w0 wy) (fun s => [(15, .bool false)]) (fun J hJ => ?_) ?_
          · conv => cbv
            exact ⟨(), by simp [Fits, lk], hJ _ _ hS2⟩
          · rintro _ wy hS2
            conv => cbv
            exact bad2 hS1 _ hS2
        obtain ⟨hc1, hii1, hi1, hwr, h9z, hb9y, hq12, hq13, hcv⟩ := hI2
        rw [hc1] at hSM
        simp only at hSM
        conv => cbv
        refine cut_rule [] [22] hr (fun (s : Option (Option Tr × Value × Option Tr × Value × Nat × Int)) wy => match s with
            | none => SM = none ∧ Ext w0 wy
            | some (co, cv, go, gv, i2, ii2) => SM = some (⟨co, go⟩, i2) ∧ ii2 = (i2 : Int) ∧ i2 ≤ N ∧ Wr (some q9) w' wy ∧ w9.heap.size ≤ wy.heap.size ∧ Box w0.heap.size 201 3 wy q9 [.slice AN N cN', .int .i64 ii2, .func (.func 118) #[] #[.pointer (some q5), .pointer (some q8)]] ∧
                Box w'.heap.size 139 4 wy q12 [.int .i64 k, .string nm, .int .i64 cc, .int .i64 gg] ∧ Box w'.heap.size 195 5 wy q13 [.int .i64 k, .string nm, cv, gv, .int .i64 jj] ∧ optV (fun b => b < w0.heap.size ∨ (w9.heap.size ≤ b ∧ b < wy.heap.size)) wy co cv ∧ optV (fun b => b < w0.heap.size ∨ (w9.heap.size ≤ b ∧ b < wy.heap.size)) wy go gv)
          (fun s => match s with
            | none => [(15, .bool false)]
            | some _ => [(0, .slice AN N cN'), (1, .slice A2 n2 c2), (8, .pointer (some q8)), (9, .pointer (some q9)), (10, .slice A j c), (12, .pointer (some q12)), (13, .pointer (some q13)), (15, .bool true), (34, .slice A2 n2 c2), (35, .int .i64 x4), (36, .int .i64 jj)]) (fun J hJ => ?_) ?_
        · (refine st_fld hE fISd3 fun p hp => ?_; (conv => cbv); refine st_load hE cInt (by rw [hp]; exact (hq12).at _ _ rfl) ?_; clear hp; (conv => cbv))
          refine br (fun t1 => ?_) (fun t1 => ?_)
          rotate_left
          · have t1 : gg = -1 := by simpa [hE.cmp, cmpR] using t1
            conv => cbv
            exact ⟨some (co, cv, none, .nilIface, i1, ii1), by simp [Fits, lk], hJ _ _ ⟨by rw [hSM]; unfold optM; rw [if_pos t1], hii1, hi1, hwr, h9z, hb9y, hq12, hq13, hcv, rfl⟩⟩
          · have t1 : gg ≠ -1 := by simpa [hE.cmp, cmpR] using t1
            conv => cbv
            (refine st_fld hE fISd3 fun p hp => ?_; (conv => cbv); refine st_load hE cInt (by rw [hp]; exact (hq12).at _ _ rfl) ?_; clear hp; (conv => cbv))
            refine st_g hr (tree_g hT h.nodes g1 hii1 hi1 hb9y (xw _ hwr) (hleaf _ hwr) gg) fun u w10 ⟨v, b, ev, hv1, hw10, hbf, hbt⟩ => ?_
            subst ev
            conv => cbv
            have hwr10 := hwr.trans hw10
            replace hq12 := hq12.wr hw10 a129
            replace hq13 := hq13.wr hw10 a139
            refine st_fld hE fSt3 fun p hp => ?_
            conv => cbv
            refine st_put hr zTr hq13 hp (by simp) hv1 fun w11 hw11 hq13' => ?_
            simp only [List.set_cons_zero, List.set_cons_succ] at hq13'
            have hwr11 := wr_new hwr10 hw11 hq13
            have s10 := hw10.size
            have s11 := hw11.size
            replace hq12 := hq12.wr hw11 a1213
            conv => cbv
            cases b with
            | false =>
              exact ⟨none, by simp [Fits, lk], hJ _ _ ⟨by rw [hSM]; unfold optM; rw [if_neg t1, hbf rfl], xw _ hwr11⟩⟩
            | true =>
              obtain ⟨t, ty, u, rfl, ht, htv, hb9'⟩ := hbt rfl
              obtain ⟨kn, hkn, hk1, hk2, _⟩ := treeM_iff.1 ht
              have keepD : ∀ (b : Nat), b < w0.heap.size ∨ (w9.heap.size ≤ b ∧ b < w10.heap.size) → w11.heap[b]? = w10.heap[b]? := fun b hb => hw11.block b (by rcases hb with hb | hb <;> omega) (by rw [e13]; intro q; cases q; rcases hb with hb | hb <;> omega)
              exact ⟨some (co, cv, some t, .iface ty u, gg.toNat + 1, gg + 1), by simp [Fits, lk], hJ _ _ ⟨by rw [hSM]; unfold optM; rw [if_neg t1, ht], by omega, by omega, hwr11, by omega, hb9'.wr hw11 (bx_apart e9 e13 (by omega)), hq12, hq13', by
                refine (hcv.keep (fun b hb => hw10.block b ?_ ?_) (fun b hb => ?_)).keep (D := fun b => b < w0.heap.size ∨ (w9.heap.size ≤ b ∧ b < w10.heap.size)) keepD (fun b hb => ?_)
                · rcases hb with hb | hb <;> omega
                · rw [e9]; intro q; cases q; rcases hb with hb | hb <;> omega
                · rcases hb with hb | hb
                  · exact .inl hb
                  · exact .inr ⟨by omega, by omega⟩
                · rcases hb with hb | hb
                  · exact .inl hb
                  · exact .inr ⟨by omega, by omega⟩, by
                refine TreeV.keep (fun b hb => keepD b ?_) (fun b hb => ?_) t _ htv
                · rcases hb with hb | hb
                  · exact .inl hb
                  · exact .inr ⟨by omega, by omega⟩
                · rcases hb with hb | hb
                  · exact .inl hb
                  · exact .inr ⟨by omega, by omega⟩⟩⟩
        · clear hq12 hq13 hwr h9z hb9y hcv hSM hc1
          rintro (_ | ⟨co', cv', go, gv, i2, ii2⟩) wy hI2
          · obtain ⟨hS1, hS2⟩ := hI2
            conv => cbv
            exact bad2 hS1 _ hS2
          obtain ⟨hS1, hii2, hi2, hwr, h9z, hb9y, hq12, hq13, hcv, hgv⟩ := hI2
          rw [hS1] at hV
          simp only at hV
          have hw8 := hs4
          have hsy := hwr.size
          replace hb5 := hb5.wr hwr a59
          replace hb8 := hb8.wr hwr a89
          have apA := own_low ho r9.2 e9
          have hblA : ∀ b, w9.heap.size ≤ b → blk A ≠ some b := fun b hb q => by
            obtain rfl | ⟨g, rfl, _, hg⟩ := ho.blk
            · simp [Eng.blk, Value.ownBlock] at q
            · have e1 : blk (some (⟨g, 0, none⟩ : Addr)) = some g := rfl
              rw [e1] at q; cases q; omega
          replace ho := ho.wr hwr apA.1
          replace hes : ES (Foot w0.heap.size w4.heap.size wy A) wy es := hes.keep (foot_keep h0s ⟨r9.1, r9.2⟩ e9 hwr) fun b hb => foot_ext hsy hb
          have toF : ∀ b, b < w0.heap.size ∨ (w9.heap.size ≤ b ∧ b < wy.heap.size) → Foot w0.heap.size w4.heap.size wy A b := fun b hb => by
            rcases hb with hb | hb
            · exact .inl hb
            · exact .inr ⟨by omega, hb.2, hblA b hb.1⟩
          replace hcv : optV (Foot w0.heap.size w4.heap.size wy A) wy co' cv' := hcv.keep (fun b _ => rfl) toF
          replace hgv : optV (Foot w0.heap.size w4.heap.size wy A) wy go gv := hgv.keep (fun b _ => rfl) toF
          have hxy := xw _ hwr
          have h0y := hxy.size
          conv => cbv
          refine cut_rule [] [] hr (fun (s : Nat × Int) wv => s.1 = (if k = 1 then le + 1 else le) ∧ s.2 = (s.1 : Int) ∧ Ext w0 wv ∧ w4.heap.size ≤ wv.heap.size ∧ Box w0.heap.size 147 1 wv q5 [.func (.func f0) #[] #[]] ∧ Box w0.heap.size 3 1 wv q8 [.int .i64 s.2] ∧
              Box w0.heap.size 201 3 wv q9 [.slice AN N cN', .int .i64 ii2, .func (.func 118) #[] #[.pointer (some q5), .pointer (some q8)]] ∧ Box w'.heap.size 195 5 wv q13 [.int .i64 k, .string nm, cv', gv, .int .i64 jj] ∧ Own w4.heap.size 195 5 wv A j c (es.flatMap fV) ∧
              ES (Foot w0.heap.size w4.heap.size wv A) wv es ∧ optV (Foot w0.heap.size w4.heap.size wv A) wv co' cv' ∧ optV (Foot w0.heap.size w4.heap.size wv A) wv go gv)
            (fun s => [(0, .slice AN N cN'), (1, .slice A2 n2 c2), (8, .pointer (some q8)), (9, .pointer (some q9)), (10, .slice A j c), (13, .pointer (some q13)), (34, .slice A2 n2 c2), (35, .int .i64 x4), (36, .int .i64 jj)]) (fun J hJ => ?_) ?_
          · (refine st_fld hE fISd0 fun p hp => ?_; (conv => cbv); refine st_load hE cInt (by rw [hp]; exact (hq12).at _ _ rfl) ?_; clear hp; (conv => cbv))
            refine br (fun t1 => ?_) (fun t1 => ?_)
            rotate_left
            · have t1 : k ≠ 1 := by simpa [hE.cmp, cmpR] using t1
              conv => cbv
              exact ⟨(le, ll), by simp [Fits, lk], hJ _ _ ⟨by rw [if_neg t1], hll, hxy, by omega, hb5, hb8, hb9y, hq13, ho, hes, hcv, hgv⟩⟩
            · have t1 : k = 1 := by simpa [hE.cmp, cmpR] using t1
              conv => cbv
              refine st_load hE cInt (by have := hb8.at 0 _ rfl; rwa [add_zero] at this) ?_
              conv => cbv
              simp only [el]
              refine st_put hr zInt hb8 (add_zero _).symm (by simp) rfl fun wv hwv hb8' => ?_
              simp only [List.set_cons_zero] at hb8'
              have apA8 := own_low ho r8.2 e8
              have hvs := hwv.size
              have kp : ∀ b, Foot w0.heap.size w4.heap.size wy A b → wv.heap[b]? = wy.heap[b]? := foot_keep h0y ⟨r8.1, r8.2⟩ e8 hwv
              have kf : ∀ b, Foot w0.heap.size w4.heap.size wy A b → Foot w0.heap.size w4.heap.size wv A b := fun b hb => foot_ext hvs hb
              conv => cbv
              exact ⟨(le + 1, lk1), by simp [Fits, lk], hJ _ _ ⟨by rw [if_pos t1], by simp only; omega, hxy.then (hwv.bel hb8 h0y), by omega, hb5.wr hwv a58, hb8', hb9y.wr hwv a98, hq13.wr hwv (bx_apart e13 e8 (by omega)), ho.wr hwv apA8.1, hes.keep kp kf, hcv.keep kp kf, hgv.keep kp kf⟩⟩
          · clear hb5 hb8 hb9 hb9y hq13 hq12 ho hes hcv hgv hxy h0y apA
            rintro ⟨le', ll'⟩ wv ⟨hle', hll', hxy, hs4v, hb5, hb8, hb9, hq13, ho, hes, hcv, hgv⟩
            simp only at hle' hll' hb8
            rw [← hle'] at hV
            conv => cbv
            refine st_loadS hE tSt rfl hq13.at ?_
            conv => cbv
            have h0y := hxy.size
            refine st_oneS hr sSt rfl (by omega) (by omega) rfl fun A7 w7 hx7 hc7 => ?_
            have kp7 : ∀ b, Foot w0.heap.size w4.heap.size wv A b → w7.heap[b]? = wv.heap[b]? := fun b hb => hx7.block b (foot_lt h0y hb)
            have kf7 : ∀ b, Foot w0.heap.size w4.heap.size wv A b → Foot w0.heap.size w4.heap.size w7 A b := fun b hb => foot_ext hx7.size hb
            replace hb5 := hb5.bel hx7
            replace hb8 := hb8.bel hx7
            replace hb9 := hb9.bel hx7
            replace ho := ho.bel hx7
            replace hes := hes.keep kp7 kf7
            replace hcv := hcv.keep kp7 kf7
            replace hgv := hgv.keep kp7 kf7
            replace hxy := hxy.trans hx7
            have hs47 := hx7.size
            have oc := hcv.one
            have og := hgv.one
            clear kp7 kf7 hx7 h0y
            have h0y := hxy.size
            conv => cbv
            refine st_appsKG hr sSt rfl (by omega) ho hc7 rfl (by omega) (by
              intro v hv
              simp only [List.mem_cons, List.not_mem_nil, or_false] at hv
              rcases hv with rfl | rfl | rfl | rfl | rfl <;> first | rfl | assumption) (by omega) (by omega) (by omega) fun A8 c8 m8 w8 hm8 hw8 ho8 hbk => ?_
            subst hm8
            have hgro : Gro _ A w8 A8 := ⟨hw8, hbk.imp id fun e => ⟨_, e, Nat.le_refl _⟩⟩
            have hrow := own_row ho hs04
            have apA := own_low ho r5.2 e5
            have apB := own_low ho r8.2 e8
            have apC := own_low ho r9.2 e9
            have kp8 : ∀ b, Foot w0.heap.size w4.heap.size w7 A b → w8.heap[b]? = w7.heap[b]? := fun b hb => hw8.block b (foot_lt h0y hb) (by
              intro e
              rcases hb with hb | hb
              · rcases hrow with rfl | ⟨g, e2, hg2⟩
                · simp [Eng.blk, Value.ownBlock] at e
                · rw [e2] at e; cases e; omega
              · exact hb.2.2 e.symm)
            have kf8 : ∀ b, Foot w0.heap.size w4.heap.size w7 A b → Foot w0.heap.size w4.heap.size w8 A8 b := fun b hb => by
              rcases hb with hb | ⟨h1, h2, h3⟩
              · exact .inl hb
              · refine .inr ⟨h1, Nat.lt_of_lt_of_le h2 hgro.wr.size, ?_⟩
                rcases hgro.at_ with e | ⟨g, e, hg2⟩
                · rw [e]; exact h3
                · rw [e]; intro q; cases q; omega
            conv => cbv
            simp only [ej]
            have hs8 := hw8.size
            refine ⟨(j + 1, jk, i2, ii2, le', ll', A8, c8, es ++ [⟨⟨k, nm, cc, gg⟩, ⟨co', go⟩, cv', gv, jj⟩]), by simp [Fits, lk], hI _ _ ⟨by simp only; omega, by simp only; omega, hi2, hii2, ?_, hll', hxy.then (hw8.bel (ho.mono hs04) h0y), by omega, hb5.wr hw8 apA.2, hb8.wr hw8 apB.2, hb9.wr hw8 apC.2, ?_, ?_, ?_, ?_⟩, by simp only; omega⟩
            · simp only
              split at hle' <;> omega
            · simp only
              rw [List.flatMap_append]
              exact ho8
            · simp only
              intro e he
              rcases List.mem_append.1 he with he | he
              · exact (hes.keep kp8 kf8) e he
              · simp at he
                subst he
                exact ⟨hcv.keep kp8 kf8, hgv.keep kp8 kf8⟩
            · simp only
              intro q e hq
              rcases Nat.lt_or_ge q es.length with r | r
              · rw [List.getElem?_append_left r] at hq; exact hnu q e hq
              · rw [List.getElem?_append_right r] at hq
                have : q = j := by
                  have := (List.getElem?_eq_some_iff.1 hq).1
                  simp at this; omega
                subst this
                rw [show q - es.length = 0 by omega] at hq
                simp at hq
                subst hq
                exact ⟨hjj, hg⟩
            · simp only
              rw [List.map_append]
              exact hV
  · have g : j = n2 := by
      have : ¬ jj < x4 := by simpa [hE.cmp, cmpR] using g
      omega
    subst g
    rw [List.drop_eq_nil_of_le (by omega), runS] at hV
    conv => cbv
    refine draw_q hr fol (by kernel_rfl) fun E' hE' => ?_
    conv => cbv
    (refine st_nil hE' ?_; (conv => cbv); refine st_fld hE' fWk1 fun p hp => ?_; (conv => cbv); refine st_load hE' cInt (by rw [hp]; exact (hb9).at _ _ rfl) ?_; clear hp; (conv => cbv))
    refine st_len hE' sINd fun x5 hx5 => ?_
    conv => cbv
    obtain ⟨q4, hq4⟩ : ∃ q4, q4 = E'.cmp .eql ii x5 := ⟨_, rfl⟩
    have hq5 : q4 = true ↔ i = N := by rw [hq4, hE'.cmp]; simp [cmpR]; omega
    simp only [← hq4]
    intro wv hsv
    conv => cbv
    rw [hR]
    have hx2 := hx.trans hsv.ext
    refine ⟨hx2, A, j, c, q4, rfl, ?_, fun hq => ?_⟩
    · rw [hq5]
      constructor
      · intro e
        exact ⟨by omega, by omega, by omega, _, by rw [← hV, e, hl]⟩
      · rintro ⟨_, _, _, acc, e⟩
        rw [← hV] at e
        simp at e
        omega
    · have e := hq5.1 hq
      refine ⟨es.map (·.p), by rw [← hV, e, hl], es, by omega, by omega, ho.cap, rfl, ho.cells.ext hsv.ext, hnu, hes.keep (fun b hb => hsv.ext.block b (foot_lt h0s hb)) fun b hb => ?_⟩
      exact foot_lt hx2.size (foot_ext hsv.ext.size hb)
end Go.Proofs.YtmbonalhbibppaaDoor
/- The check of a policy's statements in plain words; the reference's l3tree walked. -/
namespace Go.Proofs.YtmbonalhbibppaaDoor
open Go.Eng
set_option linter.unusedVariables false
set_option linter.unusedSimpArgs false
/-- What is known so far: the types, the lets. -/
structure CK where
  acc : List Int
  names : List ByteArray
  tys : List Int
def ckC (s : PS) (x : CK) : Option Tr → (Int × Int) ⊕ CK
  | none => .inr x
  | some t =>
    if (walkL x.names x.tys (po t) x.acc).2 ≠ 0 then .inl ((walkL x.names x.tys (po t) x.acc).2, ((walkL x.names x.tys (po t) x.acc).1.length : Int))
    else if s.k = 1 then (if (resN x.names s.nm).isSome = true then .inl (8, ((walkL x.names x.tys (po t) x.acc).1.length : Int) - 1) else .inr ⟨(walkL x.names x.tys (po t) x.acc).1, x.names ++ [s.nm], x.tys ++ [(tyT x.names x.tys t).1]⟩)
    else if (tyT x.names x.tys t).1 ≠ 1 then .inl (9, ((walkL x.names x.tys (po t) x.acc).1.length : Int) - 1) else .inr ⟨(walkL x.names x.tys (po t) x.acc).1, x.names, x.tys⟩
def ckG (x : CK) : Option Tr → (Int × Int) ⊕ CK
  | none => .inr x
  | some t =>
    if (walkL x.names x.tys (po t) x.acc).2 ≠ 0 then .inl ((walkL x.names x.tys (po t) x.acc).2, ((walkL x.names x.tys (po t) x.acc).1.length : Int))
    else if (tyT x.names x.tys t).1 ≠ 4 then .inl (9, ((walkL x.names x.tys (po t) x.acc).1.length : Int) - 1) else .inr ⟨(walkL x.names x.tys (po t) x.acc).1, x.names, x.tys⟩
def ckS : List (PS × PT) → CK → (Int × Int) ⊕ CK
  | [], x => .inr x
  | q :: l, x => match ckC q.1 x q.2.c with
    | .inl f => .inl f
    | .inr y => match ckG y q.2.g with
      | .inl f => .inl f
      | .inr z => ckS l z
theorem walkL_len (names : List ByteArray) (tys : List Int) : ∀ (l : List Tr) (acc : List Int), acc.length ≤ (walkL names tys l acc).1.length ∧ (walkL names tys l acc).1.length ≤ acc.length + l.length ∧ ((walkL names tys l acc).2 = 0 → (walkL names tys l acc).1.length = acc.length + l.length) ∧ ((walkL names tys l acc).2 ≠ 0 → (walkL names tys l acc).1.length < acc.length + l.length)
  | [], acc => by simp [walkL]
  | u :: l, acc => by
    rw [walkL]
    split
    · rename_i h; simp only [List.length_cons]; exact ⟨by omega, by omega, fun q => absurd q h, fun _ => by omega⟩
    · obtain ⟨h1, h2, h3, h4⟩ := walkL_len names tys l (acc ++ [(tyT names tys u).1])
      rw [List.length_append, List.length_singleton] at h1 h2 h3 h4
      simp only [List.length_cons]
      exact ⟨by omega, by omega, fun q => by have := h3 q; omega, fun q => by have := h4 q; omega⟩
theorem po_last : ∀ t : Tr, ∃ l, po t = l ++ [t]
  | .con .. => ⟨[], rfl⟩
  | .nam .. => ⟨[], rfl⟩
  | .att .. => ⟨[], rfl⟩
  | .lt .. => ⟨[], rfl⟩
  | .op o kids at_ => ⟨pos kids, by rw [po]⟩
/-- The last type that is written down is the tree's. -/
theorem walkL_last {names : List ByteArray} {tys : List Int} {t : Tr} {acc : List Int} (h : (walkL names tys (po t) acc).2 = 0) : (tyT names tys t).2 = 0 ∧ (walkL names tys (po t) acc).1[(walkL names tys (po t) acc).1.length - 1]? = some (tyT names tys t).1 := by
  obtain ⟨l, hl⟩ := po_last t
  rw [hl] at h ⊢
  rw [walkL_append] at h ⊢
  split at h
  · rename_i q; exact absurd h q
  · rename_i q
    rw [if_neg q]
    rw [walkL] at h ⊢
    split at h
    · rename_i q2; exact absurd h q2
    · rename_i q2
      rw [if_neg q2, walkL]
      exact ⟨Classical.byContradiction q2, by simp⟩
theorem tFt : Stc Tryd.prog 61 2 [.int .i64 0, .int .i64 0] := ⟨by kernel_rfl, by kernel_rfl⟩
theorem fFt0 : Fld Tryd.prog 61 0 0 := ⟨by kernel_rfl⟩
theorem fFt1 : Fld Tryd.prog 61 1 1 := ⟨by kernel_rfl⟩
section
variable {E : Sym} {w : World} {K : Value → World → Prop} {d : Option Tmp} {ty : TypeId} {pos : String} {aft : Array Edge} {g : Option (Nat × Bool)} {bq : Bool}
theorem run_bFt (c a : Int) (w : World) : (Instr.build 61 #[(0, .int .i64 c), (1, .int .i64 a)]).run Tryd.prog w = .ok (.agg #[.int .i64 c, .int .i64 a]) w := by kernel_rfl
theorem st_bFt (hE : EngB bq Tryd.prog E) {c a : Int} {x y : Operand} (hk : K (.agg ⟨[.int .i64 c, .int .i64 a]⟩) w) : E.stop ⟨d, .build 61 ⟨[(0, x), (1, y)]⟩, ty, pos, aft, g⟩ [.int .i64 c, .int .i64 a] w K := by
  refine hE.det (v := .agg ⟨[.int .i64 c, .int .i64 a]⟩) (fun w1 _ ρ hρ => ?_) hk
  simp only [opnds, List.map_cons, List.map_nil, List.cons.injEq, and_true] at hρ
  have := run_bFt c a w1
  simp [execOp, hρ, this]
theorem run_bFt0 (w : World) : (Instr.build 61 #[]).run Tryd.prog w = .ok (.agg #[.int .i64 0, .int .i64 0]) w := by kernel_rfl
theorem st_bFt0 (hE : EngB bq Tryd.prog E) (hk : K (.agg ⟨[.int .i64 0, .int .i64 0]⟩) w) : E.stop ⟨d, .build 61 ⟨[]⟩, ty, pos, aft, g⟩ [] w K := by
  refine hE.det (v := .agg ⟨[.int .i64 0, .int .i64 0]⟩) (fun w1 _ ρ hρ => ?_) hk
  have := run_bFt0 w1
  simp [execOp, this]
end
set_option maxHeartbeats 8000000 in
theorem l3tree_g {w0 : World} {AN : Option Addr} {N cN' : Nat} {nv : List PN} (hN : RNs w0 AN N nv) (hNb : N ≤ 4000) (hz : ∀ p ∈ nv, p.o = 7 → 0 ≤ p.z) {names : List ByteArray} {tys : List Int} {a k : Nat} {t : Tr} (ht : IsTs nv a (k + 1) [(k : Int)] [t])
    {w : World} (hx : Ext w0 w) {A : Option Addr} {c : Nat} {acc : List Int} (ha : acc.length = a) (ho : Own w0.heap.size 3 1 w A a c (acc.map (.int .i64))) {pl : Addr} (hL : ∀ A' w', Gro w A w' A' → LetsR w' pl names tys) {az ka : Int} (haz : az = (a : Int)) (hka : ka = (k : Int)) :
    GC Tryd.prog 98 [.slice AN N cN', .int .i64 az, .int .i64 ka, .pointer (some pl), .slice A a c] w fun v w' => ∃ (A' : Option Addr) (c' : Nat) (at_ : Int), v = .tuple ⟨[.slice A' (walkL names tys (po t) acc).1.length c', .agg ⟨[.int .i64 (walkL names tys (po t) acc).2, .int .i64 at_]⟩]⟩ ∧ Gro w A w' A' ∧
      Own w0.heap.size 3 1 w' A' (walkL names tys (po t) acc).1.length c' ((walkL names tys (po t) acc).1.map (.int .i64)) ∧ ((walkL names tys (po t) acc).2 ≠ 0 → at_ = ((walkL names tys (po t) acc).1.length : Int)) := by
  refine GC.intro (cs := []) Tryd.func98 (by kernel_rfl) fun E R hE hr hR => ?_
  have hNl := hN.len
  obtain ⟨_, _, _, hkn, _, hpk, _⟩ := ht.one
  have hkn : k = _ := Int.ofNat.inj hkn
  subst hkn
  have hkl := (List.getElem?_eq_some_iff.1 hpk).1
  have hak := (ht.roots k (by simp)).1
  obtain ⟨hpl, hpt⟩ := ht.pos
  rw [show Proofs.YtmbonalhbibppaaDoor.pos [t] = po t by simp [Proofs.YtmbonalhbibppaaDoor.pos]] at hpl hpt
  obtain ⟨V, hV0⟩ : ∃ V, V = walkL names tys (po t) acc := ⟨_, rfl⟩
  rw [← hV0] at hR
  have hwb := hx.size
  conv => cbv
  refine st_alloc hr tFt rfl fun q11 w1 hx1 hq0 => ?_
  have hq11 := hq0 _ (Nat.le_refl _)
  have ap := ho.apart (hq0 _ (Nat.le_refl _)) (Nat.le_refl _)
  clear hq0
  conv => cbv
  refine loop_rulec [] hr (fun (s : Nat × Int × Option Addr × Nat × List Int) w' => a ≤ s.1 ∧ s.1 ≤ k + 1 ∧ s.2.1 = (s.1 : Int) ∧ Gro w A w' s.2.2.1 ∧ Ext w0 w' ∧ w1.heap.size ≤ w'.heap.size ∧ Own w0.heap.size 3 1 w' s.2.2.1 s.1 s.2.2.2.1 (s.2.2.2.2.map (.int .i64)) ∧ Box w.heap.size 61 2 w' q11 [.int .i64 0, .int .i64 0] ∧ (Apart s.2.2.1 (some q11) ∧ Apart (some q11) s.2.2.1) ∧ walkL names tys ((po t).drop (s.1 - a)) s.2.2.2.2 = V)
    (fun s => [(0, .slice AN N cN'), (2, .int .i64 ka), (3, .pointer (some pl)), (4, .slice s.2.2.1 s.1 s.2.2.2.1), (11, .pointer (some q11)), (12, .int .i64 s.2.1)]) (fun s => k + 1 - s.1) (a, az, A, c, acc)
    (by simp [Fits, lk]) ⟨by simp, by simp only; omega, haz, ⟨hx1.wr _, .inl rfl⟩, hx.trans hx1, Nat.le_refl _, ho.bel hx1, hq11, ap, by simp only; rw [Nat.sub_self, List.drop_zero, hV0]⟩ ?_
  clear hV0 hq11 ap
  rintro I hI ⟨j, jj, A', c', acc'⟩ w' ⟨hj1, hj2, hjj, hG, hx', hs1, ho', hq11, hap, hV⟩
  simp only at hj1 hj2 hjj hG ho' hap hV
  obtain ⟨jk, hjk⟩ : ∃ z, z = jj + 1 := ⟨_, rfl⟩
  have hol := ho'.len
  rw [List.length_map, Nat.mul_one] at hol
  have hwb' := hx'.size
  conv => cbv
  refine br (fun g => ?_) (fun g => ?_)
  · have g : j ≤ k := by
      have : jj ≤ ka := by simpa [hE.cmp, cmpR] using g
      omega
    have ej : E.ar .add .i64 jj 1 = jk := by rw [hE.ar, hjk]; exact wrap_in (by omega) (by omega)
    obtain ⟨u, a', hu, hu2⟩ := hpt (j - a) (by omega)
    rw [show a + (j - a) = j by omega] at hu2
    rw [drop_cons hu, walkL] at hV
    obtain ⟨ty, hty⟩ : ∃ ty, ty = (tyT names tys u).1 := ⟨_, rfl⟩
    obtain ⟨co, hco⟩ : ∃ co, co = (tyT names tys u).2 := ⟨_, rfl⟩
    have hi := l3node_f (cN' := cN') hN hNb hz j a' _ u hu2 w' pl hx' (hL _ _ hG)
    rw [← hty, ← hco] at hV hi
    rw [← hjj] at hi
    conv => cbv
    refine st_f hr hi fun v w5 hx5 ev => ?_
    subst ev
    conv => cbv
    refine br (fun g5 => ?_) (fun g5 => ?_)
    · have g5 : co ≠ 0 := by simpa [hE.cmp, cmpR] using g5
      rw [if_pos g5] at hV
      conv => cbv
      refine st_bFt hE ?_
      conv => cbv
      refine st_putS hr (by kernel_rfl) (hq11.bel hx5) (add_zero _).symm (by simp) (by simp [Value.oneCell']) fun w6 hw6 hq6 => ?_
      simp only [List.take_zero, List.nil_append, List.length_cons, List.length_nil, List.drop_succ_cons, List.drop_nil, List.append_nil] at hq6
      conv => cbv
      refine st_cell hr tFt rfl hq6.at ?_
      rw [hR, ← hV]
      refine ⟨A', c', jj, by simp only; rw [hol]; rfl, ?_, ?_, fun _ => by simp only; omega⟩
      · have hG5 := hG.trans ⟨hx5.wr _, .inl rfl⟩
        refine ⟨?_, hG5.at_⟩
        exact wr_new hG5.wr hw6 (hq11.bel hx5)
      · simp only
        rw [hol]
        exact (ho'.bel hx5).wr hw6 hap.1
    · have g5 : co = 0 := by simpa [hE.cmp, cmpR] using g5
      rw [if_neg (by simpa using g5)] at hV
      conv => cbv
      refine st_one hr tInts rfl rfl fun A1' w6 hx6 hc6 => ?_
      conv => cbv
      refine st_appsG hr tInts rfl ((ho'.bel hx5).bel hx6) hc6 rfl (by simp [Value.oneCell']) (Nat.le_trans hwb' (Nat.le_trans hx5.size hx6.size)) (by omega) (by omega) fun A2 c2 m2 w7 hm2 hw7 ho2 hk2 => ?_
      subst hm2
      have h7 := hw7.bel ((ho'.bel hx5).bel hx6) (Nat.le_trans hwb' (Nat.le_trans hx5.size hx6.size))
      have hg2 : Gro w' A' w7 A2 := Gro.app (hx5.trans hx6) hw7 hk2
      conv => cbv
      simp only [ej]
      refine ⟨(j + 1, jk, A2, c2, acc' ++ [ty]), by simp [Fits, lk], hI _ _ ⟨by simp only; omega, by simp only; omega, by simp only; omega, hG.trans hg2, (hx'.trans (hx5.trans hx6)).then h7, Nat.le_trans hs1 (Nat.le_trans hx5.size (Nat.le_trans hx6.size hw7.size)), ?_, ((hq11.bel hx5).bel hx6).wr hw7 hap.2, hg2.apart hq11 hap, ?_⟩, by simp only; omega⟩
      · simp only; rw [List.map_append]; exact ho2
      · simp only; rw [show j + 1 - a = j - a + 1 by omega]; exact hV
  · have g : j = k + 1 := by
      have : ¬ jj ≤ ka := by simpa [hE.cmp, cmpR] using g
      omega
    rw [List.drop_eq_nil_of_le (by omega), walkL] at hV
    conv => cbv
    refine st_bFt0 hE ?_
    conv => cbv
    refine st_putS hr (by kernel_rfl) hq11 (add_zero _).symm (by simp) (by simp [Value.oneCell']) fun w6 hw6 hq6 => ?_
    simp only [List.take_zero, List.nil_append, List.length_cons, List.length_nil, List.drop_succ_cons, List.drop_nil, List.append_nil] at hq6
    conv => cbv
    refine st_cell hr tFt rfl hq6.at ?_
    rw [hR, ← hV]
    refine ⟨A', c', 0, by simp only; rw [hol]; rfl, ⟨?_, hG.at_⟩, ?_, fun q => absurd rfl q⟩
    · exact wr_new hG.wr hw6 hq11
    · simp only
      rw [hol]
      exact ho'.wr hw6 hap.1
end Go.Proofs.YtmbonalhbibppaaDoor
/- What the reference's l3check holds in memory. -/
namespace Go.Proofs.YtmbonalhbibppaaDoor
open Go.Eng
set_option linter.unusedVariables false
set_option linter.unusedSimpArgs false
theorem own_raise {B B' : Nat} {e : TypeId} {k : Nat} {w : World} {A : Option Addr} {m c : Nat} {xs : List Value} (h : Own B e k w A m c xs) (hb : ∀ g, blk A = some g → B' ≤ g) : Own B' e k w A m c xs := by
  refine ⟨h.1, ?_⟩
  rcases h.2 with h1 | ⟨g, cap, cur, h1, h2, h3⟩
  · exact .inl h1
  · refine .inr ⟨g, cap, cur, h1, ?_, h3⟩
    simp only [Value.slice.injEq] at h1
    exact hb g (by rw [h1.1]; rfl)
/-- What a row has that has grown out of one of one's own. -/
theorem gro_own {B ws : Nat} {e : TypeId} {k : Nat} {w w' : World} {A A' : Option Addr} {m c m' c' : Nat} {xs xs' : List Value} (h : Own ws e k w A m c xs) (hg : Gro w A w' A') (h' : Own B e k w' A' m' c' xs') (hw : ws ≤ w.heap.size) : Own ws e k w' A' m' c' xs' :=
  own_raise h' fun g hgb => by
    rcases hg.at_ with e1 | ⟨b, e1, e2⟩
    · rw [e1] at hgb
      obtain rfl | ⟨g', rfl, h1, _⟩ := h.blk
      · simp [Eng.blk, Value.ownBlock] at hgb
      · simp [Eng.blk, Value.ownBlock] at hgb; omega
    · rw [e1] at hgb; cases hgb; omega
theorem gro_apart {B B' B2 : Nat} {e e' : TypeId} {k k' : Nat} {w w' : World} {A C X : Option Addr} {m c m2 c2 mx cx : Nat} {xs ys zs : List Value} (hX : Own B' e' k' w X mx cx zs) (ha : Apart A X ∧ Apart X A) (hg : Gro w A w' C) (hC : Own B2 e k w' C m2 c2 ys) : Apart C X ∧ Apart X C := by
  obtain rfl | ⟨gc, rfl, _, _⟩ := hC.blk
  · refine ⟨.inl rfl, ?_⟩
    obtain rfl | ⟨gx, rfl, _, _⟩ := hX.blk
    · exact .inl rfl
    · exact .inr (by simp [Eng.blk, Value.ownBlock])
  · obtain rfl | ⟨gx, rfl, _, hx2⟩ := hX.blk
    · exact ⟨.inr (by simp [Eng.blk, Value.ownBlock]), .inl rfl⟩
    · have : gc ≠ gx := by
        rcases hg.at_ with e1 | ⟨b, e1, e2⟩
        · rcases ha.2 with h | h
          · cases h
          · rw [← e1] at h
            intro q; apply h; rw [q]
        · simp [Eng.blk, Value.ownBlock] at e1; omega
      exact ⟨.inr (by simp [Eng.blk, Value.ownBlock]; exact this), .inr (by simp [Eng.blk, Value.ownBlock]; exact Ne.symm this)⟩
theorem own_blk {B : Nat} {e : TypeId} {k : Nat} {w : World} {A : Option Addr} {m c : Nat} {xs : List Value} (h : Own B e k w A m c xs) : ∀ g, blk A = some g → B ≤ g ∧ g < w.heap.size := fun g hg => by
  obtain rfl | ⟨g', rfl, h1, h2⟩ := h.blk
  · simp [Eng.blk, Value.ownBlock] at hg
  · simp [Eng.blk, Value.ownBlock] at hg; omega
/-- The three boxes. -/
structure LB (w0s ws : Nat) (pl q9 q6 : Addr) : Prop where
  p : w0s ≤ pl.block ∧ pl.block < ws
  f : w0s ≤ q9.block ∧ q9.block < ws
  r : w0s ≤ q6.block ∧ q6.block < ws
  ep : blk (some pl) = some pl.block
  ef : blk (some q9) = some q9.block
  er : blk (some q6) = some q6.block
  pf : pl.block ≠ q9.block
  pr : pl.block ≠ q6.block
  fr : q9.block ≠ q6.block
structure LC (w0s ws : Nat) (w : World) (pl q9 q6 : Addr) (bx fx : List Value) (x : CK) (A NA TA : Option Addr) (c nc tc : Nat) : Prop where
  box : Box w0s 172 2 w pl bx
  flt : Box w0s 61 2 w q9 fx
  res : Box w0s 61 2 w q6 [.int .i64 0, .int .i64 0]
  rA : Own ws 3 1 w A x.acc.length c (x.acc.map (.int .i64))
  rN : Own ws 9 1 w NA x.names.length nc (x.names.map .string)
  rT : Own ws 3 1 w TA x.tys.length tc (x.tys.map (.int .i64))
  aAN : Apart A NA ∧ Apart NA A
  aAT : Apart A TA ∧ Apart TA A
  aNT : Apart NA TA ∧ Apart TA NA
section
variable {w0s ws : Nat} {w w' : World} {pl q9 q6 : Addr} {bx fx : List Value} {x : CK} {A NA TA : Option Addr} {c nc tc : Nat}
theorem LC.ext (h : LC w0s ws w pl q9 q6 bx fx x A NA TA c nc tc) (hx : Ext w w') : LC w0s ws w' pl q9 q6 bx fx x A NA TA c nc tc :=
  ⟨h.box.bel hx, h.flt.bel hx, h.res.bel hx, h.rA.bel hx, h.rN.bel hx, h.rT.bel hx, h.aAN, h.aAT, h.aNT⟩
theorem LC.growA (hb : LB w0s ws pl q9 q6) (h : LC w0s ws w pl q9 q6 bx fx x A NA TA c nc tc) (hs : ws ≤ w.heap.size) {A' : Option Addr} {c' : Nat} {acc' : List Int} (hg : Gro w A w' A') (ho : Own w0s 3 1 w' A' acc'.length c' (acc'.map (.int .i64))) :
    LC w0s ws w' pl q9 q6 bx fx { x with acc := acc' } A' NA TA c' nc tc :=
  ⟨h.box.wr hg.wr (own_low h.rA hb.p.2 hb.ep).2, h.flt.wr hg.wr (own_low h.rA hb.f.2 hb.ef).2, h.res.wr hg.wr (own_low h.rA hb.r.2 hb.er).2, gro_own h.rA hg ho hs, h.rN.wr hg.wr h.aAN.2, h.rT.wr hg.wr h.aAT.2, gro_apart (B := w0s) (m := 0) (c := 0) (xs := []) h.rN h.aAN hg ho, gro_apart (B := w0s) (m := 0) (c := 0) (xs := []) h.rT h.aAT hg ho, h.aNT⟩
theorem LC.growN (hb : LB w0s ws pl q9 q6) (h : LC w0s ws w pl q9 q6 bx fx x A NA TA c nc tc) (hs : ws ≤ w.heap.size) {N' : Option Addr} {c' : Nat} {names' : List ByteArray} (hg : Gro w NA w' N') (ho : Own w0s 9 1 w' N' names'.length c' (names'.map .string)) :
    LC w0s ws w' pl q9 q6 bx fx { x with names := names' } A N' TA c c' tc :=
  ⟨h.box.wr hg.wr (own_low h.rN hb.p.2 hb.ep).2, h.flt.wr hg.wr (own_low h.rN hb.f.2 hb.ef).2, h.res.wr hg.wr (own_low h.rN hb.r.2 hb.er).2, h.rA.wr hg.wr h.aAN.1, gro_own h.rN hg ho hs, h.rT.wr hg.wr h.aNT.2, (gro_apart (B := w0s) (m := 0) (c := 0) (xs := []) h.rA h.aAN.symm hg ho).symm, h.aAT, gro_apart (B := w0s) (m := 0) (c := 0) (xs := []) h.rT h.aNT hg ho⟩
theorem LC.growT (hb : LB w0s ws pl q9 q6) (h : LC w0s ws w pl q9 q6 bx fx x A NA TA c nc tc) (hs : ws ≤ w.heap.size) {T' : Option Addr} {c' : Nat} {tys' : List Int} (hg : Gro w TA w' T') (ho : Own w0s 3 1 w' T' tys'.length c' (tys'.map (.int .i64))) :
    LC w0s ws w' pl q9 q6 bx fx { x with tys := tys' } A NA T' c nc c' :=
  ⟨h.box.wr hg.wr (own_low h.rT hb.p.2 hb.ep).2, h.flt.wr hg.wr (own_low h.rT hb.f.2 hb.ef).2, h.res.wr hg.wr (own_low h.rT hb.r.2 hb.er).2, h.rA.wr hg.wr h.aAT.1, h.rN.wr hg.wr h.aNT.1, gro_own h.rT hg ho hs, h.aAN, (gro_apart (B := w0s) (m := 0) (c := 0) (xs := []) h.rA h.aAT.symm hg ho).symm, (gro_apart (B := w0s) (m := 0) (c := 0) (xs := []) h.rN h.aNT.symm hg ho).symm⟩
theorem LC.putB (hb : LB w0s ws pl q9 q6) (h : LC w0s ws w pl q9 q6 bx fx x A NA TA c nc tc) {bx' : List Value} (hw : Wr (some pl) w w') (ho : Box w0s 172 2 w' pl bx') : LC w0s ws w' pl q9 q6 bx' fx x A NA TA c nc tc :=
  ⟨ho, h.flt.wr hw (bx_apart hb.ef hb.ep hb.pf.symm), h.res.wr hw (bx_apart hb.er hb.ep hb.pr.symm), h.rA.wr hw (own_low h.rA hb.p.2 hb.ep).1, h.rN.wr hw (own_low h.rN hb.p.2 hb.ep).1, h.rT.wr hw (own_low h.rT hb.p.2 hb.ep).1, h.aAN, h.aAT, h.aNT⟩
theorem LC.putF (hb : LB w0s ws pl q9 q6) (h : LC w0s ws w pl q9 q6 bx fx x A NA TA c nc tc) {fx' : List Value} (hw : Wr (some q9) w w') (ho : Box w0s 61 2 w' q9 fx') : LC w0s ws w' pl q9 q6 bx fx' x A NA TA c nc tc :=
  ⟨h.box.wr hw (bx_apart hb.ep hb.ef hb.pf), ho, h.res.wr hw (bx_apart hb.er hb.ef hb.fr.symm), h.rA.wr hw (own_low h.rA hb.f.2 hb.ef).1, h.rN.wr hw (own_low h.rN hb.f.2 hb.ef).1, h.rT.wr hw (own_low h.rT hb.f.2 hb.ef).1, h.aAN, h.aAT, h.aNT⟩
/-- What holds of the lets. -/
structure XK (x : CK) : Prop where
  eq : x.names.length = x.tys.length
  le : x.tys.length ≤ 600
  nz : ∀ y ∈ x.tys, y ≠ 0
  ss : ∀ s ∈ x.names, s.size ≤ 9223372036854775807
theorem LC.lets (h : LC w0s ws w pl q9 q6 bx fx x A NA TA c nc tc) (hX : XK x) (hbx : bx = [.slice NA x.names.length nc, .slice TA x.tys.length tc]) : LetsR w pl x.names x.tys :=
  ⟨⟨NA, x.names.length, nc, TA, x.tys.length, tc, h.box.at 0 _ (by rw [hbx]; rfl), h.box.at 1 _ (by rw [hbx]; rfl), Own.strs h.rN hX.ss, Own.ints h.rT⟩, hX.eq, hX.le, hX.nz⟩
theorem LC.letsG (hb : LB w0s ws pl q9 q6) (h : LC w0s ws w pl q9 q6 bx fx x A NA TA c nc tc) (hX : XK x) (hbx : bx = [.slice NA x.names.length nc, .slice TA x.tys.length tc]) : ∀ A' w', Gro w A w' A' → LetsR w' pl x.names x.tys := fun A' w' hg => by
  have h1 := h.box.wr hg.wr (own_low h.rA hb.p.2 hb.ep).2
  exact ⟨⟨NA, x.names.length, nc, TA, x.tys.length, tc, h1.at 0 _ (by rw [hbx]; rfl), h1.at 1 _ (by rw [hbx]; rfl), Own.strs (h.rN.wr hg.wr h.aAN.2) hX.ss, Own.ints (h.rT.wr hg.wr h.aAT.2)⟩, hX.eq, hX.le, hX.nz⟩
end
end Go.Proofs.YtmbonalhbibppaaDoor
/- A region that draws its order, as in draw_t; what is only moved need not be waited for. No condition. -/
namespace Go.Eng
set_option linter.unusedVariables false
set_option linter.unusedSimpArgs false
def wpAnyU (P : Program) (md : Region.Mode) (ops : Array Oper) (Q : Exit → Act → World → Prop) (S : World → Prop) (l : List Nat) : Nat → Array Bool → Act → World → Prop
  | 0, listed, a, w => Region.ready md ops listed = [] ∧ Q .normal a w
  | fuel + 1, listed, a, w => (Region.ready md ops listed = [] → Q .normal a w) ∧
    ∀ i ∈ Region.ready md ops listed, wpOp P ops Q i (fun a' w' => (needS md ops l i = true → S w → S w') ∧ wpAnyU P md ops Q S l fuel (listed.setIfInBounds i true) a' w') a w
section
variable {P : Program} {ops : Array Oper} {Q : Exit → Act → World → Prop} {md : Region.Mode} {S : World → Prop} {l : List Nat}
theorem wpAny_of_U : ∀ (fuel : Nat) (listed : Array Bool) (a : Act) (w : World), wpAnyU P md ops Q S l fuel listed a w → wpAny P md ops Q fuel listed a w
  | 0, _, _, _, h => h
  | fuel + 1, _, _, _, h => ⟨h.1, fun i hi => wpOp_mono (fun a' w' h' => wpAny_of_U fuel _ a' w' h'.2) (h.2 i hi)⟩
theorem wpAnyU_first {i : Nat} {oi : Oper} {v : Value} (hi : ops[i]? = some oi) (hil : i ∈ l) (hsel : ∀ (j : Nat) (o : Oper) cs b, ops[j]? = some o → o.op ≠ .select cs b)
    (hQ : ∀ c a w, Q (.panic c) (a.put oi.dst v) w → Q (.panic c) a w) : ∀ (fuel : Nat) (listed : Array Bool) (a : Act) (w : World),
      (∀ j oj, ops[j]? = some oj → j ≠ i → listed.getD j true = false → (∀ e ∈ oj.after, Region.binds md e = true → e.on ≠ i) → oi.apart ops oj = true) →
      i ∈ Region.ready md ops listed → Closed md ops listed → YieldsIf P ops S oi v a → S w →
      wpAnyU P md ops Q S l fuel (listed.setIfInBounds i true) (a.put oi.dst v) w → wpAnyU P md ops Q S l (fuel + 1) listed a w := by
  intro fuel
  induction fuel with
  | zero =>
    intro listed a w _ hr hcl hy hS H
    refine ⟨fun h => (by rw [h] at hr; cases hr), fun j hj => ?_⟩
    by_cases hji : j = i
    · subst hji; exact hy.wpOp hi hS ⟨fun _ _ => hS, H⟩
    · have h0 := ready_mono hj hji
      rw [H.1] at h0
      cases h0
  | succ fuel ih =>
    intro listed a w hfree hr hcl hy hS H
    refine ⟨fun h => (by rw [h] at hr; cases hr), fun j hj => ?_⟩
    by_cases hji : j = i
    · subst hji; exact hy.wpOp hi hS ⟨fun _ _ => hS, H⟩
    · have h1 := H.2 j (ready_mono hj hji)
      obtain ⟨hjun, oj, hoj, hall⟩ := mem_ready.1 hj
      have hnot : ∀ e ∈ oj.after, Region.binds md e = true → e.on ≠ i := fun e he hb heq => by
        have a1 := hall e he hb
        have a0 := (mem_ready.1 hr).1
        rw [heq] at a1
        rcases Nat.lt_or_ge i listed.size with h' | h'
        · simp [h'] at a0 a1; rw [a0] at a1; cases a1
        · simp [Array.getElem?_eq_none h'] at a1
      have hneed : needS md ops l j = true := by
        unfold needS
        rw [List.any_eq_true]
        refine ⟨i, hil, ?_⟩
        rw [Bool.not_eq_true']
        refine Bool.eq_false_iff.2 fun hre => ?_
        have hi1 := reach_listed hcl (i := i) ops.size j (fun o ho => by rw [hoj] at ho; cases ho; exact hall) hre
        have hi0 := (mem_ready.1 hr).1
        rcases Nat.lt_or_ge i listed.size with h' | h'
        · simp [h'] at hi0 hi1; rw [hi0] at hi1; cases hi1
        · simp [Array.getElem?_eq_none h'] at hi1
      have hcl' : Closed md ops (listed.setIfInBounds j true) := fun k o ho hk e he hb => by
        have key : listed.getD e.on false = true := by
          by_cases hkj : j = k
          · subst hkj; rw [hoj] at ho; cases ho; exact hall e he hb
          · rw [getD_set_ne false hkj] at hk; exact hcl k o ho hk e he hb
        by_cases hje : j = e.on
        · subst hje
          rcases Nat.lt_or_ge e.on listed.size with h' | h'
          · simp [h']
          · simp [Array.getElem?_eq_none h'] at key
        · rw [getD_set_ne false hje]; exact key
      have h2 := wpOp_putIf hoj (hfree j oj hoj hji hjun hnot) (fun cs b => hsel i oi cs b hi) (fun cs b => hsel j oj cs b hoj) hQ hy h1
      have hfree' : ∀ k ok, ops[k]? = some ok → k ≠ i → (listed.setIfInBounds j true).getD k true = false →
          (∀ e ∈ ok.after, Region.binds md e = true → e.on ≠ i) → oi.apart ops ok = true := fun k ok hk hki hun hno => by
        refine hfree k ok hk hki ?_ hno
        by_cases hjk : j = k
        · subst hjk; exact hjun
        · rw [getD_set_ne true hjk] at hun; exact hun
      refine wpOp_mono (fun a' w' h3 => ⟨fun _ => h3.2.1 hneed, ih (listed.setIfInBounds j true) a' w' hfree' (ready_mono hr (Ne.symm hji)) hcl' h3.1 (h3.2.1 hneed hS) ?_⟩) h2
      rw [Array.setIfInBounds_comm _ _ hji]
      exact h3.2.2
theorem wpAnyU_take {i : Nat} {oi : Oper} {v : Value} {fuel : Nat} {listed : Array Bool} {a : Act} {w : World} (hi : ops[i]? = some oi) (hil : i ∈ l)
    (hs : Region.noSelect ops = true) (hf : Region.free md ops listed i = true) (hr : (Region.ready md ops listed).contains i = true) (hcl : Closed md ops listed)
    (hQ : ∀ c a w, Q (.panic c) (a.put oi.dst v) w → Q (.panic c) a w) (hy : YieldsIf P ops S oi v a) (hS : S w)
    (h : wpAnyU P md ops Q S l fuel (listed.setIfInBounds i true) (a.put oi.dst v) w) : wpAnyU P md ops Q S l (fuel + 1) listed a w :=
  wpAnyU_first hi hil (Region.noSelect_spec hs) hQ fuel listed a w (Region.free_spec hi hf) (by simpa using hr) hcl hy hS h
theorem wpAnyU_firstP {i : Nat} {oi : Oper} {v : Value} (hi : ops[i]? = some oi) (hsel : ∀ (j : Nat) (o : Oper) cs b, ops[j]? = some o → o.op ≠ .select cs b)
    (hQ : ∀ c a w, Q (.panic c) (a.put oi.dst v) w → Q (.panic c) a w) : ∀ (fuel : Nat) (listed : Array Bool) (a : Act) (w : World),
      (∀ j oj, ops[j]? = some oj → j ≠ i → listed.getD j true = false → (∀ e ∈ oj.after, Region.binds md e = true → e.on ≠ i) → oi.apart ops oj = true) →
      i ∈ Region.ready md ops listed → YieldsIf P ops (fun _ => True) oi v a →
      wpAnyU P md ops Q S l fuel (listed.setIfInBounds i true) (a.put oi.dst v) w → wpAnyU P md ops Q S l (fuel + 1) listed a w := by
  intro fuel
  induction fuel with
  | zero =>
    intro listed a w _ hr hy H
    refine ⟨fun h => (by rw [h] at hr; cases hr), fun j hj => ?_⟩
    by_cases hji : j = i
    · subst hji; exact hy.wpOp hi trivial ⟨fun _ h => h, H⟩
    · have h0 := ready_mono hj hji
      rw [H.1] at h0
      cases h0
  | succ fuel ih =>
    intro listed a w hfree hr hy H
    refine ⟨fun h => (by rw [h] at hr; cases hr), fun j hj => ?_⟩
    by_cases hji : j = i
    · subst hji; exact hy.wpOp hi trivial ⟨fun _ h => h, H⟩
    · have h1 := H.2 j (ready_mono hj hji)
      obtain ⟨hjun, oj, hoj, hall⟩ := mem_ready.1 hj
      have hnot : ∀ e ∈ oj.after, Region.binds md e = true → e.on ≠ i := fun e he hb heq => by
        have a1 := hall e he hb
        have a0 := (mem_ready.1 hr).1
        rw [heq] at a1
        rcases Nat.lt_or_ge i listed.size with h' | h'
        · simp [h'] at a0 a1; rw [a0] at a1; cases a1
        · simp [Array.getElem?_eq_none h'] at a1
      have h2 := wpOp_putIf hoj (hfree j oj hoj hji hjun hnot) (fun cs b => hsel i oi cs b hi) (fun cs b => hsel j oj cs b hoj) hQ hy h1
      have hfree' : ∀ k ok, ops[k]? = some ok → k ≠ i → (listed.setIfInBounds j true).getD k true = false →
          (∀ e ∈ ok.after, Region.binds md e = true → e.on ≠ i) → oi.apart ops ok = true := fun k ok hk hki hun hno => by
        refine hfree k ok hk hki ?_ hno
        by_cases hjk : j = k
        · subst hjk; exact hjun
        · rw [getD_set_ne true hjk] at hun; exact hun
      refine wpOp_mono (fun a' w' h3 => ⟨h3.2.1, ih (listed.setIfInBounds j true) a' w' hfree' (ready_mono hr (Ne.symm hji)) h3.1 ?_⟩) h2
      rw [Array.setIfInBounds_comm _ _ hji]
      exact h3.2.2
theorem wpAnyU_takeP {i : Nat} {oi : Oper} {v : Value} {fuel : Nat} {listed : Array Bool} {a : Act} {w : World} (hi : ops[i]? = some oi)
    (hs : Region.noSelect ops = true) (hf : Region.free md ops listed i = true) (hr : (Region.ready md ops listed).contains i = true)
    (hQ : ∀ c a w, Q (.panic c) (a.put oi.dst v) w → Q (.panic c) a w) (hy : YieldsIf P ops (fun _ => True) oi v a)
    (h : wpAnyU P md ops Q S l fuel (listed.setIfInBounds i true) (a.put oi.dst v) w) : wpAnyU P md ops Q S l (fuel + 1) listed a w :=
  wpAnyU_firstP hi (Region.noSelect_spec hs) hQ fuel listed a w (Region.free_spec hi hf) (by simpa using hr) hy h
theorem eOp_calm {E E' : Sym} {o : Oper} {x : Operand} (ho : o.op = .move x) {F : Fr} {w : World} {K : Value → World → Prop} (h : eOp E o F w K) : eOp E' o F w K := by
  unfold eOp at h ⊢
  rw [ho] at h ⊢
  simp only [pure1] at h ⊢
  cases hx : ev F x with
  | some v => rw [hx] at h; exact h
  | none => rw [hx] at h; simp [opnds, evs, hx] at h
theorem eOps_calm {E E' : Sym} {all : List Oper} {o : Oper} {x : Operand} (ho : o.op = .move x) {F : Fr} {w : World} {K : Fr → World → Prop} (h : eOps E all [o] F w K) : eOps E' all [o] F w K := by
  simp only [eOps] at h ⊢
  cases hg : o.guard with
  | none => rw [hg] at h; exact eOp_calm ho h
  | some jw =>
    obtain ⟨j, want⟩ := jw
    rw [hg] at h
    simp only at h ⊢
    cases hd : dstOf all j with
    | none => rw [hd] at h; exact h
    | some s =>
      rw [hd] at h
      simp only at h ⊢
      cases hl : lk F s with
      | none => rw [hl] at h; exact h
      | some v =>
        rw [hl] at h
        cases v with
        | bool b =>
          cases b <;> cases want <;> simp only [Bool.false_eq_true, if_false, if_true] at h ⊢ <;> first | exact h | exact eOp_calm ho h
        | _ => exact h
theorem wpAnyU_done {listed : Array Bool} {a : Act} {w : World} (hr : Region.ready md ops listed = []) (h : Q .normal a w) : ∀ fuel, wpAnyU P md ops Q S l fuel listed a w
  | 0 => ⟨hr, h⟩
  | _ + 1 => ⟨fun _ => h, by rw [hr]; simp⟩
end
def calmAt (ops : Array Oper) (i : Nat) : Bool := match ops[i]? with
  | some o => match o.op with
    | .move _ => true
    | _ => false
  | none => false
def planU1 (ops : Array Oper) (l0 : List Nat) : List Nat → List (Nat × Bool) → Array Bool → Bool
  | [], l2, listed => planT2 ops l0 l2 listed
  | k :: l, l2, listed => (l0.contains k || calmAt ops k) && Region.free .any ops listed k && (Region.ready .any ops listed).contains k && planU1 ops l0 l l2 (listed.setIfInBounds k true)
def planU (ops : Array Oper) (l0 l1 : List Nat) (l2 : List (Nat × Bool)) : Bool :=
  Region.noSelect ops && Nat.beq (l1.length + l2.length) ops.size && planU1 ops l0 l1 l2 (Array.replicate ops.size false)
section
variable {P : Program} {Pn : List PanicEntry → World → Prop} {n : Nat}
theorem ePh2U_sound {S : World → Prop} {all : List Oper} {l0 : List Nat} (hd : ∀ o ∈ all, ∀ t, o.dst = some t → t < n) {K : Exit → Fr → World → Prop} : ∀ (l : List (Nat × Bool)) (listed : Array Bool) (F : Fr) (a : Act) (w : World), Kn n F a → planT2 all.toArray l0 l listed = true → ePh2T (real P Pn n) S all l F w (K .normal) → wpAnyU P .any all.toArray (QK Pn n K) S l0 l.length listed a w
  | [], listed, F, a, w, hk, hB, h => by
    have hr : Region.ready .any all.toArray listed = [] := by simpa [planT2] using hB
    exact wpAnyU_done hr ⟨F, hk, h⟩ _
  | (k, true) :: l, listed, F, a, w, hk, hB, h => by
    simp only [planT2, Bool.and_eq_true] at hB
    obtain ⟨⟨hr, _⟩, hB⟩ := hB
    have hr : Region.ready .any all.toArray listed = [k] := by simpa using hr
    simp only [ePh2T] at h
    split at h
    · exact h.elim
    · rename_i o ho
      refine ⟨fun q => (by rw [hr] at q; cases q), fun i hi => ?_⟩
      obtain rfl : i = k := by rw [hr] at hi; simpa using hi
      exact step_op (Pn := Pn) ho (hd o (List.mem_of_getElem? ho)) hk (fun c w h => ⟨hk.defers, h⟩) (fun F' a' w' hk' ⟨h1, h2⟩ => ⟨fun _ _ => h1, ePh2U_sound hd l _ F' a' w' hk' hB h2⟩) h
  | (k, false) :: l, listed, F, a, w, hk, hB, h => by
    simp only [planT2, Bool.and_eq_true, Bool.false_or, Bool.not_eq_true'] at hB
    obtain ⟨⟨hr, hn⟩, hB⟩ := hB
    have hr : Region.ready .any all.toArray listed = [k] := by simpa using hr
    simp only [ePh2T] at h
    split at h
    · exact h.elim
    · rename_i o ho
      refine ⟨fun q => (by rw [hr] at q; cases q), fun i hi => ?_⟩
      obtain rfl : i = k := by rw [hr] at hi; simpa using hi
      exact step_op (Pn := Pn) ho (hd o (List.mem_of_getElem? ho)) hk (fun c w h => ⟨hk.defers, h⟩) (fun F' a' w' hk' h2 => ⟨fun q => (by rw [hn] at q; cases q), ePh2U_sound hd l _ F' a' w' hk' hB h2⟩) h
theorem ePh1U_sound {S : World → Prop} {w : World} (hSE : ∀ w1, S w1 → Ext w w1) {all : List Oper} {l0 : List Nat} (hs : Region.noSelect all.toArray = true) (hd : ∀ o ∈ all, ∀ t, o.dst = some t → t < n) {K : Exit → Fr → World → Prop} {w0 : World} (hS : S w0) (l2 : List (Nat × Bool)) (K1 : Fr → World → Prop) : ∀ (l : List Nat) (listed : Array Bool) (F : Fr) (a : Act), Kn n F a → Closed .any all.toArray listed → planU1 all.toArray l0 l l2 listed = true → ePh1 (hreal P) all l F w K1 →
    (∀ F a listed, Kn n F a → planT2 all.toArray l0 l2 listed = true → K1 F w → wpAnyU P .any all.toArray (QK Pn n K) S l0 l2.length listed a w0) → wpAnyU P .any all.toArray (QK Pn n K) S l0 (l.length + l2.length) listed a w0
  | [], listed, F, a, hk, hcl, hB, h, h2 => by simpa using h2 F a listed hk hB h
  | k :: l, listed, F, a, hk, hcl, hB, h, h2 => by
    simp only [planU1, Bool.and_eq_true] at hB
    obtain ⟨⟨⟨hl, hf⟩, hr⟩, hB⟩ := hB
    simp only [ePh1] at h
    split at h
    · exact h.elim
    · rename_i o ho
      by_cases hl0 : l0.contains k = true
      · obtain ⟨v, F', hy, hk', h⟩ := step_yields (P := P) (n := n) (S := S) (E' := hreal P) (fun _ _ => rfl) (fun _ _ _ ⟨v, h1, h2⟩ => ⟨v, fun w1 hw1 => h1 w1 (hSE w1 hw1), h2⟩) (hd o (List.mem_of_getElem? ho)) hk h
        have := wpAnyU_take (l := l0) (by simpa using ho) (by simpa using hl0) hs hf hr hcl panic_put hy hS (ePh1U_sound hSE hs hd hS l2 K1 l _ F' _ hk' (closed_set hcl hr) hB h h2)
        simpa [Nat.add_right_comm] using this
      · have hc : calmAt all.toArray k = true := by
          rcases Bool.or_eq_true_iff.1 hl with q | q
          · exact absurd q hl0
          · exact q
        obtain ⟨x, hx⟩ : ∃ x, o.op = .move x := by
          unfold calmAt at hc
          rw [show all.toArray[k]? = some o by simpa using ho] at hc
          simp only at hc
          split at hc
          · rename_i x hx; exact ⟨x, hx⟩
          · cases hc
        obtain ⟨v, F', hy, hk', h⟩ := step_yields (P := P) (n := n) (S := fun _ => True) (E' := (hreal P).dull) (fun _ _ => rfl) (fun _ _ _ h => h.elim) (hd o (List.mem_of_getElem? ho)) hk (eOps_calm hx h)
        have := wpAnyU_takeP (S := S) (l := l0) (by simpa using ho) hs hf hr panic_put hy (ePh1U_sound hSE hs hd hS l2 K1 l _ F' _ hk' (closed_set hcl hr) hB h h2)
        simpa [Nat.add_right_comm] using this
/-- Everything in l1 only reads, and is taken first; l0: those of them that are no bare moves; of l2 each is the only one that may come up: (k, true): all that there was is to stand behind it; (k, false): it waits for all of l0, and may write. -/
theorem draw_u (l0 l1 : List Nat) (l2 : List (Nat × Bool)) {E : Sym} (hE : E = real P Pn n) {id : Nat} {ops : Array Oper} {F : Fr} {w : World} {K : Exit → Fr → World → Prop} (hm : P.follows .mixedOrders = true) (hB : planU ops l0 l1 l2 = true)
    (h : ∀ E', EngB false P E' → ∀ w0, Same w w0 → ∀ S : World → Prop, (∀ w', Ext w0 w' → S w') → ePh1 E' ops.toList l1 F w0 (fun F' w' => ePh2T E S ops.toList l2 F' w' (K .normal))) : E.draw id ops F w K := by
  subst hE
  intro hd a hk
  simp only [planU, Bool.and_eq_true, Nat.beq_eq] at hB
  obtain ⟨⟨hs, hl⟩, hB⟩ := hB
  have hs' : Region.noSelect ops.toList.toArray = true := by simpa using hs
  have := ePh1U_sound (Pn := Pn) (K := K) (n := n) (l0 := l0) (S := Ext { w with drawn := w.drawn + 1 }) (w := { w with drawn := w.drawn + 1 }) (fun _ h => h) hs' (okDst_ops hd) (Ext.refl _) l2 _ l1 (Array.replicate ops.size false) F a hk (fun k o _ h => by simp only [Array.getD_eq_getD_getElem?, Array.getElem?_replicate] at h; split at h <;> simp at h) (by simpa using hB) (h (hreal P) (Eng.h P) _ (Same.drew w) _ (fun _ h => h))
    (fun F a listed hk hB h => ePh2U_sound (okDst_ops hd) l2 listed F a _ hk hB h)
  rw [hl] at this
  exact wp_region_any hm (wpAny_of_U _ _ _ _ (by simpa using this))
end
end Go.Eng
/- The reference's l3check walked. -/
namespace Go.Proofs.YtmbonalhbibppaaDoor
open Go.Eng
set_option linter.unusedVariables false
set_option linter.unusedSimpArgs false
theorem zInts2 : (Tryd.prog.info? 49).map (·.size) = some 1 := by kernel_rfl
section
variable {E : Sym} {w : World} {K : Value → World → Prop} {d : Option Tmp} {ty : TypeId} {pos : String} {aft : Array Edge} {g : Option (Nat × Bool)} {bq : Bool}
theorem run_bLs (w : World) : (Instr.build 172 #[]).run Tryd.prog w = .ok (.agg #[.slice none 0 0, .slice none 0 0]) w := by kernel_rfl
theorem st_bLs (hE : EngB bq Tryd.prog E) (hk : K (.agg ⟨[.slice none 0 0, .slice none 0 0]⟩) w) : E.stop ⟨d, .build 172 ⟨[]⟩, ty, pos, aft, g⟩ [] w K := by
  refine hE.det (v := .agg ⟨[.slice none 0 0, .slice none 0 0]⟩) (fun w1 _ ρ hρ => ?_) hk
  have := run_bLs w1
  simp [execOp, this]
end
/-- Each statement has its trees. -/
def Match (sv : List PS) (pts : List PT) : Prop := pts.length = sv.length ∧ ∀ (j : Nat) (s : PS) (p : PT), sv[j]? = some s → pts[j]? = some p → (p.c.isSome = true ↔ 0 ≤ s.c) ∧ (p.g.isSome = true ↔ 0 ≤ s.g)
theorem resN_iff {names : List ByteArray} {tx : ByteArray} : (resN names tx).isSome = true ↔ 0 ≤ posI attrs tx ∨ 0 ≤ posI names tx := by
  rw [posI_ge, posI_ge]
  unfold resN
  cases posF attrs tx with
  | some i => simp
  | none => cases posF names tx <;> simp
set_option maxHeartbeats 16000000 in
theorem l3check_f {w : World} {AN A2 : Option Addr} {N cN' n2 c2 : Nat} {nv : List PN} {sv : List PS} (h : PolR w AN N A2 n2 nv sv) (hNb : N ≤ 4000) (hn2 : n2 ≤ 600) (hz : ∀ p ∈ nv, p.o = 7 → 0 ≤ p.z) (hst : stmtsP sv) {pts : List PT} (hm : Match sv pts) (hts : IsTs nv 0 N (roots sv) (pts.flatMap trs)) :
    FC Tryd.prog 52 [.slice AN N cN', .slice A2 n2 c2] w fun v w' => match ckS (sv.zip pts) ⟨[], [], []⟩ with
      | .inl f => v = .tuple ⟨[.slice none 0 0, .pointer none, .agg ⟨[.int .i64 f.1, .int .i64 f.2]⟩]⟩ ∧ f.1 ≠ 0
      | .inr x => ∃ A c pl, v = .tuple ⟨[.slice A x.acc.length c, .pointer (some pl), .agg ⟨[.int .i64 0, .int .i64 0]⟩]⟩ ∧ Ints w' A x.acc.length c x.acc ∧ LetsR w' pl x.names x.tys := by
  refine FC.intro (cs := []) Tryd.func52 (by kernel_rfl) fun E R hE hr hR => ?_
  have hNl := h.nodes.len
  have hl2 := h.stmts.len
  obtain ⟨hml, hmt⟩ := hm
  obtain ⟨V, hV0⟩ : ∃ V, V = ckS (sv.zip pts) ⟨[], [], []⟩ := ⟨_, rfl⟩
  rw [← hV0] at hR
  have fin : ∀ c a : Int, V = .inl (c, a) → c ≠ 0 → ∀ w', Ext w w' → R (.tuple ⟨[.slice none 0 0, .pointer none, .agg ⟨[.int .i64 c, .int .i64 a]⟩]⟩) w' := fun c a e hc w' hx => by
    rw [hR, e]; exact ⟨hx, rfl, hc⟩
  conv => cbv
  refine st_alloc hr tFt rfl fun q6 w1 hx1 hq0 => ?_
  have hq6 := hq0 _ (Nat.le_refl _)
  have f6 := bx_form hq6
  clear hq0
  conv => cbv
  refine st_bLs hE ?_
  conv => cbv
  refine st_box hr fun pl w2 hx2 hq0 => ?_
  have hpl := hq0 _ (Nat.le_refl _)
  have fp := bx_form hpl
  replace hpl := hpl.mono hx1.size
  clear hq0
  replace hq6 := hq6.bel hx2
  conv => cbv
  refine st_alloc hr tFt rfl fun q9 w3 hx3 hq0 => ?_
  have hq9 := hq0 _ (Nat.le_refl _)
  have f9 := bx_form hq9
  replace hq9 := hq9.mono (Nat.le_trans hx1.size hx2.size)
  clear hq0
  replace hq6 := hq6.bel hx3
  replace hpl := hpl.bel hx3
  have hx : Ext w w3 := (hx1.trans hx2).trans hx3
  have s1 := hx1.size
  have s2 := hx2.size
  have s3 := hx3.size
  have hb : LB w.heap.size w3.heap.size pl q9 q6 := ⟨by omega, by omega, by omega, fp.2.2, f9.2.2, f6.2.2, by omega, by omega, by omega⟩
  clear fp f9 f6 hx1 hx2 hx3 s1 s2 s3
  have hsw := hx.size
  have hC0 : LC w.heap.size w3.heap.size w3 pl q9 q6 [.slice none 0 0, .slice none 0 0] [.int .i64 0, .int .i64 0] ⟨[], [], []⟩ none none none 0 0 0 :=
    ⟨hpl, hq9, hq6, Own.nil, Own.nil, Own.nil, ⟨.inl rfl, .inl rfl⟩, ⟨.inl rfl, .inl rfl⟩, ⟨.inl rfl, .inl rfl⟩⟩
  clear hpl hq9 hq6
  conv => cbv
  refine st_len hE sISd fun x16 hx16 => ?_
  conv => cbv
  refine loop_rulec [19, 25] hr (fun (s : Nat × Int × CK × Nat × (Option Addr × Option Addr × Option Addr) × (Nat × Nat × Nat) × (Int × Int)) w' => s.1 ≤ n2 ∧ s.2.1 = (s.1 : Int) ∧ XK s.2.2.1 ∧ s.2.2.1.tys.length ≤ s.1 ∧ s.2.2.2.1 ≤ N ∧ s.2.2.2.1 = s.2.2.1.acc.length ∧ Ext w w' ∧ w3.heap.size ≤ w'.heap.size ∧
      LC w.heap.size w3.heap.size w' pl q9 q6 [.slice s.2.2.2.2.1.2.1 s.2.2.1.names.length s.2.2.2.2.2.1.2.1, .slice s.2.2.2.2.1.2.2 s.2.2.1.tys.length s.2.2.2.2.2.1.2.2] [.int .i64 s.2.2.2.2.2.2.1, .int .i64 s.2.2.2.2.2.2.2] s.2.2.1 s.2.2.2.2.1.1 s.2.2.2.2.1.2.1 s.2.2.2.2.1.2.2 s.2.2.2.2.2.1.1 s.2.2.2.2.2.1.2.1 s.2.2.2.2.2.1.2.2 ∧
      IsTs nv s.2.2.2.1 N (roots (sv.drop s.1)) ((pts.drop s.1).flatMap trs) ∧ ckS ((sv.zip pts).drop s.1) s.2.2.1 = V)
    (fun s => [(0, .slice AN N cN'), (6, .pointer (some q6)), (7, .pointer (some pl)), (8, .slice s.2.2.2.2.1.1 s.2.2.2.1 s.2.2.2.2.2.1.1), (9, .pointer (some q9)), (15, .slice A2 n2 c2), (16, .int .i64 x16), (17, .int .i64 s.2.1)]) (fun s => n2 - s.1) (0, 0, ⟨[], [], []⟩, 0, (none, none, none), (0, 0, 0), (0, 0))
    (by simp [Fits, lk]) ⟨by simp, by simp, ⟨rfl, by simp, by simp, by simp⟩, by simp, by simp, rfl, hx, Nat.le_refl _, hC0, by simpa using hts, by simpa using hV0.symm⟩ ?_
  clear hx hC0 hV0
  rintro I hI ⟨j, jj, x, na, ⟨A, NA, TA⟩, ⟨c, nc, tc⟩, ⟨f0, f1⟩⟩ w' ⟨hj, hjj, hX, htl, hal, hna, hx, hs3, hC, hT, hV⟩
  simp only at hj hjj hX htl hal hna hC hT hV
  obtain ⟨nn, hnn⟩ : ∃ n, n = x.names.length := ⟨_, rfl⟩
  obtain ⟨tn, htn⟩ : ∃ n, n = x.tys.length := ⟨_, rfl⟩
  rw [← hnn, ← htn] at hC
  obtain ⟨jk, hjk⟩ : ∃ z, z = jj + 1 := ⟨_, rfl⟩
  conv => cbv
  refine br (fun g => ?_) (fun g => ?_)
  · have g : j < n2 := by
      have : jj < x16 := by simpa [hE.cmp, cmpR] using g
      omega
    have ej : E.ar .add .i64 jj 1 = jk := by rw [hE.ar, hjk]; exact wrap_in (by omega) (by omega)
    obtain ⟨ad, v, hA, hg, hc, hok⟩ := (h.stmts.ext hx).get g
    obtain ⟨k, nm, cc, gg⟩ := v
    have s_nm := hok.s_nm
    simp only at s_nm
    obtain ⟨pt, hpt⟩ : ∃ pt, pts[j]? = some pt := ⟨_, List.getElem?_eq_getElem (by omega)⟩
    obtain ⟨mc, mg⟩ := hmt j _ _ hg hpt
    simp only at mc mg
    have hsp := hst j _ hg
    rw [show (sv.zip pts).drop j = (⟨k, nm, cc, gg⟩, pt) :: (sv.zip pts).drop (j + 1) from drop_cons (by simp [List.getElem?_zip_eq_some, hg, hpt]), ckS] at hV
    simp only at hV
    rw [drop_cons hg, drop_cons hpt, roots_cons, List.flatMap_cons, rootS_eq] at hT
    simp only at hT
    obtain ⟨ptc, ptg⟩ := pt
    simp only at mc mg hV
    have hjn : jj.toNat = j := by omega
    conv => cbv
    refine cut_rule [19] [] hr (fun (s : CK × Nat × (Option Addr × Option Addr × Option Addr) × (Nat × Nat × Nat) × (Int × Int)) wy => XK s.1 ∧ s.1.tys.length ≤ j + 1 ∧ s.2.1 ≤ N ∧ s.2.1 = s.1.acc.length ∧ Ext w wy ∧ w3.heap.size ≤ wy.heap.size ∧
        LC w.heap.size w3.heap.size wy pl q9 q6 [.slice s.2.2.1.2.1 s.1.names.length s.2.2.2.1.2.1, .slice s.2.2.1.2.2 s.1.tys.length s.2.2.2.1.2.2] [.int .i64 s.2.2.2.2.1, .int .i64 s.2.2.2.2.2] s.1 s.2.2.1.1 s.2.2.1.2.1 s.2.2.1.2.2 s.2.2.2.1.1 s.2.2.2.1.2.1 s.2.2.2.1.2.2 ∧
        IsTs nv s.2.1 N (roots (sv.drop (j + 1))) ((pts.drop (j + 1)).flatMap trs) ∧ ckS ((sv.zip pts).drop (j + 1)) s.1 = V)
      (fun s => [(0, .slice AN N cN'), (6, .pointer (some q6)), (7, .pointer (some pl)), (8, .slice s.2.2.1.1 s.2.1 s.2.2.2.1.1), (9, .pointer (some q9)), (15, .slice A2 n2 c2), (16, .int .i64 x16), (17, .int .i64 jj)]) (fun J hJ => ?_) ?_
    rotate_left
    · rintro ⟨x', na', ⟨A', NA', TA'⟩, ⟨c', nc', tc'⟩, ⟨f0', f1'⟩⟩ wy ⟨hX', htl', hal', hna', hx', hs3', hC', hT', hV'⟩
      conv => cbv
      simp only [ej]
      exact ⟨(j + 1, jk, x', na', ⟨A', NA', TA'⟩, ⟨c', nc', tc'⟩, ⟨f0', f1'⟩), by simp [Fits, lk], hI _ _ ⟨by simp only; omega, by simp only; omega, hX', htl', hal', hna', hx', hs3', hC', hT', hV'⟩, by simp only; omega⟩
    conv => cbv
    refine st_idx hE sISd hA (by omega) (by omega) fun q hq => ?_
    rw [hjn] at hq
    conv => cbv
    refine st_loadS hE tISd (vs := [.int .i64 k, .string nm, .int .i64 cc, .int .i64 gg]) rfl (by rw [hq]; exact hc) ?_
    conv => cbv
    refine st_alloc hr tISd rfl fun q11 w5 hx5 hq0 => ?_
    conv => cbv
    refine st_putS hr (by kernel_rfl) (hq0 _ (Nat.le_refl _)) (add_zero _).symm (by simp) (by simp [Value.oneCell']) fun w6 hw6 hq11 => ?_
    simp only [List.take_zero, List.nil_append, List.length_cons, List.length_nil, List.drop_succ_cons, List.drop_nil, List.append_nil] at hq11
    have hy := hx5.then (hw6.bel (hq0 _ (Nat.le_refl _)) hx5.size)
    have apq := hC.rA.apart (hq0 _ (Nat.le_refl _)) (Nat.le_refl _)
    have apn := hC.rN.apart (hq0 _ (Nat.le_refl _)) (Nat.le_refl _)
    have apt := hC.rT.apart (hq0 _ (Nat.le_refl _)) (Nat.le_refl _)
    have f11 := bx_form hq11
    have b11 : w'.heap.size ≤ q11.block := f11.1
    have e11 := f11.2.2
    have q11lt := f11.2.1
    have hs0 : w3.heap.size ≤ q11.block := by omega
    replace hq11 := hq11.mono hs3
    clear hq0 hw6 hx5 hq hc f11
    replace hC := hC.ext hy
    replace hx := hx.trans hy
    replace hs3 := Nat.le_trans hs3 hy.size
    clear hy
    conv => cbv
    -- the condition
    refine cut_rule [] [] hr (fun (s : CK × Nat × (Option Addr × Option Addr × Option Addr) × (Nat × Nat × Nat) × (Int × Int)) wy => ckC ⟨k, nm, cc, gg⟩ x ptc = .inr s.1 ∧ XK s.1 ∧ s.1.tys.length ≤ j + 1 ∧ s.2.1 ≤ N ∧ s.2.1 = s.1.acc.length ∧ Ext w wy ∧ w3.heap.size ≤ wy.heap.size ∧
        LC w.heap.size w3.heap.size wy pl q9 q6 [.slice s.2.2.1.2.1 s.1.names.length s.2.2.2.1.2.1, .slice s.2.2.1.2.2 s.1.tys.length s.2.2.2.1.2.2] [.int .i64 s.2.2.2.2.1, .int .i64 s.2.2.2.2.2] s.1 s.2.2.1.1 s.2.2.1.2.1 s.2.2.1.2.2 s.2.2.2.1.1 s.2.2.2.1.2.1 s.2.2.2.1.2.2 ∧
        Box w3.heap.size 139 4 wy q11 [.int .i64 k, .string nm, .int .i64 cc, .int .i64 gg] ∧ (Apart s.2.2.1.1 (some q11) ∧ Apart (some q11) s.2.2.1.1) ∧
        IsTs nv s.2.1 N (rootO gg ++ roots (sv.drop (j + 1))) (ptg.toList ++ (pts.drop (j + 1)).flatMap trs))
      (fun s => [(0, .slice AN N cN'), (6, .pointer (some q6)), (7, .pointer (some pl)), (8, .slice s.2.2.1.1 s.2.1 s.2.2.2.1.1), (9, .pointer (some q9)), (11, .pointer (some q11)), (15, .slice A2 n2 c2), (16, .int .i64 x16), (17, .int .i64 jj)]) (fun J hJ => ?_) ?_
    · (refine st_fld hE fISd2 fun p hp => ?_; (conv => cbv); refine st_load hE cInt (by rw [hp]; exact (hq11).at _ _ rfl) ?_; clear hp; (conv => cbv))
      refine br (fun g1 => ?_) (fun g1 => ?_)
      rotate_left
      · have g1 : ¬ 0 ≤ cc := by simpa [hE.cmp, cmpR] using g1
        have hpc : ptc = none := by
          cases ptc with
          | none => rfl
          | some t => exact absurd (mc.1 rfl) g1
        have hro : rootO cc = [] := by unfold rootO; rw [if_neg g1]
        rw [hpc] at hT
        rw [hro] at hT
        conv => cbv
        exact ⟨(x, na, ⟨A, NA, TA⟩, ⟨c, nc, tc⟩, ⟨f0, f1⟩), by simp [Fits, lk], hJ _ _ ⟨by rw [hpc]; rfl, hX, by simp only; omega, hal, hna, hx, hs3, by rw [← hnn, ← htn]; exact hC, hq11, apq, by simpa [trs] using hT⟩⟩
      · have g1 : 0 ≤ cc := by simpa [hE.cmp, cmpR] using g1
        obtain ⟨t, ht⟩ : ∃ t, ptc = some t := Option.isSome_iff_exists.1 (mc.2 g1)
        subst ht
        have hro : rootO cc = [cc] := by unfold rootO; rw [if_pos g1]
        rw [hro] at hT
        obtain ⟨e, ts1, ts2, he1, hT1, hT2⟩ := (show IsTs nv na N ([cc] ++ (rootO gg ++ roots (sv.drop (j + 1)))) ([t] ++ (ptg.toList ++ (pts.drop (j + 1)).flatMap trs)) by simpa [trs] using hT).split
        have hl1 := hT1.len
        obtain ⟨e1, e2⟩ := List.append_inj he1 (by rw [hl1]; rfl)
        subst e1
        subst e2
        obtain ⟨kn, _, _, hkn, hek, _⟩ := hT1.one
        subst hek
        have hT1' := hT1
        rw [hkn] at hT1
        have hle2 := hT2.le
        have hkl := (hT1.roots _ (List.mem_singleton.2 rfl)).1
        have hbn := hT1.bound (by omega)
        obtain ⟨hpl, _⟩ := hT1.pos
        rw [show Proofs.YtmbonalhbibppaaDoor.pos [t] = po t by simp [Proofs.YtmbonalhbibppaaDoor.pos]] at hpl
        have hwl := walkL_len x.names x.tys (po t) x.acc
        have hwla := @walkL_last x.names x.tys t x.acc
        obtain ⟨W1, hW1⟩ : ∃ W, W = (walkL x.names x.tys (po t) x.acc).1 := ⟨_, rfl⟩
        obtain ⟨W2, hW2⟩ : ∃ W, W = (walkL x.names x.tys (po t) x.acc).2 := ⟨_, rfl⟩
        obtain ⟨ty, hty⟩ : ∃ y, y = (tyT x.names x.tys t).1 := ⟨_, rfl⟩
        have hck : ckC ⟨k, nm, cc, gg⟩ x (some t) = if W2 ≠ 0 then .inl (W2, (W1.length : Int)) else if k = 1 then (if (resN x.names nm).isSome = true then .inl (8, (W1.length : Int) - 1) else .inr ⟨W1, x.names ++ [nm], x.tys ++ [ty]⟩) else if ty ≠ 1 then .inl (9, (W1.length : Int) - 1) else .inr ⟨W1, x.names, x.tys⟩ := by rw [hW1, hW2, hty]; rfl
        have htree := l3tree_g (cN' := cN') (c := c) h.nodes hNb hz hT1 hx hna.symm (by rw [hna]; exact hC.rA.mono hsw) (hC.letsG hb hX (by rw [← hnn, ← htn])) (az := na) (ka := cc) rfl hkn
        rw [← hW1, ← hW2] at htree hwl hwla
        obtain ⟨nW, hnW⟩ : ∃ n, n = W1.length := ⟨_, rfl⟩
        rw [← hnW] at htree hck hwl hwla
        have tynz : W2 = 0 → ty ≠ 0 := fun q => by rw [hty]; exact tyT_nz hz hX.eq hX.nz hT1 (hwla q).1
        conv => cbv
        refine st_len hE tInts fun x27 hx27 => ?_
        conv => cbv
        (refine st_fld hE fISd2 fun p hp => ?_; (conv => cbv); refine st_load hE cInt (by rw [hp]; exact (hq11).at _ _ rfl) ?_; clear hp; (conv => cbv))
        rw [hx27]
        refine st_g hr htree fun u w7 ⟨A', c', at_, ev, hgro, ho', hat⟩ => ?_
        subst ev
        have hC1 := hC.growA hb hs3 hgro (acc' := W1) (by rw [← hnW]; exact ho')
        have hx7 := hx.then (hgro.wr.bel (hC.rA.mono hsw) hx.size)
        have hs7 := Nat.le_trans hs3 hgro.wr.size
        have apq7 := hgro.apart hq11 apq
        replace hq11 := hq11.wr hgro.wr apq.2
        conv => cbv
        refine st_putS hr (by kernel_rfl) hC1.flt (add_zero _).symm (by simp) (by simp [Value.oneCell']) fun w8 hw8 hq9 => ?_
        simp only [List.take_zero, List.nil_append, List.length_cons, List.length_nil, List.drop_succ_cons, List.drop_nil, List.append_nil] at hq9
        have hx8 := hx7.then (hw8.bel hC1.flt hx7.size)
        have hs8 := Nat.le_trans hs7 hw8.size
        have hC2 := hC1.putF hb hw8 hq9
        replace hq11 := hq11.wr hw8 (bx_apart e11 hb.ef (by have := hb.f; omega))
        clear hC hC1 hx7 hs7 hw8 hq9 hgro ho'
        conv => cbv
        (refine st_fld hE fFt0 fun p hp => ?_; (conv => cbv); refine st_load hE cInt (by rw [hp]; exact (hC2.flt).at _ _ rfl) ?_; clear hp; (conv => cbv))
        refine br (fun g2 => ?_) (fun g2 => ?_)
        · have g2 : W2 ≠ 0 := by simpa [hE.cmp, cmpR] using g2
          rw [if_pos g2] at hck
          rw [hck] at hV
          simp only at hV
          conv => cbv
          refine draw_t [0, 1, 2] [(3, false)] hr fol (by kernel_rfl) fun E' hE' w9 hs9 S hS => ?_
          conv => cbv
          refine st_loadS hE' tFt rfl (hC2.flt.bel hs9.ext).at ?_
          conv => cbv
          refine st_putS hr (by kernel_rfl) (hC2.res.bel hs9.ext) (add_zero _).symm (by simp) (by simp [Value.oneCell']) fun w10 hw10 hq6 => ?_
          simp only [List.take_zero, List.nil_append, List.length_cons, List.length_nil, List.drop_succ_cons, List.drop_nil, List.append_nil] at hq6
          conv => cbv
          refine st_cell hr tFt rfl hq6.at ?_
          have hx9 := hx8.trans hs9.ext
          exact fin W2 at_ (by rw [← hV, hat g2]) g2 _ (hx9.then (hw10.bel (hC2.res.bel hs9.ext) hx9.size))
        have g2 : W2 = 0 := by simpa [hE.cmp, cmpR] using g2
        rw [if_neg (by simpa using g2)] at hck
        obtain ⟨_, _, hwl3, _⟩ := hwl
        have hnk : nW = kn + 1 := by have := hwl3 g2; omega
        have tyn := tynz g2
        have hlast := (hwla g2).2
        rw [← hty, hnk, Nat.add_sub_cancel] at hlast
        have rIn : Ints w8 A' nW c' W1 := by have := Own.ints hC2.rA; rw [hnW]; exact this
        conv => cbv
        (refine st_fld hE fISd2 fun p hp => ?_; (conv => cbv); refine st_load hE cInt (by rw [hp]; exact (hq11).at _ _ rfl) ?_; clear hp; (conv => cbv))
        refine st_int hE tInts rIn (k := kn) hkn (by omega) fun p u hu hp => ?_
        rw [hlast] at hu
        cases hu
        conv => cbv
        refine st_load hE cInt hp ?_
        conv => cbv
        (refine st_fld hE fISd0 fun p hp => ?_; (conv => cbv); refine st_load hE cInt (by rw [hp]; exact (hq11).at _ _ rfl) ?_; clear hp; (conv => cbv))
        refine br (fun g3 => ?_) (fun g3 => ?_)
        · have g3 : k = 1 := by simpa [hE.cmp, cmpR] using g3
          rw [if_pos g3] at hck
          conv => cbv
          have hL8 := hC2.lets ⟨hX.eq, hX.le, hX.nz, hX.ss⟩ (by rw [← hnn, ← htn])
          simp only at hL8
          -- the name is taken
          have bad : ¬ (posI attrs nm < 0 ∧ posI x.names nm < 0) → ∀ wa, Ext w8 wa → ∀ wb, Wr (some q6) wa wb → R (.tuple ⟨[.slice none 0 0, .pointer none, .agg ⟨[.int .i64 8, .int .i64 cc]⟩]⟩) wb := fun q wa hwa wb hwb => by
            rw [if_pos (resN_iff.2 (by omega))] at hck
            rw [hck] at hV
            simp only at hV
            have hx9 := hx8.trans hwa
            exact fin 8 cc (by rw [← hV]; congr 2; omega) (by omega) _ (hx9.then (hwb.bel (hC2.res.bel hwa) hx9.size))
          conv => cbv
          (refine st_fld hE fISd1 fun p hp => ?_; (conv => cbv); refine st_load hE cStr (by rw [hp]; exact (hq11).at _ _ rfl) ?_; clear hp; (conv => cbv))
          refine st_f hr (l3attr_f nm _) fun v w9 hx9 ev => ?_
          subst ev
          obtain ⟨pa, hpa⟩ : ∃ pa, pa = posI attrs nm := ⟨_, rfl⟩
          rw [← hpa] at bad ⊢
          have q9' := hq11.bel hx9
          conv => cbv
          have ret : (0 ≤ pa ∨ 0 ≤ posI x.names nm) → ∀ wa, Ext w8 wa → ∀ wb, Wr (some q6) wa wb → R (.tuple ⟨[.slice none 0 0, .pointer none, .agg ⟨[.int .i64 8, .int .i64 cc]⟩]⟩) wb := fun q => bad (by omega)
          refine br (fun g4 => ?_) (fun g4 => ?_)
          · have g4 : 0 ≤ pa := by simpa [hE.cmp, cmpR] using g4
            conv => cbv
            refine draw_t [0, 1, 2, 3, 4] [(5, false)] hr fol (by kernel_rfl) fun E' hE' w10 hs10 S hS => ?_
            conv => cbv
            (refine st_fld hE' fISd2 fun p hp => ?_; (conv => cbv); refine st_load hE' cInt (by rw [hp]; exact ((q9'.bel hs10.ext)).at _ _ rfl) ?_; clear hp; (conv => cbv))
            refine st_bFt hE' ?_
            conv => cbv
            refine st_putS hr (by kernel_rfl) ((hC2.res.bel hx9).bel hs10.ext) (add_zero _).symm (by simp) (by simp [Value.oneCell']) fun w11 hw11 hq6 => ?_
            simp only [List.take_zero, List.nil_append, List.length_cons, List.length_nil, List.drop_succ_cons, List.drop_nil, List.append_nil] at hq6
            conv => cbv
            refine st_cell hr tFt rfl hq6.at ?_
            exact ret (.inl g4) _ (hx9.trans hs10.ext) _ hw11
          have g4 : ¬ 0 ≤ pa := by simpa [hE.cmp, cmpR] using g4
          conv => cbv
          (refine st_fld hE fISd1 fun p hp => ?_; (conv => cbv); refine st_load hE cStr (by rw [hp]; exact (q9').at _ _ rfl) ?_; clear hp; (conv => cbv))
          refine st_f hr (find_f (hL8.ext hx9) nm) fun v w10 hx10 ev => ?_
          subst ev
          obtain ⟨pn, hpn⟩ : ∃ pn, pn = posI x.names nm := ⟨_, rfl⟩
          rw [← hpn] at ret ⊢
          replace q9' := q9'.bel hx10
          have hx0 := hx9.trans hx10
          conv => cbv
          refine br (fun g5 => ?_) (fun g5 => ?_)
          · have g5 : 0 ≤ pn := by simpa [hE.cmp, cmpR] using g5
            conv => cbv
            refine draw_t [0, 1, 2, 3, 4] [(5, false)] hr fol (by kernel_rfl) fun E' hE' w11 hs11 S hS => ?_
            conv => cbv
            (refine st_fld hE' fISd2 fun p hp => ?_; (conv => cbv); refine st_load hE' cInt (by rw [hp]; exact ((q9'.bel hs11.ext)).at _ _ rfl) ?_; clear hp; (conv => cbv))
            refine st_bFt hE' ?_
            conv => cbv
            refine st_putS hr (by kernel_rfl) ((hC2.res.bel hx0).bel hs11.ext) (add_zero _).symm (by simp) (by simp [Value.oneCell']) fun w12 hw12 hq6 => ?_
            simp only [List.take_zero, List.nil_append, List.length_cons, List.length_nil, List.drop_succ_cons, List.drop_nil, List.append_nil] at hq6
            conv => cbv
            refine st_cell hr tFt rfl hq6.at ?_
            exact ret (.inr g5) _ (hx0.trans hs11.ext) _ hw12
          have g5 : ¬ 0 ≤ pn := by simpa [hE.cmp, cmpR] using g5
          rw [if_neg (fun q => by have := resN_iff.1 q; omega)] at hck
          conv => cbv
          refine draw_u [1, 2, 3, 4, 5, 6] [0, 1, 2, 3, 4, 5, 6] [(7, true), (8, false), (9, false), (10, false), (11, false)] hr fol (by kernel_rfl) fun E' hE' w11 hs11 S hS => ?_
          have hC3 := hC2.ext (hx0.trans hs11.ext)
          have hx3 := hx8.trans (hx0.trans hs11.ext)
          have hs3' := Nat.le_trans hs8 (hx0.trans hs11.ext).size
          replace q9' := q9'.bel hs11.ext
          conv => cbv
          refine st_nil hE' ?_
          conv => cbv
          refine st_fld hE' fL30 fun p0 hp0 => ?_
          conv => cbv
          refine st_load hE' cStrs (by rw [hp0]; exact hC3.box.at 0 _ rfl) ?_
          conv => cbv
          (refine st_fld hE' fISd1 fun p hp => ?_; (conv => cbv); refine st_load hE' cStr (by rw [hp]; exact (q9').at _ _ rfl) ?_; clear hp; (conv => cbv))
          refine st_one hr tStrs rfl rfl fun A7 w12 hx12 hc12 => ?_
          refine ⟨hS _ hx12, ?_⟩
          conv => cbv
          have hC4 := hC3.ext hx12
          have hx4 := hx3.trans hx12
          have hs4 := Nat.le_trans hs3' hx12.size
          have q10 := q9'.bel hx12
          have rN := hC4.rN
          simp only at rN
          rw [← hnn] at rN
          refine st_appsG hr tStrs rfl rN hc12 rfl (by simp [Value.oneCell']) hs4 (by have := hX.eq; have := hX.le; omega) (by have := hX.eq; have := hX.le; omega) fun A8 c8 m8 w13 hm8 hw13 ho13 hbk => ?_
          have hnl : (x.names ++ [nm]).length = nn + 1 := by simp [hnn]
          have hg13 : Gro w12 NA w13 A8 := Gro.app (Ext.refl _) hw13 hbk
          have hC5 := hC4.growN hb hs4 hg13 (names' := x.names ++ [nm]) (by rw [hnl, List.map_append, ← hm8]; exact ho13.mono hsw)
          have hx5 := hx4.then (hw13.bel (rN.mono hsw) hx4.size)
          have hs5 := Nat.le_trans hs4 hw13.size
          replace q10 := q10.wr hw13 apn.2
          clear hC3 hC4 rN hx3 hx4 hs3' hs4
          conv => cbv
          refine st_nil hE ?_
          conv => cbv
          refine st_fld hE fL30 fun p1 hp1 => ?_
          conv => cbv
          refine st_put hr zStrs hC5.box hp1 (by simp) rfl fun w14 hw14 hb14 => ?_
          simp only [List.set_cons_zero, List.set_cons_succ] at hb14
          have hC6 := hC5.putB hb hw14 hb14
          have hx6 := hx5.then (hw14.bel hC5.box hx5.size)
          have hs6 := Nat.le_trans hs5 hw14.size
          replace q10 := q10.wr hw14 (bx_apart e11 hb.ep (by have := hb.p; omega))
          clear hC5 hx5 hs5 hb14
          conv => cbv
          refine st_nil hE ?_
          conv => cbv
          refine st_fld hE fL31 fun p2 hp2 => ?_
          conv => cbv
          refine st_load hE cInts (by rw [hp2]; exact hC6.box.at 1 _ rfl) ?_
          conv => cbv
          refine st_one hr tInts rfl rfl fun A9 w15 hx15 hc15 => ?_
          conv => cbv
          have hC7 := hC6.ext hx15
          have hx7 := hx6.trans hx15
          have hs7 := Nat.le_trans hs6 hx15.size
          replace q10 := q10.bel hx15
          have rT := hC7.rT
          simp only at rT
          rw [← htn] at rT
          refine st_appsG hr tInts rfl rT hc15 rfl (by simp [Value.oneCell']) hs7 (by have := hX.le; omega) (by have := hX.le; omega) fun A10 c10 m10 w16 hm10 hw16 ho16 hbk2 => ?_
          have htl2 : (x.tys ++ [ty]).length = tn + 1 := by simp [htn]
          have hg16 : Gro w15 TA w16 A10 := Gro.app (Ext.refl _) hw16 hbk2
          have hC8 := hC7.growT hb hs7 hg16 (tys' := x.tys ++ [ty]) (by rw [htl2, List.map_append, ← hm10]; exact ho16.mono hsw)
          have hx8' := hx7.then (hw16.bel (rT.mono hsw) hx7.size)
          have hs8' := Nat.le_trans hs7 hw16.size
          replace q10 := q10.wr hw16 apt.2
          clear hC6 hC7 rT hx6 hx7 hs6 hs7
          conv => cbv
          refine st_nil hE ?_
          conv => cbv
          refine st_fld hE fL31 fun p3 hp3 => ?_
          conv => cbv
          refine st_put hr zInts2 hC8.box hp3 (by simp) rfl fun w17 hw17 hb17 => ?_
          simp only [List.set_cons_zero, List.set_cons_succ] at hb17
          have hC9 := hC8.putB hb hw17 hb17
          have hx9' := hx8'.then (hw17.bel hC8.box hx8'.size)
          have hs9 := Nat.le_trans hs8' hw17.size
          replace q10 := q10.wr hw17 (bx_apart e11 hb.ep (by have := hb.p; omega))
          conv => cbv
          refine ⟨(⟨W1, x.names ++ [nm], x.tys ++ [ty]⟩, nW, ⟨A', A8, A10⟩, ⟨c', c8, c10⟩, ⟨W2, at_⟩), by simp [Fits, lk], hJ _ _ ⟨hck, ⟨by rw [hnl, htl2, hnn, htn, hX.eq], by rw [htl2]; omega, fun y hy => ?_, fun y hy => ?_⟩, by simp only; rw [htl2]; omega, by simp only; omega, hnW, hx9', hs9, ?_, q10, apq7, by simp only; rw [hnk]; exact hT2⟩⟩
          · rcases List.mem_append.1 hy with hy | hy
            · exact hX.nz y hy
            · simp at hy; rw [hy]; exact tyn
          · rcases List.mem_append.1 hy with hy | hy
            · exact hX.ss y hy
            · simp at hy; rw [hy]; exact s_nm
          · simp only
            rw [hnl, htl2, ← hm8, ← hm10]
            exact hC9
        · have g3 : k ≠ 1 := by simpa [hE.cmp, cmpR] using g3
          rw [if_neg g3] at hck
          conv => cbv
          refine br (fun g4 => ?_) (fun g4 => ?_)
          · have g4 : ty ≠ 1 := by simpa [hE.cmp, cmpR] using g4
            rw [if_pos g4] at hck
            rw [hck] at hV
            simp only at hV
            conv => cbv
            refine draw_t [0, 1, 2, 3, 4] [(5, false)] hr fol (by kernel_rfl) fun E' hE' w9 hs9 S hS => ?_
            conv => cbv
            (refine st_fld hE' fISd2 fun p hp => ?_; (conv => cbv); refine st_load hE' cInt (by rw [hp]; exact ((hq11.bel hs9.ext)).at _ _ rfl) ?_; clear hp; (conv => cbv))
            refine st_bFt hE' ?_
            conv => cbv
            refine st_putS hr (by kernel_rfl) (hC2.res.bel hs9.ext) (add_zero _).symm (by simp) (by simp [Value.oneCell']) fun w10 hw10 hq6 => ?_
            simp only [List.take_zero, List.nil_append, List.length_cons, List.length_nil, List.drop_succ_cons, List.drop_nil, List.append_nil] at hq6
            conv => cbv
            refine st_cell hr tFt rfl hq6.at ?_
            have hx9 := hx8.trans hs9.ext
            exact fin 9 cc (by rw [← hV]; congr 2; omega) (by omega) _ (hx9.then (hw10.bel (hC2.res.bel hs9.ext) hx9.size))
          · have g4 : ¬ ty ≠ 1 := by simpa [hE.cmp, cmpR] using g4
            rw [if_neg g4] at hck
            conv => cbv
            exact ⟨(⟨W1, x.names, x.tys⟩, nW, ⟨A', NA, TA⟩, ⟨c', nc, tc⟩, ⟨W2, at_⟩), by simp [Fits, lk], hJ _ _ ⟨hck, ⟨hX.eq, hX.le, hX.nz, hX.ss⟩, by simp only; omega, by simp only; omega, hnW, hx8, hs8, by simp only; rw [← hnn, ← htn]; exact hC2, hq11, apq7, by simp only; rw [hnk]; exact hT2⟩⟩
    · clear hq11 apq hC hx hs3 hX htl hal hna hT hnn htn apn apt q11lt
      rintro ⟨y, ny, ⟨A', NA', TA'⟩, ⟨c', nc', tc'⟩, ⟨f0', f1'⟩⟩ wy ⟨hcC, hX, htl, hal, hna, hx, hs3, hC, hq11, apq, hT⟩
      simp only at hcC hX htl hal hna hC apq hT
      rw [hcC] at hV
      simp only at hV
      obtain ⟨n2', hnn⟩ : ∃ n, n = y.names.length := ⟨_, rfl⟩
      obtain ⟨t2', htn⟩ : ∃ n, n = y.tys.length := ⟨_, rfl⟩
      rw [← hnn, ← htn] at hC
      conv => cbv
      (refine st_fld hE fISd3 fun p hp => ?_; (conv => cbv); refine st_load hE cInt (by rw [hp]; exact (hq11).at _ _ rfl) ?_; clear hp; (conv => cbv))
      refine br (fun g1 => ?_) (fun g1 => ?_)
      rotate_left
      · have g1 : ¬ 0 ≤ gg := by simpa [hE.cmp, cmpR] using g1
        have hpg : ptg = none := by
          cases ptg with
          | none => rfl
          | some t => exact absurd (mg.1 rfl) g1
        have hro : rootO gg = [] := by unfold rootO; rw [if_neg g1]
        rw [hpg] at hT hV
        rw [hro] at hT
        simp only [ckG] at hV
        conv => cbv
        exact ⟨(y, ny, ⟨A', NA', TA'⟩, ⟨c', nc', tc'⟩, ⟨f0', f1'⟩), by simp [Fits, lk], hJ _ _ ⟨hX, htl, hal, hna, hx, hs3, by rw [← hnn, ← htn]; exact hC, by simpa using hT, hV⟩⟩
      · have g1 : 0 ≤ gg := by simpa [hE.cmp, cmpR] using g1
        obtain ⟨t, ht⟩ : ∃ t, ptg = some t := Option.isSome_iff_exists.1 (mg.2 g1)
        subst ht
        have hro : rootO gg = [gg] := by unfold rootO; rw [if_pos g1]
        rw [hro] at hT
        obtain ⟨e, ts1, ts2, he1, hT1, hT2⟩ := (show IsTs nv ny N ([gg] ++ roots (sv.drop (j + 1))) ([t] ++ (pts.drop (j + 1)).flatMap trs) by simpa using hT).split
        have hl1 := hT1.len
        obtain ⟨e1, e2⟩ := List.append_inj he1 (by rw [hl1]; rfl)
        subst e1
        subst e2
        obtain ⟨kn, _, _, hkn, hek, _⟩ := hT1.one
        subst hek
        rw [hkn] at hT1
        have hle2 := hT2.le
        have hkl := (hT1.roots _ (List.mem_singleton.2 rfl)).1
        have hbn := hT1.bound (by omega)
        obtain ⟨hpl, _⟩ := hT1.pos
        rw [show Proofs.YtmbonalhbibppaaDoor.pos [t] = po t by simp [Proofs.YtmbonalhbibppaaDoor.pos]] at hpl
        have hwl := walkL_len y.names y.tys (po t) y.acc
        have hwla := @walkL_last y.names y.tys t y.acc
        obtain ⟨W1, hW1⟩ : ∃ W, W = (walkL y.names y.tys (po t) y.acc).1 := ⟨_, rfl⟩
        obtain ⟨W2, hW2⟩ : ∃ W, W = (walkL y.names y.tys (po t) y.acc).2 := ⟨_, rfl⟩
        obtain ⟨ty, hty⟩ : ∃ z, z = (tyT y.names y.tys t).1 := ⟨_, rfl⟩
        have hck : ckG y (some t) = if W2 ≠ 0 then .inl (W2, (W1.length : Int)) else if ty ≠ 4 then .inl (9, (W1.length : Int) - 1) else .inr ⟨W1, y.names, y.tys⟩ := by rw [hW1, hW2, hty]; rfl
        have htree := l3tree_g (cN' := cN') (c := c') h.nodes hNb hz hT1 hx hna.symm (by rw [hna]; exact hC.rA.mono hsw) (hC.letsG hb hX (by rw [← hnn, ← htn])) (az := ny) (ka := gg) rfl hkn
        rw [← hW1, ← hW2] at htree hwl hwla
        obtain ⟨nW, hnW⟩ : ∃ n, n = W1.length := ⟨_, rfl⟩
        rw [← hnW] at htree hck hwl hwla
        conv => cbv
        refine st_len hE tInts fun x27 hx27 => ?_
        conv => cbv
        (refine st_fld hE fISd3 fun p hp => ?_; (conv => cbv); refine st_load hE cInt (by rw [hp]; exact (hq11).at _ _ rfl) ?_; clear hp; (conv => cbv))
        rw [hx27]
        refine st_g hr htree fun u w7 ⟨A2', c2', at_, ev, hgro, ho', hat⟩ => ?_
        subst ev
        have hC1 := hC.growA hb hs3 hgro (acc' := W1) (by rw [← hnW]; exact ho')
        have hx7 := hx.then (hgro.wr.bel (hC.rA.mono hsw) hx.size)
        have hs7 := Nat.le_trans hs3 hgro.wr.size
        have apq7 := hgro.apart hq11 apq
        replace hq11 := hq11.wr hgro.wr apq.2
        conv => cbv
        refine st_putS hr (by kernel_rfl) hC1.flt (add_zero _).symm (by simp) (by simp [Value.oneCell']) fun w8 hw8 hq9 => ?_
        simp only [List.take_zero, List.nil_append, List.length_cons, List.length_nil, List.drop_succ_cons, List.drop_nil, List.append_nil] at hq9
        have hx8 := hx7.then (hw8.bel hC1.flt hx7.size)
        have hs8 := Nat.le_trans hs7 hw8.size
        have hC2 := hC1.putF hb hw8 hq9
        replace hq11 := hq11.wr hw8 (bx_apart e11 hb.ef (by have := hb.f; omega))
        clear hC hC1 hx7 hs7 hw8 hq9 hgro ho'
        conv => cbv
        (refine st_fld hE fFt0 fun p hp => ?_; (conv => cbv); refine st_load hE cInt (by rw [hp]; exact (hC2.flt).at _ _ rfl) ?_; clear hp; (conv => cbv))
        refine br (fun g2 => ?_) (fun g2 => ?_)
        · have g2 : W2 ≠ 0 := by simpa [hE.cmp, cmpR] using g2
          rw [if_pos g2] at hck
          rw [hck] at hV
          simp only at hV
          conv => cbv
          refine draw_t [0, 1, 2] [(3, false)] hr fol (by kernel_rfl) fun E' hE' w9 hs9 S hS => ?_
          conv => cbv
          refine st_loadS hE' tFt rfl (hC2.flt.bel hs9.ext).at ?_
          conv => cbv
          refine st_putS hr (by kernel_rfl) (hC2.res.bel hs9.ext) (add_zero _).symm (by simp) (by simp [Value.oneCell']) fun w10 hw10 hq6 => ?_
          simp only [List.take_zero, List.nil_append, List.length_cons, List.length_nil, List.drop_succ_cons, List.drop_nil, List.append_nil] at hq6
          conv => cbv
          refine st_cell hr tFt rfl hq6.at ?_
          have hx9 := hx8.trans hs9.ext
          exact fin W2 at_ (by rw [← hV, hat g2]) g2 _ (hx9.then (hw10.bel (hC2.res.bel hs9.ext) hx9.size))
        have g2 : W2 = 0 := by simpa [hE.cmp, cmpR] using g2
        rw [if_neg (by simpa using g2)] at hck
        obtain ⟨_, _, hwl3, _⟩ := hwl
        have hnk : nW = kn + 1 := by have := hwl3 g2; omega
        have hlast := (hwla g2).2
        rw [← hty, hnk, Nat.add_sub_cancel] at hlast
        have rIn : Ints w8 A2' nW c2' W1 := by have := Own.ints hC2.rA; rw [hnW]; exact this
        conv => cbv
        (refine st_fld hE fISd3 fun p hp => ?_; (conv => cbv); refine st_load hE cInt (by rw [hp]; exact (hq11).at _ _ rfl) ?_; clear hp; (conv => cbv))
        refine st_int hE tInts rIn (k := kn) hkn (by omega) fun p u hu hp => ?_
        rw [hlast] at hu
        cases hu
        conv => cbv
        refine st_load hE cInt hp ?_
        conv => cbv
        refine br (fun g4 => ?_) (fun g4 => ?_)
        · have g4 : ty ≠ 4 := by simpa [hE.cmp, cmpR] using g4
          rw [if_pos g4] at hck
          rw [hck] at hV
          simp only at hV
          conv => cbv
          refine draw_t [0, 1, 2, 3, 4] [(5, false)] hr fol (by kernel_rfl) fun E' hE' w9 hs9 S hS => ?_
          conv => cbv
          (refine st_fld hE' fISd3 fun p hp => ?_; (conv => cbv); refine st_load hE' cInt (by rw [hp]; exact ((hq11.bel hs9.ext)).at _ _ rfl) ?_; clear hp; (conv => cbv))
          refine st_bFt hE' ?_
          conv => cbv
          refine st_putS hr (by kernel_rfl) (hC2.res.bel hs9.ext) (add_zero _).symm (by simp) (by simp [Value.oneCell']) fun w10 hw10 hq6 => ?_
          simp only [List.take_zero, List.nil_append, List.length_cons, List.length_nil, List.drop_succ_cons, List.drop_nil, List.append_nil] at hq6
          conv => cbv
          refine st_cell hr tFt rfl hq6.at ?_
          have hx9 := hx8.trans hs9.ext
          exact fin 9 gg (by rw [← hV]; congr 2; omega) (by omega) _ (hx9.then (hw10.bel (hC2.res.bel hs9.ext) hx9.size))
        · have g4 : ¬ ty ≠ 4 := by simpa [hE.cmp, cmpR] using g4
          rw [if_neg g4] at hck
          rw [hck] at hV
          simp only at hV
          conv => cbv
          exact ⟨(⟨W1, y.names, y.tys⟩, nW, ⟨A2', NA', TA'⟩, ⟨c2', nc', tc'⟩, ⟨W2, at_⟩), by simp [Fits, lk], hJ _ _ ⟨⟨hX.eq, hX.le, hX.nz, hX.ss⟩, htl, by simp only; omega, hnW, hx8, hs8, by simp only; rw [← hnn, ← htn]; exact hC2, by simp only; rw [hnk]; exact hT2, hV⟩⟩
  · have g : j = n2 := by
      have : ¬ jj < x16 := by simpa [hE.cmp, cmpR] using g
      omega
    rw [List.drop_eq_nil_of_le (by simp; omega), ckS] at hV
    conv => cbv
    refine st_bFt0 hE ?_
    conv => cbv
    refine st_putS hr (by kernel_rfl) hC.res (add_zero _).symm (by simp) (by simp [Value.oneCell']) fun w6 hw6 hq6 => ?_
    simp only [List.take_zero, List.nil_append, List.length_cons, List.length_nil, List.drop_succ_cons, List.drop_nil, List.append_nil] at hq6
    conv => cbv
    refine st_cell hr tFt rfl hq6.at ?_
    rw [hR, ← hV]
    have h1 := hC.box.wr hw6 (bx_apart hb.ep hb.er hb.pr)
    have h2 := hC.rA.wr hw6 (own_low hC.rA hb.r.2 hb.er).1
    have h3 := hC.rN.wr hw6 (own_low hC.rN hb.r.2 hb.er).1
    have h4 := hC.rT.wr hw6 (own_low hC.rT hb.r.2 hb.er).1
    refine ⟨hx.then (hw6.bel hC.res hx.size), A, c, pl, by rw [← hna]; rfl, Own.ints h2, ⟨⟨NA, _, nc, TA, _, tc, h1.at 0 _ rfl, h1.at 1 _ rfl, Own.strs (by rw [hnn]; exact h3) hX.ss, Own.ints (by rw [htn]; exact h4)⟩, hX.eq, hX.le, hX.nz⟩⟩
end Go.Proofs.YtmbonalhbibppaaDoor
/- Well-typed policies, in plain words; the reference's WellTyped walked. -/
namespace Go.Proofs.YtmbonalhbibppaaDoor
open Go.Eng
set_option linter.unusedVariables false
set_option linter.unusedSimpArgs false
/-- The statements' trees out of the trees in their order. -/
def ptsOf : List PS → List Tr → List PT
  | [], _ => []
  | s :: l, ts =>
    let c := if 0 ≤ s.c then ts.head? else none
    let t1 := if 0 ≤ s.c then ts.tail else ts
    let g := if 0 ≤ s.g then t1.head? else none
    let t2 := if 0 ≤ s.g then t1.tail else t1
    ⟨c, g⟩ :: ptsOf l t2
theorem match_cons {s : PS} {sv : List PS} {p : PT} {pts : List PT} : Match (s :: sv) (p :: pts) ↔ ((p.c.isSome = true ↔ 0 ≤ s.c) ∧ (p.g.isSome = true ↔ 0 ≤ s.g)) ∧ Match sv pts := by
  unfold Match
  constructor
  · rintro ⟨h1, h2⟩
    exact ⟨h2 0 s p rfl rfl, by simpa using h1, fun j t q h3 h4 => h2 (j + 1) t q (by simpa using h3) (by simpa using h4)⟩
  · rintro ⟨h1, h2, h3⟩
    refine ⟨by simp [h2], fun j t q h4 h5 => ?_⟩
    cases j with
    | zero => simp at h4 h5; subst h4; subst h5; exact h1
    | succ j => exact h3 j t q (by simpa using h4) (by simpa using h5)
theorem ptsOf_match : ∀ {sv : List PS} {pts : List PT}, Match sv pts → ∀ r, ptsOf sv (pts.flatMap trs ++ r) = pts
  | [], [], h, r => rfl
  | [], p :: pts, h, r => by have := h.1; simp at this
  | s :: sv, [], h, r => by have := h.1; simp at this
  | s :: sv, ⟨c, g⟩ :: pts, h, r => by
    obtain ⟨⟨h1, h2⟩, h3⟩ := match_cons.1 h
    have ih := ptsOf_match h3 r
    simp only at h1 h2
    rw [ptsOf]
    cases c with
    | none =>
      have e1 : ¬ 0 ≤ s.c := fun q => by simpa using h1.2 q
      cases g with
      | none =>
        have e2 : ¬ 0 ≤ s.g := fun q => by simpa using h2.2 q
        simp [e1, e2, trs, ih]
      | some b =>
        have e2 : 0 ≤ s.g := h2.1 rfl
        simp [e1, e2, trs, ih]
    | some a =>
      have e1 : 0 ≤ s.c := h1.1 rfl
      cases g with
      | none =>
        have e2 : ¬ 0 ≤ s.g := fun q => by simpa using h2.2 q
        simp [e1, e2, trs, ih]
      | some b =>
        have e2 : 0 ≤ s.g := h2.1 rfl
        simp [e1, e2, trs, ih]
theorem pts_uniq {nv : List PN} {sv : List PS} {pts pts' : List PT} {a N : Nat} (hm : Match sv pts) (hm' : Match sv pts') (h : IsTs nv a N (roots sv) (pts.flatMap trs)) (h' : IsTs nv a N (roots sv) (pts'.flatMap trs)) : pts = pts' := by
  have e := (h.uniq h').2
  have h1 := ptsOf_match hm []
  have h2 := ptsOf_match hm' []
  rw [List.append_nil] at h1 h2
  rw [← h1, ← h2, e]
theorem match_ex : ∀ {sv : List PS} {ts : List Tr}, ts.length = (roots sv).length → ∃ pts, Match sv pts ∧ pts.flatMap trs = ts
  | [], ts, h => ⟨[], ⟨rfl, by simp⟩, by simp [roots] at h; simp [h]⟩
  | s :: sv, ts, h => by
    rw [roots_cons, rootS_eq, List.length_append, List.length_append] at h
    unfold rootO at h
    by_cases e1 : 0 ≤ s.c
    · by_cases e2 : 0 ≤ s.g
      · rw [if_pos e1, if_pos e2] at h
        match ts, h with
        | a :: b :: ts, h =>
          obtain ⟨pts, h1, h2⟩ := match_ex (sv := sv) (ts := ts) (by simp at h; omega)
          exact ⟨⟨some a, some b⟩ :: pts, match_cons.2 ⟨⟨by simp [e1], by simp [e2]⟩, h1⟩, by simp [trs, h2]⟩
        | [a], h => simp at h; omega
        | [], h => simp at h; omega
      · rw [if_pos e1, if_neg e2] at h
        match ts, h with
        | a :: ts, h =>
          obtain ⟨pts, h1, h2⟩ := match_ex (sv := sv) (ts := ts) (by simp at h; omega)
          exact ⟨⟨some a, none⟩ :: pts, match_cons.2 ⟨⟨by simp [e1], by simp; omega⟩, h1⟩, by simp [trs, h2]⟩
        | [], h => simp at h; omega
    · by_cases e2 : 0 ≤ s.g
      · rw [if_neg e1, if_pos e2] at h
        match ts, h with
        | b :: ts, h =>
          obtain ⟨pts, h1, h2⟩ := match_ex (sv := sv) (ts := ts) (by simp at h; omega)
          exact ⟨⟨none, some b⟩ :: pts, match_cons.2 ⟨⟨by simp; omega, by simp [e2]⟩, h1⟩, by simp [trs, h2]⟩
        | [], h => simp at h; omega
      · rw [if_neg e1, if_neg e2] at h
        obtain ⟨pts, h1, h2⟩ := match_ex (sv := sv) (ts := ts) (by simpa using h)
        exact ⟨⟨none, none⟩ :: pts, match_cons.2 ⟨⟨by simp; omega, by simp; omega⟩, h1⟩, by simp [trs, h2]⟩
/-- Walked through, a tree has written down as many types as it has nodes. -/
theorem ckO_len {nv : List PN} {x : CK} {a b : Nat} {k : Int} {t : Tr} (hx : x.acc.length = a) (h : IsTs nv a b [k] [t]) (hc : (walkL x.names x.tys (po t) x.acc).2 = 0) : (walkL x.names x.tys (po t) x.acc).1.length = b := by
  obtain ⟨hp, _⟩ := h.pos
  rw [show Proofs.YtmbonalhbibppaaDoor.pos [t] = po t by simp [Proofs.YtmbonalhbibppaaDoor.pos]] at hp
  have := (walkL_len x.names x.tys (po t) x.acc).2.2.1 hc
  have := h.le
  omega
theorem rootO_some {top : Int} {o : Option Tr} (h : o.isSome = true ↔ 0 ≤ top) : (o = none ∧ rootO top = []) ∨ ∃ t, o = some t ∧ rootO top = [top] := by
  unfold rootO
  cases o with
  | none => rw [if_neg (fun q => by simpa using h.2 q)]; exact .inl ⟨rfl, rfl⟩
  | some t => rw [if_pos (h.1 rfl)]; exact .inr ⟨t, rfl, rfl⟩
theorem ck_len {nv : List PN} : ∀ {sv : List PS} {pts : List PT} {x y : CK} {a N : Nat}, Match sv pts → IsTs nv a N (roots sv) (pts.flatMap trs) → x.acc.length = a → ckS (sv.zip pts) x = .inr y → y.acc.length = N
  | [], [], x, y, a, N, hm, h, hx, hy => by
    simp [roots] at h
    cases h
    simp [ckS] at hy
    subst hy; exact hx
  | [], p :: pts, x, y, a, N, hm, h, hx, hy => by have := hm.1; simp at this
  | s :: sv, [], x, y, a, N, hm, h, hx, hy => by have := hm.1; simp at this
  | s :: sv, ⟨c, g⟩ :: pts, x, y, a, N, hm, h, hx, hy => by
    obtain ⟨⟨h1, h2⟩, h3⟩ := match_cons.1 hm
    simp only at h1 h2
    rw [roots_cons, rootS_eq, List.flatMap_cons] at h
    simp only [List.zip_cons_cons, ckS] at hy
    have step : ∀ {x : CK} {a : Nat} {rs : List Int} {ts : List Tr} {top : Int} {o : Option Tr}, x.acc.length = a → (o.isSome = true ↔ 0 ≤ top) → IsTs nv a N (rootO top ++ rs) (o.toList ++ ts) → (∀ t, o = some t → ∃ b, IsTs nv a b [top] [t] ∧ IsTs nv b N rs ts) ∧ (o = none → IsTs nv a N rs ts) := fun {x a rs ts top o} hx ho h => by
      rcases rootO_some ho with ⟨rfl, e⟩ | ⟨t, rfl, e⟩
      · rw [e] at h; exact ⟨(fun t q => by cases q), fun _ => by simpa using h⟩
      · rw [e] at h
        refine ⟨fun t' q => ?_, fun q => by cases q⟩
        cases q
        obtain ⟨b, ts1, ts2, e1, k1, k2⟩ := h.split
        have hl := k1.len
        obtain ⟨q1, q2⟩ := List.append_inj e1 (by rw [hl]; rfl)
        subst q1; subst q2
        exact ⟨b, k1, k2⟩
    have h' : IsTs nv a N (rootO s.c ++ (rootO s.g ++ roots sv)) (c.toList ++ (g.toList ++ pts.flatMap trs)) := by simpa [trs] using h
    -- behind the condition
    have hc : ∃ z b, ckC s x c = .inr z ∧ z.acc.length = b ∧ IsTs nv b N (rootO s.g ++ roots sv) (g.toList ++ pts.flatMap trs) := by
      obtain ⟨k1, k2⟩ := step hx h1 h'
      cases c with
      | none => exact ⟨x, a, rfl, hx, k2 rfl⟩
      | some t =>
        obtain ⟨b, k3, k4⟩ := k1 t rfl
        cases hq : ckC s x (some t) with
        | inl f => rw [hq] at hy; cases hy
        | inr z =>
          refine ⟨z, b, rfl, ?_, k4⟩
          simp only [ckC] at hq
          split at hq
          · cases hq
          · rename_i q0
            have hl := ckO_len hx k3 (Classical.byContradiction q0)
            split at hq
            · split at hq
              · cases hq
              · cases hq; exact hl
            · split at hq
              · cases hq
              · cases hq; exact hl
    obtain ⟨z, b, e1, hz, hT⟩ := hc
    rw [e1] at hy
    simp only at hy
    obtain ⟨k1, k2⟩ := step hz h2 hT
    cases g with
    | none =>
      simp only [ckG] at hy
      exact ck_len h3 (k2 rfl) hz hy
    | some t =>
      obtain ⟨b2, k3, k4⟩ := k1 t rfl
      cases hq : ckG z (some t) with
      | inl f => rw [hq] at hy; cases hy
      | inr z2 =>
        rw [hq] at hy
        simp only at hy
        refine ck_len h3 k4 ?_ hy
        simp only [ckG] at hq
        split at hq
        · cases hq
        · rename_i q0
          have hl := ckO_len hz k3 (Classical.byContradiction q0)
          split at hq
          · cases hq
          · cases hq; exact hl
/-- What a well-typed policy is. -/
def wellP (nv : List PN) (sv : List PS) (tyl : List Int) : Prop := policyP true nv sv ∧ ∃ pts x, Match sv pts ∧ IsTs nv 0 nv.length (roots sv) (pts.flatMap trs) ∧ ckS (sv.zip pts) ⟨[], [], []⟩ = .inr x ∧ x.acc = tyl
end Go.Proofs.YtmbonalhbibppaaDoor
/- More for the engine: maps of words to interface values, of one's own; type assertions. No condition. -/
namespace Go.Eng
set_option linter.unusedVariables false
set_option linter.unusedSimpArgs false
/-- A map of words to interface values in block bm, of one's own, in the order in which they came. -/
structure IMap (B : Nat) (w : World) (bm : Nat) (f : List (ByteArray × Value)) : Prop where
  lo : B ≤ bm
  ex : ∃ es clock, w.heap[bm]? = some (.map es clock) ∧ es.toList.map (fun e => (e.key, e.val)) = f.map (fun q => (Value.string q.1, q.2))
def mget : List (ByteArray × Value) → ByteArray → Option Value
  | [], _ => none
  | q :: f, k => if q.1 = k then some q.2 else mget f k
abbrev mb (bm : Nat) : Option Addr := some ⟨bm, 0, none⟩
theorem mb_blk (bm : Nat) : blk (mb bm) = some bm := rfl
theorem IMap.hi {B : Nat} {w : World} {bm : Nat} {f : List (ByteArray × Value)} (h : IMap B w bm f) : bm < w.heap.size := by
  obtain ⟨es, clock, h1, _⟩ := h.ex
  exact (Array.getElem?_eq_some_iff.1 h1).1
theorem IMap.bel {B : Nat} {w w' : World} {bm : Nat} {f : List (ByteArray × Value)} (h : IMap B w bm f) (hx : Ext w w') : IMap B w' bm f := by
  obtain ⟨es, clock, h1, h2⟩ := h.ex
  exact ⟨h.lo, es, clock, hx.getMap h1, h2⟩
theorem IMap.mono {B B' : Nat} {w : World} {bm : Nat} {f : List (ByteArray × Value)} (h : IMap B w bm f) (hB : B' ≤ B) : IMap B' w bm f := ⟨Nat.le_trans hB h.lo, h.ex⟩
theorem IMap.wr {B : Nat} {w w' : World} {bm : Nat} {f : List (ByteArray × Value)} {A : Option Addr} (h : IMap B w bm f) (hw : Wr A w w') (ha : blk A ≠ some bm) : IMap B w' bm f := by
  obtain ⟨es, clock, h1, h2⟩ := h.ex
  exact ⟨h.lo, es, clock, (hw.block bm h.hi (Ne.symm ha)).trans h1, h2⟩
theorem find_im (k : ByteArray) : ∀ (es : List MapEntry) (f : List (ByteArray × Value)) (i : Nat), es.map (fun e => (e.key, e.val)) = f.map (fun q => (Value.string q.1, q.2)) → ∃ r, Instr.findNow .string (.string k) es i = some r ∧ r.map (·.2) = mget f k
  | [], [], i, _ => ⟨none, rfl, rfl⟩
  | e :: es, [], i, h => by cases h
  | [], q :: f, i, h => by cases h
  | e :: es, q :: f, i, h => by
    simp only [List.map_cons, List.cons.injEq, Prod.mk.injEq] at h
    obtain ⟨⟨h1, h2⟩, h3⟩ := h
    by_cases hq : k = q.1
    · refine ⟨some (i, e.val), by simp [Instr.findNow, Instr.sameNow, h1, (MapKept.bytes_beq k q.1).2 hq], ?_⟩
      simp [mget, hq, h2]
    · obtain ⟨r, hr, hr2⟩ := find_im k es f (i + 1) h3
      have hb : (k == q.1) = false := by rw [Bool.eq_false_iff]; exact fun h => hq ((MapKept.bytes_beq k q.1).1 h)
      exact ⟨r, by simp [Instr.findNow, Instr.sameNow, h1, hb, hr], by rw [hr2, mget, if_neg (fun z => hq z.symm)]⟩
theorem mget_append {f g : List (ByteArray × Value)} {k : ByteArray} : mget (f ++ g) k = match mget f k with | some v => some v | none => mget g k := by
  induction f with
  | nil => rfl
  | cons q f ih => rw [List.cons_append, mget, mget]; split; rfl; exact ih
section
variable {P : Program} {E : Sym} {n : Nat} {Pn : List PanicEntry → World → Prop} {w : World} {K : Value → World → Prop} {d : Option Tmp} {ty : TypeId} {pos : String} {aft : Array Edge} {g : Option (Nat × Bool)}
theorem st_imget {bq : Bool} (hE : EngB bq P E) {t kt et : TypeId} (ht : P.underlying t = some (.map kt et)) (hkt : P.underlying kt = some .string) (hz : (P.info? et).map (·.zero) = some (some .nilIface)) {B bm : Nat} {f : List (ByteArray × Value)} (h : IMap B w bm f) {k : ByteArray} {x y : Operand}
    (hk : K ((mget f k).getD .nilIface) w) : E.stop ⟨d, .lookup t x y false, ty, pos, aft, g⟩ [.map (some bm), .string k] w K := by
  obtain ⟨i0, hi, hz⟩ := Option.map_eq_some_iff.1 hz
  obtain ⟨es, clock, hb, hes⟩ := h.ex
  obtain ⟨r, hr, hr2⟩ := find_im k es.toList f 0 hes
  have hck0 : ∀ (q : Nat) (w1 : World), (Instr.checkKey es.isEmpty (q + 1) kt (.string k)).run P w1 = .ok () w1 := fun q w1 => by simp [Instr.checkKey, run_underlying hkt]
  have hck : ∀ w1 : World, (Instr.checkKey es.isEmpty 10000 kt (.string k)).run P w1 = .ok () w1 := hck0 9999
  refine hE.det (v := (mget f k).getD .nilIface) (fun w1 hx ρ hρ => ?_) hk
  simp only [opnds, List.map_cons, List.map_nil, List.cons.injEq, and_true] at hρ
  have hb1 : w1.heap[bm]? = some (.map es clock) := hx.getMap hb
  have hg := MapKept.run_getObj_map (P := P) hb1
  rw [← hr2]
  cases r with
  | none => simp [execOp, hρ.1, hρ.2, Instr.lookup, run_underlying ht, hg, hck, Instr.findKey, run_underlying hkt, hr, zeroValue, typeInfo, hi, hz]
  | some r => simp [execOp, hρ.1, hρ.2, Instr.lookup, run_underlying ht, hg, hck, Instr.findKey, run_underlying hkt, hr]
theorem st_imgot {bq : Bool} (hE : EngB bq P E) {t kt et : TypeId} (ht : P.underlying t = some (.map kt et)) (hkt : P.underlying kt = some .string) (hz : (P.info? et).map (·.zero) = some (some .nilIface)) {B bm : Nat} {f : List (ByteArray × Value)} (h : IMap B w bm f) {k : ByteArray} {x y : Operand}
    (hk : K (.tuple ⟨[(mget f k).getD .nilIface, .bool (mget f k).isSome]⟩) w) : E.stop ⟨d, .lookup t x y true, ty, pos, aft, g⟩ [.map (some bm), .string k] w K := by
  obtain ⟨i0, hi, hz⟩ := Option.map_eq_some_iff.1 hz
  obtain ⟨es, clock, hb, hes⟩ := h.ex
  obtain ⟨r, hr, hr2⟩ := find_im k es.toList f 0 hes
  have hck0 : ∀ (q : Nat) (w1 : World), (Instr.checkKey es.isEmpty (q + 1) kt (.string k)).run P w1 = .ok () w1 := fun q w1 => by simp [Instr.checkKey, run_underlying hkt]
  have hck : ∀ w1 : World, (Instr.checkKey es.isEmpty 10000 kt (.string k)).run P w1 = .ok () w1 := hck0 9999
  refine hE.det (v := .tuple ⟨[(mget f k).getD .nilIface, .bool (mget f k).isSome]⟩) (fun w1 hx ρ hρ => ?_) hk
  simp only [opnds, List.map_cons, List.map_nil, List.cons.injEq, and_true] at hρ
  have hb1 : w1.heap[bm]? = some (.map es clock) := hx.getMap hb
  have hg := MapKept.run_getObj_map (P := P) hb1
  rw [← hr2]
  cases r with
  | none => simp [execOp, hρ.1, hρ.2, Instr.lookup, run_underlying ht, hg, hck, Instr.findKey, run_underlying hkt, hr, zeroValue, typeInfo, hi, hz]
  | some r => simp [execOp, hρ.1, hρ.2, Instr.lookup, run_underlying ht, hg, hck, Instr.findKey, run_underlying hkt, hr]
theorem st_immk (hE : E = real P Pn n) {t : TypeId} (hk : ∀ bm w', bm = w.heap.size → Ext w w' → (∀ B, B ≤ w.heap.size → IMap B w' bm []) → K (.map (some bm)) w') : E.stop ⟨d, .makeMap t none, ty, pos, aft, g⟩ [] w K := by
  refine st_run hE (v := .map (some w.heap.size)) (w' := w.alloc (.map #[] 0)) (fun ρ hρ => ?_) (hk _ _ rfl ((Ext.refl w).alloc (Nat.le_refl _) _) fun B hB => ?_)
  · simp [execOp, Instr.makeMap]
  · exact ⟨hB, #[], 0, (MapKept.heap_alloc w _).1, rfl⟩
theorem st_imput (hE : E = real P Pn n) {t kt et : TypeId} (ht : P.underlying t = some (.map kt et)) (hkt : P.underlying kt = some .string) {B bm : Nat} {f : List (ByteArray × Value)} (h : IMap B w bm f) {k : ByteArray} (hno : mget f k = none) {v : Value} {x y z : Operand}
    (hk : ∀ w', Wr (mb bm) w w' → IMap B w' bm (f ++ [(k, v)]) → K undef w') : E.stop ⟨d, .mapUpdate t x y z, ty, pos, aft, g⟩ [.map (some bm), .string k, v] w K := by
  obtain ⟨es, clock, hb, hes⟩ := h.ex
  obtain ⟨r, hr, hr2⟩ := find_im k es.toList f 0 hes
  rw [hno] at hr2
  have hr3 : r = none := by cases r with
    | none => rfl
    | some _ => cases hr2
  subst hr3
  have hck0 : ∀ (q : Nat) (w1 : World), (Instr.checkKey false (q + 1) kt (.string k)).run P w1 = .ok () w1 := fun q w1 => by simp [Instr.checkKey, run_underlying hkt]
  have hck : ∀ w1 : World, (Instr.checkKey false 10000 kt (.string k)).run P w1 = .ok () w1 := hck0 9999
  refine st_runu hE (w' := { w with heap := w.heap.setIfInBounds bm (.map (es.push ⟨.string k, v, clock⟩) (clock + 1)) }) (fun ρ hρ => ?_) (hk _ ?_ ⟨h.lo, _, _, (MapKept.heap_set hb).1, by simp [hes]⟩)
  · simp only [opnds, List.map_cons, List.map_nil, List.cons.injEq, and_true] at hρ
    have hg := MapKept.run_getObj_map (P := P) hb
    simp [execOp, hρ.1, hρ.2.1, hρ.2.2, Instr.mapUpdate, run_underlying ht, hg, hck, Instr.findKey, run_underlying hkt, hr, MapKept.run_setObj_map _ hb]
  · exact ⟨rfl, rfl, rfl, by simp, fun i hi hne => (MapKept.heap_set hb).2 i fun e => hne (by rw [e]; rfl)⟩
theorem st_ta {bq : Bool} (hE : EngB bq P E) {xt t : TypeId} {x : Operand} {v r : Value} (hr : ∀ w, (Instr.typeAssert v xt t true).run P w = .ok r w) (hk : K r w) : E.stop ⟨d, .typeAssert x xt t true, ty, pos, aft, g⟩ [v] w K := by
  refine hE.det (v := r) (fun w1 _ ρ hρ => ?_) hk
  simp only [opnds, List.map_cons, List.map_nil, List.cons.injEq, and_true] at hρ
  simp [execOp, hρ, hr w1]
end
end Go.Eng
/- The program's typeOf of the operators 25 to 27. -/
namespace Go.Proofs.YtmbonalhbibppaaDoor
open Go.Eng
set_option linter.unusedVariables false
set_option linter.unusedSimpArgs false
set_option maxHeartbeats 8000000 in
theorem typeOfB_f {w : World} {A : Option Addr} {n c : Nat} {ts : List Int} (h : Ints w A n c ts) (op : Int) (h1 : 25 ≤ op) (h2 : op ≤ 27) (hk : (n : Int) = kidsF op) :
    FC Tryd.prog 130 [.int .i64 op, .slice A n c] w fun v _ => v = .int .i64 (typG op ts) := by
  refine FC.intro (cs := []) Tryd.func130 (by kernel_rfl) fun E R hE hr hR => ?_
  have hl := h.len
  have no : ∀ z : Int, z ≤ 24 → ¬ E.cmp .eql op z = true := fun z hz => by rw [hE.cmp]; simp [cmpR]; omega
  conv => cbv
  refine st_box1 hr rfl fun a w1 hx hb0 => ?_
  have hb := hb0 _ (Nat.le_refl _)
  have hl0 : w1.cell? a = some (.slice A n c) := by have := hb.at 0 _ rfl; rwa [add_zero] at this
  conv => cbv
  iterate 7 (refine br (fun g => absurd g (no _ (by omega))) (fun _ => ?_); (conv => cbv))
  refine br (fun g => ?_) (fun g => ?_)
  · have g0 := g
    have g : op = 25 := by simpa [hE.cmp, cmpR] using g
    conv => cbv
    refine br (fun _ => ?_) (fun q => absurd g0 q)
    conv => cbv
    refine st_f hr (same_f hb (h.ext hx) 1) fun v w2 hx2 ev => ?_
    subst ev
    obtain ⟨q, hq⟩ : ∃ q, q = allT 1 ts := ⟨_, rfl⟩
    rw [← hq]
    conv => cbv
    refine st_f hr (fit_f q 1) fun v w3 hx3 ev => ?_
    subst ev
    obtain ⟨z, hz⟩ : ∃ z : Int, z = if q = true then 1 else 0 := ⟨_, rfl⟩
    rw [← hz]
    conv => cbv
    rw [hR]; exact ⟨(hx.trans hx2).trans hx3, by rw [hz, hq]; simp [one, typG, g]⟩
  have g25 : op ≠ 25 := by simpa [hE.cmp, cmpR] using g
  clear g
  conv => cbv
  refine br (fun g => ?_) (fun g => ?_)
  · have g0 := g
    have g : op = 26 := by simpa [hE.cmp, cmpR] using g
    conv => cbv
    refine st_f hr (same_f hb (h.ext hx) 1) fun v w2 hx2 ev => ?_
    subst ev
    obtain ⟨q, hq⟩ : ∃ q, q = allT 1 ts := ⟨_, rfl⟩
    rw [← hq]
    conv => cbv
    refine st_f hr (fit_f q 1) fun v w3 hx3 ev => ?_
    subst ev
    obtain ⟨z, hz⟩ : ∃ z : Int, z = if q = true then 1 else 0 := ⟨_, rfl⟩
    rw [← hz]
    conv => cbv
    rw [hR]; exact ⟨(hx.trans hx2).trans hx3, by rw [hz, hq]; simp [one, typG, g]⟩
  have g26 : op ≠ 26 := by simpa [hE.cmp, cmpR] using g
  clear g
  have g : op = 27 := by omega
  have hn : n = 3 := by
    have : kidsF op = 3 := by rw [g]; decide
    omega
  conv => cbv
  iterate 10 (refine br (fun g => absurd g (no _ (by omega))) (fun _ => ?_); (conv => cbv))
  refine br (fun g0 => ?_) (fun g0 => absurd g (by simpa [hE.cmp, cmpR] using g0))
  conv => cbv
  refine draw_h [0, 1, 2, 3, 4, 5, 6, 7, 8, 9, 10, 11, 12, 13, 14, 15, 16] [(17, false), (18, true)] hr fol (by kernel_rfl) fun E' hE' w4 hs4 S hS => ?_
  have hl4 : w4.cell? a = some (.slice A n c) := hs4.ext.cell hl0
  have h4 := (h.ext hx).ext hs4.ext
  conv => cbv
  refine st_load hE' cInts hl4 ?_
  conv => cbv
  refine st_int hE' tInts h4 (k := 0) rfl (by omega) fun p u hu hp => ?_
  conv => cbv
  refine st_load hE' cInt hp ?_
  have fin : ∀ (q : Bool) (u1 : Int), ts[1]? = some u1 → (q = true ↔ ts[0]? = some 1 ∧ ts[1]? = ts[2]?) → (if q = true then u1 else 0) = typG op ts := fun q u1 hu1 hq => by
    have e : typG op ts = if ts[0]? = some 1 ∧ ts[1]? = ts[2]? then ts.getD 1 0 else 0 := by unfold typG; rw [if_neg (by omega), if_pos g]
    rw [e]
    cases q with
    | true => rw [if_pos rfl, if_pos (hq.1 rfl), List.getD_eq_getElem?_getD, hu1]; rfl
    | false => rw [if_neg (by simp), if_neg (fun z => absurd (hq.2 z) (by simp))]
  conv => cbv
  refine br (fun g3 => ?_) (fun g3 => ?_)
  · have g3 : u = 1 := by simpa [hE'.cmp, cmpR] using g3
    conv => cbv
    refine st_load hE' cInts hl4 ?_
    conv => cbv
    refine st_int hE' tInts h4 (k := 1) rfl (by omega) fun p2 u2 hu2 hp2 => ?_
    conv => cbv
    refine st_load hE' cInt hp2 ?_
    conv => cbv
    refine st_load hE' cInts hl4 ?_
    conv => cbv
    refine st_int hE' tInts h4 (k := 2) rfl (by omega) fun p3 u3 hu3 hp3 => ?_
    conv => cbv
    refine st_load hE' cInt hp3 ?_
    obtain ⟨q, hq⟩ : ∃ q, q = E'.cmp .eql u2 u3 := ⟨_, rfl⟩
    have hq' : q = true ↔ u2 = u3 := by rw [hq, hE'.cmp]; simp [cmpR]
    conv => cbv
    simp only [← hq]
    refine st_load hE' cInts hl4 ?_
    conv => cbv
    refine st_int hE' tInts h4 (k := 1) rfl (by omega) fun p4 u4 hu4 hp4 => ?_
    rw [hu2] at hu4
    cases hu4
    conv => cbv
    refine st_load hE' cInt hp4 ?_
    conv => cbv
    refine st_f hr (fit_f q u2) fun v w3 hx3 ev => ?_
    subst ev
    obtain ⟨z, hz⟩ : ∃ z : Int, z = if q = true then u2 else 0 := ⟨_, rfl⟩
    rw [← hz]
    refine ⟨hS _ hx3, ?_⟩
    conv => cbv
    rw [hR]; exact ⟨(hx.trans hs4.ext).trans hx3, by rw [hz, fin q u2 hu2 (by rw [hq', hu, hu2, hu3]; simp [g3])]; rfl⟩
  · have g3 : u ≠ 1 := by simpa [hE'.cmp, cmpR] using g3
    conv => cbv
    refine st_load hE' cInts hl4 ?_
    conv => cbv
    refine st_int hE' tInts h4 (k := 1) rfl (by omega) fun p4 u2 hu2 hp4 => ?_
    conv => cbv
    refine st_load hE' cInt hp4 ?_
    conv => cbv
    refine st_f hr (fit_f false u2) fun v w3 hx3 ev => ?_
    subst ev
    refine ⟨hS _ hx3, ?_⟩
    conv => cbv
    rw [hR]; exact ⟨(hx.trans hs4.ext).trans hx3, by rw [← fin false u2 hu2 (by simp [hu, g3])]; rfl⟩
theorem typeOfG_f {w : World} {A : Option Addr} {n c : Nat} {ts : List Int} (h : Ints w A n c ts) (op : Int) (hk : (n : Int) = kidsF op) (h1 : 1 ≤ n) :
    FC Tryd.prog 130 [.int .i64 op, .slice A n c] w fun v _ => v = .int .i64 (typG op ts) := by
  have hr : 8 ≤ op ∧ op ≤ 27 := by
    have h1 : 1 ≤ kidsF op := by omega
    unfold kidsF at h1; (repeat' split at h1) <;> omega
  by_cases g : op ≤ 24
  · have := typeOf_f h op hr.1 g hk
    have e : typG op ts = typF op ts := by unfold typG; rw [if_neg (by omega), if_neg (by omega)]
    rw [e]; exact this
  · exact typeOfB_f h op (by omega) hr.2 hk
end Go.Proofs.YtmbonalhbibppaaDoor
/- The program's checker in memory; its put, wrong and top walked. -/
namespace Go.Proofs.YtmbonalhbibppaaDoor
open Go.Eng
set_option linter.unusedVariables false
set_option linter.unusedSimpArgs false
theorem tCk : Stc Tryd.prog 225 3 [.slice none 0 0, .map none, .slice none 0 0] := ⟨by kernel_rfl, by kernel_rfl⟩
theorem fCk0 : Fld Tryd.prog 225 0 0 := ⟨by kernel_rfl⟩
theorem fCk1 : Fld Tryd.prog 225 1 1 := ⟨by kernel_rfl⟩
theorem fCk2 : Fld Tryd.prog 225 2 2 := ⟨by kernel_rfl⟩
theorem cMp : Cel Tryd.prog 223 := ⟨_, Tryd.underlying223, by simp, by simp⟩
theorem uMp : Tryd.prog.underlying 223 = some (.map 9 128) := Tryd.underlying223
theorem uMis : ∃ u, Tryd.prog.underlying 278 = some u ∧ ∀ ms, u ≠ .interface ms := ⟨_, Tryd.underlying278, by simp⟩
/-- A row that has grown, and a box that was written. -/
structure Gr2 (w : World) (q : Addr) (A : Option Addr) (w' : World) (A' : Option Addr) : Prop where
  os : w'.os = w.os
  tape : w'.tape = w.tape
  output : w'.output = w.output
  size : w.heap.size ≤ w'.heap.size
  block : ∀ k, k < w.heap.size → k ≠ q.block → some k ≠ blk A → w'.heap[k]? = w.heap[k]?
  at_ : blk A' = blk A ∨ ∃ b, blk A' = some b ∧ w.heap.size ≤ b
theorem Gr2.refl (w : World) (q : Addr) (A : Option Addr) : Gr2 w q A w A := ⟨rfl, rfl, rfl, Nat.le_refl _, fun _ _ _ _ => rfl, .inl rfl⟩
theorem Gr2.trans {a b c : World} {q : Addr} {A B C : Option Addr} (h : Gr2 a q A b B) (k : Gr2 b q B c C) : Gr2 a q A c C := by
  refine ⟨k.os.trans h.os, k.tape.trans h.tape, k.output.trans h.output, Nat.le_trans h.size k.size, fun i hi hq hn => ?_, ?_⟩
  · rw [k.block i (Nat.lt_of_lt_of_le hi h.size) hq (by
      rcases h.at_ with e | ⟨b0, e, hb⟩
      · rw [e]; exact hn
      · rw [e]; intro q; cases q; omega), h.block i hi hq hn]
  · rcases k.at_ with e | ⟨b0, e, hb⟩
    · rw [e]; exact h.at_
    · exact .inr ⟨b0, e, Nat.le_trans h.size hb⟩
theorem ext_gr2 {w w' : World} (h : Ext w w') (q : Addr) (A : Option Addr) : Gr2 w q A w' A := ⟨h.os, h.tape, h.output, h.size, fun k hk _ _ => h.block k hk, .inl rfl⟩
theorem Gr2.of_gro {w w' : World} {q : Addr} {A A' : Option Addr} (h : Gro w A w' A') : Gr2 w q A w' A' := ⟨h.wr.os, h.wr.tape, h.wr.output, h.wr.size, fun k hk _ hn => h.wr.block k hk hn, h.at_⟩
theorem Gr2.of_wr {w w' : World} {q : Addr} (hq : blk (some q) = some q.block) {A : Option Addr} (h : Wr (some q) w w') : Gr2 w q A w' A := ⟨h.os, h.tape, h.output, h.size, fun k hk hn _ => h.block k hk (by rw [hq]; intro e; cases e; exact hn rfl), .inl rfl⟩
theorem Gr2.bel {w0 w w' : World} {q : Addr} {A A' : Option Addr} {ws m c : Nat} {xs : List Value} (h : Gr2 w q A w' A') (hx : Ext w0 w) (hq : w0.heap.size ≤ q.block) (hA : Own ws 3 1 w A m c xs) (hw : w0.heap.size ≤ ws) : Ext w0 w' :=
  hx.then ⟨h.os, h.tape, h.output, h.size, fun k hk => h.block k (by have := hx.size; omega) (by omega) (fun e => by
    have := own_blk hA k e.symm
    omega)⟩
theorem own_keep {B : Nat} {e : TypeId} {k : Nat} {w w' : World} {A : Option Addr} {m c : Nat} {xs : List Value} (h : Own B e k w A m c xs) (hk : ∀ g, blk A = some g → w'.heap[g]? = w.heap[g]?) : Own B e k w' A m c xs := by
  refine ⟨h.1, ?_⟩
  rcases h.2 with h1 | ⟨g, cap, cur, h1, h2, h3, h4⟩
  · exact .inl h1
  · refine .inr ⟨g, cap, cur, h1, h2, ?_, h4⟩
    simp only [Value.slice.injEq] at h1
    rw [hk g (by rw [h1.1]; rfl)]
    exact h3
theorem Gr2.own {w w' : World} {q : Addr} {A A' X : Option Addr} (h : Gr2 w q A w' A') {B k m c : Nat} {e : TypeId} {xs : List Value} (hx : Own B e k w X m c xs) (hq : blk X ≠ some q.block) (ha : Apart X A) : Own B e k w' X m c xs :=
  own_keep hx fun g hg => h.block g (own_blk hx g hg).2 (fun e => hq (by rw [hg, e])) (fun e => by
    rcases ha with rfl | ha
    · simp [Eng.blk, Value.ownBlock] at hg
    · exact ha (by rw [hg]; exact e))
theorem Gr2.imap {w w' : World} {q : Addr} {A A' : Option Addr} (h : Gr2 w q A w' A') {B bm : Nat} {f : List (ByteArray × Value)} (hm : IMap B w bm f) (hq : bm ≠ q.block) (ha : blk A ≠ some bm) : IMap B w' bm f := by
  obtain ⟨es, clock, h1, h2⟩ := hm.ex
  exact ⟨hm.lo, es, clock, (h.block bm hm.hi hq (Ne.symm ha)).trans h1, h2⟩
/-- The checker's blocks. -/
structure KB (w0s ws : Nat) (q : Addr) (bm : Nat) : Prop where
  hq : w0s ≤ q.block ∧ q.block < ws
  eq : blk (some q) = some q.block
  m : w0s ≤ bm ∧ bm < ws
  qm : bm ≠ q.block
  le : w0s ≤ ws
/-- The checker: the lets' types, the names, the types so far. -/
structure KC (w0s ws : Nat) (w : World) (q : Addr) (bm : Nat) (f : List (ByteArray × Value)) (tys acc : List Int) (TA A : Option Addr) (tn tc na c : Nat) : Prop where
  box : Box w0s 225 3 w q [.slice TA tn tc, .map (some bm), .slice A na c]
  map : IMap w0s w bm f
  rT : Own ws 3 1 w TA tn tc (tys.map (.int .i64))
  rA : Own ws 3 1 w A na c (acc.map (.int .i64))
  aTA : Apart TA A ∧ Apart A TA
  hs : ws ≤ w.heap.size
section
variable {w0s ws : Nat} {w w' : World} {q : Addr} {bm : Nat} {f : List (ByteArray × Value)} {tys acc : List Int} {TA A : Option Addr} {tn tc na c : Nat}
theorem KC.len (h : KC w0s ws w q bm f tys acc TA A tn tc na c) : tys.length = tn ∧ acc.length = na := by
  have h1 := h.rT.len
  have h2 := h.rA.len
  rw [List.length_map] at h1 h2
  omega
theorem KC.ext (h : KC w0s ws w q bm f tys acc TA A tn tc na c) (hx : Ext w w') : KC w0s ws w' q bm f tys acc TA A tn tc na c :=
  ⟨h.box.bel hx, h.map.bel hx, h.rT.bel hx, h.rA.bel hx, h.aTA, Nat.le_trans h.hs hx.size⟩
theorem KC.low (hb : KB w0s ws q bm) (h : KC w0s ws w q bm f tys acc TA A tn tc na c) : (Apart A (some q) ∧ Apart (some q) A) ∧ blk A ≠ some bm ∧ blk TA ≠ some q.block := by
  refine ⟨own_low h.rA hb.hq.2 hb.eq, fun e => ?_, fun e => ?_⟩
  · have := (own_blk h.rA _ e).1; have := hb.m; omega
  · have := (own_blk h.rT _ e).1; have := hb.hq; omega
theorem put_g (hb : KB w0s ws q bm) (h : KC w0s ws w q bm f tys acc TA A tn tc na c) (hna : na ≤ 4000) (ty : Int) :
    GC Tryd.prog 167 [.pointer (some q), .int .i64 ty] w fun v w' => v = .int .i64 ty ∧ ∃ A' c', Gr2 w q A w' A' ∧ KC w0s ws w' q bm f tys (acc ++ [ty]) TA A' tn tc (na + 1) c' := by
  refine GC.intro (cs := []) Tryd.func167 (by kernel_rfl) fun E R hE hr hR => ?_
  have hlow := h.low hb
  conv => cbv
  refine st_nil hE ?_
  conv => cbv
  refine st_fld hE fCk2 fun p hp => ?_
  conv => cbv
  refine st_load hE cInts (by rw [hp]; exact h.box.at 2 _ rfl) ?_
  conv => cbv
  refine st_one hr tInts rfl rfl fun A1 w1 hx1 hc1 => ?_
  have h1 := h.ext hx1
  conv => cbv
  refine st_appsG hr tInts rfl h1.rA hc1 rfl (by simp [Value.oneCell']) h1.hs (by omega) (by omega) fun A2 c2 m2 w2 hm2 hw2 ho2 hk2 => ?_
  subst hm2
  have hg : Gro w1 A w2 A2 := Gro.app (Ext.refl _) hw2 hk2
  have hg2 := (ext_gr2 hx1 q A).trans (Gr2.of_gro hg)
  conv => cbv
  refine st_nil hE ?_
  conv => cbv
  refine st_fld hE fCk2 fun p2 hp2 => ?_
  conv => cbv
  refine st_put hr zInts2 (h1.box.wr hw2 hlow.1.2) hp2 (by simp) rfl fun w3 hw3 hb3 => ?_
  simp only [List.set_cons_zero, List.set_cons_succ] at hb3
  have hg3 := hg2.trans (Gr2.of_wr hb.eq (A := A2) hw3)
  conv => cbv
  rw [hR]
  have ap2 := gro_apart (B := 0) (m := 0) (c := 0) (xs := []) h1.rT h1.aTA.symm hg ho2
  refine ⟨rfl, A2, c2, hg3, hb3, (h1.map.wr hw2 hlow.2.1).wr hw3 (by rw [hb.eq]; intro e; cases e; exact hb.qm rfl), (h1.rT.wr hw2 h1.aTA.1).wr hw3 (own_low h1.rT hb.hq.2 hb.eq).1, ?_, ap2.symm, Nat.le_trans h1.hs (Nat.le_trans hw2.size hw3.size)⟩
  rw [List.map_append]
  exact ho2.wr hw3 (own_low ho2 hb.hq.2 hb.eq).1
section
variable {E : Sym} {K : Value → World → Prop} {d : Option Tmp} {ty : TypeId} {pos : String} {aft : Array Edge} {g : Option (Nat × Bool)} {bq : Bool}
theorem run_bMis (c a : Int) (w : World) : (Instr.build 278 #[(0, .int .i64 c), (1, .int .i64 a)]).run Tryd.prog w = .ok (.agg #[.int .i64 c, .int .i64 a]) w := by kernel_rfl
theorem st_bMis (hE : EngB bq Tryd.prog E) {c a : Int} {x y : Operand} (hk : K (.agg ⟨[.int .i64 c, .int .i64 a]⟩) w) : E.stop ⟨d, .build 278 ⟨[(0, x), (1, y)]⟩, ty, pos, aft, g⟩ [.int .i64 c, .int .i64 a] w K := by
  refine hE.det (v := .agg ⟨[.int .i64 c, .int .i64 a]⟩) (fun w1 _ ρ hρ => ?_) hk
  simp only [opnds, List.map_cons, List.map_nil, List.cons.injEq, and_true] at hρ
  have := run_bMis c a w1
  simp [execOp, hρ, this]
end
/-- A misfit: its code and its place. -/
def misV (c a : Int) : Value := .iface 278 (.agg ⟨[.int .i64 c, .int .i64 a]⟩)
theorem wrong_f (h : KC w0s ws w q bm f tys acc TA A tn tc na c) (co : Int) : FC Tryd.prog 168 [.pointer (some q), .int .i64 co] w fun v _ => v = misV co na := by
  refine FC.intro (cs := []) Tryd.func168 (by kernel_rfl) fun E R hE hr hR => ?_
  conv => cbv
  refine st_nil hE ?_
  conv => cbv
  refine st_fld hE fCk2 fun p hp => ?_
  conv => cbv
  refine st_load hE cInts (by rw [hp]; exact h.box.at 2 _ rfl) ?_
  conv => cbv
  refine st_len hE tInts fun x hx => ?_
  conv => cbv
  refine st_bMis hE ?_
  conv => cbv
  refine st_mk hE uMis ?_
  conv => cbv
  rw [hR]; exact ⟨Ext.refl _, by rw [hx]; rfl⟩
theorem top_f (h : KC w0s ws w q bm f tys acc TA A tn tc na c) (hna : na ≤ 4001) (co : Int) : FC Tryd.prog 160 [.pointer (some q), .int .i64 co] w fun v _ => v = misV co ((na : Int) - 1) := by
  refine FC.intro (cs := []) Tryd.func160 (by kernel_rfl) fun E R hE hr hR => ?_
  conv => cbv
  refine st_nil hE ?_
  conv => cbv
  refine st_fld hE fCk2 fun p hp => ?_
  conv => cbv
  refine st_load hE cInts (by rw [hp]; exact h.box.at 2 _ rfl) ?_
  conv => cbv
  refine st_len hE tInts fun x hx => ?_
  obtain ⟨y, hy⟩ : ∃ y : Int, y = (na : Int) - 1 := ⟨_, rfl⟩
  have ex : E.ar .sub .i64 x 1 = y := by rw [hE.ar, show arR .sub .i64 x 1 = IntKind.i64.wrap (x - 1) from rfl, wrap_in (by omega) (by omega)]; omega
  conv => cbv
  simp only [ex]
  refine st_bMis hE ?_
  conv => cbv
  refine st_mk hE uMis ?_
  conv => cbv
  rw [hR]; exact ⟨Ext.refl _, by rw [hy]; rfl⟩
end
end Go.Proofs.YtmbonalhbibppaaDoor
/- The program's attributes and newChecker walked; what names stand for. -/
namespace Go.Proofs.YtmbonalhbibppaaDoor
open Go.Eng
set_option linter.unusedVariables false
set_option linter.unusedSimpArgs false
def atV (i : Int) : Value := .iface 251 (.agg ⟨[.int .i64 i]⟩)
def ltV (i : Int) : Value := .iface 255 (.agg ⟨[.int .i64 i]⟩)
def lsL (v : Int → Value) : List ByteArray → Nat → List (ByteArray × Value)
  | [], _ => []
  | s :: l, i => (s, v i) :: lsL v l (i + 1)
/-- The names with what they stand for, in the order in which they come. -/
def fN (names : List ByteArray) : List (ByteArray × Value) := lsL atV attrs 0 ++ lsL ltV names 0
theorem lsL_get (v : Int → Value) (s : ByteArray) : ∀ (l : List ByteArray) (i : Nat), mget (lsL v l i) s = (posF l s).map fun k => v ((i + k : Nat) : Int)
  | [], i => rfl
  | x :: l, i => by
    rw [lsL, mget, posF]
    by_cases h : x = s
    · rw [if_pos h, if_pos h]; rfl
    · rw [if_neg h, if_neg h, lsL_get v s l (i + 1)]
      cases posF l s with
      | none => rfl
      | some k => simp only [Option.map_some]; rw [show i + 1 + k = i + (k + 1) by omega]
theorem fN_get (names : List ByteArray) (s : ByteArray) : mget (fN names) s = match posF attrs s with | some k => some (atV k) | none => (posF names s).map fun k : Nat => ltV (k : Int) := by
  unfold fN
  rw [mget_append, lsL_get, lsL_get]
  cases posF attrs s with
  | none => simp only [Option.map_none, Nat.zero_add]
  | some k => simp
theorem lsL_app (v : Int → Value) : ∀ (l r : List ByteArray) (i : Nat), lsL v (l ++ r) i = lsL v l i ++ lsL v r (i + l.length)
  | [], r, i => by simp [lsL]
  | x :: l, r, i => by rw [List.cons_append, lsL, lsL, lsL_app v l r (i + 1), List.length_cons, show i + 1 + l.length = i + (l.length + 1) by omega]; rfl
theorem fN_app (names : List ByteArray) (s : ByteArray) : fN (names ++ [s]) = fN names ++ [(s, ltV names.length)] := by
  unfold fN; rw [lsL_app, List.append_assoc, Nat.zero_add]; rfl
/-! ### The attributes -/
theorem tAr : Stc Tryd.prog 212 3 [.string ⟨#[]⟩, .int .i64 0, .nilFunc] := ⟨by kernel_rfl, by kernel_rfl⟩
theorem sAr : Slc Tryd.prog 176 212 (.agg ⟨[.string ⟨#[]⟩, .int .i64 0, .nilFunc]⟩) 3 32 := ⟨Tryd.underlying176, by kernel_rfl⟩
theorem fAr0 : Fld Tryd.prog 212 0 0 := ⟨by kernel_rfl⟩
theorem fAr1 : Fld Tryd.prog 212 1 1 := ⟨by kernel_rfl⟩
/-- The attributes' rows. -/
def arT : List (ByteArray × Int × FuncId) := [(⟨⟨[99, 108, 105, 101, 110, 116]⟩⟩, 3, 133), (⟨⟨[117, 115, 101, 114]⟩⟩, 3, 134), (⟨⟨[108, 101, 118, 101, 108]⟩⟩, 2, 135), (⟨⟨[110, 111, 119]⟩⟩, 2, 136), (⟨⟨[97, 115, 107, 101, 100]⟩⟩, 4, 137), (⟨⟨[97, 103, 114, 101, 101, 100]⟩⟩, 4, 138)]
def aC (x : ByteArray × Int × FuncId) : List Value := [.string x.1, .int .i64 x.2.1, .func (.func x.2.2) #[] #[]]
theorem aC_len (x : ByteArray × Int × FuncId) : (aC x).length = 3 := rfl
theorem arT_at {i : Nat} (hi : i < 6) : ∃ f, arT[i]? = some (attrs.getD i ⟨#[]⟩, attrF i, f) := by
  have : i = 0 ∨ i = 1 ∨ i = 2 ∨ i = 3 ∨ i = 4 ∨ i = 5 := by omega
  rcases this with rfl | rfl | rfl | rfl | rfl | rfl <;> exact ⟨_, rfl⟩
theorem attrs_at {i : Nat} (hi : i < 6) : attrs[i]? = some (attrs.getD i ⟨#[]⟩) := by
  rw [List.getD_eq_getElem?_getD, List.getElem?_eq_getElem (show i < attrs.length from hi)]; rfl
section
variable {E : Sym} {w : World} {K : Value → World → Prop} {d : Option Tmp} {ty : TypeId} {pos : String} {aft : Array Edge} {g : Option (Nat × Bool)} {bq : Bool}
theorem run_bAr (s : ByteArray) (t : Int) (f : FuncId) (w : World) : (Instr.build 212 #[(0, .string s), (1, .int .i64 t), (2, .func (.func f) #[] #[])]).run Tryd.prog w = .ok (.agg #[.string s, .int .i64 t, .func (.func f) #[] #[]]) w := by kernel_rfl
theorem st_bAr (hE : EngB bq Tryd.prog E) {s : ByteArray} {t : Int} {f : FuncId} {x y z : Operand} (hk : K (.agg ⟨[.string s, .int .i64 t, .func (.func f) #[] #[]]⟩) w) : E.stop ⟨d, .build 212 ⟨[(0, x), (1, y), (2, z)]⟩, ty, pos, aft, g⟩ [.string s, .int .i64 t, .func (.func f) #[] #[]] w K := by
  refine hE.det (v := .agg ⟨[.string s, .int .i64 t, .func (.func f) #[] #[]]⟩) (fun w1 _ ρ hρ => ?_) hk
  simp only [opnds, List.map_cons, List.map_nil, List.cons.injEq, and_true] at hρ
  have := run_bAr s t f w1
  simp [execOp, hρ, this]
theorem run_bCk (m : Nat) (w : World) : (Instr.build 225 #[(1, .map (some m))]).run Tryd.prog w = .ok (.agg #[.slice none 0 0, .map (some m), .slice none 0 0]) w := by kernel_rfl
theorem st_bCk (hE : EngB bq Tryd.prog E) {m : Nat} {x : Operand} (hk : K (.agg ⟨[.slice none 0 0, .map (some m), .slice none 0 0]⟩) w) : E.stop ⟨d, .build 225 ⟨[(1, x)]⟩, ty, pos, aft, g⟩ [.map (some m)] w K := by
  refine hE.det (v := .agg ⟨[.slice none 0 0, .map (some m), .slice none 0 0]⟩) (fun w1 _ ρ hρ => ?_) hk
  simp only [opnds, List.map_cons, List.map_nil, List.cons.injEq, and_true] at hρ
  have := run_bCk m w1
  simp [execOp, hρ, this]
end
theorem attributes_f (w : World) : FC Tryd.prog 102 [] w fun v w' => ∃ a, v = .slice (some a) 6 6 ∧ Own w.heap.size 212 3 w' (some a) 6 6 (arT.flatMap aC) := by
  refine FC.intro (cs := []) Tryd.func102 (by kernel_rfl) fun E R hE hr hR => ?_
  conv => cbv
  iterate 6 (refine st_bAr hE ?_; (conv => cbv))
  refine st_litsK hr sAr rfl (by omega) (vs := arT.map fun l => .agg ⟨aC l⟩) (m := 6) rfl (by omega) (by omega) rfl (by simp [arT, aC, Value.cells]) (cs := arT.flatMap aC) rfl fun A w1 hx ho => ?_
  have ho := ho _ (Nat.le_refl _)
  obtain ⟨g, hg, _⟩ := ho.addr (by omega)
  conv => cbv
  rw [hR]
  refine ⟨hx, ⟨g, 0, none⟩, by rw [hg]; rfl, by rw [← hg]; exact ho⟩
set_option maxHeartbeats 4000000 in
theorem newChecker_f (w : World) : FC Tryd.prog 139 [] w fun v w' => ∃ q bm ws, v = .pointer (some q) ∧ KB w.heap.size ws q bm ∧ KC w.heap.size ws w' q bm (fN []) [] [] none none 0 0 0 0 := by
  refine FC.intro (cs := []) Tryd.func139 (by kernel_rfl) fun E R hE hr hR => ?_
  conv => cbv
  refine st_immk hr fun bm w1 hbm hx1 hm0 => ?_
  have hm := hm0 _ (Nat.le_refl _)
  have hmh := hm.hi
  clear hm0
  conv => cbv
  refine st_bCk hE ?_
  conv => cbv
  refine st_box hr fun q w2 hx2 hb0 => ?_
  have hb := hb0 _ (Nat.le_refl _)
  have fq := bx_form hb
  replace hb := hb.mono hx1.size
  clear hb0
  have hKB : KB w.heap.size w2.heap.size q bm := ⟨⟨by have := hx1.size; omega, fq.2.1⟩, fq.2.2, ⟨by omega, by have := hx2.size; omega⟩, by omega, by have := hx1.size; have := hx2.size; omega⟩
  replace hm := hm.bel hx2
  have hx := hx1.trans hx2
  conv => cbv
  refine st_f hr (attributes_f w2) fun v w3 hx3 ⟨a, ev, hA⟩ => ?_
  subst ev
  replace hm := hm.bel hx3
  replace hb := hb.bel hx3
  replace hx := hx.trans hx3
  have hs3 := hx3.size
  conv => cbv
  refine st_len hE sAr fun x hx' => ?_
  conv => cbv
  have fa := bx_form hA
  have ca : blk (some a) ≠ some bm := by rw [fa.2.2]; intro e; cases e; have := hx2.size; have := hKB.m; omega
  refine loop_rule hr (fun (s : Nat × Int) w' => s.1 ≤ 6 ∧ s.2 = (s.1 : Int) ∧ Ext w w' ∧ w2.heap.size ≤ w'.heap.size ∧ Own w2.heap.size 212 3 w' (some a) 6 6 (arT.flatMap aC) ∧ IMap w.heap.size w' bm (lsL atV (attrs.take s.1) 0) ∧ Box w.heap.size 225 3 w' q [.slice none 0 0, .map (some bm), .slice none 0 0]) (fun s => [(1, .pointer (some q)), (7, .slice (some a) 6 6), (8, .int .i64 x), (9, .int .i64 s.2)]) (fun s => 6 - s.1) (0, 0)
    (by simp [Fits, lk]) ⟨by simp, by simp, hx, hs3, hA, by simpa [lsL] using hm, hb⟩ ?_
  clear hx hs3 hA hm hb
  rintro I hI ⟨i, ii⟩ w' ⟨hi, hii, hx, hs, hA, hm, hb⟩
  simp only at hi hii hm
  obtain ⟨ij, hij⟩ : ∃ z, z = ii + 1 := ⟨_, rfl⟩
  conv => cbv
  refine br (fun g => ?_) (fun g => ?_)
  · have g : i < 6 := by
      have : ii < x := by simpa [hE.cmp, cmpR] using g
      omega
    have ei : E.ar .add .i64 ii 1 = ij := by rw [hE.ar, hij]; exact wrap_in (by omega) (by omega)
    have hin : ii.toNat = i := by omega
    obtain ⟨f, hf⟩ := arT_at g
    obtain ⟨sn, hsn⟩ : ∃ s, s = attrs.getD i ⟨#[]⟩ := ⟨_, rfl⟩
    have hat := attrs_at g
    rw [← hsn] at hf hat
    obtain ⟨a', ha', hcell⟩ := fl_at aC_len hA.cells (by omega) hf
    cases ha'
    obtain ⟨at1, hat1⟩ : ∃ t, t = attrF i := ⟨_, rfl⟩
    rw [← hat1] at hcell
    conv => cbv
    refine st_idx hE sAr rfl (by omega) (by omega) fun p hp => ?_
    rw [hin] at hp
    conv => cbv
    refine st_loadS hE tAr (vs := [.string sn, .int .i64 at1, .func (.func f) #[] #[]]) rfl (by rw [hp]; exact hcell) ?_
    conv => cbv
    refine st_alloc hr tAr rfl fun q3 w4 hx4 hq0 => ?_
    conv => cbv
    refine st_putS hr (by kernel_rfl) (hq0 _ (Nat.le_refl _)) (add_zero _).symm (by simp) (by simp [Value.oneCell']) fun w5 hw5 hq3 => ?_
    simp only [List.take_zero, List.nil_append, List.length_cons, List.length_nil, List.drop_succ_cons, List.drop_nil, List.append_nil] at hq3
    have hxy := hx4.then (hw5.bel (hq0 _ (Nat.le_refl _)) hx4.size)
    clear hq0 hw5 hx4
    conv => cbv
    refine draw_t [0, 1, 2, 3, 4, 5, 6, 7, 8] [(9, false)] hr fol (by kernel_rfl) fun E' hE' w6 hs6 S hS => ?_
    have hx6 := hxy.trans hs6.ext
    replace hm := hm.bel hx6
    replace hb := hb.bel hx6
    replace hA := hA.bel hx6
    replace hx := hx.trans hx6
    replace hs := Nat.le_trans hs hx6.size
    replace hq3 := hq3.bel hs6.ext
    conv => cbv
    refine st_nil hE' ?_
    conv => cbv
    refine st_fld hE' fCk1 fun p1 hp1 => ?_
    conv => cbv
    refine st_load hE' cMp (by rw [hp1]; exact hb.at 1 _ rfl) ?_
    conv => cbv
    refine st_fld hE' fAr0 fun p2 hp2 => ?_
    conv => cbv
    refine st_load hE' cStr (by rw [hp2]; exact hq3.at 0 _ rfl) ?_
    conv => cbv
    refine st_bAtt hE' ?_
    conv => cbv
    refine st_mk hE' uAtT ?_
    conv => cbv
    refine st_imput hr uMp uStr hm ?_ fun w7 hw7 hm7 => ?_
    · rw [lsL_get, posF_none]
      · rfl
      · have : ∀ j, j < 6 → attrs.getD j ⟨#[]⟩ ∉ attrs.take j := by decide +kernel
        rw [hsn]; exact this i g
    conv => cbv
    simp only [ei]
    have hqm := hKB.qm
    refine ⟨(i + 1, ij), by simp [Fits, lk], hI _ _ ⟨by simp only; omega, by simp only; omega, hx.then ⟨hw7.os, hw7.tape, hw7.output, hw7.size, fun k hk => hw7.block k (by have := hx.size; omega) (by rw [mb_blk]; intro e; cases e; have := hKB.m; omega)⟩, Nat.le_trans hs hw7.size, hA.wr hw7 (.inr (by rw [mb_blk]; exact ca)), ?_, hb.wr hw7 (.inr (by rw [mb_blk, hKB.eq]; intro e; cases e; exact hqm rfl))⟩, by simp only; omega⟩
    simp only
    rw [List.take_add_one, hat, lsL_app]
    have : (attrs.take i).length = i := by rw [List.length_take]; have : attrs.length = 6 := rfl; omega
    rw [this, Nat.zero_add, hii] at *
    exact hm7
  · have g : i = 6 := by
      have : ¬ ii < x := by simpa [hE.cmp, cmpR] using g
      omega
    subst g
    rw [List.take_of_length_le (by decide)] at hm
    conv => cbv
    rw [hR]
    exact ⟨hx, q, bm, w2.heap.size, rfl, hKB, hb, by unfold fN; simpa [lsL] using hm, Own.nil, Own.nil, ⟨.inl rfl, .inl rfl⟩, hs⟩
end Go.Proofs.YtmbonalhbibppaaDoor
/- A region that draws its order: reads that stand whatever is done to one row, then a call that writes into this row. No condition. -/
namespace Go.Eng
set_option linter.unusedVariables false
def wreal (S : World → Prop) (P : Program) : Sym where
  ar := arR
  cmp := cmpR
  scmp := scmpR
  nat := Int.ofNat
  len := ByteArray.size
  stop o vals w K := ∃ v, (∀ w1, S w1 → ∀ ρ : Operand → Value, (opnds o.op).map ρ = vals → (execOp ρ o).run P w1 = .ok (.value v) w1) ∧ K v w
  loop _ _ _ _ := False
  draw _ _ _ _ _ := False
  cut _ _ _ _ _ := False
  cell _ _ _ _ := False
structure EngW (S : World → Prop) (P : Program) (E : Sym) : Prop where
  det : ∀ {o vals w v K}, (∀ w1, S w1 → ∀ ρ : Operand → Value, (opnds o.op).map ρ = vals → (execOp ρ o).run P w1 = .ok (.value v) w1) → K v w → E.stop o vals w K
section
variable {P : Program} {Pn : List PanicEntry → World → Prop} {n : Nat}
theorem ePh1_soundW {S : World → Prop} {w : World} {all : List Oper} (hs : Region.noSelect all.toArray = true) (hd : ∀ o ∈ all, ∀ t, o.dst = some t → t < n) {K : Exit → Fr → World → Prop} {w0 : World} (hS : S w0) (l2 : List (Nat × Bool)) (K1 : Fr → World → Prop) : ∀ (l : List Nat) (listed : Array Bool) (F : Fr) (a : Act), Kn n F a → planB1 all.toArray l l2 listed = true → ePh1 (wreal S P) all l F w K1 →
    (∀ F a listed, Kn n F a → planB2 all.toArray l2 listed = true → K1 F w → wpAnyH P .any all.toArray (QK Pn n K) S l2.length listed a w0) → wpAnyH P .any all.toArray (QK Pn n K) S (l.length + l2.length) listed a w0
  | [], listed, F, a, hk, hB, h, h2 => by simpa using h2 F a listed hk hB h
  | k :: l, listed, F, a, hk, hB, h, h2 => by
    simp only [planB1, Bool.and_eq_true] at hB
    obtain ⟨⟨hf, hr⟩, hB⟩ := hB
    simp only [ePh1] at h
    split at h
    · exact h.elim
    · rename_i o ho
      obtain ⟨v, F', hy, hk', h⟩ := step_yields (P := P) (n := n) (S := S) (E' := wreal S P) (fun _ _ => rfl) (fun _ _ _ ⟨v, h1, h2⟩ => ⟨v, fun w1 hw1 => h1 w1 hw1, h2⟩) (hd o (List.mem_of_getElem? ho)) hk h
      have := wpAnyH_take (by simpa using ho) hs hf hr panic_put hy hS (ePh1_soundW hs hd hS l2 K1 l _ F' _ hk' hB h h2)
      simpa [Nat.add_right_comm] using this
theorem draw_w (R : Option Addr) (l1 : List Nat) (l2 : List (Nat × Bool)) {E : Sym} (hE : E = real P Pn n) {id : Nat} {ops : Array Oper} {F : Fr} {w : World} {K : Exit → Fr → World → Prop} (hm : P.follows .mixedOrders = true) (hB : planB ops l1 l2 = true)
    (h : ∀ E', EngW (Wr R w) P E' → ∀ w0, Same w w0 → ePh1 E' ops.toList l1 F w0 (fun F' w' => ePh2 E (Wr R w) ops.toList l2 F' w' (K .normal))) : E.draw id ops F w K := by
  subst hE
  intro hd a hk
  simp only [planB, Bool.and_eq_true, Nat.beq_eq] at hB
  obtain ⟨⟨hs, hl⟩, hB⟩ := hB
  have hs' : Region.noSelect ops.toList.toArray = true := by simpa using hs
  have h0 : Wr R w { w with drawn := w.drawn + 1 } := (Same.drew w).ext.wr R
  refine wp_region_held (S := Wr R w) hm ?_
  have := ePh1_soundW (Pn := Pn) (K := K) (n := n) (S := Wr R w) (w := { w with drawn := w.drawn + 1 }) hs' (okDst_ops hd) h0 l2 _ l1 (Array.replicate ops.size false) F a hk (by simpa using hB) (h (wreal (Wr R w) P) ⟨fun {_ _ _ v _} h hk => ⟨v, h, hk⟩⟩ _ (Same.drew w))
    (fun F a listed hk hB h => ePh2_sound hs' (okDst_ops hd) l2 listed F a _ h0 hk hB h)
  rw [hl] at this
  simpa using this
section
variable {S : World → Prop} {E : Sym} {w : World} {K : Value → World → Prop} {d : Option Tmp} {ty : TypeId} {pos : String} {aft : Array Edge} {g : Option (Nat × Bool)}
theorem sw_fld (hE : EngW S P E) {t : TypeId} {i off : Nat} (ht : Fld P t i off) {a : Addr} {x : Operand} (hk : ∀ p, p = a.add off → K (.pointer (some p)) w) : E.stop ⟨d, .fieldAddr t x i, ty, pos, aft, g⟩ [.pointer (some a)] w K := by
  obtain ⟨dd, h1, h2⟩ := Option.bind_eq_some_iff.1 ht.e
  split at h2
  · rename_i fs
    obtain ⟨f, h3, h4⟩ := Option.bind_eq_some_iff.1 h2
    obtain ⟨j, h5, h6⟩ := Option.map_eq_some_iff.1 h4
    simp only [Prod.mk.injEq] at h6
    obtain ⟨rfl, h7⟩ := h6
    have h7 : ¬ j.size = 0 := by intro e; rw [e] at h7; simp at h7
    refine hE.det (v := .pointer (some (a.add f.offset))) (fun w1 _ ρ hρ => ?_) (hk _ rfl)
    simp only [opnds, List.map_cons, List.map_nil, List.cons.injEq, and_true] at hρ
    simp [execOp, hρ, Instr.fieldAt, underlying, h1, h3, Instr.sureAddr, fieldPlace, sizeOf, typeInfo, h5, h7]
  · cases h2
theorem sw_load (hE : EngW S P E) {t : TypeId} (ht : Cel P t) {p : Addr} {v : Value} {x : Operand} (hc : ∀ w1, S w1 → w1.cell? p = some v) (hk : K v w) : E.stop ⟨d, .load t x, ty, pos, aft, g⟩ [.pointer (some p)] w K := by
  obtain ⟨d0, hu, h1, h2⟩ := ht.a
  refine hE.det (v := v) (fun w1 hs ρ hρ => ?_) hk
  simp only [opnds, List.map_cons, List.map_nil, List.cons.injEq, and_true] at hρ
  have hc' : w1.cell? p = some v := hc w1 hs
  have : (isAgg t).run P w1 = .ok false w1 := by
    simp only [isAgg, underlying, Sem.run_bind, run_program, Result.andThen_ok, hu, Sem.run_pure]
  simp [execOp, hρ, Instr.loadAt, Instr.sureAddr, loadVar, this, hc']
theorem sw_idx (hE : EngW S P E) {t e : TypeId} {z : Value} {k b : Nat} (ht : Slc P t e z k b) {a : Addr} {A : Option Addr} {m c : Nat} {ik : IntKind} {i : Int} {x y : Operand}
    (hA : A = some a) (h0 : 0 ≤ i) (h1 : i < m) (hk : ∀ p, p = a.add (i.toNat * k) → K (.pointer (some p)) w) : E.stop ⟨d, .indexAddr t x y, ty, pos, aft, g⟩ [.slice A m c, .int ik i] w K := by
  obtain ⟨i0, hi, _, hs, _⟩ := ht.info
  refine hE.det (v := .pointer (some (a.add (i.toNat * k)))) (fun w1 _ ρ hρ => ?_) (hk _ rfl)
  simp only [opnds, List.map_cons, List.map_nil, List.cons.injEq, and_true] at hρ
  subst hA
  simp [execOp, hρ.1, hρ.2, Instr.indexAt, asIntOf, underlying, ht.u, h0, h1, sizeOf, typeInfo, hi, hs]
theorem sw_cat (hE : EngW S P E) {t t' : TypeId} {a b : ByteArray} {x y : Operand} (hb : a.size + b.size ≤ 9223372036854775807) (hk : ∀ s : ByteArray, s = a ++ b → K (.string s) w) : E.stop ⟨d, .binOp .add t x y t', ty, pos, aft, g⟩ [.string a, .string b] w K := by
  refine hE.det (v := .string (a ++ b)) (fun w1 _ ρ hρ => ?_) (hk _ rfl)
  simp only [opnds, List.map_cons, List.map_nil, List.cons.injEq, and_true] at hρ
  have h1 : ¬ (((a.size + b.size : Nat) : Int) > IntKind.i64.max) := by
    have : IntKind.i64.max = 9223372036854775807 := by decide
    omega
  have h2 : (Op.stringOp .add a b).run P w1 = .ok (.string (a ++ b)) w1 := by
    simp only [Op.stringOp]; rw [if_neg h1]; rfl
  simp only [execOp, hρ.1, hρ.2, eqGuard, binOp, Sem.run_bind]
  simp [h2]
end
end
end Go.Eng
/- A region that draws its order: reads that stand whatever happens under S. No condition. -/
namespace Go.Eng
set_option linter.unusedVariables false
set_option linter.unusedSimpArgs false
section
variable {P : Program} {Pn : List PanicEntry → World → Prop} {n : Nat}
theorem draw_s (S : World → Prop) (l1 : List Nat) (l2 : List (Nat × Bool)) {E : Sym} (hE : E = real P Pn n) {id : Nat} {ops : Array Oper} {F : Fr} {w : World} {K : Exit → Fr → World → Prop} (hm : P.follows .mixedOrders = true) (hB : planB ops l1 l2 = true) (hS : ∀ w0, Same w w0 → S w0)
    (h : ∀ E', EngW S P E' → ∀ w0, Same w w0 → ePh1 E' ops.toList l1 F w0 (fun F' w' => ePh2 E S ops.toList l2 F' w' (K .normal))) : E.draw id ops F w K := by
  subst hE
  intro hd a hk
  simp only [planB, Bool.and_eq_true, Nat.beq_eq] at hB
  obtain ⟨⟨hs, hl⟩, hB⟩ := hB
  have hs' : Region.noSelect ops.toList.toArray = true := by simpa using hs
  have h0 : S { w with drawn := w.drawn + 1 } := hS _ (Same.drew w)
  refine wp_region_held (S := S) hm ?_
  have := ePh1_soundW (Pn := Pn) (K := K) (n := n) (S := S) (w := { w with drawn := w.drawn + 1 }) hs' (okDst_ops hd) h0 l2 _ l1 (Array.replicate ops.size false) F a hk (by simpa using hB) (h (wreal S P) ⟨fun {_ _ _ v _} h hk => ⟨v, h, hk⟩⟩ _ (Same.drew w))
    (fun F a listed hk hB h => ePh2_sound hs' (okDst_ops hd) l2 listed F a _ h0 hk hB h)
  rw [hl] at this
  simpa using this
variable {S : World → Prop} {E : Sym} {w : World} {K : Value → World → Prop} {d : Option Tmp} {ty : TypeId} {pos : String} {aft : Array Edge} {g : Option (Nat × Bool)}
theorem sw_loadS (hE : EngW S P E) {t : TypeId} {k : Nat} {zs vs : List Value} (ht : Stc P t k zs) (hl : vs.length = k) {p : Addr} {x : Operand} (hc : ∀ w1, S w1 → ∀ j v, vs[j]? = some v → w1.cell? (p.add j) = some v) (hk : K (.agg ⟨vs⟩) w) : E.stop ⟨d, .load t x, ty, pos, aft, g⟩ [.pointer (some p)] w K := by
  refine hE.det (v := .agg ⟨vs⟩) (fun w1 hs ρ hρ => ?_) hk
  simp only [opnds, List.map_cons, List.map_nil, List.cons.injEq, and_true] at hρ
  have := run_loadVar_agg ht hl (p := p) (w := w1) fun j v hv => hc w1 hs j v hv
  simp [execOp, hρ, Instr.loadAt, Instr.sureAddr, this]
theorem sw_mk (hE : EngW S P E) {t : TypeId} (ht : ∃ u, P.underlying t = some u ∧ ∀ ms, u ≠ .interface ms) {x : Operand} {v : Value} (hk : K (.iface t v) w) : E.stop ⟨d, .makeInterface t x, ty, pos, aft, g⟩ [v] w K := by
  obtain ⟨u, hu, hn⟩ := ht
  refine hE.det (v := .iface t v) (fun w1 _ ρ hρ => ?_) hk
  simp only [opnds, List.map_cons, List.map_nil, List.cons.injEq, and_true] at hρ
  cases u <;> simp [execOp, hρ, Instr.makeInterface, run_underlying hu] <;> exact absurd rfl (hn _)
end
end Go.Eng
/- Which tree is which: the assertions of the program (printed by gen_t13.py). -/
namespace Go.Proofs.YtmbonalhbibppaaDoor
open Go.Eng
set_option linter.unusedVariables false
theorem tCoT : Stc Tryd.prog 276 5 [.int .i64 0, .int .i64 0, .string ⟨#[]⟩, .slice none 0 0, .int .i64 0] := ⟨by kernel_rfl, by kernel_rfl⟩
theorem taCoCo (k n at_ : Int) (tx : ByteArray) (A : Option Addr) (m c : Nat) (w : World) : (Instr.typeAssert (.iface 276 (.agg ⟨[.int .i64 k, .int .i64 n, .string tx, .slice A m c, .int .i64 at_]⟩)) 128 276 true).run Tryd.prog w = .ok (.tuple ⟨[.agg ⟨[.int .i64 k, .int .i64 n, .string tx, .slice A m c, .int .i64 at_]⟩, .bool true]⟩) w := by kernel_rfl
theorem tNaT : Stc Tryd.prog 274 2 [.string ⟨#[]⟩, .int .i64 0] := ⟨by kernel_rfl, by kernel_rfl⟩
theorem taNaCo (tx : ByteArray) (at_ : Int) (w : World) : (Instr.typeAssert (.iface 274 (.agg ⟨[.string tx, .int .i64 at_]⟩)) 128 276 true).run Tryd.prog w = .ok (.tuple ⟨[.agg ⟨[.int .i64 0, .int .i64 0, .string ⟨#[]⟩, .slice none 0 0, .int .i64 0]⟩, .bool false]⟩) w := by kernel_rfl
theorem taNaNa (tx : ByteArray) (at_ : Int) (w : World) : (Instr.typeAssert (.iface 274 (.agg ⟨[.string tx, .int .i64 at_]⟩)) 128 274 true).run Tryd.prog w = .ok (.tuple ⟨[.agg ⟨[.string tx, .int .i64 at_]⟩, .bool true]⟩) w := by kernel_rfl
theorem tAtT : Stc Tryd.prog 251 1 [.int .i64 0] := ⟨by kernel_rfl, by kernel_rfl⟩
theorem taAtCo (n : Int) (w : World) : (Instr.typeAssert (.iface 251 (.agg ⟨[.int .i64 n]⟩)) 128 276 true).run Tryd.prog w = .ok (.tuple ⟨[.agg ⟨[.int .i64 0, .int .i64 0, .string ⟨#[]⟩, .slice none 0 0, .int .i64 0]⟩, .bool false]⟩) w := by kernel_rfl
theorem taAtNa (n : Int) (w : World) : (Instr.typeAssert (.iface 251 (.agg ⟨[.int .i64 n]⟩)) 128 274 true).run Tryd.prog w = .ok (.tuple ⟨[.agg ⟨[.string ⟨#[]⟩, .int .i64 0]⟩, .bool false]⟩) w := by kernel_rfl
theorem taAtAt (n : Int) (w : World) : (Instr.typeAssert (.iface 251 (.agg ⟨[.int .i64 n]⟩)) 128 251 true).run Tryd.prog w = .ok (.tuple ⟨[.agg ⟨[.int .i64 n]⟩, .bool true]⟩) w := by kernel_rfl
theorem tLtT : Stc Tryd.prog 255 1 [.int .i64 0] := ⟨by kernel_rfl, by kernel_rfl⟩
theorem taLtCo (n : Int) (w : World) : (Instr.typeAssert (.iface 255 (.agg ⟨[.int .i64 n]⟩)) 128 276 true).run Tryd.prog w = .ok (.tuple ⟨[.agg ⟨[.int .i64 0, .int .i64 0, .string ⟨#[]⟩, .slice none 0 0, .int .i64 0]⟩, .bool false]⟩) w := by kernel_rfl
theorem taLtNa (n : Int) (w : World) : (Instr.typeAssert (.iface 255 (.agg ⟨[.int .i64 n]⟩)) 128 274 true).run Tryd.prog w = .ok (.tuple ⟨[.agg ⟨[.string ⟨#[]⟩, .int .i64 0]⟩, .bool false]⟩) w := by kernel_rfl
theorem taLtAt (n : Int) (w : World) : (Instr.typeAssert (.iface 255 (.agg ⟨[.int .i64 n]⟩)) 128 251 true).run Tryd.prog w = .ok (.tuple ⟨[.agg ⟨[.int .i64 0]⟩, .bool false]⟩) w := by kernel_rfl
theorem taLtLt (n : Int) (w : World) : (Instr.typeAssert (.iface 255 (.agg ⟨[.int .i64 n]⟩)) 128 255 true).run Tryd.prog w = .ok (.tuple ⟨[.agg ⟨[.int .i64 n]⟩, .bool true]⟩) w := by kernel_rfl
theorem tOpT : Stc Tryd.prog 191 3 [.int .i64 0, .slice none 0 0, .int .i64 0] := ⟨by kernel_rfl, by kernel_rfl⟩
theorem taOpCo (o at_ : Int) (A : Option Addr) (m c : Nat) (w : World) : (Instr.typeAssert (.iface 191 (.agg ⟨[.int .i64 o, .slice A m c, .int .i64 at_]⟩)) 128 276 true).run Tryd.prog w = .ok (.tuple ⟨[.agg ⟨[.int .i64 0, .int .i64 0, .string ⟨#[]⟩, .slice none 0 0, .int .i64 0]⟩, .bool false]⟩) w := by kernel_rfl
theorem taOpNa (o at_ : Int) (A : Option Addr) (m c : Nat) (w : World) : (Instr.typeAssert (.iface 191 (.agg ⟨[.int .i64 o, .slice A m c, .int .i64 at_]⟩)) 128 274 true).run Tryd.prog w = .ok (.tuple ⟨[.agg ⟨[.string ⟨#[]⟩, .int .i64 0]⟩, .bool false]⟩) w := by kernel_rfl
theorem taOpAt (o at_ : Int) (A : Option Addr) (m c : Nat) (w : World) : (Instr.typeAssert (.iface 191 (.agg ⟨[.int .i64 o, .slice A m c, .int .i64 at_]⟩)) 128 251 true).run Tryd.prog w = .ok (.tuple ⟨[.agg ⟨[.int .i64 0]⟩, .bool false]⟩) w := by kernel_rfl
theorem taOpLt (o at_ : Int) (A : Option Addr) (m c : Nat) (w : World) : (Instr.typeAssert (.iface 191 (.agg ⟨[.int .i64 o, .slice A m c, .int .i64 at_]⟩)) 128 255 true).run Tryd.prog w = .ok (.tuple ⟨[.agg ⟨[.int .i64 0]⟩, .bool false]⟩) w := by kernel_rfl
theorem taOpOp (o at_ : Int) (A : Option Addr) (m c : Nat) (w : World) : (Instr.typeAssert (.iface 191 (.agg ⟨[.int .i64 o, .slice A m c, .int .i64 at_]⟩)) 128 191 true).run Tryd.prog w = .ok (.tuple ⟨[.agg ⟨[.int .i64 o, .slice A m c, .int .i64 at_]⟩, .bool true]⟩) w := by kernel_rfl
end Go.Proofs.YtmbonalhbibppaaDoor
/- The program's checker.check of attributes, lets, constants and names walked. -/
namespace Go.Proofs.YtmbonalhbibppaaDoor
open Go.Eng
set_option linter.unusedVariables false
set_option linter.unusedSimpArgs false
theorem fAtT0 : Fld Tryd.prog 251 0 0 := ⟨by kernel_rfl⟩
theorem fLtT0 : Fld Tryd.prog 255 0 0 := ⟨by kernel_rfl⟩
theorem fNaT0 : Fld Tryd.prog 274 0 0 := ⟨by kernel_rfl⟩
theorem fCoT0 : Fld Tryd.prog 276 0 0 := ⟨by kernel_rfl⟩
theorem fVal0 : Fld Tryd.prog 153 0 0 := ⟨by kernel_rfl⟩
theorem sw_nil {P : Program} {S : World → Prop} {E : Sym} {w : World} {K : Value → World → Prop} {d : Option Tmp} {ty : TypeId} {pos : String} {aft : Array Edge} {g : Option (Nat × Bool)} (hE : EngW S P E) {a : Addr} {x : Operand} (hk : K (.pointer (some a)) w) : E.stop ⟨d, .nilCheck x, ty, pos, aft, g⟩ [.pointer (some a)] w K := by
  refine hE.det (v := .pointer (some a)) (fun w1 _ ρ hρ => ?_) hk
  simp only [opnds, List.map_cons, List.map_nil, List.cons.injEq, and_true] at hρ
  simp [execOp, hρ]
/-- Where a tree of the checker may lie. -/
def DN (D : Nat → Prop) (w w' : World) (A' : Option Addr) (b : Nat) : Prop := D b ∨ (w.heap.size ≤ b ∧ b < w'.heap.size ∧ blk A' ≠ some b)
/-- What check gives. -/
def CkR (w0s ws : Nat) (q : Addr) (bm : Nat) (names : List ByteArray) (tys : List Int) (TA : Option Addr) (tn tc : Nat) (w : World) (A : Option Addr) (D : Nat → Prop) (acc' : List Int) (code ty : Int) (t' : Tr) (r : Value) (w' : World) : Prop :=
  ∃ A' na' c' v' e, r = .tuple ⟨[v', .int .i64 ty, e]⟩ ∧ Gr2 w q A w' A' ∧ KC w0s ws w' q bm (fN names) tys acc' TA A' tn tc na' c' ∧ (code = 0 → e = .nilIface ∧ TreeV (DN D w w' A') w' t' v') ∧ (code ≠ 0 → e = misV code na' ∧ v' = .nilIface)
section
variable {w0s ws : Nat} {w : World} {q : Addr} {bm : Nat} {names : List ByteArray} {tys acc : List Int} {TA A : Option Addr} {tn tc na c : Nat}
/-- A box that has come since stands while the checker writes. -/
theorem fresh_at (hb : KB w0s ws q bm) {f : List (ByteArray × Value)} (hK : KC w0s ws w q bm f tys acc TA A tn tc na c) {w2 : World} {x : Addr} {e : TypeId} {k : Nat} {xs : List Value} (hx : Box w.heap.size e k w2 x xs) : ∀ w1, (∃ A1, Gr2 w2 q A w1 A1) → ∀ j v, xs[j]? = some v → w1.cell? (x.add j) = some v := fun w1 ⟨A1, hg⟩ => by
  have fx := bx_form hx
  refine (hg.own hx (by rw [fx.2.2]; intro e; have := Option.some.inj e; have := hb.hq; have := hK.hs; omega) (.inr ?_)).at
  rw [fx.2.2]
  intro e
  have := (own_blk hK.rA _ e.symm).2
  omega
set_option maxHeartbeats 4000000 in
theorem check_att (hb : KB w0s ws q bm) (hK : KC w0s ws w q bm (fN names) tys acc TA A tn tc na c) (hna : na ≤ 4000) {n : Int} (hn : 0 ≤ n ∧ n < 6) (D : Nat → Prop) :
    GC Tryd.prog 159 [.pointer (some q), atV n] w (CkR w0s ws q bm names tys TA tn tc w A D (acc ++ [attrF n]) 0 (attrF n) (.att n)) := by
  refine GC.intro (cs := []) Tryd.func159 (by kernel_rfl) fun E R hE hr hR => ?_
  obtain ⟨k, hk⟩ : ∃ k : Nat, k = n.toNat := ⟨_, rfl⟩
  conv => cbv
  refine st_ta hE (taAtCo n) ?_
  conv => cbv
  refine st_ta hE (taAtNa n) ?_
  conv => cbv
  refine st_ta hE (taAtAt n) ?_
  conv => cbv
  refine st_alloc hr tAtT rfl fun q11 w1 hx1 hq0 => ?_
  conv => cbv
  refine st_putS hr (by kernel_rfl) (hq0 _ (Nat.le_refl _)) (add_zero _).symm (by simp) (by simp [Value.oneCell']) fun w2 hw2 hq11 => ?_
  simp only [List.take_zero, List.nil_append, List.length_cons, List.length_nil, List.drop_succ_cons, List.drop_nil, List.append_nil] at hq11
  have hx2 := hx1.then (hw2.bel (hq0 _ (Nat.le_refl _)) hx1.size)
  clear hq0 hw2 hx1
  have hst := fresh_at hb hK hq11
  conv => cbv
  refine draw_s (fun w1 => ∃ A1, Gr2 w2 q A w1 A1) [0, 1, 2, 4, 5] [(3, false), (6, false), (7, false), (8, false), (9, false), (10, true), (11, true), (12, true)] hr fol (by kernel_rfl) (fun w0 h => ⟨A, ext_gr2 h.ext _ _⟩) fun E' hE' w3 hs3 => ?_
  have g3 := ext_gr2 hs3.ext q A
  conv => cbv
  refine sw_loadS hE' tAtT rfl hst ?_
  conv => cbv
  refine sw_mk hE' uAtT ?_
  conv => cbv
  (refine sw_fld hE' fAtT0 fun p hp => ?_; (conv => cbv); refine sw_load hE' cInt (fun w1 hw1 => by rw [hp]; exact hst w1 hw1 _ _ rfl) ?_; clear hp; (conv => cbv))
  refine st_f hr (attributes_f w3) fun v w4 hx4 ⟨a, ev, hA⟩ => ?_
  subst ev
  have g4 := g3.trans (ext_gr2 hx4 q A)
  refine ⟨⟨A, g4⟩, ?_⟩
  obtain ⟨f, hf⟩ := arT_at (i := k) (by omega)
  obtain ⟨a', ha', hcell⟩ := fl_at aC_len hA.cells (by omega) hf
  cases ha'
  obtain ⟨af, haf⟩ : ∃ af, af = attrF n := ⟨_, rfl⟩
  rw [show ((k : Nat) : Int) = n by omega, ← haf] at hcell
  conv => cbv
  refine st_idx hE sAr rfl (by omega) (by omega) fun p hp => ?_
  rw [← hk] at hp
  refine ⟨⟨A, g4⟩, ?_⟩
  conv => cbv
  refine st_fld hE fAr1 fun p2 hp2 => ?_
  refine ⟨⟨A, g4⟩, ?_⟩
  conv => cbv
  refine st_load hE cInt (by rw [hp2, hp]; exact hcell 1 _ rfl) ?_
  refine ⟨⟨A, g4⟩, ?_⟩
  have hK4 := ((hK.ext hx2).ext hs3.ext).ext hx4
  conv => cbv
  refine st_g hr (put_g hb hK4 hna af) fun u w5 ⟨ev, A', c', hg5, hK5⟩ => ?_
  subst ev
  refine ⟨⟨A', g4.trans hg5⟩, ?_⟩
  conv => cbv
  rw [hR, ← haf]
  refine ⟨A', na + 1, c', atV n, .nilIface, rfl, ((ext_gr2 hx2 q A).trans g4).trans hg5, hK5, fun _ => ⟨rfl, ?_⟩, fun q => absurd rfl q⟩
  simp only [TreeV]; rfl
set_option maxHeartbeats 4000000 in
theorem check_lt (hb : KB w0s ws q bm) (hK : KC w0s ws w q bm (fN names) tys acc TA A tn tc na c) (hna : na ≤ 4000) {n : Int} (hn : 0 ≤ n ∧ n < tys.length) (D : Nat → Prop) :
    GC Tryd.prog 159 [.pointer (some q), ltV n] w (CkR w0s ws q bm names tys TA tn tc w A D (acc ++ [tys.getD n.toNat 0]) 0 (tys.getD n.toNat 0) (.lt n)) := by
  refine GC.intro (cs := []) Tryd.func159 (by kernel_rfl) fun E R hE hr hR => ?_
  obtain ⟨k, hk⟩ : ∃ k : Nat, k = n.toNat := ⟨_, rfl⟩
  obtain ⟨hl1, _⟩ := hK.len
  obtain ⟨af, haf⟩ : ∃ af, af = tys.getD n.toNat 0 := ⟨_, rfl⟩
  rw [← haf] at hR
  conv => cbv
  refine st_ta hE (taLtCo n) ?_
  conv => cbv
  refine st_ta hE (taLtNa n) ?_
  conv => cbv
  refine st_ta hE (taLtAt n) ?_
  conv => cbv
  refine st_ta hE (taLtLt n) ?_
  conv => cbv
  refine st_alloc hr tLtT rfl fun q11 w1 hx1 hq0 => ?_
  conv => cbv
  refine st_putS hr (by kernel_rfl) (hq0 _ (Nat.le_refl _)) (add_zero _).symm (by simp) (by simp [Value.oneCell']) fun w2 hw2 hq11 => ?_
  simp only [List.take_zero, List.nil_append, List.length_cons, List.length_nil, List.drop_succ_cons, List.drop_nil, List.append_nil] at hq11
  have hx2 := hx1.then (hw2.bel (hq0 _ (Nat.le_refl _)) hx1.size)
  clear hq0 hw2 hx1
  have hst := fresh_at hb hK hq11
  conv => cbv
  refine draw_s (fun w1 => ∃ A1, Gr2 w2 q A w1 A1) [0, 1, 2, 3, 4, 7, 8] [(5, false), (6, false), (9, false), (10, false), (11, false), (12, true), (13, true), (14, true)] hr fol (by kernel_rfl) (fun w0 h => ⟨A, ext_gr2 h.ext _ _⟩) fun E' hE' w3 hs3 => ?_
  have g3 := ext_gr2 hs3.ext q A
  have hK3 := (hK.ext hx2).ext hs3.ext
  conv => cbv
  refine sw_loadS hE' tLtT rfl hst ?_
  conv => cbv
  refine sw_mk hE' uLtT ?_
  conv => cbv
  refine sw_nil hE' ?_
  conv => cbv
  (refine sw_fld hE' fLtT0 fun p hp => ?_; (conv => cbv); refine sw_load hE' cInt (fun w1 hw1 => by rw [hp]; exact hst w1 hw1 _ _ rfl) ?_; clear hp; (conv => cbv))
  refine st_fld hE fCk0 fun p hp => ?_
  refine ⟨⟨A, g3⟩, ?_⟩
  conv => cbv
  refine st_load hE cInts (by rw [hp]; exact hK3.box.at 0 _ rfl) ?_
  refine ⟨⟨A, g3⟩, ?_⟩
  conv => cbv
  refine st_int hE tInts (Own.ints hK3.rT) (k := k) (by omega) (by omega) fun p2 u hu hp2 => ?_
  have hua : u = af := by rw [haf, ← hk, List.getD_eq_getElem?_getD, hu]; rfl
  subst hua
  refine ⟨⟨A, g3⟩, ?_⟩
  conv => cbv
  refine st_load hE cInt hp2 ?_
  refine ⟨⟨A, g3⟩, ?_⟩
  conv => cbv
  refine st_g hr (put_g hb hK3 hna u) fun z w5 ⟨ev, A', c', hg5, hK5⟩ => ?_
  subst ev
  refine ⟨⟨A', g3.trans hg5⟩, ?_⟩
  conv => cbv
  rw [hR]
  refine ⟨A', na + 1, c', ltV n, .nilIface, rfl, ((ext_gr2 hx2 q A).trans g3).trans hg5, hK5, fun _ => ⟨rfl, ?_⟩, fun q => absurd rfl q⟩
  simp only [TreeV]; rfl
set_option maxHeartbeats 4000000 in
theorem check_con (hb : KB w0s ws q bm) (hK : KC w0s ws w q bm (fN names) tys acc TA A tn tc na c) (hna : na ≤ 4000) {k n at_ : Int} {tx : ByteArray} {xs : List ByteArray} {v : Value} {D : Nat → Prop} (hv : TreeV D w (.con k n tx xs at_) v) (hD : ∀ b, D b → b < w.heap.size ∧ b ≠ q.block ∧ blk A ≠ some b) :
    GC Tryd.prog 159 [.pointer (some q), v] w (CkR w0s ws q bm names tys TA tn tc w A D (acc ++ [k]) 0 k (.con k n tx xs at_)) := by
  refine GC.intro (cs := []) Tryd.func159 (by kernel_rfl) fun E R hE hr hR => ?_
  have hv0 := hv
  simp only [TreeV] at hv
  obtain ⟨A0, m0, c0, rfl, _⟩ := hv
  conv => cbv
  refine st_ta hE (taCoCo k n at_ tx A0 m0 c0) ?_
  conv => cbv
  refine st_alloc hr tCoT rfl fun q11 w1 hx1 hq0 => ?_
  conv => cbv
  refine st_putS hr (by kernel_rfl) (hq0 _ (Nat.le_refl _)) (add_zero _).symm (by simp) (by simp [Value.oneCell']) fun w2 hw2 hq11 => ?_
  simp only [List.take_zero, List.nil_append, List.length_cons, List.length_nil, List.drop_succ_cons, List.drop_nil, List.append_nil] at hq11
  have hx2 := hx1.then (hw2.bel (hq0 _ (Nat.le_refl _)) hx1.size)
  clear hq0 hw2 hx1
  have hst := fresh_at hb hK hq11
  conv => cbv
  refine draw_s (fun w1 => ∃ A1, Gr2 w2 q A w1 A1) [0, 1, 2, 3, 4, 5] [(6, false), (7, true), (8, true), (9, true)] hr fol (by kernel_rfl) (fun w0 h => ⟨A, ext_gr2 h.ext _ _⟩) fun E' hE' w3 hs3 => ?_
  have g3 := ext_gr2 hs3.ext q A
  have hK3 := (hK.ext hx2).ext hs3.ext
  conv => cbv
  refine sw_loadS hE' tCoT rfl hst ?_
  conv => cbv
  refine sw_mk hE' uCoT ?_
  conv => cbv
  refine sw_fld hE' fCoT0 fun p hp => ?_
  conv => cbv
  refine sw_fld hE' fVal0 fun p2 hp2 => ?_
  conv => cbv
  refine sw_load hE' cInt (fun w1 hw1 => by rw [hp2, hp, add_add]; exact hst w1 hw1 _ _ rfl) ?_
  conv => cbv
  refine st_g hr (put_g hb hK3 hna k) fun z w5 ⟨ev, A', c', hg5, hK5⟩ => ?_
  subst ev
  refine ⟨⟨A', g3.trans hg5⟩, ?_⟩
  conv => cbv
  rw [hR]
  have hg := ((ext_gr2 hx2 q A).trans g3).trans hg5
  refine ⟨A', na + 1, c', _, .nilIface, rfl, hg, hK5, fun _ => ⟨rfl, ?_⟩, fun q => absurd rfl q⟩
  exact TreeV.keep (fun b hb => hg.block b (hD b hb).1 (hD b hb).2.1 (Ne.symm (hD b hb).2.2)) (fun b hb => .inl hb) _ _ hv0
set_option maxHeartbeats 4000000 in
theorem check_nam (hb : KB w0s ws q bm) (hK : KC w0s ws w q bm (fN names) tys acc TA A tn tc na c) (hnt : names.length = tys.length) (hna : na ≤ 4000) {at_ : Int} {tx : ByteArray} (D : Nat → Prop) :
    GC Tryd.prog 159 [.pointer (some q), .iface 274 (.agg ⟨[.string tx, .int .i64 at_]⟩)] w (CkR w0s ws q bm names tys TA tn tc w A D (chk names tys (.nam tx at_) acc).1 (chk names tys (.nam tx at_) acc).2.1 (chk names tys (.nam tx at_) acc).2.2 (resT names (.nam tx at_))) := by
  refine GC.intro (cs := []) Tryd.func159 (by kernel_rfl) fun E R hE hr hR => ?_
  obtain ⟨W, hW⟩ : ∃ W, W = chk names tys (.nam tx at_) acc := ⟨_, rfl⟩
  rw [← hW] at hR
  rw [chk, tyNam] at hW
  have hget := fN_get names tx
  conv => cbv
  refine st_ta hE (taNaCo tx at_) ?_
  conv => cbv
  refine st_ta hE (taNaNa tx at_) ?_
  conv => cbv
  refine st_alloc hr tNaT rfl fun q11 w1 hx1 hq0 => ?_
  conv => cbv
  refine st_putS hr (by kernel_rfl) (hq0 _ (Nat.le_refl _)) (add_zero _).symm (by simp) (by simp [Value.oneCell']) fun w2 hw2 hq11 => ?_
  simp only [List.take_zero, List.nil_append, List.length_cons, List.length_nil, List.drop_succ_cons, List.drop_nil, List.append_nil] at hq11
  have hx2 := hx1.then (hw2.bel (hq0 _ (Nat.le_refl _)) hx1.size)
  have hK2 := hK.ext hx2
  clear hq0 hw2 hx1
  obtain ⟨G, hG⟩ : ∃ G, G = mget (fN names) tx := ⟨_, rfl⟩
  conv => cbv
  refine draw_q hr fol (by kernel_rfl) fun E' hE' => ?_
  conv => cbv
  refine st_nil hE' ?_
  conv => cbv
  refine st_fld hE' fCk1 fun p hp => ?_
  conv => cbv
  refine st_load hE' cMp (by rw [hp]; exact hK2.box.at 1 _ rfl) ?_
  conv => cbv
  refine st_fld hE' fNaT0 fun p2 hp2 => ?_
  conv => cbv
  refine st_load hE' cStr (by rw [hp2]; exact hq11.at 0 _ rfl) ?_
  conv => cbv
  refine st_imgot hE' uMp uStr (by kernel_rfl) hK2.map ?_
  rw [← hG]
  rw [← hG] at hget
  have up : ∀ {w3 w' : World} {A' : Option Addr} {t : Tr} {v : Value}, w.heap.size ≤ w3.heap.size → TreeV (DN D w3 w' A') w' t v → TreeV (DN D w w' A') w' t v := fun h ht => TreeV.keep (fun b _ => rfl) (fun b hb => by
    rcases hb with hb | hb
    · exact .inl hb
    · exact .inr ⟨by omega, hb.2⟩) _ _ ht
  have hres : resT names (.nam tx at_) = (resN names tx).getD (.nam tx at_) := by rw [resT]
  cases ha : posF attrs tx with
  | some k =>
    rw [ha] at hget hW
    simp only at hget hW
    have hk := (List.getElem?_eq_some_iff.1 (posF_lt ha)).1
    have hk6 : k < 6 := hk
    obtain ⟨kz, hkz⟩ : ∃ kz : Int, kz = (k : Int) := ⟨_, rfl⟩
    rw [← hkz] at hget hW
    subst hget
    have hW : W = (acc ++ [attrF kz], 0, attrF kz) := by rw [hW]; simp
    rw [hW] at hR
    simp only at hR
    have hr2 : resT names (.nam tx at_) = .att kz := by rw [hres, resN, ha, hkz]; rfl
    rw [hr2] at hR
    conv => cbv
    intro w3 hs3
    conv => cbv
    have h23 := hx2.trans hs3.ext
    refine st_g hr (check_att hb (hK.ext h23) hna (n := kz) (by omega) D) fun z w4 ⟨A', na', c', v', e, ev, hg, hK', hc0, hc1⟩ => ?_
    obtain ⟨tk, htk⟩ : ∃ tk, tk = attrF kz := ⟨_, rfl⟩
    rw [← htk] at ev hK' hR
    subst ev
    conv => cbv
    rw [hR]
    exact ⟨A', na', c', v', e, rfl, (ext_gr2 h23 q A).trans hg, hK', fun _ => ⟨(hc0 rfl).1, up h23.size (hc0 rfl).2⟩, fun q => absurd rfl q⟩
  | none =>
    rw [ha] at hget hW
    simp only at hget hW
    cases hn : posF names tx with
    | some k =>
      rw [hn] at hget hW
      simp only [Option.map_some] at hget hW
      have hk := (List.getElem?_eq_some_iff.1 (posF_lt hn)).1
      obtain ⟨kz, hkz⟩ : ∃ kz : Int, kz = (k : Int) := ⟨_, rfl⟩
      rw [← hkz] at hget
      subst hget
      have hW : W = (acc ++ [tys.getD k 0], 0, tys.getD k 0) := by rw [hW]; simp
      rw [hW] at hR
      simp only at hR
      have hr2 : resT names (.nam tx at_) = .lt kz := by rw [hres, resN, ha, hkz]; simp only; rw [hn]; rfl
      rw [hr2] at hR
      conv => cbv
      intro w3 hs3
      conv => cbv
      have h23 := hx2.trans hs3.ext
      have hcl := check_lt hb (hK.ext h23) hna (n := kz) (by omega) D
      rw [show kz.toNat = k by omega] at hcl
      refine st_g hr hcl fun z w4 ⟨A', na', c', v', e, ev, hg, hK', hc0, hc1⟩ => ?_
      obtain ⟨tk, htk⟩ : ∃ tk, tk = tys.getD k 0 := ⟨_, rfl⟩
      rw [← htk] at ev hK' hR
      subst ev
      conv => cbv
      rw [hR]
      exact ⟨A', na', c', v', e, rfl, (ext_gr2 h23 q A).trans hg, hK', fun _ => ⟨(hc0 rfl).1, up h23.size (hc0 rfl).2⟩, fun q => absurd rfl q⟩
    | none =>
      rw [hn] at hget hW
      simp only [Option.map_none] at hget hW
      subst hget
      have hW : W = (acc, 7, 0) := by rw [hW]; simp
      rw [hW] at hR
      simp only at hR
      conv => cbv
      intro w3 hs3
      conv => cbv
      have h23 := hx2.trans hs3.ext
      refine st_f hr (wrong_f (hK.ext h23) 7) fun z w4 hx4 ev => ?_
      subst ev
      conv => cbv
      rw [hR]
      exact ⟨A, na, c, .nilIface, _, rfl, ext_gr2 (h23.trans hx4) q A, hK.ext (h23.trans hx4), (fun q => absurd q (by omega)), fun _ => ⟨rfl, rfl⟩⟩
end
end Go.Proofs.YtmbonalhbibppaaDoor
/- The program's checker.check of operators; of all trees. -/
namespace Go.Proofs.YtmbonalhbibppaaDoor
open Go.Eng
set_option linter.unusedVariables false
set_option linter.unusedSimpArgs false
mutual
/-- What check may be asked about. -/
def goodT (L : Nat) : Tr → Prop
  | .att n => 0 ≤ n ∧ n < 6
  | .lt n => 0 ≤ n ∧ n < L
  | .op o kids _ => (kids.length : Int) = kidsF o ∧ 1 ≤ kids.length ∧ goodTs L kids
  | _ => True
def goodTs (L : Nat) : List Tr → Prop
  | [] => True
  | t :: l => goodT L t ∧ goodTs L l
end
theorem goodTs_at {L : Nat} : ∀ {l : List Tr} {j : Nat} {t : Tr}, goodTs L l → l[j]? = some t → goodT L t
  | u :: l, 0, t, h, e => by simp at e; subst e; simp only [goodTs] at h; exact h.1
  | u :: l, j + 1, t, h, e => by simp only [goodTs] at h; exact goodTs_at h.2 (by simpa using e)
/-- Blocks of D, and those that have come since w0 but for these. -/
def DX (D : Nat → Prop) (w0 w : World) (ex : List (Option Nat)) (b : Nat) : Prop := D b ∨ (w0.heap.size ≤ b ∧ b < w.heap.size ∧ some b ∉ ex)
theorem dx_keep {D : Nat → Prop} {w0 w w' : World} {ex ex' : List (Option Nat)} {ts : List Tr} {vs : List Value} (h : TreesV (DX D w0 w ex) w ts vs) (hk : ∀ b, DX D w0 w ex b → w'.heap[b]? = w.heap[b]?) (hs : w.heap.size ≤ w'.heap.size) (hx : ∀ b, b < w.heap.size → some b ∉ ex → some b ∉ ex') : TreesV (DX D w0 w' ex') w' ts vs :=
  TreesV.of_get h.len fun i t v h1 h2 => TreeV.keep (fun b hb => hk b hb) (fun b hb => by
    rcases hb with hb | ⟨b1, b2, b3⟩
    · exact .inl hb
    · exact .inr ⟨b1, by omega, hx b b2 b3⟩) _ _ (h.get i t v h1 h2)
theorem resTs_len (names : List ByteArray) : ∀ l : List Tr, (resTs names l).length = l.length
  | [] => rfl
  | t :: l => by rw [resTs, List.length_cons, resTs_len names l]; rfl
theorem resTs_at (names : List ByteArray) : ∀ {l : List Tr} {j : Nat} {t : Tr}, l[j]? = some t → (resTs names l)[j]? = some (resT names t)
  | u :: l, 0, t, h => by simp at h; subst h; rw [resTs]; rfl
  | u :: l, j + 1, t, h => by rw [resTs]; simpa using resTs_at names (l := l) (by simpa using h)
theorem pos_drop : ∀ {l : List Tr} {j : Nat} {t : Tr}, l[j]? = some t → (pos (l.drop j)).length = (po t).length + (pos (l.drop (j + 1))).length
  | l, j, t, h => by rw [drop_cons h, pos, List.length_append]
/-- How many types come. -/
theorem chk_len (names : List ByteArray) (tys : List Int) (t : Tr) (acc : List Int) : (chk names tys t acc).1.length ≤ acc.length + (po t).length ∧ ((chk names tys t acc).2.1 = 0 → (chk names tys t acc).1.length = acc.length + (po t).length) := by
  obtain ⟨h1, h2, _⟩ := chk_walk names tys t acc
  obtain ⟨_, k2, k3, _⟩ := walkL_len names tys (po t) acc
  rw [h1, h2]
  exact ⟨k2, k3⟩
theorem at_apart {B' B2 : Nat} {e e' : TypeId} {k k' : Nat} {w w' : World} {A C X : Option Addr} {m2 c2 mx cx : Nat} {ys zs : List Value} (hX : Own B' e' k' w X mx cx zs) (ha : Apart A X ∧ Apart X A) (hat : blk C = blk A ∨ ∃ b, blk C = some b ∧ w.heap.size ≤ b) (hC : Own B2 e k w' C m2 c2 ys) : Apart C X ∧ Apart X C := by
  obtain rfl | ⟨gc, rfl, _, _⟩ := hC.blk
  · refine ⟨.inl rfl, ?_⟩
    obtain rfl | ⟨gx, rfl, _, _⟩ := hX.blk
    · exact .inl rfl
    · exact .inr (by simp [Eng.blk, Value.ownBlock])
  · obtain rfl | ⟨gx, rfl, _, hx2⟩ := hX.blk
    · exact ⟨.inr (by simp [Eng.blk, Value.ownBlock]), .inl rfl⟩
    · have : gc ≠ gx := by
        rcases hat with e1 | ⟨b, e1, e2⟩
        · rcases ha.2 with h | h
          · cases h
          · rw [← e1] at h
            intro q; apply h; rw [q]
        · simp [Eng.blk, Value.ownBlock] at e1; omega
      exact ⟨.inr (by simp [Eng.blk, Value.ownBlock]; exact this), .inr (by simp [Eng.blk, Value.ownBlock]; exact Ne.symm this)⟩
/-- What stands at a round of check's loop over the kids. -/
structure OI (w0s ws : Nat) (w : World) (q : Addr) (bm : Nat) (names : List ByteArray) (tys acc0 : List Int) (TA A : Option Addr) (tn tc : Nat) (D : Nat → Prop) (o at_ : Int) (kids : List Tr) (A0 : Option Addr) (m c0 : Nat) (q13 q14 : Addr)
    (j : Nat) (w' : World) (At : Option Addr) (na c : Nat) (acc : List Int) (Ad : Option Addr) (cd : Nat) (ks : List Int) (Ak : Option Addr) (ck : Nat) (vs : List Value) : Prop where
  gr : Gr2 w q A w' At
  kc : KC w0s ws w' q bm (fN names) tys acc TA At tn tc na c
  b13 : Box w.heap.size 191 3 w' q13 [.int .i64 o, .slice A0 m c0, .int .i64 at_]
  b14 : Box w.heap.size 191 3 w' q14 [.int .i64 o, .slice Ak j ck, .int .i64 at_]
  rD : Own w.heap.size 3 1 w' Ad j cd (ks.map (.int .i64))
  rK : Own w.heap.size 128 1 w' Ak j ck vs
  q134 : q13.block ≠ q14.block
  aDK : Apart Ad Ak ∧ Apart Ak Ad
  aD3 : Apart Ad (some q13) ∧ Apart (some q13) Ad
  aD4 : Apart Ad (some q14) ∧ Apart (some q14) Ad
  aK3 : Apart Ak (some q13) ∧ Apart (some q13) Ak
  aK4 : Apart Ak (some q14) ∧ Apart (some q14) Ak
  aA3 : Apart At (some q13) ∧ Apart (some q13) At
  aA4 : Apart At (some q14) ∧ Apart (some q14) At
  aAD : Apart At Ad ∧ Apart Ad At
  aAK : Apart At Ak ∧ Apart Ak At
  trs : TreesV (DX D w w' [blk At, some q13.block, some q14.block, blk Ak, blk Ad]) w' ((resTs names kids).take j) vs
  eqn : chks names tys kids acc0 = ((chks names tys (kids.drop j) acc).1, (chks names tys (kids.drop j) acc).2.1, ks ++ (chks names tys (kids.drop j) acc).2.2)
  cnt : na + (pos (kids.drop j)).length + 1 ≤ 4000
section
variable {w0s ws : Nat} {w : World} {q : Addr} {bm : Nat} {names : List ByteArray} {tys acc0 : List Int} {TA A : Option Addr} {tn tc : Nat} {D : Nat → Prop} {o at_ : Int} {kids : List Tr} {A0 : Option Addr} {m c0 : Nat} {q13 q14 : Addr} {j : Nat} {w' w2 : World} {At : Option Addr} {na c : Nat} {acc : List Int} {Ad : Option Addr} {cd : Nat} {ks : List Int} {Ak : Option Addr} {ck : Nat} {vs : List Value}
/-- A block that is new since w is not the checker's. -/
theorem OI.newq (hb : KB w0s ws q bm) (hw : ws ≤ w.heap.size) {B e k mm cc : Nat} {X : Option Addr} {xs : List Value} (hX : Own w.heap.size e k w' X mm cc xs) : blk X ≠ some q.block := fun e => by
  have := (own_blk hX _ e).1
  have := hb.hq
  omega
/-- A kid has been checked. -/
theorem OI.kid (hb : KB w0s ws q bm) (hw : ws ≤ w.heap.size) (hD : ∀ b, D b → b < w.heap.size ∧ b ≠ q.block ∧ blk A ≠ some b) (h : OI w0s ws w q bm names tys acc0 TA A tn tc D o at_ kids A0 m c0 q13 q14 j w' At na c acc Ad cd ks Ak ck vs)
    {A2 : Option Addr} {na2 c2 : Nat} {acc2 : List Int} (hg : Gr2 w' q At w2 A2) (hK : KC w0s ws w2 q bm (fN names) tys acc2 TA A2 tn tc na2 c2) :
    Gr2 w q A w2 A2 ∧ Box w.heap.size 191 3 w2 q13 [.int .i64 o, .slice A0 m c0, .int .i64 at_] ∧ Box w.heap.size 191 3 w2 q14 [.int .i64 o, .slice Ak j ck, .int .i64 at_] ∧ Own w.heap.size 3 1 w2 Ad j cd (ks.map (.int .i64)) ∧ Own w.heap.size 128 1 w2 Ak j ck vs ∧
      (Apart A2 (some q13) ∧ Apart (some q13) A2) ∧ (Apart A2 (some q14) ∧ Apart (some q14) A2) ∧ (Apart A2 Ad ∧ Apart Ad A2) ∧ (Apart A2 Ak ∧ Apart Ak A2) ∧ TreesV (DX D w w2 [blk A2, some q13.block, some q14.block, blk Ak, blk Ad]) w2 ((resTs names kids).take j) vs := by
  refine ⟨h.gr.trans hg, hg.own h.b13 (OI.newq (B := 0) hb hw h.b13) h.aA3.2, hg.own h.b14 (OI.newq (B := 0) hb hw h.b14) h.aA4.2, hg.own h.rD (OI.newq (B := 0) hb hw h.rD) h.aAD.2, hg.own h.rK (OI.newq (B := 0) hb hw h.rK) h.aAK.2,
    at_apart h.b13 h.aA3 hg.at_ hK.rA, at_apart h.b14 h.aA4 hg.at_ hK.rA, at_apart h.rD h.aAD hg.at_ hK.rA, at_apart h.rK h.aAK hg.at_ hK.rA, dx_keep h.trs (fun b hb1 => ?_) hg.size fun b h1 h2 => ?_⟩
  · rcases hb1 with hb1 | ⟨b1, b2, b3⟩
    · obtain ⟨d1, d2, d3⟩ := hD b hb1
      refine hg.block b (Nat.lt_of_lt_of_le d1 h.gr.size) d2 fun e => ?_
      rcases h.gr.at_ with e1 | ⟨b0, e1, e2⟩
      · rw [e1] at e; exact d3 e.symm
      · rw [e1] at e; cases e; omega
    · refine hg.block b b2 (fun e => by have := hb.hq; omega) fun e => b3 (by simp [e])
  · simp only [List.mem_cons, List.not_mem_nil, or_false, not_or] at h2 ⊢
    refine ⟨?_, h2.2⟩
    rcases hg.at_ with e1 | ⟨b0, e1, e2⟩
    · rw [e1]; exact h2.1
    · rw [e1]; intro e; cases e; omega
end
end Go.Proofs.YtmbonalhbibppaaDoor
/- The program's checker.check of all trees walked. -/
namespace Go.Proofs.YtmbonalhbibppaaDoor
open Go.Eng
set_option linter.unusedVariables false
set_option linter.unusedSimpArgs false
theorem uErr : ∃ ms, Tryd.prog.underlying 114 = some (.interface ms) := ⟨_, Tryd.underlying114⟩
theorem trs_app {D : Nat → Prop} {w : World} {ts : List Tr} {vs : List Value} {t : Tr} {v : Value} (h : TreesV D w ts vs) (ht : TreeV D w t v) : TreesV D w (ts ++ [t]) (vs ++ [v]) :=
  TreesV.of_get (by simp [h.len]) fun i u x h1 h2 => by
    have hl := h.len
    rcases Nat.lt_or_ge i ts.length with q | q
    · rw [List.getElem?_append_left q] at h1
      rw [List.getElem?_append_left (by omega)] at h2
      exact h.get i u x h1 h2
    · rw [List.getElem?_append_right q] at h1
      rw [List.getElem?_append_right (by omega)] at h2
      have : i - ts.length = 0 := by
        have := (List.getElem?_eq_some_iff.1 h1).1
        simp at this; omega
      rw [this] at h1
      rw [show i - vs.length = 0 by omega] at h2
      simp at h1 h2
      subst h1; subst h2
      exact ht
/-- A row or a box that has come since is written. -/
theorem kc_new {w0s ws : Nat} {w w' w2 : World} {q : Addr} {bm : Nat} {f : List (ByteArray × Value)} {tys acc acc0 : List Int} {TA A At : Option Addr} {tn tc na c na0 c0 : Nat} (hb : KB w0s ws q bm) (hK0 : KC w0s ws w q bm f tys acc0 TA A tn tc na0 c0) (h : KC w0s ws w' q bm f tys acc TA At tn tc na c) {X : Option Addr} (hw : Wr X w' w2) {e : TypeId} {k m cc : Nat} {xs : List Value} (hX : Own w.heap.size e k w' X m cc xs) (hA : Apart At X) : KC w0s ws w2 q bm f tys acc TA At tn tc na c := by
  have h0 := hK0.hs
  have hX1 : ∀ g, g < w.heap.size → blk X ≠ some g := fun g hg e => by have := (own_blk hX _ e).1; omega
  refine ⟨h.box.wr hw (.inr (by rw [hb.eq]; exact (hX1 _ (by have := hb.hq; omega)).symm)), h.map.wr hw (hX1 _ (by have := hb.m; omega)), h.rT.wr hw ?_, h.rA.wr hw hA, h.aTA, Nat.le_trans h.hs hw.size⟩
  obtain rfl | ⟨g, rfl, _, hg⟩ := hK0.rT.blk
  · exact .inl rfl
  · exact .inr (hX1 g hg).symm
theorem gr2_new {w w' w2 : World} {q : Addr} {A At : Option Addr} (h : Gr2 w q A w' At) (hx : Bel w.heap.size w' w2) : Gr2 w q A w2 At :=
  ⟨hx.os.trans h.os, hx.tape.trans h.tape, hx.output.trans h.output, Nat.le_trans h.size hx.size, fun k hk h1 h2 => (hx.block k hk).trans (h.block k hk h1 h2), h.at_⟩
set_option maxHeartbeats 16000000 in
theorem check_g {w0s ws : Nat} {q : Addr} {bm : Nat} {names : List ByteArray} {tys : List Int} {TA : Option Addr} {tn tc : Nat} (hb : KB w0s ws q bm) (hnt : names.length = tys.length) : ∀ (n : Nat) (t : Tr), dep t ≤ n → goodT tys.length t → ∀ (v : Value) (w : World) (D : Nat → Prop) (acc0 : List Int) (A : Option Addr) (na0 c0' : Nat), KC w0s ws w q bm (fN names) tys acc0 TA A tn tc na0 c0' → na0 + (po t).length ≤ 4000 → TreeV D w t v → (∀ b, D b → b < w.heap.size ∧ b ≠ q.block ∧ blk A ≠ some b) →
    GC Tryd.prog 159 [.pointer (some q), v] w (CkR w0s ws q bm names tys TA tn tc w A D (chk names tys t acc0).1 (chk names tys t acc0).2.1 (chk names tys t acc0).2.2 (resT names t)) := by
  intro n
  induction n with
  | zero => intro t h; cases t <;> simp [dep] at h
  | succ n ih =>
    intro t hd hgd v w D acc0 A na0 c0' hK hpo hv hD
    cases t with
    | con k z tx xs at_ =>
      have := check_con hb hK (by simp [po] at hpo; omega) hv hD
      simpa [chk, resT] using this
    | att z =>
      simp only [goodT] at hgd
      simp only [TreeV] at hv
      subst hv
      have := check_att hb hK (by simp [po] at hpo; omega) hgd D
      simpa [chk, resT, atV] using this
    | lt z =>
      simp only [goodT] at hgd
      simp only [TreeV] at hv
      subst hv
      have := check_lt hb hK (by simp [po] at hpo; omega) hgd D
      have e : tyLt tys z = (tys.getD z.toNat 0, 0) := by unfold tyLt; rw [if_neg (by omega)]
      simpa [chk, resT, e, ltV] using this
    | nam tx at_ =>
      simp only [TreeV] at hv
      obtain ⟨rfl, _⟩ := hv
      exact check_nam hb hK hnt (by simp [po] at hpo; omega) D
    | op o kids at_ =>
      simp only [goodT] at hgd
      obtain ⟨hk, hk1, hgk⟩ := hgd
      simp only [TreeV] at hv
      obtain ⟨A0, m, c0, vs, rfl, hvl, hmc, hmm, hcl, hin, hts⟩ := hv
      have hkl := hts.len
      rw [po, List.length_append, List.length_singleton] at hpo
      rw [dep] at hd
      have hw := hK.hs
      have hm3 : m ≤ 3 := by have := kidsF_le o; omega
      refine GC.intro (cs := []) Tryd.func159 (by kernel_rfl) fun E R hE hr hR => ?_
      obtain ⟨CH, hCH⟩ : ∃ CH, CH = chk names tys (.op o kids at_) acc0 := ⟨_, rfl⟩
      obtain ⟨RT, hRT⟩ : ∃ RT, RT = resT names (.op o kids at_) := ⟨_, rfl⟩
      rw [← hCH, ← hRT] at hR
      rw [chk] at hCH
      rw [resT] at hRT
      conv => cbv
      refine st_ta hE (taOpCo o at_ A0 m c0) ?_
      conv => cbv
      refine st_ta hE (taOpNa o at_ A0 m c0) ?_
      conv => cbv
      refine st_ta hE (taOpAt o at_ A0 m c0) ?_
      conv => cbv
      refine st_ta hE (taOpLt o at_ A0 m c0) ?_
      conv => cbv
      refine st_ta hE (taOpOp o at_ A0 m c0) ?_
      conv => cbv
      refine st_alloc hr tOp rfl fun q13 w1 hx1 hq0 => ?_
      conv => cbv
      refine st_putS hr (by kernel_rfl) (hq0 _ (Nat.le_refl _)) (add_zero _).symm (by simp) (by simp [Value.oneCell']) fun w2 hw2 h13 => ?_
      simp only [List.take_zero, List.nil_append, List.length_cons, List.length_nil, List.drop_succ_cons, List.drop_nil, List.append_nil] at h13
      have hx2 := hx1.then (hw2.bel (hq0 _ (Nat.le_refl _)) hx1.size)
      have f13 := bx_form h13
      clear hq0 hw2 hx1
      conv => cbv
      (refine st_fld hE fOp0 fun p hp => ?_; (conv => cbv); refine st_load hE cInt (by rw [hp]; exact (h13).at _ _ rfl) ?_; clear hp; (conv => cbv))
      (refine st_fld hE fOp2 fun p hp => ?_; (conv => cbv); refine st_load hE cInt (by rw [hp]; exact (h13).at _ _ rfl) ?_; clear hp; (conv => cbv))
      refine st_bOp hE ?_
      conv => cbv
      refine st_alloc hr tOp rfl fun q14 w3 hx3 hq0 => ?_
      conv => cbv
      refine st_putS hr (by kernel_rfl) (hq0 _ (Nat.le_refl _)) (add_zero _).symm (by simp) (by simp [Value.oneCell']) fun w4 hw4 h14 => ?_
      simp only [List.take_zero, List.nil_append, List.length_cons, List.length_nil, List.drop_succ_cons, List.drop_nil, List.append_nil] at h14
      have hx4 := hx3.then (hw4.bel (hq0 _ (Nat.le_refl _)) hx3.size)
      have f14 := bx_form h14
      clear hq0 hw4 hx3
      replace h13 := h13.bel hx4
      replace h14 := h14.mono hx2.size
      have hx := hx2.trans hx4
      have hne : q13.block ≠ q14.block := by omega
      have s2 := hx2.size
      conv => cbv
      refine st_none hr tInts fun Ad w5 hx5 hd0 => ?_
      have hAd := hd0 _ (Nat.le_refl _)
      have aD3 := (h13.apart hAd (Nat.le_refl _)).symm
      have aD4 := (h14.apart hAd (Nat.le_refl _)).symm
      have aAD := (hK.ext hx).rA.apart hAd (Nat.le_refl _)
      replace hAd := hAd.mono hx.size
      clear hd0
      replace h13 := h13.bel hx5
      replace h14 := h14.bel hx5
      replace hx := hx.trans hx5
      have aA3 : Apart A (some q13) ∧ Apart (some q13) A := hK.rA.apart h13 (Nat.le_refl _)
      have aA4 : Apart A (some q14) ∧ Apart (some q14) A := hK.rA.apart h14 (Nat.le_refl _)
      conv => cbv
      (refine st_fld hE fOp1 fun p hp => ?_; (conv => cbv); refine st_load hE cTrs (by rw [hp]; exact (h13).at _ _ rfl) ?_; clear hp; (conv => cbv))
      refine st_len hE sTrs fun x95 hx95 => ?_
      conv => cbv
      have apN : ∀ {X : Option Addr}, (∀ g, blk X = some g → True) → (X = none ∨ blk X ≠ none) → Apart none X ∧ Apart X none := fun _ h => ⟨.inl rfl, h.imp id fun h => by simpa [Eng.blk, Value.ownBlock] using h⟩
      have e13 := f13.2.2
      have e14 := f14.2.2
      refine loop_rulec [] hr (fun (s : Nat × Int × (Option Addr × Nat × Nat × List Int) × (Option Addr × Nat × List Int) × (Option Addr × Nat × List Value)) w' => s.1 ≤ m ∧ s.2.1 = (s.1 : Int) ∧ OI w0s ws w q bm names tys acc0 TA A tn tc D o at_ kids A0 m c0 q13 q14 s.1 w' s.2.2.1.1 s.2.2.1.2.1 s.2.2.1.2.2.1 s.2.2.1.2.2.2 s.2.2.2.1.1 s.2.2.2.1.2.1 s.2.2.2.1.2.2 s.2.2.2.2.1 s.2.2.2.2.2.1 s.2.2.2.2.2.2)
        (fun s => [(0, .pointer (some q)), (13, .pointer (some q13)), (14, .pointer (some q14)), (15, .slice s.2.2.2.1.1 s.1 s.2.2.2.1.2.1), (94, .slice A0 m c0), (95, .int .i64 x95), (96, .int .i64 s.2.1)]) (fun s => m - s.1) (0, 0, (A, na0, c0', acc0), (Ad, 0, []), (none, 0, []))
        (by simp [Fits, lk]) ⟨by simp, by simp, ⟨ext_gr2 hx q A, hK.ext hx, h13, h14, hAd, Own.nil, hne, ⟨?_, .inl rfl⟩, aD3, aD4, ⟨.inl rfl, .inr (by rw [e13]; simp [Eng.blk, Value.ownBlock])⟩, ⟨.inl rfl, .inr (by rw [e14]; simp [Eng.blk, Value.ownBlock])⟩, aA3, aA4, aAD, ⟨?_, .inl rfl⟩, by simp [TreesV], by simp, by simp only [List.drop_zero]; omega⟩⟩ ?_
      · obtain rfl | ⟨g, rfl, _⟩ := hAd.blk
        · exact .inl rfl
        · exact .inr (by simp [Eng.blk, Value.ownBlock])
      · obtain rfl | ⟨g, rfl, _⟩ := hK.rA.blk
        · exact .inl rfl
        · exact .inr (by simp [Eng.blk, Value.ownBlock])
      clear h13 h14 hAd aD3 aD4 aAD aA3 aA4 hx hx5 hx4 hx2
      rintro I hI ⟨j, jj, ⟨At, na, c, acc⟩, ⟨Ad, cd, ks⟩, ⟨Ak, ck, vk⟩⟩ w' ⟨hj, hjj, hO⟩
      simp only at hj hjj hO
      obtain ⟨jk, hjk⟩ : ∃ z, z = jj + 1 := ⟨_, rfl⟩
      conv => cbv
      refine br (fun g => ?_) (fun g => ?_)
      · have g : j < m := by
          have : jj < x95 := by simpa [hE.cmp, cmpR] using g
          omega
        have ej : E.ar .add .i64 jj 1 = jk := by rw [hE.ar, hjk]; exact wrap_in (by omega) (by omega)
        obtain ⟨u, hu⟩ : ∃ u, vs[j]? = some u := ⟨_, List.getElem?_eq_getElem (by omega)⟩
        obtain ⟨t', ht'⟩ : ∃ t', kids[j]? = some t' := ⟨_, List.getElem?_eq_getElem (by omega)⟩
        have kpD : ∀ b, D b → w'.heap[b]? = w.heap[b]? := fun b hb1 => by
          obtain ⟨d1, d2, d3⟩ := hD b hb1
          exact hO.gr.block b d1 d2 (Ne.symm d3)
        have hcl' : Cells w' A0 vs := cells_keep hcl (by rw [hvl]; exact hin) kpD
        have htu : TreeV D w' t' u := TreeV.keep kpD (fun b h => h) _ _ (hts.get j t' u ht' hu)
        have hD' : ∀ b, D b → b < w'.heap.size ∧ b ≠ q.block ∧ blk At ≠ some b := fun b hb1 => by
          obtain ⟨d1, d2, d3⟩ := hD b hb1
          refine ⟨Nat.lt_of_lt_of_le d1 hO.gr.size, d2, fun e => ?_⟩
          rcases hO.gr.at_ with e1 | ⟨b0, e1, e2⟩
          · rw [e1] at e; exact d3 e
          · rw [e1] at e; cases e; omega
        have hdt := deps_mem (List.mem_of_getElem? ht')
        have hpd := pos_drop ht'
        have hcnt := hO.cnt
        have hcl2 := chk_len names tys t' acc
        have heqn := hO.eqn
        rw [drop_cons ht', chks] at heqn
        have hih := ih t' (by omega) (goodTs_at hgk ht') u w' D acc At na c hO.kc (by omega) htu hD'
        obtain ⟨a2, ha2⟩ : ∃ a, a = (chk names tys t' acc).1 := ⟨_, rfl⟩
        obtain ⟨co, hco⟩ : ∃ a, a = (chk names tys t' acc).2.1 := ⟨_, rfl⟩
        obtain ⟨ty, hty⟩ : ∃ a, a = (chk names tys t' acc).2.2 := ⟨_, rfl⟩
        rw [← ha2, ← hco, ← hty] at hih heqn
        rw [← ha2, ← hco] at hcl2
        conv => cbv
        refine st_elem hE sTrs hcl' hvl.symm (by omega) (by omega) fun p v hv hp => ?_
        rw [show jj.toNat = j by omega, hu] at hv
        cases hv
        conv => cbv
        refine st_load hE cTr hp ?_
        conv => cbv
        refine st_g hr hih fun r w6 ⟨A2, na2, c2, v', e, ev, hg, hK2, hc0, hc1⟩ => ?_
        subst ev
        obtain ⟨k1, k2, k3, k4, k5, k6, k7, k8, k9, k10⟩ := hO.kid hb hw hD hg hK2
        conv => cbv
        by_cases hcz : co = 0
        · obtain ⟨rfl, htv⟩ := hc0 hcz
          rw [if_neg (by simpa using hcz)] at heqn
          refine st_neNil hE Tryd.underlying114 ?_
          conv => cbv
          have hvo := (TreeV.one htv).1
          have hna2 := hK2.len.2
          have hnal := hO.kc.len.2
          have hlen2 := hcl2.2 hcz
          have hsz := hO.gr.size
          have hsz6 := hg.size
          have bl : ∀ g, w'.heap.size ≤ g → blk Ak ≠ some g ∧ blk Ad ≠ some g := fun g hg1 => ⟨fun e => by have := (own_blk hO.rK _ e).2; omega, fun e => by have := (own_blk hO.rD _ e).2; omega⟩
          have f13' := bx_form hO.b13
          have f14' := bx_form hO.b14
          have htr : TreesV (DX D w w6 [blk A2, some q13.block, some q14.block, blk Ak, blk Ad]) w6 ((resTs names kids).take (j + 1)) (vk ++ [v']) := by
            rw [List.take_add_one, resTs_at names ht']
            refine trs_app k10 (TreeV.keep (fun b _ => rfl) (fun b hb1 => ?_) _ _ htv)
            rcases hb1 with hb1 | ⟨b1, b2, b3⟩
            · exact .inl hb1
            · refine .inr ⟨by omega, b2, ?_⟩
              simp only [List.mem_cons, List.not_mem_nil, or_false, not_or]
              have := bl b b1
              refine ⟨Ne.symm b3, fun e => ?_, fun e => ?_, Ne.symm this.1, Ne.symm this.2⟩
              · cases e; omega
              · cases e; omega
          (refine st_fld hE fOp1 fun p hp => ?_; (conv => cbv); refine st_load hE cTrs (by rw [hp]; exact (k3).at _ _ rfl) ?_; clear hp; (conv => cbv))
          refine st_one hr sTrs rfl hvo fun A7 w7 hx7 hc7 => ?_
          conv => cbv
          refine st_appsG hr sTrs rfl (k5.bel hx7) hc7 rfl (by intro y hy; simp only [List.mem_cons, List.not_mem_nil, or_false] at hy; rw [hy]; exact hvo) (by have := hx7.size; omega) (by omega) (by omega) fun A8 c8 m8 w8 hm8 hw8 ho8 hk8 => ?_
          subst hm8
          have s7 := hx7.size
          have gK : Gro w7 Ak w8 A8 := Gro.app (Ext.refl _) hw8 hk8
          have bl8 : Bel w.heap.size w6 w8 := RowKit.Below.trans (RowKit.Below.mono hx7 (by omega)) (hw8.bel (k5.bel hx7) (by omega))
          have c8' := kc_new hb hK (hK2.ext hx7) hw8 (k5.bel hx7) k9.1
          have b13 := (k2.bel hx7).wr hw8 hO.aK3.2
          have b14 := (k3.bel hx7).wr hw8 hO.aK4.2
          have rD8 := (k4.bel hx7).wr hw8 hO.aDK.1
          have aDK8 := (gro_apart (B := 0) (m := 0) (c := 0) (xs := []) (k4.bel hx7) hO.aDK.symm gK ho8).symm
          have aK38 := gro_apart (B := 0) (m := 0) (c := 0) (xs := []) (k2.bel hx7) hO.aK3 gK ho8
          have aK48 := gro_apart (B := 0) (m := 0) (c := 0) (xs := []) (k3.bel hx7) hO.aK4 gK ho8
          have aAK8 := (gro_apart (B := 0) (m := 0) (c := 0) (xs := []) (hK2.ext hx7).rA k9.symm gK ho8).symm
          have s8 := hw8.size
          conv => cbv
          refine st_fld hE fOp1 fun p3 hp3 => ?_
          conv => cbv
          refine st_put hr zTrs b14 hp3 (by simp) rfl fun w9 hw9 b14' => ?_
          simp only [List.set_cons_zero, List.set_cons_succ] at b14'
          have s9 := hw9.size
          have bl9 : Bel w.heap.size w6 w9 := RowKit.Below.trans bl8 (hw9.bel b14 (by omega))
          have c9' := kc_new hb hK c8' hw9 b14 k7.1
          have b139 := b13.wr hw9 (bx_apart e13 e14 hne)
          have rD9 := rD8.wr hw9 hO.aD4.1
          have rK9 := ho8.wr hw9 aK48.1
          conv => cbv
          refine st_one hr tInts rfl rfl fun A10 w10 hx10 hc10 => ?_
          have s10 := hx10.size
          conv => cbv
          refine st_appsG hr tInts rfl (rD9.bel hx10) hc10 rfl (by simp [Value.oneCell']) (by omega) (by omega) (by omega) fun A11 c11 m11 w11 hm11 hw11 ho11 hk11 => ?_
          subst hm11
          have gD : Gro w10 Ad w11 A11 := Gro.app (Ext.refl _) hw11 hk11
          have bl11 : Bel w.heap.size w6 w11 := RowKit.Below.trans bl9 (RowKit.Below.trans (RowKit.Below.mono hx10 (by omega)) (hw11.bel (rD9.bel hx10) (by omega)))
          have s11 := hw11.size
          conv => cbv
          simp only [ej]
          refine ⟨(j + 1, jk, (A2, na2, c2, a2), (A11, c11, ks ++ [ty]), (A8, c8, vk ++ [v'])), by simp [Fits, lk], hI _ _ ⟨by simp only; omega, by simp only; omega, ⟨gr2_new k1 bl11, kc_new hb hK (c9'.ext hx10) hw11 (rD9.bel hx10) k8.1, (b139.bel hx10).wr hw11 hO.aD3.2, (b14'.bel hx10).wr hw11 hO.aD4.2, by rw [List.map_append]; exact ho11, (rK9.bel hx10).wr hw11 aDK8.2, hne,
            gro_apart (B := 0) (m := 0) (c := 0) (xs := []) (rK9.bel hx10) aDK8 gD ho11, gro_apart (B := 0) (m := 0) (c := 0) (xs := []) (b139.bel hx10) hO.aD3 gD ho11, gro_apart (B := 0) (m := 0) (c := 0) (xs := []) (b14'.bel hx10) hO.aD4 gD ho11, aK38, aK48, k6, k7, (gro_apart (B := 0) (m := 0) (c := 0) (xs := []) (c9'.ext hx10).rA k8.symm gD ho11).symm, aAK8, ?_, ?_, ?_⟩⟩, by simp only; omega⟩
          · refine dx_keep htr (fun b hb1 => ?_) bl11.size fun b h1 h2 => ?_
            · rcases hb1 with hb1 | ⟨b1, b2, b3⟩
              · exact bl11.block b (hD b hb1).1
              · simp only [List.mem_cons, List.not_mem_nil, or_false, not_or] at b3
                rw [hw11.block b (by omega) b3.2.2.2.2, hx10.block b (by omega), hw9.block b (by omega) (by rw [e14]; exact b3.2.2.1), hw8.block b (by omega) b3.2.2.2.1, hx7.block b b2]
            · simp only [List.mem_cons, List.not_mem_nil, or_false, not_or] at h2 ⊢
              refine ⟨h2.1, h2.2.1, h2.2.2.1, ?_, ?_⟩
              · rcases gK.at_ with e1 | ⟨b0, e1, e2⟩
                · rw [e1]; exact h2.2.2.2.1
                · rw [e1]; intro e; cases e; omega
              · rcases gD.at_ with e1 | ⟨b0, e1, e2⟩
                · rw [e1]; exact h2.2.2.2.2
                · rw [e1]; intro e; cases e; omega
          · simp only
            rw [heqn]; simp
          · simp only
            omega
        · obtain ⟨rfl, rfl⟩ := hc1 hcz
          rw [if_pos hcz] at heqn
          unfold misV
          refine st_neSome hE Tryd.underlying114 ?_
          conv => cbv
          rw [hR, hCH, heqn]
          simp only
          rw [if_pos hcz]
          exact ⟨A2, na2, c2, .nilIface, _, rfl, k1, hK2, fun z => absurd z hcz, fun _ => ⟨rfl, rfl⟩⟩
      · have g : j = m := by
          have : ¬ jj < x95 := by simpa [hE.cmp, cmpR] using g
          omega
        have hdr : kids.drop j = [] := List.drop_eq_nil_of_le (by omega)
        have heqn := hO.eqn
        rw [hdr, chks] at heqn
        simp only [List.append_nil] at heqn
        rw [heqn] at hCH
        simp only [ne_eq, not_true_eq_false, if_false] at hCH
        have hna := hO.cnt
        have htr := hO.trs
        rw [List.take_of_length_le (by rw [resTs_len]; omega)] at htr
        conv => cbv
        (refine st_fld hE fOp0 fun p hp => ?_; (conv => cbv); refine st_load hE cInt (by rw [hp]; exact (hO.b13).at _ _ rfl) ?_; clear hp; (conv => cbv))
        refine st_f hr (typeOfG_f (Own.ints hO.rD) o (by omega) (by omega)) fun r w6 hx6 ev => ?_
        obtain ⟨tz, htz⟩ : ∃ tz, tz = typG o ks := ⟨_, rfl⟩
        rw [← htz] at ev hCH
        subst ev
        have g6 := hO.gr.trans (ext_gr2 hx6 q At)
        have k6 := hO.kc.ext hx6
        conv => cbv
        refine br (fun g2 => ?_) (fun g2 => ?_)
        · have g2 : tz = 0 := by simpa [hE.cmp, cmpR] using g2
          rw [if_pos g2] at hCH
          conv => cbv
          refine st_f hr (wrong_f k6 9) fun z w7 hx7 ev => ?_
          subst ev
          conv => cbv
          rw [hR, hCH]
          exact ⟨At, na, c, .nilIface, _, rfl, g6.trans (ext_gr2 hx7 q At), k6.ext hx7, (fun q => absurd q (by simp)), fun _ => ⟨rfl, rfl⟩⟩
        · have g2 : tz ≠ 0 := by simpa [hE.cmp, cmpR] using g2
          rw [if_neg g2] at hCH
          conv => cbv
          have hb14 := hO.b14.bel hx6
          have hst : ∀ w1, (∃ A1, Gr2 w6 q At w1 A1) → ∀ j' u, ([.int .i64 o, .slice Ak j ck, .int .i64 at_] : List Value)[j']? = some u → w1.cell? (q14.add j') = some u := fun w1 ⟨A1, hg⟩ => (hg.own hb14 (OI.newq (B := 0) hb hw hb14) hO.aA4.2).at
          refine draw_s (fun w1 => ∃ A1, Gr2 w6 q At w1 A1) [0, 1, 2, 3] [(4, false), (5, true), (6, true), (7, true)] hr fol (by kernel_rfl) (fun w0 h => ⟨At, ext_gr2 h.ext _ _⟩) fun E' hE' w7 hs7 => ?_
          have g7 := ext_gr2 hs7.ext q At
          conv => cbv
          refine sw_loadS hE' tOp rfl hst ?_
          conv => cbv
          refine sw_mk hE' uOpT ?_
          conv => cbv
          refine st_g hr (put_g hb (k6.ext hs7.ext) (by omega) tz) fun z w8 ⟨ev, A', c', hg8, hK8⟩ => ?_
          subst ev
          refine ⟨⟨A', g7.trans hg8⟩, ?_⟩
          conv => cbv
          rw [hR, hCH, hRT]
          have g68 := (ext_gr2 hx6 q At).trans (g7.trans hg8)
          have rK8 := g68.own hO.rK (OI.newq (B := 0) hb hw hO.rK) hO.aAK.2
          have hsz := hO.gr.size
          have nb : ∀ b, b < w'.heap.size → blk At ≠ some b → blk A' ≠ some b := fun b b1 b2 e => by
            rcases g68.at_ with e1 | ⟨b0, e1, e2⟩
            · rw [e1] at e; exact b2 e
            · rw [e1] at e; cases e; omega
          refine ⟨A', na + 1, c', _, .nilIface, rfl, hO.gr.trans g68, hK8, fun _ => ⟨rfl, ?_⟩, fun q => absurd rfl q⟩
          simp only [TreeV]
          have hvk := hO.rK.len
          refine ⟨Ak, j, ck, vk, rfl, by omega, hO.rK.cap, hO.rK.le, rK8.cells, fun a' ha' hj0 => ?_, ?_⟩
          · obtain ⟨g, hg1, hg2, hg3⟩ := hO.rK.addr hj0
            rw [ha'] at hg1
            cases hg1
            refine .inr ⟨hg2, Nat.lt_of_lt_of_le hg3 g68.size, ?_⟩
            refine nb g hg3 fun e => ?_
            rcases hO.aAK.2 with e1 | e1
            · rw [e1] at ha'; cases ha'
            · exact e1 (by rw [ha']; exact e.symm)
          · refine TreesV.keep (fun b hb1 => ?_) (fun b hb1 => ?_) _ _ htr
            · rcases hb1 with hb1 | ⟨b1, b2, b3⟩
              · obtain ⟨d1, d2, d3⟩ := hD b hb1
                refine g68.block b (by omega) d2 fun e => ?_
                rcases hO.gr.at_ with e1 | ⟨b0, e1, e2⟩
                · rw [e1] at e; exact d3 e.symm
                · rw [e1] at e; cases e; omega
              · simp only [List.mem_cons, List.not_mem_nil, or_false, not_or] at b3
                exact g68.block b b2 (fun e => by have := hb.hq; omega) b3.1
            · rcases hb1 with hb1 | ⟨b1, b2, b3⟩
              · exact .inl hb1
              · simp only [List.mem_cons, List.not_mem_nil, or_false, not_or] at b3
                exact .inr ⟨b1, Nat.lt_of_lt_of_le b2 g68.size, nb b b2 (Ne.symm b3.1)⟩
end Go.Proofs.YtmbonalhbibppaaDoor
