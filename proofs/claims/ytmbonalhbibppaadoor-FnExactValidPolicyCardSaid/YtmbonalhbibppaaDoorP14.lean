/- The statements of a policy, in plain words: what the program's trees finds. -/
import Derived.Test.YtmbonalhbibppaaDoorP13
import Derived.Test.YtmbonalhbibppaaDoorP9
namespace Go.Proofs.YtmbonalhbibppaaDoor
open Go.Eng
set_option linter.unusedVariables false
set_option linter.unusedSimpArgs false
/-- What trees asks of a statement before it reads its trees. -/
def guardP (last : Bool) (s : PS) : Prop := (1 ≤ s.k ∧ s.k ≤ 3) ∧ (s.k = 3 ↔ last = true) ∧ (s.k = 3 ↔ s.c = -1) ∧ (s.k = 1 → s.g = -1) ∧ (s.k ≠ 1 → s.nm = ⟨#[]⟩) ∧ (s.k = 1 → ident s.nm)
structure PT where
  c : Option Tr
  g : Option Tr
def trs (p : PT) : List Tr := p.c.toList ++ p.g.toList
noncomputable def optM (ns : List PN) (lf : PN → Prop) (i : Nat) (top : Int) : Option (Option Tr × Nat) :=
  if top = -1 then some (none, i) else match treeM ns lf i top with
    | none => none
    | some t => some (some t, top.toNat + 1)
open Classical in
noncomputable def stmtM (ns : List PN) (lf : PN → Prop) (last : Bool) (i : Nat) (s : PS) : Option (PT × Nat) :=
  if guardP last s then match optM ns lf i s.c with
    | none => none
    | some (c, j) => match optM ns lf j s.g with
      | none => none
      | some (g, k) => some (⟨c, g⟩, k)
  else none
noncomputable def runS (ns : List PN) (lp : Nat → PN → Prop) : List PS → Nat → Nat → List PT → Option (List PT × Nat)
  | [], i, _, acc => some (acc, i)
  | s :: l, i, lets, acc => match stmtM ns (lp lets) l.isEmpty i s with
    | none => none
    | some (p, j) => runS ns lp l j (if s.k = 1 then lets + 1 else lets) (acc ++ [p])
def rootO (top : Int) : List Int := if 0 ≤ top then [top] else []
theorem IsTs.node {ns : List PN} {a b : Nat} {ks : List Int} {ts : List Tr} (h : IsTs ns a b ks ts) : ∀ q p, a ≤ q → q < b → ns[q]? = some p → (p.ks.length : Int) = kidsF p.o := by
  induction h with
  | nil a => intro q p h1 h2; omega
  | @cons a b k p ks kids ts hp hk h1 h2 i1 i2 =>
    intro q u hq1 hq2 hu
    rcases Nat.lt_trichotomy q k with e | e | e
    · exact i1 q u hq1 e hu
    · subst e; rw [hp] at hu; cases hu; exact hk
    · exact i2 q u e hq2 hu
theorem optM_iff {ns : List PN} {lf : PN → Prop} {i : Nat} {top : Int} {o : Option Tr} {j : Nat} : optM ns lf i top = some (o, j) ↔
    -1 ≤ top ∧ IsTs ns i j (rootO top) o.toList ∧ (∀ t ∈ o.toList, dep t ≤ 64) ∧ ∀ q p, i ≤ q → q < j → ns[q]? = some p → nodeOK lf p := by
  unfold optM rootO
  constructor
  · intro h
    split at h
    · rename_i e
      cases h
      subst e
      exact ⟨by omega, .nil _, by simp, fun q p h1 h2 => by omega⟩
    · cases hm : treeM ns lf i top with
      | none => rw [hm] at h; cases h
      | some t =>
        rw [hm] at h
        cases h
        obtain ⟨k, rfl, h1, h2, h3, h4, h5⟩ := treeM_iff.1 hm
        rw [if_pos (by omega)]
        exact ⟨by omega, by simpa using h3, by simpa using h4, fun q p q1 q2 => h5 q p q1 (by omega)⟩
  · rintro ⟨h0, h1, h2, h3⟩
    by_cases e : top = -1
    · rw [if_pos e]
      rw [if_neg (by omega)] at h1
      have hl := h1.len
      cases o with
      | none => cases h1; rfl
      | some t => simp at hl
    · rw [if_neg e]
      rw [if_pos (by omega)] at h1
      obtain ⟨kn, p, kids, rfl, rfl, hp, hk, _, e2⟩ := h1.one
      have hb := (List.getElem?_eq_some_iff.1 hp).1
      cases o with
      | none => cases e2
      | some t =>
        have hm : treeM ns lf i kn = some t := treeM_iff.2 ⟨kn, rfl, by have := (h1.roots kn (by simp)).1; omega, hb, h1, h2 t (by simp), h3⟩
        rw [hm]; rfl
theorem rootS_eq (s : PS) : rootS s = rootO s.c ++ rootO s.g := rfl
theorem stmtP_iff {last : Bool} {s : PS} : stmtP last s ↔ guardP last s ∧ -1 ≤ s.c ∧ -1 ≤ s.g := by
  unfold stmtP guardP
  obtain ⟨k, nm, c, g⟩ := s
  simp only
  by_cases h1 : k = 1
  · subst h1
    rw [if_pos rfl]
    constructor
    · rintro ⟨rfl, a, b, rfl⟩
      exact ⟨⟨⟨by omega, by omega⟩, by simp, ⟨fun q => by omega, fun q => by omega⟩, fun _ => rfl, fun q => absurd rfl q, fun _ => a⟩, by omega, by omega⟩
    · rintro ⟨⟨_, a, b, c1, _, d⟩, e, f⟩
      refine ⟨?_, d rfl, ?_, c1 rfl⟩
      · cases last
        · rfl
        · have := a.2 rfl; omega
      · have : c ≠ -1 := fun q => by have := b.2 q; omega
        omega
  · rw [if_neg h1]
    by_cases h2 : k = 2
    · subst h2
      rw [if_pos rfl]
      constructor
      · rintro ⟨rfl, rfl, b, d⟩
        exact ⟨⟨⟨by omega, by omega⟩, by simp, ⟨fun q => by omega, fun q => by omega⟩, fun q => absurd q h1, fun _ => rfl, fun q => absurd q h1⟩, by omega, d⟩
      · rintro ⟨⟨_, a, b, _, d, _⟩, e, f⟩
        refine ⟨?_, d h1, ?_, f⟩
        · cases last
          · rfl
          · have := a.2 rfl; omega
        · have : c ≠ -1 := fun q => by have := b.2 q; omega
          omega
    · rw [if_neg h2]
      by_cases h3 : k = 3
      · subst h3
        rw [if_pos rfl]
        constructor
        · rintro ⟨rfl, rfl, rfl, d⟩
          exact ⟨⟨⟨by omega, by omega⟩, by simp, by simp, fun q => absurd q h1, fun _ => rfl, fun q => absurd q h1⟩, by omega, d⟩
        · rintro ⟨⟨_, a, b, _, d, _⟩, e, f⟩
          exact ⟨a.1 rfl, d h1, b.1 rfl, f⟩
      · rw [if_neg h3]
        exact ⟨False.elim, fun q => by have := q.1.1; omega⟩
theorem stmtM_iff {ns : List PN} {lf : PN → Prop} {last : Bool} {i : Nat} {s : PS} {p : PT} {j : Nat} : stmtM ns lf last i s = some (p, j) ↔
    stmtP last s ∧ (p.c.isSome = true ↔ 0 ≤ s.c) ∧ IsTs ns i j (rootS s) (trs p) ∧ (∀ t ∈ trs p, dep t ≤ 64) ∧ ∀ q pn, i ≤ q → q < j → ns[q]? = some pn → nodeOK lf pn := by
  unfold stmtM
  rw [stmtP_iff]
  obtain ⟨c, g⟩ := p
  constructor
  · intro h
    split at h
    · rename_i hg
      cases h1 : optM ns lf i s.c with
      | none => rw [h1] at h; cases h
      | some x =>
        obtain ⟨c', m⟩ := x
        rw [h1] at h
        simp only at h
        cases h2 : optM ns lf m s.g with
        | none => rw [h2] at h; cases h
        | some x =>
          obtain ⟨g', k⟩ := x
          rw [h2] at h
          cases h
          obtain ⟨a1, a2, a3, a4⟩ := optM_iff.1 h1
          obtain ⟨b1, b2, b3, b4⟩ := optM_iff.1 h2
          have e1 := a2.le
          have e2 := b2.le
          refine ⟨⟨hg, a1, b1⟩, ?_, a2.append b2, fun t ht => ?_, fun q pn q1 q2 hq => ?_⟩
          · have := a2.len
            unfold rootO at this
            cases c with
            | none => simp; split at this <;> simp at this; omega
            | some t => simp; split at this <;> simp at this; omega
          · rcases List.mem_append.1 ht with ht | ht
            · exact a3 t ht
            · exact b3 t ht
          · rcases Nat.lt_or_ge q m with e | e
            · exact a4 q pn q1 e hq
            · exact b4 q pn e q2 hq
    · cases h
  · rintro ⟨⟨hg, hc, hgg⟩, hs, h1, h2, h3⟩
    rw [if_pos hg]
    rw [rootS_eq] at h1
    obtain ⟨m, ts1, ts2, e, k1, k2⟩ := h1.split
    have hl := k1.len
    obtain ⟨e1, e2⟩ := List.append_inj (show c.toList ++ g.toList = ts1 ++ ts2 from e) (by
      rw [hl]
      unfold rootO
      cases c with
      | none => rw [if_neg (fun q => by simpa using hs.2 q)]; rfl
      | some t => rw [if_pos (hs.1 rfl)]; rfl)
    rw [← e1] at k1
    rw [← e2] at k2
    have l1 := k1.le
    have l2 := k2.le
    rw [optM_iff.2 ⟨hc, k1, fun t ht => h2 t (List.mem_append_left _ ht), fun q p q1 q2 => h3 q p q1 (by omega)⟩]
    simp only
    rw [optM_iff.2 ⟨hgg, k2, fun t ht => h2 t (List.mem_append_right _ ht), fun q p q1 q2 => h3 q p (by omega) q2⟩]
theorem roots_cons (s : PS) (l : List PS) : roots (s :: l) = rootS s ++ roots l := by simp [roots]
theorem runS_iff {ns : List PN} {lf : PN → Prop} : ∀ (l : List PS) {i j lets : Nat} {acc : List PT}, (∃ acc', runS ns (fun _ => lf) l i lets acc = some (acc', j)) ↔
    stmtsP l ∧ ∃ ts, IsTs ns i j (roots l) ts ∧ (∀ t ∈ ts, dep t ≤ 64) ∧ ∀ q p, i ≤ q → q < j → ns[q]? = some p → nodeOK lf p
  | [], i, j, lets, acc => by
    unfold stmtsP
    simp only [runS, roots, List.flatMap_nil]
    constructor
    · rintro ⟨acc', h⟩
      cases h
      exact ⟨by simp, [], .nil _, by simp, fun q p h1 h2 => by omega⟩
    · rintro ⟨_, ts, h, _⟩
      cases h
      exact ⟨acc, rfl⟩
  | s :: l, i, j, lets, acc => by
    rw [runS, roots_cons]
    have hst : stmtsP (s :: l) ↔ stmtP l.isEmpty s ∧ stmtsP l := by
      have e : decide (0 + 1 = (s :: l).length) = l.isEmpty := by cases l <;> simp
      constructor
      · intro h
        refine ⟨by have := h 0 s rfl; rwa [e] at this, fun k t ht => ?_⟩
        have := h (k + 1) t (by simpa using ht)
        simpa using this
      · rintro ⟨h1, h2⟩ k t ht
        cases k with
        | zero => simp at ht; subst ht; rw [e]; exact h1
        | succ k => have := h2 k t (by simpa using ht); simpa using this
    rw [hst]
    constructor
    · rintro ⟨acc', h⟩
      cases hm : stmtM ns lf l.isEmpty i s with
      | none => rw [hm] at h; cases h
      | some x =>
        obtain ⟨p, m⟩ := x
        rw [hm] at h
        obtain ⟨a1, _, a2, a3, a4⟩ := stmtM_iff.1 hm
        obtain ⟨b1, ts, b2, b3, b4⟩ := (runS_iff l).1 ⟨acc', h⟩
        refine ⟨⟨a1, b1⟩, _, a2.append b2, fun t ht => ?_, fun q pn q1 q2 hq => ?_⟩
        · rcases List.mem_append.1 ht with ht | ht
          · exact a3 t ht
          · exact b3 t ht
        · rcases Nat.lt_or_ge q m with e | e
          · exact a4 q pn q1 e hq
          · exact b4 q pn e q2 hq
    · rintro ⟨⟨h1, h2⟩, ts, h3, h4, h5⟩
      obtain ⟨m, ts1, ts2, rfl, k1, k2⟩ := h3.split
      have l1 := k1.le
      have l2 := k2.le
      obtain ⟨p, hp1, hp2⟩ : ∃ p : PT, trs p = ts1 ∧ (p.c.isSome = true ↔ 0 ≤ s.c) := by
        have hl := k1.len
        rw [rootS_eq] at hl
        unfold rootO at hl
        by_cases e1 : 0 ≤ s.c
        · by_cases e2 : 0 ≤ s.g
          · rw [if_pos e1, if_pos e2] at hl
            match ts1, hl with
            | [a, b], _ => exact ⟨⟨some a, some b⟩, rfl, by simp [e1]⟩
          · rw [if_pos e1, if_neg e2] at hl
            match ts1, hl with
            | [a], _ => exact ⟨⟨some a, none⟩, rfl, by simp [e1]⟩
        · by_cases e2 : 0 ≤ s.g
          · rw [if_neg e1, if_pos e2] at hl
            match ts1, hl with
            | [a], _ => exact ⟨⟨none, some a⟩, rfl, by simp; omega⟩
          · rw [if_neg e1, if_neg e2] at hl
            match ts1, hl with
            | [], _ => exact ⟨⟨none, none⟩, rfl, by simp; omega⟩
      have hm : stmtM ns lf l.isEmpty i s = some (p, m) := stmtM_iff.2 ⟨h1, hp2, by rw [hp1]; exact k1, fun t ht => h4 t (List.mem_append_left _ (by rw [← hp1]; exact ht)), fun q pn q1 q2 => h5 q pn q1 (by omega)⟩
      rw [hm]
      exact (runS_iff l).2 ⟨h2, ts2, k2, fun t ht => h4 t (List.mem_append_right _ ht), fun q pn q1 q2 => h5 q pn (by omega) q2⟩
theorem fieldsU_iff {p : PN} (hk : (p.ks.length : Int) = kidsF p.o) : fieldsP false p ↔ nodeOK leafU p := by
  obtain ⟨o, z, tx, xs, ks⟩ := p
  unfold fieldsP nodeOK leafU cOK
  simp only at hk ⊢
  have h0 : kidsF o = 0 ↔ 1 ≤ o ∧ o ≤ 7 := by unfold kidsF; (repeat' split) <;> omega
  have h1 : 0 ≤ kidsF o := by omega
  by_cases e : 1 ≤ o ∧ o ≤ 7
  · have hz := h0.2 e
    have : o = 1 ∨ o = 2 ∨ o = 3 ∨ o = 4 ∨ o = 5 ∨ o = 6 ∨ o = 7 := by omega
    rcases this with rfl | rfl | rfl | rfl | rfl | rfl | rfl <;> simp [hk, hz]
    · constructor
      · rintro ⟨a, b, c⟩; exact ⟨⟨b, c⟩, a⟩
      · rintro ⟨⟨b, c⟩, a⟩; exact ⟨a, b, c⟩
    · constructor
      · rintro ⟨a, b, c⟩; exact ⟨b, a, c⟩
      · rintro ⟨b, a, c⟩; exact ⟨a, b, c⟩
  · have h2 : kidsF o ≠ 0 := fun q => e (h0.1 q)
    have h3 : 1 ≤ kidsF o := by omega
    rw [if_neg (by omega), if_neg (by omega), if_neg (by omega), if_neg (by omega), if_neg (by omega), if_neg (by omega), if_neg (by omega)]
    exact ⟨fun h => ⟨fun q => absurd q h2, fun _ => h.2⟩, fun h => ⟨hk, h.2 h3⟩⟩
theorem policyU_iff {nv : List PN} {sv : List PS} : policyP false nv sv ↔ nv.length ≤ 4000 ∧ 1 ≤ sv.length ∧ sv.length ≤ 600 ∧ ∃ acc, runS nv (fun _ => leafU) sv 0 0 [] = some (acc, nv.length) := by
  unfold policyP
  rw [runS_iff]
  constructor
  · rintro ⟨h1, h2, h3, h4, h5, ts, h6, h7⟩
    exact ⟨h1, h2, h3, h5, ts, h6, h7, fun q p _ _ hq => (fieldsU_iff (h4 p (List.mem_of_getElem? hq)).1).1 (h4 p (List.mem_of_getElem? hq))⟩
  · rintro ⟨h1, h2, h3, h5, ts, h6, h7, h8⟩
    refine ⟨h1, h2, h3, fun p hp => ?_, h5, ts, h6, h7⟩
    obtain ⟨q, hq⟩ := List.mem_iff_getElem?.1 hp
    have hl := (List.getElem?_eq_some_iff.1 hq).1
    exact (fieldsU_iff (h6.node q p (by omega) hl hq)).2 (h8 q p (by omega) hl hq)
end Go.Proofs.YtmbonalhbibppaaDoor
