/- A region that draws its order: reads that are taken first, under a condition on the world that need not stand behind an operation that waits for all of them. No condition. -/
import Derived.Test.YtmbonalhbibppaaDoorEng13
namespace Go.Eng
set_option linter.unusedVariables false
set_option linter.unusedSimpArgs false
/-- It waits for it, at once or by way of others. -/
def reach (md : Region.Mode) (ops : Array Oper) : Nat → Nat → Nat → Bool
  | 0, _, _ => false
  | f + 1, k, i => match ops[k]? with
    | some o => o.after.any fun e => Region.binds md e && (e.on == i || reach md ops f e.on i)
    | none => false
def needS (md : Region.Mode) (ops : Array Oper) (l : List Nat) (k : Nat) : Bool := l.any fun i => !(reach md ops ops.size k i)
/-- What has come up has come up behind what it waits for. -/
def Closed (md : Region.Mode) (ops : Array Oper) (listed : Array Bool) : Prop := ∀ (k : Nat) (o : Oper), ops[k]? = some o → listed.getD k false = true → ∀ e ∈ o.after, Region.binds md e = true → listed.getD e.on false = true
theorem reach_listed {md : Region.Mode} {ops : Array Oper} {listed : Array Bool} (hc : Closed md ops listed) {i : Nat} : ∀ (f k : Nat), (∀ o, ops[k]? = some o → ∀ e ∈ o.after, Region.binds md e = true → listed.getD e.on false = true) → reach md ops f k i = true → listed.getD i false = true
  | 0, k, _, h => by simp [reach] at h
  | f + 1, k, hk, h => by
    rw [reach] at h
    split at h
    · rename_i o ho
      obtain ⟨q, hq, h⟩ := Array.any_eq_true.1 h
      obtain ⟨e, he⟩ : ∃ e, e = o.after[q] := ⟨_, rfl⟩
      rw [← he] at h
      replace he : e ∈ o.after := by rw [he]; exact Array.getElem_mem hq
      simp only [Bool.and_eq_true, Bool.or_eq_true, beq_iff_eq] at h
      have he1 := hk o ho e he h.1
      rcases h.2 with e1 | e1
      · rw [← e1]; exact he1
      · exact reach_listed hc f e.on (fun o' ho' => hc e.on o' ho' he1) e1
    · cases h
def wpAnyT (P : Program) (md : Region.Mode) (ops : Array Oper) (Q : Exit → Act → World → Prop) (S : World → Prop) (l : List Nat) : Nat → Array Bool → Act → World → Prop
  | 0, listed, a, w => Region.ready md ops listed = [] ∧ Q .normal a w
  | fuel + 1, listed, a, w => (Region.ready md ops listed = [] → Q .normal a w) ∧
    ∀ i ∈ Region.ready md ops listed, wpOp P ops Q i (fun a' w' => (needS md ops l i = true → S w') ∧ wpAnyT P md ops Q S l fuel (listed.setIfInBounds i true) a' w') a w
section
variable {P : Program} {ops : Array Oper} {Q : Exit → Act → World → Prop} {md : Region.Mode} {S : World → Prop} {l : List Nat}
theorem wpAny_of_T : ∀ (fuel : Nat) (listed : Array Bool) (a : Act) (w : World), wpAnyT P md ops Q S l fuel listed a w → wpAny P md ops Q fuel listed a w
  | 0, _, _, _, h => h
  | fuel + 1, _, _, _, h => ⟨h.1, fun i hi => wpOp_mono (fun a' w' h' => wpAny_of_T fuel _ a' w' h'.2) (h.2 i hi)⟩
theorem wpAnyT_first {i : Nat} {oi : Oper} {v : Value} (hi : ops[i]? = some oi) (hil : i ∈ l) (hsel : ∀ (j : Nat) (o : Oper) cs b, ops[j]? = some o → o.op ≠ .select cs b)
    (hQ : ∀ c a w, Q (.panic c) (a.put oi.dst v) w → Q (.panic c) a w) : ∀ (fuel : Nat) (listed : Array Bool) (a : Act) (w : World),
      (∀ j oj, ops[j]? = some oj → j ≠ i → listed.getD j true = false → (∀ e ∈ oj.after, Region.binds md e = true → e.on ≠ i) → oi.apart ops oj = true) →
      i ∈ Region.ready md ops listed → Closed md ops listed → YieldsIf P ops S oi v a → S w →
      wpAnyT P md ops Q S l fuel (listed.setIfInBounds i true) (a.put oi.dst v) w → wpAnyT P md ops Q S l (fuel + 1) listed a w := by
  intro fuel
  induction fuel with
  | zero =>
    intro listed a w _ hr hcl hy hS H
    refine ⟨fun h => (by rw [h] at hr; cases hr), fun j hj => ?_⟩
    by_cases hji : j = i
    · subst hji; exact hy.wpOp hi hS ⟨fun _ => hS, H⟩
    · have h0 := ready_mono hj hji
      rw [H.1] at h0
      cases h0
  | succ fuel ih =>
    intro listed a w hfree hr hcl hy hS H
    refine ⟨fun h => (by rw [h] at hr; cases hr), fun j hj => ?_⟩
    by_cases hji : j = i
    · subst hji; exact hy.wpOp hi hS ⟨fun _ => hS, H⟩
    · have h1 := H.2 j (ready_mono hj hji)
      obtain ⟨hjun, oj, hoj, hall⟩ := mem_ready.1 hj
      have hnot : ∀ e ∈ oj.after, Region.binds md e = true → e.on ≠ i := fun e he hb heq => by
        have a1 := hall e he hb
        have a0 := (mem_ready.1 hr).1
        rw [heq] at a1
        rcases Nat.lt_or_ge i listed.size with h' | h'
        · simp [h'] at a0 a1; rw [a0] at a1; cases a1
        · simp [Array.getElem?_eq_none h'] at a1
      have hneed : needS md ops l j = true := by
        unfold needS
        rw [List.any_eq_true]
        refine ⟨i, hil, ?_⟩
        rw [Bool.not_eq_true']
        refine Bool.eq_false_iff.2 fun hre => ?_
        have hi1 := reach_listed hcl (i := i) ops.size j (fun o ho => by rw [hoj] at ho; cases ho; exact hall) hre
        have hi0 := (mem_ready.1 hr).1
        rcases Nat.lt_or_ge i listed.size with h' | h'
        · simp [h'] at hi0 hi1; rw [hi0] at hi1; cases hi1
        · simp [Array.getElem?_eq_none h'] at hi1
      have hcl' : Closed md ops (listed.setIfInBounds j true) := fun k o ho hk e he hb => by
        have key : listed.getD e.on false = true := by
          by_cases hkj : j = k
          · subst hkj; rw [hoj] at ho; cases ho; exact hall e he hb
          · rw [getD_set_ne false hkj] at hk; exact hcl k o ho hk e he hb
        by_cases hje : j = e.on
        · subst hje
          rcases Nat.lt_or_ge e.on listed.size with h' | h'
          · simp [h']
          · simp [Array.getElem?_eq_none h'] at key
        · rw [getD_set_ne false hje]; exact key
      have h2 := wpOp_putIf hoj (hfree j oj hoj hji hjun hnot) (fun cs b => hsel i oi cs b hi) (fun cs b => hsel j oj cs b hoj) hQ hy h1
      have hfree' : ∀ k ok, ops[k]? = some ok → k ≠ i → (listed.setIfInBounds j true).getD k true = false →
          (∀ e ∈ ok.after, Region.binds md e = true → e.on ≠ i) → oi.apart ops ok = true := fun k ok hk hki hun hno => by
        refine hfree k ok hk hki ?_ hno
        by_cases hjk : j = k
        · subst hjk; exact hjun
        · rw [getD_set_ne true hjk] at hun; exact hun
      refine wpOp_mono (fun a' w' h3 => ⟨fun _ => h3.2.1 hneed, ih (listed.setIfInBounds j true) a' w' hfree' (ready_mono hr (Ne.symm hji)) hcl' h3.1 (h3.2.1 hneed) ?_⟩) h2
      rw [Array.setIfInBounds_comm _ _ hji]
      exact h3.2.2
theorem wpAnyT_take {i : Nat} {oi : Oper} {v : Value} {fuel : Nat} {listed : Array Bool} {a : Act} {w : World} (hi : ops[i]? = some oi) (hil : i ∈ l)
    (hs : Region.noSelect ops = true) (hf : Region.free md ops listed i = true) (hr : (Region.ready md ops listed).contains i = true) (hcl : Closed md ops listed)
    (hQ : ∀ c a w, Q (.panic c) (a.put oi.dst v) w → Q (.panic c) a w) (hy : YieldsIf P ops S oi v a) (hS : S w)
    (h : wpAnyT P md ops Q S l fuel (listed.setIfInBounds i true) (a.put oi.dst v) w) : wpAnyT P md ops Q S l (fuel + 1) listed a w :=
  wpAnyT_first hi hil (Region.noSelect_spec hs) hQ fuel listed a w (Region.free_spec hi hf) (by simpa using hr) hcl hy hS h
theorem closed_set {listed : Array Bool} {k : Nat} (hcl : Closed md ops listed) (hr : (Region.ready md ops listed).contains k = true) : Closed md ops (listed.setIfInBounds k true) := fun q o ho hq e he hb => by
  have hr : k ∈ Region.ready md ops listed := by simpa using hr
  obtain ⟨hkun, ok, hok, hall⟩ := mem_ready.1 hr
  have key : listed.getD e.on false = true := by
    by_cases hkq : k = q
    · subst hkq; rw [hok] at ho; cases ho; exact hall e he hb
    · rw [getD_set_ne false hkq] at hq; exact hcl q o ho hq e he hb
  by_cases hje : k = e.on
  · subst hje
    rcases Nat.lt_or_ge e.on listed.size with h' | h'
    · simp [h']
    · simp [Array.getElem?_eq_none h'] at key
  · rw [getD_set_ne false hje]; exact key
theorem wpAnyT_done {listed : Array Bool} {a : Act} {w : World} (hr : Region.ready md ops listed = []) (h : Q .normal a w) : ∀ fuel, wpAnyT P md ops Q S l fuel listed a w
  | 0 => ⟨hr, h⟩
  | _ + 1 => ⟨fun _ => h, by rw [hr]; simp⟩
end
/-- What is left, one at a time: each is the only one that may come up; true: the condition is to stand behind it. -/
def ePh2T (E : Sym) (S : World → Prop) (all : List Oper) : List (Nat × Bool) → Fr → World → (Fr → World → Prop) → Prop
  | [], F, w, K => K F w
  | (k, true) :: l, F, w, K => match all[k]? with
    | none => False
    | some o => eOps E all [o] F w fun F' w' => S w' ∧ ePh2T E S all l F' w' K
  | (k, false) :: l, F, w, K => match all[k]? with
    | none => False
    | some o => eOps E all [o] F w fun F' w' => ePh2T E S all l F' w' K
def planT2 (ops : Array Oper) (l1 : List Nat) : List (Nat × Bool) → Array Bool → Bool
  | [], listed => Region.ready .any ops listed == []
  | (k, b) :: l, listed => Region.ready .any ops listed == [k] && (b || !(needS .any ops l1 k)) && planT2 ops l1 l (listed.setIfInBounds k true)
def planT1 (ops : Array Oper) (l0 : List Nat) : List Nat → List (Nat × Bool) → Array Bool → Bool
  | [], l2, listed => planT2 ops l0 l2 listed
  | k :: l, l2, listed => l0.contains k && Region.free .any ops listed k && (Region.ready .any ops listed).contains k && planT1 ops l0 l l2 (listed.setIfInBounds k true)
def planT (ops : Array Oper) (l1 : List Nat) (l2 : List (Nat × Bool)) : Bool :=
  Region.noSelect ops && Nat.beq (l1.length + l2.length) ops.size && planT1 ops l1 l1 l2 (Array.replicate ops.size false)
section
variable {P : Program} {Pn : List PanicEntry → World → Prop} {n : Nat}
theorem ePh2T_sound {S : World → Prop} {all : List Oper} {l0 : List Nat} (hd : ∀ o ∈ all, ∀ t, o.dst = some t → t < n) {K : Exit → Fr → World → Prop} : ∀ (l : List (Nat × Bool)) (listed : Array Bool) (F : Fr) (a : Act) (w : World), Kn n F a → planT2 all.toArray l0 l listed = true → ePh2T (real P Pn n) S all l F w (K .normal) → wpAnyT P .any all.toArray (QK Pn n K) S l0 l.length listed a w
  | [], listed, F, a, w, hk, hB, h => by
    have hr : Region.ready .any all.toArray listed = [] := by simpa [planT2] using hB
    exact wpAnyT_done hr ⟨F, hk, h⟩ _
  | (k, true) :: l, listed, F, a, w, hk, hB, h => by
    simp only [planT2, Bool.and_eq_true] at hB
    obtain ⟨⟨hr, _⟩, hB⟩ := hB
    have hr : Region.ready .any all.toArray listed = [k] := by simpa using hr
    simp only [ePh2T] at h
    split at h
    · exact h.elim
    · rename_i o ho
      refine ⟨fun q => (by rw [hr] at q; cases q), fun i hi => ?_⟩
      obtain rfl : i = k := by rw [hr] at hi; simpa using hi
      exact step_op (Pn := Pn) ho (hd o (List.mem_of_getElem? ho)) hk (fun c w h => ⟨hk.defers, h⟩) (fun F' a' w' hk' ⟨h1, h2⟩ => ⟨fun _ => h1, ePh2T_sound hd l _ F' a' w' hk' hB h2⟩) h
  | (k, false) :: l, listed, F, a, w, hk, hB, h => by
    simp only [planT2, Bool.and_eq_true, Bool.false_or, Bool.not_eq_true'] at hB
    obtain ⟨⟨hr, hn⟩, hB⟩ := hB
    have hr : Region.ready .any all.toArray listed = [k] := by simpa using hr
    simp only [ePh2T] at h
    split at h
    · exact h.elim
    · rename_i o ho
      refine ⟨fun q => (by rw [hr] at q; cases q), fun i hi => ?_⟩
      obtain rfl : i = k := by rw [hr] at hi; simpa using hi
      exact step_op (Pn := Pn) ho (hd o (List.mem_of_getElem? ho)) hk (fun c w h => ⟨hk.defers, h⟩) (fun F' a' w' hk' h2 => ⟨fun q => (by rw [hn] at q; cases q), ePh2T_sound hd l _ F' a' w' hk' hB h2⟩) h
theorem ePh1T_sound {S : World → Prop} {w : World} (hSE : ∀ w1, S w1 → Ext w w1) {all : List Oper} {l0 : List Nat} (hs : Region.noSelect all.toArray = true) (hd : ∀ o ∈ all, ∀ t, o.dst = some t → t < n) {K : Exit → Fr → World → Prop} {w0 : World} (hS : S w0) (l2 : List (Nat × Bool)) (K1 : Fr → World → Prop) : ∀ (l : List Nat) (listed : Array Bool) (F : Fr) (a : Act), Kn n F a → Closed .any all.toArray listed → planT1 all.toArray l0 l l2 listed = true → ePh1 (hreal P) all l F w K1 →
    (∀ F a listed, Kn n F a → planT2 all.toArray l0 l2 listed = true → K1 F w → wpAnyT P .any all.toArray (QK Pn n K) S l0 l2.length listed a w0) → wpAnyT P .any all.toArray (QK Pn n K) S l0 (l.length + l2.length) listed a w0
  | [], listed, F, a, hk, hcl, hB, h, h2 => by simpa using h2 F a listed hk hB h
  | k :: l, listed, F, a, hk, hcl, hB, h, h2 => by
    simp only [planT1, Bool.and_eq_true] at hB
    obtain ⟨⟨⟨hl, hf⟩, hr⟩, hB⟩ := hB
    simp only [ePh1] at h
    split at h
    · exact h.elim
    · rename_i o ho
      obtain ⟨v, F', hy, hk', h⟩ := step_yields (P := P) (n := n) (S := S) (E' := hreal P) (fun _ _ => rfl) (fun _ _ _ ⟨v, h1, h2⟩ => ⟨v, fun w1 hw1 => h1 w1 (hSE w1 hw1), h2⟩) (hd o (List.mem_of_getElem? ho)) hk h
      have := wpAnyT_take (l := l0) (by simpa using ho) (by simpa using hl) hs hf hr hcl panic_put hy hS (ePh1T_sound hSE hs hd hS l2 K1 l _ F' _ hk' (closed_set hcl hr) hB h h2)
      simpa [Nat.add_right_comm] using this
/-- Everything in l1 only reads, and is taken first; of l2 each is the only one that may come up: (k, true): all that there was is to stand behind it; (k, false): it waits for all of l1, and may write. -/
theorem draw_t (l1 : List Nat) (l2 : List (Nat × Bool)) {E : Sym} (hE : E = real P Pn n) {id : Nat} {ops : Array Oper} {F : Fr} {w : World} {K : Exit → Fr → World → Prop} (hm : P.follows .mixedOrders = true) (hB : planT ops l1 l2 = true)
    (h : ∀ E', EngB false P E' → ∀ w0, Same w w0 → ∀ S : World → Prop, (∀ w', Ext w0 w' → S w') → ePh1 E' ops.toList l1 F w0 (fun F' w' => ePh2T E S ops.toList l2 F' w' (K .normal))) : E.draw id ops F w K := by
  subst hE
  intro hd a hk
  simp only [planT, Bool.and_eq_true, Nat.beq_eq] at hB
  obtain ⟨⟨hs, hl⟩, hB⟩ := hB
  have hs' : Region.noSelect ops.toList.toArray = true := by simpa using hs
  have := ePh1T_sound (Pn := Pn) (K := K) (n := n) (l0 := l1) (S := Ext { w with drawn := w.drawn + 1 }) (w := { w with drawn := w.drawn + 1 }) (fun _ h => h) hs' (okDst_ops hd) (Ext.refl _) l2 _ l1 (Array.replicate ops.size false) F a hk (fun k o _ h => by simp only [Array.getD_eq_getD_getElem?, Array.getElem?_replicate] at h; split at h <;> simp at h) (by simpa using hB) (h (hreal P) (Eng.h P) _ (Same.drew w) _ (fun _ h => h))
    (fun F a listed hk hB h => ePh2T_sound (okDst_ops hd) l2 listed F a _ hk hB h)
  rw [hl] at this
  exact wp_region_any hm (wpAny_of_T _ _ _ _ (by simpa using this))
end
end Go.Eng
