/- Trees of nodes in post-order, in plain words: what the program's stack and what the reference's walk find. -/
import Derived.Test.YtmbonalhbibppaaDoorP1
import Derived.Test.YtmbonalhbibppaaDoorV7
namespace Go.Proofs.YtmbonalhbibppaaDoor
set_option linter.unusedVariables false
set_option linter.unusedSimpArgs false
inductive Tr where
  | con (k n : Int) (tx : ByteArray) (xs : List ByteArray) (at_ : Int)
  | nam (tx : ByteArray) (at_ : Int)
  | att (n : Int)
  | lt (n : Int)
  | op (o : Int) (kids : List Tr) (at_ : Int)
/-- The type of a constant by its operator. -/
def knd (o : Int) : Int := if o = 1 then 2 else if o = 2 then 3 else if o = 3 then 1 else 4
def leafF (p : PN) (i : Int) : Tr := if p.o = 5 then .nam p.tx i else if p.o = 6 then .att p.z else if p.o = 7 then .lt p.z else .con (knd p.o) p.z p.tx p.xs i
def mkT (p : PN) (i : Int) (kids : List Tr) : Tr := if kidsF p.o = 0 then leafF p i else .op p.o kids i
mutual
def dep : Tr → Nat
  | .op _ kids _ => deps kids + 1
  | _ => 1
def deps : List Tr → Nat
  | [] => 0
  | t :: l => max (dep t) (deps l)
end
theorem dep_leaf (p : PN) (i : Int) : dep (leafF p i) = 1 := by unfold leafF; (repeat' split) <;> rfl
theorem deps_mem : ∀ {l : List Tr} {t : Tr}, t ∈ l → dep t ≤ deps l
  | u :: l, t, h => by
    rw [deps]
    rcases List.mem_cons.1 h with rfl | h
    · omega
    · have := deps_mem h; omega
theorem deps_le {l : List Tr} {n : Nat} (h : ∀ t ∈ l, dep t ≤ n) : deps l ≤ n := by
  induction l with
  | nil => simp [deps]
  | cons t l ih => rw [deps]; have := h t (by simp); have := ih fun t ht => h t (by simp [ht]); omega
/-- The nodes a .. b-1 are trees in post-order, whose tops are ks. -/
inductive IsTs (ns : List PN) : Nat → Nat → List Int → List Tr → Prop
  | nil (a : Nat) : IsTs ns a a [] []
  | cons {a b k : Nat} {p : PN} {ks : List Int} {kids ts : List Tr} (hp : ns[k]? = some p) (hk : (p.ks.length : Int) = kidsF p.o) (h1 : IsTs ns a k p.ks kids) (h2 : IsTs ns (k + 1) b ks ts) : IsTs ns a b ((k : Int) :: ks) (mkT p k kids :: ts)
namespace IsTs
variable {ns : List PN}
theorem le {a b : Nat} {ks : List Int} {ts : List Tr} (h : IsTs ns a b ks ts) : a ≤ b := by
  induction h with
  | nil => omega
  | cons hp hk h1 h2 i1 i2 => omega
theorem len {a b : Nat} {ks : List Int} {ts : List Tr} (h : IsTs ns a b ks ts) : ts.length = ks.length := by
  induction h with
  | nil => rfl
  | cons hp hk h1 h2 i1 i2 => simp [i2]
theorem roots {a b : Nat} {ks : List Int} {ts : List Tr} (h : IsTs ns a b ks ts) : ∀ k ∈ ks, (a : Int) ≤ k ∧ k < b := by
  induction h with
  | nil => simp
  | cons hp hk h1 h2 i1 i2 =>
    intro k hk'
    have e1 := h1.le
    have e2 := h2.le
    rcases List.mem_cons.1 hk' with rfl | hk'
    · omega
    · have := i2 k hk'; omega
theorem bound {a b : Nat} {ks : List Int} {ts : List Tr} (h : IsTs ns a b ks ts) : a < b → b ≤ ns.length := by
  induction h with
  | nil => omega
  | @cons a b k p ks kids ts hp hk h1 h2 i1 i2 =>
    intro _
    have := (List.getElem?_eq_some_iff.1 hp).1
    have := h2.le
    rcases Nat.lt_or_ge (k + 1) b with q | q
    · exact i2 q
    · omega
theorem append {a c : Nat} {ks : List Int} {ts : List Tr} (h : IsTs ns a c ks ts) : ∀ {b : Nat} {ks2 : List Int} {ts2 : List Tr}, IsTs ns c b ks2 ts2 → IsTs ns a b (ks ++ ks2) (ts ++ ts2) := by
  induction h with
  | nil => intro b ks2 ts2 h; exact h
  | cons hp hk h1 h2 i1 i2 => intro b ks2 ts2 h; exact .cons hp hk h1 (i2 h)
theorem split : ∀ {ks1 : List Int} {a b : Nat} {ks2 : List Int} {ts : List Tr}, IsTs ns a b (ks1 ++ ks2) ts → ∃ c ts1 ts2, ts = ts1 ++ ts2 ∧ IsTs ns a c ks1 ts1 ∧ IsTs ns c b ks2 ts2
  | [], a, b, ks2, ts, h => ⟨a, [], ts, rfl, .nil a, h⟩
  | k :: ks1, a, b, ks2, ts, h => by
    rw [List.cons_append] at h
    cases h with
    | cons hp hk h1 h2 =>
      obtain ⟨c, ts1, ts2, e, g1, g2⟩ := split h2
      exact ⟨c, _ :: ts1, ts2, by rw [e]; rfl, .cons hp hk h1 g1, g2⟩
theorem one {a b : Nat} {k : Int} {ts : List Tr} (h : IsTs ns a b [k] ts) : ∃ (kn : Nat) (p : PN) (kids : List Tr), k = kn ∧ b = kn + 1 ∧ ns[kn]? = some p ∧ (p.ks.length : Int) = kidsF p.o ∧ IsTs ns a kn p.ks kids ∧ ts = [mkT p kn kids] := by
  cases h with
  | cons hp hk h1 h2 => cases h2; exact ⟨_, _, _, rfl, rfl, hp, hk, h1, rfl⟩
theorem uniq {a b : Nat} {ks : List Int} {ts : List Tr} (h : IsTs ns a b ks ts) : ∀ {b' : Nat} {ts' : List Tr}, IsTs ns a b' ks ts' → b = b' ∧ ts = ts' := by
  induction h with
  | nil => intro b' ts' h; cases h; exact ⟨rfl, rfl⟩
  | @cons a b k p ks kids ts hp hk h1 h2 i1 i2 =>
    intro b' ts' h
    generalize hq : ((k : Int) :: ks) = kk at h
    cases h with
    | nil => cases hq
    | cons hp' hk' h1' h2' =>
      simp only [List.cons.injEq] at hq
      obtain ⟨e1, e2⟩ := hq
      have e1 : k = _ := Int.ofNat.inj e1
      subst e1; subst e2
      rw [hp] at hp'
      cases hp'
      obtain ⟨_, rfl⟩ := i1 h1'
      obtain ⟨rfl, rfl⟩ := i2 h2'
      exact ⟨rfl, rfl⟩
end IsTs
/-! ### The program's stack -/
/-- What the program asks of each node. -/
def nodeOK (leafP : PN → Prop) (p : PN) : Prop := (kidsF p.o = 0 → leafP p) ∧ (1 ≤ kidsF p.o → p.z = 0 ∧ p.tx = ⟨#[]⟩ ∧ p.xs = [])
open Classical in
noncomputable def stepM (leafP : PN → Prop) (p : PN) (i : Nat) (st : List (Tr × Int)) : Option (List (Tr × Int)) :=
  if kidsF p.o < 0 ∨ (p.ks.length : Int) ≠ kidsF p.o ∨ st.length < p.ks.length then none
  else if kidsF p.o = 0 then (if leafP p then some (st ++ [(leafF p i, (i : Int))]) else none)
  else if ¬ (p.z = 0 ∧ p.tx = ⟨#[]⟩ ∧ p.xs = []) then none
  else if p.ks ≠ (st.drop (st.length - p.ks.length)).map (·.2) then none
  else if 64 < dep (.op p.o ((st.drop (st.length - p.ks.length)).map (·.1)) i) then none
  else some (st.take (st.length - p.ks.length) ++ [(.op p.o ((st.drop (st.length - p.ks.length)).map (·.1)) i, (i : Int))])
noncomputable def runM (leafP : PN → Prop) : List PN → Nat → List (Tr × Int) → Option (List (Tr × Int))
  | [], _, st => some st
  | p :: l, i, st => match stepM leafP p i st with
    | none => none
    | some st' => runM leafP l (i + 1) st'
theorem runM_append (leafP : PN → Prop) : ∀ (l r : List PN) (i : Nat) (st : List (Tr × Int)), runM leafP (l ++ r) i st = match runM leafP l i st with
    | none => none
    | some st' => runM leafP r (i + l.length) st'
  | [], r, i, st => by simp [runM]
  | p :: l, r, i, st => by
    rw [List.cons_append, runM, runM]
    cases h : stepM leafP p i st with
    | none => rfl
    | some st' => simp only; rw [runM_append leafP l r (i + 1) st', List.length_cons, show i + 1 + l.length = i + (l.length + 1) by omega]
theorem runM_one (leafP : PN → Prop) (p : PN) (i : Nat) (st : List (Tr × Int)) : runM leafP [p] i st = stepM leafP p i st := by
  rw [runM]; cases stepM leafP p i st <;> rfl
theorem step_sound {ns : List PN} {leafP : PN → Prop} {p : PN} {i a : Nat} {st st' : List (Tr × Int)} (hp : ns[i]? = some p) (h : IsTs ns a i (st.map (·.2)) (st.map (·.1))) (hd : ∀ x ∈ st, dep x.1 ≤ 64) (hs : stepM leafP p i st = some st') :
    IsTs ns a (i + 1) (st'.map (·.2)) (st'.map (·.1)) ∧ (∀ x ∈ st', dep x.1 ≤ 64) ∧ nodeOK leafP p := by
  unfold stepM at hs
  split at hs
  · cases hs
  rename_i g1
  have hk : (p.ks.length : Int) = kidsF p.o := by omega
  split at hs
  · rename_i g2
    split at hs
    · rename_i g3
      cases hs
      have hks : p.ks = [] := List.eq_nil_of_length_eq_zero (by omega)
      refine ⟨?_, fun x hx => ?_, ⟨fun _ => g3, fun q => by omega⟩⟩
      · simp only [List.map_append, List.map_cons, List.map_nil]
        refine h.append ?_
        have : IsTs ns i (i + 1) [(i : Int)] [mkT p i []] := .cons hp hk (by rw [hks]; exact .nil i) (.nil _)
        rwa [mkT, if_pos g2] at this
      · rcases List.mem_append.1 hx with hx | hx
        · exact hd x hx
        · simp at hx; subst hx; simp only; rw [dep_leaf]; omega
    · cases hs
  split at hs
  · cases hs
  split at hs
  · cases hs
  split at hs
  · cases hs
  rename_i g2 g3 g4 g5
  cases hs
  have g4 : p.ks = (st.drop (st.length - p.ks.length)).map (·.2) := Classical.byContradiction g4
  refine ⟨?_, fun x hx => ?_, ⟨fun q => absurd q g2, fun _ => Classical.byContradiction g3⟩⟩
  · simp only [List.map_append, List.map_cons, List.map_nil]
    have e : st = st.take (st.length - p.ks.length) ++ st.drop (st.length - p.ks.length) := (List.take_append_drop _ _).symm
    have h2 := h
    rw [e, List.map_append, List.map_append] at h2
    obtain ⟨c, ts1, ts2, et, k1, k2⟩ := h2.split
    have hlen := k1.len
    obtain ⟨e1, e2⟩ := List.append_inj et (by rw [hlen]; simp)
    rw [← e1] at k1
    rw [← e2] at k2
    refine k1.append ?_
    have : IsTs ns c (i + 1) [(i : Int)] [mkT p i ((st.drop (st.length - p.ks.length)).map (·.1))] := .cons hp hk (by rw [← g4] at k2; exact k2) (.nil _)
    rwa [mkT, if_neg g2] at this
  · rcases List.mem_append.1 hx with hx | hx
    · exact hd x (List.mem_of_mem_take hx)
    · rw [List.mem_singleton] at hx; subst hx; simp only; omega
/-- The nodes from a on, up to b. -/
def seg (ns : List PN) (a b : Nat) : List PN := (ns.take b).drop a
theorem seg_nil (ns : List PN) (a : Nat) : seg ns a a = [] := List.drop_eq_nil_of_le (by simp; omega)
theorem seg_cat {ns : List PN} {a b c : Nat} (h1 : a ≤ b) (h2 : b ≤ c) : seg ns a c = seg ns a b ++ seg ns b c := by
  unfold seg
  apply List.ext_getElem?
  intro i
  rcases Nat.lt_or_ge i ((ns.take b).drop a).length with hi | hi
  · rw [List.getElem?_append_left hi]
    simp only [List.length_drop, List.length_take] at hi
    rw [List.getElem?_drop, List.getElem?_drop, List.getElem?_take, List.getElem?_take, if_pos (by omega), if_pos (by omega)]
  · rw [List.getElem?_append_right hi]
    simp only [List.length_drop, List.length_take] at hi ⊢
    rw [List.getElem?_drop, List.getElem?_drop]
    rcases Nat.lt_or_ge b ns.length with q | q
    · congr 1; omega
    · rw [List.getElem?_eq_none (by simp; omega), List.getElem?_eq_none (by simp; omega)]
theorem seg_one {ns : List PN} {k : Nat} {p : PN} (h : ns[k]? = some p) : seg ns k (k + 1) = [p] := by
  unfold seg
  rw [List.take_add_one, h]
  have := (List.getElem?_eq_some_iff.1 h).1
  rw [List.drop_append_of_le_length (by simp; omega), List.drop_eq_nil_of_le (by simp; omega)]
  rfl
theorem seg_len {ns : List PN} {a b : Nat} (hb : b ≤ ns.length) : (seg ns a b).length = b - a := by unfold seg; simp; omega
theorem run_sound {ns : List PN} {leafP : PN → Prop} {a : Nat} : ∀ (m : Nat) {i : Nat} {st st' : List (Tr × Int)}, i + m ≤ ns.length → IsTs ns a i (st.map (·.2)) (st.map (·.1)) → (∀ x ∈ st, dep x.1 ≤ 64) → runM leafP (seg ns i (i + m)) i st = some st' →
    IsTs ns a (i + m) (st'.map (·.2)) (st'.map (·.1)) ∧ (∀ x ∈ st', dep x.1 ≤ 64) ∧ ∀ j p, i ≤ j → j < i + m → ns[j]? = some p → nodeOK leafP p
  | 0, i, st, st', _, h, hd, hr => by
    rw [Nat.add_zero, seg_nil, runM] at hr
    cases hr
    exact ⟨h, hd, fun j p h1 h2 => by omega⟩
  | m + 1, i, st, st', hb, h, hd, hr => by
    obtain ⟨p, hp⟩ : ∃ p, ns[i]? = some p := ⟨_, List.getElem?_eq_getElem (by omega)⟩
    rw [seg_cat (show i ≤ i + 1 by omega) (show i + 1 ≤ i + (m + 1) by omega), seg_one hp, runM_append, runM_one] at hr
    cases hs : stepM leafP p i st with
    | none => rw [hs] at hr; cases hr
    | some st2 =>
      rw [hs] at hr
      simp only [List.length_cons, List.length_nil] at hr
      obtain ⟨k1, k2, k3⟩ := step_sound hp h hd hs
      rw [show i + (m + 1) = i + 1 + m by omega] at hr ⊢
      obtain ⟨j1, j2, j3⟩ := run_sound m (by omega) k1 k2 hr
      refine ⟨j1, j2, fun j q h1 h2 hq => ?_⟩
      rcases Nat.eq_or_lt_of_le h1 with e | e
      · subst e; rw [hp] at hq; cases hq; exact k3
      · exact j3 j q (by omega) (by omega) hq
theorem mkT_dep {p : PN} {i : Int} {kids : List Tr} (h0 : 1 ≤ kidsF p.o) : dep (mkT p i kids) = deps kids + 1 := by
  unfold mkT; rw [if_neg (by omega), dep]
theorem kidsF_ge (o : Int) : -1 ≤ kidsF o := by unfold kidsF; (repeat' split) <;> omega
theorem run_complete {ns : List PN} {leafP : PN → Prop} {a b : Nat} {ks : List Int} {ts : List Tr} (h : IsTs ns a b ks ts) : b ≤ ns.length → (∀ j p, a ≤ j → j < b → ns[j]? = some p → nodeOK leafP p) → (∀ t ∈ ts, dep t ≤ 64) → ∀ st, runM leafP (seg ns a b) a st = some (st ++ ts.zip ks) := by
  induction h with
  | nil a => intro _ _ _ st; rw [seg_nil, runM]; simp
  | @cons a b k p ks kids ts hp hk h1 h2 i1 i2 =>
    intro hb hok hd st
    have e1 := h1.le
    have e2 := h2.le
    have hkn := hok k p e1 (by omega) hp
    have hdk := hd _ (List.mem_cons_self ..)
    have hl1 := h1.len
    rw [seg_cat (b := k) (by omega) (by omega), seg_cat (a := k) (b := k + 1) (by omega) (by omega), seg_one hp, runM_append]
    have hks : ∀ t ∈ kids, dep t ≤ 64 := fun t ht => by
      rcases Int.lt_or_le (kidsF p.o) 1 with q | q
      · have : kids = [] := List.eq_nil_of_length_eq_zero (by omega)
        rw [this] at ht; cases ht
      · rw [mkT_dep q] at hdk
        have := deps_mem ht; omega
    rw [i1 (by omega) (fun j p h1 h2 => hok j p h1 (by omega)) hks st]
    simp only
    rw [seg_len (by omega), show a + (k - a) = k by omega, runM_append, runM_one]
    have hz : (kids.zip p.ks).length = p.ks.length := by simp [hl1]
    have hzs : (kids.zip p.ks).map (·.2) = p.ks := by rw [List.map_snd_zip (by omega)]
    have hzf : (kids.zip p.ks).map (·.1) = kids := by rw [List.map_fst_zip (by omega)]
    have hstep : stepM leafP p k (st ++ kids.zip p.ks) = some (st ++ [(mkT p k kids, (k : Int))]) := by
      have hlen : (st ++ kids.zip p.ks).length - p.ks.length = st.length := by rw [List.length_append, hz]; omega
      unfold stepM
      rw [if_neg (by rw [List.length_append, hz]; omega), hlen, List.drop_left, List.take_left, hzs, hzf]
      split
      · rename_i q
        rw [if_pos (hkn.1 q)]
        have : kids.zip p.ks = [] := List.eq_nil_of_length_eq_zero (by omega)
        rw [this, List.append_nil, mkT, if_pos q]
      · rename_i q
        have q1 : 1 ≤ kidsF p.o := by omega
        rw [if_neg (fun z => z (hkn.2 q1)), if_neg (fun z => z rfl)]
        rw [mkT, if_neg q] at hdk
        rw [if_neg (by omega), mkT, if_neg q]
    rw [hstep]
    simp only [List.length_cons, List.length_nil]
    rw [i2 hb (fun j p h1 h2 => hok j p (by omega) h2) (fun t ht => hd t (by simp [ht]))]
    simp
open Classical in
/-- What the program makes of the nodes from i on with this top. -/
noncomputable def treeM (ns : List PN) (leafP : PN → Prop) (i : Nat) (top : Int) : Option Tr :=
  if top < i ∨ (ns.length : Int) ≤ top then none
  else match runM leafP (seg ns i (top.toNat + 1)) i [] with
    | some [(t, _)] => some t
    | _ => none
theorem treeM_iff {ns : List PN} {leafP : PN → Prop} {i : Nat} {top : Int} {t : Tr} : treeM ns leafP i top = some t ↔
    ∃ k : Nat, top = k ∧ i ≤ k ∧ k < ns.length ∧ IsTs ns i (k + 1) [top] [t] ∧ dep t ≤ 64 ∧ ∀ j p, i ≤ j → j < k + 1 → ns[j]? = some p → nodeOK leafP p := by
  unfold treeM
  constructor
  · intro h
    split at h
    · cases h
    rename_i g
    obtain ⟨k, rfl⟩ : ∃ k : Nat, top = k := ⟨top.toNat, by omega⟩
    split at h
    · rename_i t' z hr
      cases h
      obtain ⟨m, hm⟩ : ∃ m, k + 1 = i + m := ⟨k + 1 - i, by omega⟩
      rw [show (k : Int).toNat + 1 = i + m by omega] at hr
      obtain ⟨j1, j2, j3⟩ := run_sound (a := i) m (by omega) (.nil i) (by simp) hr
      rw [← hm] at j1 j3
      obtain ⟨kn, p, kids, e1, e2, _⟩ := j1.one
      simp only at e1
      refine ⟨k, rfl, by omega, by omega, ?_, j2 (t, z) (by simp), j3⟩
      have : z = (k : Int) := by omega
      rw [← this]; exact j1
    · cases h
  · rintro ⟨k, rfl, h1, h2, h3, h4, h5⟩
    rw [if_neg (by omega)]
    have := run_complete h3 (by omega) h5 (by simpa using h4) []
    rw [show (k : Int).toNat + 1 = k + 1 by omega, this]
    rfl
/-! ### The reference's walk -/
def kidsW (g : Int → List Int → List Int) (top : Int) : List Int → List Int → List Int
  | [], out => out ++ [top]
  | k :: ks, out => if top ≤ k then out ++ [-1] else kidsW g top ks (g k out)
def walkF (ns : List PN) : Nat → Int → List Int → List Int
  | 0, _, out => out ++ [-1]
  | f + 1, top, out => if top < 0 ∨ (ns.length : Int) ≤ top ∨ ns.length < out.length then out ++ [-1] else kidsW (walkF ns f) top ((ns[top.toNat]?).map (·.ks) |>.getD []) out
def foldW (ns : List PN) (f : Nat) : List Int → List Int → List Int
  | [], out => out
  | k :: ks, out => foldW ns f ks (walkF ns f k out)
def rg (n : Nat) : List Int := (List.range n).map fun (i : Nat) => (i : Int)
theorem rg_len (n : Nat) : (rg n).length = n := by simp [rg]
theorem rg_succ (n : Nat) : rg (n + 1) = rg n ++ [(n : Int)] := by simp [rg, List.range_succ]
theorem rg_get {n i : Nat} {z : Int} (h : (rg n)[i]? = some z) : z = i ∧ i < n := by
  simp only [rg, List.getElem?_map, Option.map_eq_some_iff] at h
  obtain ⟨j, hj, rfl⟩ := h
  obtain ⟨h1, h2⟩ := List.getElem?_eq_some_iff.1 hj
  simp at h1 h2
  omega
theorem kidsW_all {g : Int → List Int → List Int} {top : Int} : ∀ (ks out : List Int), (∀ k ∈ ks, k < top) → kidsW g top ks out = ks.foldl (fun o k => g k o) out ++ [top]
  | [], out, _ => rfl
  | k :: ks, out, h => by
    rw [kidsW, if_neg (by have := h k (by simp); omega), kidsW_all ks _ fun k hk => h k (by simp [hk])]
    rfl
theorem foldW_eq (ns : List PN) (f : Nat) : ∀ (ks out : List Int), foldW ns f ks out = ks.foldl (fun o k => walkF ns f k o) out
  | [], out => rfl
  | k :: ks, out => by rw [foldW, foldW_eq ns f ks]; rfl
theorem walk_of {ns : List PN} {a b : Nat} {ks : List Int} {ts : List Tr} (h : IsTs ns a b ks ts) : b ≤ ns.length → ∀ f : Nat, (∀ k ∈ ks, k < (f : Int)) → foldW ns f ks (rg a) = rg b := by
  induction h with
  | nil a => intro _ f _; rfl
  | @cons a b k p ks kids ts hp hk h1 h2 i1 i2 =>
    intro hb f hf
    have e1 := h1.le
    have e2 := h2.le
    have hkf : (k : Int) < f := hf k (by simp)
    cases f with
    | zero => omega
    | succ f =>
      rw [foldW, walkF, if_neg (by rw [rg_len]; omega), show ((k : Int)).toNat = k by omega, hp]
      simp only [Option.map_some, Option.getD_some]
      rw [kidsW_all _ _ (fun q hq => by have := (h1.roots q hq).2; omega), ← foldW_eq, i1 (by omega) f (fun q hq => by have := (h1.roots q hq).2; omega), ← rg_succ]
      exact i2 hb (f + 1) fun q hq => hf q (by simp [hq])
theorem pre_app {a b c : List Int} (h : a ++ b <+: c) : a <+: c := (List.prefix_append a b).trans h
theorem pre_rg {l : List Int} {z : Int} {M : Nat} (h : l ++ [z] <+: rg M) : z = l.length := by
  obtain ⟨r, hr⟩ := h
  have : (rg M)[l.length]? = some z := by rw [← hr]; simp
  exact (rg_get this).1
theorem walk_pre (ns : List PN) : ∀ (f : Nat) (top : Int) (out : List Int), out <+: walkF ns f top out := by
  intro f
  induction f with
  | zero => intro top out; exact List.prefix_append _ _
  | succ f ih =>
    intro top out
    rw [walkF]
    split
    · exact List.prefix_append _ _
    · have : ∀ (ks out : List Int), out <+: kidsW (walkF ns f) top ks out := by
        intro ks
        induction ks with
        | nil => intro out; exact List.prefix_append _ _
        | cons k ks ih2 =>
          intro out
          rw [kidsW]
          split
          · exact List.prefix_append _ _
          · exact (ih k out).trans (ih2 _)
      exact this _ _
theorem foldW_pre (ns : List PN) (f : Nat) : ∀ (ks out : List Int), out <+: foldW ns f ks out
  | [], out => List.prefix_refl _
  | k :: ks, out => (walk_pre ns f k out).trans (foldW_pre ns f ks _)
theorem kidsW_ok {g : Int → List Int → List Int} (hg : ∀ k o, o <+: g k o) {top : Int} {M : Nat} : ∀ (ks out : List Int), kidsW g top ks out <+: rg M → ∀ k ∈ ks, k < top
  | [], out, _ => by simp
  | k :: ks, out, h => by
    rw [kidsW] at h
    split at h
    · have := pre_rg h; omega
    · intro q hq
      rcases List.mem_cons.1 hq with rfl | hq
      · omega
      · exact kidsW_ok hg ks _ h q hq
/-- What is written down in order is trees in post-order. -/
theorem walk_conv {ns : List PN} (hk : ∀ p ∈ ns, (p.ks.length : Int) = kidsF p.o) {M : Nat} : ∀ (f : Nat) (ks : List Int) (a : Nat), foldW ns f ks (rg a) <+: rg M → ∃ b ts, foldW ns f ks (rg a) = rg b ∧ IsTs ns a b ks ts := by
  intro f
  induction f with
  | zero =>
    intro ks a h
    cases ks with
    | nil => exact ⟨a, [], rfl, .nil a⟩
    | cons k ks =>
      rw [foldW, walkF] at h
      have := pre_rg ((foldW_pre ns 0 ks _).trans h)
      omega
  | succ f ih =>
    intro ks
    induction ks with
    | nil => intro a h; exact ⟨a, [], rfl, .nil a⟩
    | cons k ks ih2 =>
      intro a h
      rw [foldW] at h ⊢
      have h1 := (foldW_pre ns (f + 1) ks _).trans h
      rw [walkF] at h1
      split at h1
      · have := pre_rg h1; omega
      rename_i g
      obtain ⟨kn, rfl⟩ : ∃ kn : Nat, k = kn := ⟨k.toNat, by omega⟩
      obtain ⟨p, hp⟩ : ∃ p, ns[kn]? = some p := ⟨_, List.getElem?_eq_getElem (by omega)⟩
      rw [show ((kn : Int)).toNat = kn by omega, hp] at h1
      simp only [Option.map_some, Option.getD_some] at h1
      have hlt := kidsW_ok (walk_pre ns f) _ _ h1
      rw [kidsW_all _ _ hlt, ← foldW_eq] at h1
      obtain ⟨c, kids, e1, e2⟩ := ih p.ks a (pre_app h1)
      rw [e1] at h1
      have ec : kn = c := by have := pre_rg h1; rw [rg_len] at this; omega
      subst ec
      have hw : walkF ns (f + 1) (kn : Int) (rg a) = rg (kn + 1) := by
        rw [walkF, if_neg g, show ((kn : Int)).toNat = kn by omega, hp]
        simp only [Option.map_some, Option.getD_some]
        rw [kidsW_all _ _ hlt, ← foldW_eq, e1, rg_succ]
      rw [hw] at h ⊢
      obtain ⟨b, ts, e3, e4⟩ := ih2 (kn + 1) h
      exact ⟨b, mkT p kn kids :: ts, e3, .cons hp (hk p (List.mem_of_getElem? hp)) e2 e4⟩
/-- How long what is written down becomes. -/
theorem walk_len {ns : List PN} (hk : ∀ p ∈ ns, p.ks.length ≤ 3) : ∀ (f : Nat) (top : Int) (out : List Int), (walkF ns f top out).length ≤ max (out.length + 1) (ns.length + 1 + 4 * f) := by
  intro f
  induction f with
  | zero => intro top out; simp [walkF]; omega
  | succ f ih =>
    intro top out
    rw [walkF]
    split
    · simp; omega
    rename_i g
    have step : ∀ (ks out : List Int) (X : Nat), ns.length + 1 + 4 * f ≤ X + 1 → out.length ≤ X → (kidsW (walkF ns f) top ks out).length ≤ X + ks.length + 1 := by
      intro ks
      induction ks with
      | nil => intro out X _ h; simp [kidsW]; omega
      | cons k ks ih2 =>
        intro out X h1 h2
        rw [kidsW]
        split
        · simp; omega
        · have := ih2 (walkF ns f k out) (X + 1) (by omega) (by have := ih k out; omega)
          simp only [List.length_cons]; omega
    have hks : ((ns[top.toNat]?).map (·.ks) |>.getD []).length ≤ 3 := by
      cases hq : ns[top.toNat]? with
      | none => simp
      | some p => simpa using hk p (List.mem_of_getElem? hq)
    have := step ((ns[top.toNat]?).map (·.ks) |>.getD []) out (ns.length + 4 * f) (by omega) (by omega)
    omega
end Go.Proofs.YtmbonalhbibppaaDoor
