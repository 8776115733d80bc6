/- The verifier in plain words (printed by gen_v9.py). -/
import Derived.Test.YtmbonalhbibppaaDoorV8
namespace Go.Proofs.YtmbonalhbibppaaDoor
open Go.Eng
set_option linter.unusedVariables false
set_option linter.unusedSimpArgs false
/-- What is known at a place: the types on the stack, and in the slots (0: unset). -/
abbrev St := List Int × List Int
def rangeF (np : Nat) (sl : Int) (ni a : Nat) (o g : Int) : Prop := (o = 1 → g < np) ∧ (o = 2 → g < 6) ∧ (o = 3 ∨ o = 4 → g < sl) ∧ (o = 22 ∨ o = 23 → (a : Int) < g ∧ g < ni)
instance (np : Nat) (sl : Int) (ni a : Nat) (o g : Int) : Decidable (rangeF np sl ni a o g) := by unfold rangeF; infer_instance
def wantF (o : Int) : List Int := if o = 1 ∨ o = 2 ∨ o = 3 ∨ o = 22 ∨ o = 24 then [] else if o = 4 then [-1] else if o = 23 then [1] else if o = 25 then [4] else (rowF (o + 3)).1
def kindF (pv : List PV) (g : Int) : Int := ((pv[g.toNat]?).map (·.k)).getD 0
def slotF (sls : List Int) (g : Int) : Int := (sls[g.toNat]?).getD 0
def pushF (pv : List PV) (sls : List Int) (o g : Int) : Int :=
  if o = 1 then kindF pv g else if o = 2 then attrF g else if o = 3 then slotF sls g else if o = 4 ∨ o = 22 ∨ o = 23 ∨ o = 24 ∨ o = 25 then 0 else (rowF (o + 3)).2
def fitF (o old : Int) (args : List Int) : Prop := (o = 4 → old = 0 ∨ args[0]? = some old) ∧ (o = 23 → args[0]? = some 1) ∧ (o = 25 → args[0]? = some 4) ∧ (5 ≤ o ∧ o ≤ 21 → typF (o + 3) args ≠ 0)
instance (o old : Int) (args : List Int) : Decidable (fitF o old args) := by unfold fitF; infer_instance
def nextS (o g : Int) (s : St) (n : Nat) (p : Int) : St := (s.1.take n ++ (if p = 0 then [] else [p]), if o = 4 then s.2.set g.toNat ((s.1[n]?).getD 0) else s.2)
/-- One instruction: what is wrong (0: nothing), and what is known behind it. -/
def stepF (pv : List PV) (sl : Int) (ni a : Nat) (o g : Int) (s : St) : Int × St :=
  if ¬ rangeF pv.length sl ni a o g then (3, s)
  else if s.1.length < (wantF o).length then (4, s)
  else if ¬ fitF o (slotF s.2 g) (s.1.drop (s.1.length - (wantF o).length)) then (5, s)
  else if o = 3 ∧ pushF pv s.2 o g = 0 then (6, s)
  else if 100 < (nextS o g s (s.1.length - (wantF o).length) (pushF pv s.2 o g)).1.length then (7, s)
  else (0, nextS o g s (s.1.length - (wantF o).length) (pushF pv s.2 o g))
def goesF (o : Int) : Prop := o ≠ 22 ∧ o ≠ 24 ∧ o ≠ 25
instance (o : Int) : Decidable (goesF o) := by unfold goesF; infer_instance
/-- Where it goes on. -/
def nexts (a : Nat) (o g : Int) : List Int := if o = 24 ∨ o = 25 then [] else if o = 22 then [g] else if o = 23 then [(a : Int) + 1, g] else [(a : Int) + 1]
abbrev Sts := Nat → Option St
def know (f : Sts) (k : Nat) (t : St) : Option Sts := match f k with
  | none => some fun j => if j = k then some t else f j
  | some u => if u = t then some f else none
def merge (t : St) : List Int → Sts → Option Sts
  | [], f => some f
  | k :: l, f => match know f k.toNat t with
    | none => none
    | some f' => merge t l f'
def verL (pv : List PV) (sl : Int) (ni : Nat) : List (Int × Int) → Nat → Sts → Int → Int × Int
  | [], _, _, m => (m, 0)
  | (o, g) :: r, a, f, m => match f a with
    | none => (0, 2)
    | some s =>
      if (stepF pv sl ni a o g s).1 ≠ 0 then (0, (stepF pv sl ni a o g s).1)
      else if goesF o ∧ a + 1 = ni then (0, 8)
      else match merge (stepF pv sl ni a o g s).2 (nexts a o g) f with
        | none => (0, 9)
        | some f' => verL pv sl ni r (a + 1) f' (max (max m s.1.length) (stepF pv sl ni a o g s).2.1.length)
def start (sl : Int) : Sts := fun k => if k = 0 then some ([], List.replicate sl.toNat 0) else none
open Classical in
/-- What Verify answers: the height, and what is wrong (0: nothing). -/
noncomputable def verF (pv : List PV) (sl : Int) (is : List (Int × Int)) : Int × Int := if ¬ shapeP pv sl is then (0, 1) else if is = [] then (0, 8) else verL pv sl is.length is 0 (start sl) 0
/-! ### Plain facts -/
theorem o25 {o : Int} (h1 : 1 ≤ o) (h2 : o ≤ 25) : o = 1 ∨ o = 2 ∨ o = 3 ∨ o = 4 ∨ o = 5 ∨ o = 6 ∨ o = 7 ∨ o = 8 ∨ o = 9 ∨ o = 10 ∨ o = 11 ∨ o = 12 ∨ o = 13 ∨ o = 14 ∨ o = 15 ∨ o = 16 ∨ o = 17 ∨ o = 18 ∨ o = 19 ∨ o = 20 ∨ o = 21 ∨ o = 22 ∨ o = 23 ∨ o = 24 ∨ o = 25 := by omega
theorem pops_want {o : Int} (h1 : 1 ≤ o) (h2 : o ≤ 25) : popsF o = ((wantF o).length : Int) := by
  rcases o25 h1 h2 with rfl | rfl | rfl | rfl | rfl | rfl | rfl | rfl | rfl | rfl | rfl | rfl | rfl | rfl | rfl | rfl | rfl | rfl | rfl | rfl | rfl | rfl | rfl | rfl | rfl <;> decide
theorem row_typ {op : Int} {ts : List Int} (h1 : 8 ≤ op) (h2 : op ≤ 24) (h : typF op ts ≠ 0) : typF op ts = (rowF op).2 := by
  unfold typF rowF at *
  split at h <;> repeat' split at h
  all_goals first | (exact absurd rfl h) | skip
  all_goals (repeat' split) <;> first | rfl | omega
theorem kids_want {o : Int} (h1 : 5 ≤ o) (h2 : o ≤ 21) : kidsF (o + 3) = ((wantF o).length : Int) := by
  have := pops_want (o := o) (by omega) (by omega)
  rw [← this]; unfold popsF oprF
  rw [if_neg (by omega), if_neg (by omega), if_pos ⟨h1, h2⟩]
/-- What the reference's loop over the wanted types does. -/
def chk (o : Int) (gi : Nat) : List Int → List Int → Int → List Int → Option (List Int)
  | w :: ws, a :: bs, any, sls =>
    if (w = 0 ∧ a ≠ (if w = 0 ∧ any = 0 then a else any)) ∨ (0 < w ∧ a ≠ w) then none
    else if o = 4 then (if (sls[gi]?).getD 0 ≠ 0 ∧ (sls[gi]?).getD 0 ≠ a then none else chk o gi ws bs (if w = 0 ∧ any = 0 then a else any) (sls.set gi a))
    else chk o gi ws bs (if w = 0 ∧ any = 0 then a else any) sls
  | _, _, _, sls => some sls
theorem len_two {l : List Int} (h : l.length = 2) : ∃ a b, l = [a, b] := by
  match l, h with
  | [a, b], _ => exact ⟨a, b, rfl⟩
theorem chk_fit {o : Int} (h1 : 1 ≤ o) (h2 : o ≤ 25) {gi : Nat} {args sls : List Int} (hl : args.length = (wantF o).length) (hp : ∀ a ∈ args, 0 < a) :
    chk o gi (wantF o) args 0 sls = if fitF o ((sls[gi]?).getD 0) args then some (if o = 4 then sls.set gi ((args[0]?).getD 0) else sls) else none := by
  rcases o25 h1 h2 with rfl | rfl | rfl | rfl | rfl | rfl | rfl | rfl | rfl | rfl | rfl | rfl | rfl | rfl | rfl | rfl | rfl | rfl | rfl | rfl | rfl | rfl | rfl | rfl | rfl
  · have e : args = [] := List.eq_nil_of_length_eq_zero (by rw [hl]; decide)
    subst e
    simp [wantF, chk, fitF]
  · have e : args = [] := List.eq_nil_of_length_eq_zero (by rw [hl]; decide)
    subst e
    simp [wantF, chk, fitF]
  · have e : args = [] := List.eq_nil_of_length_eq_zero (by rw [hl]; decide)
    subst e
    simp [wantF, chk, fitF]
  · obtain ⟨a, rfl⟩ : ∃ a, args = [a] := List.length_eq_one_iff.1 (by rw [hl]; decide)
    have ha := hp a (by simp)
    simp [wantF, rowF, chk, fitF, typF, allT]
    try (repeat' split) <;> first | rfl | omega | simp_all | (exfalso; omega)
  · obtain ⟨a, rfl⟩ : ∃ a, args = [a] := List.length_eq_one_iff.1 (by rw [hl]; decide)
    have ha := hp a (by simp)
    simp [wantF, rowF, chk, fitF, typF, allT]
    try (repeat' split) <;> first | rfl | omega | simp_all | (exfalso; omega)
  · obtain ⟨a, rfl⟩ : ∃ a, args = [a] := List.length_eq_one_iff.1 (by rw [hl]; decide)
    have ha := hp a (by simp)
    simp [wantF, rowF, chk, fitF, typF, allT]
    try (repeat' split) <;> first | rfl | omega | simp_all | (exfalso; omega)
  · obtain ⟨a, rfl⟩ : ∃ a, args = [a] := List.length_eq_one_iff.1 (by rw [hl]; decide)
    have ha := hp a (by simp)
    simp [wantF, rowF, chk, fitF, typF, allT]
    try (repeat' split) <;> first | rfl | omega | simp_all | (exfalso; omega)
  · obtain ⟨a, b, rfl⟩ : ∃ a b, args = [a, b] := len_two (by rw [hl]; decide)
    have ha := hp a (by simp)
    have hb := hp b (by simp)
    simp [wantF, rowF, chk, fitF, typF, allT]
    try (repeat' split) <;> first | rfl | omega | simp_all | (exfalso; omega)
  · obtain ⟨a, b, rfl⟩ : ∃ a b, args = [a, b] := len_two (by rw [hl]; decide)
    have ha := hp a (by simp)
    have hb := hp b (by simp)
    simp [wantF, rowF, chk, fitF, typF, allT]
    try (repeat' split) <;> first | rfl | omega | simp_all | (exfalso; omega)
  · obtain ⟨a, b, rfl⟩ : ∃ a b, args = [a, b] := len_two (by rw [hl]; decide)
    have ha := hp a (by simp)
    have hb := hp b (by simp)
    simp [wantF, rowF, chk, fitF, typF, allT]
    try (repeat' split) <;> first | rfl | omega | simp_all | (exfalso; omega)
  · obtain ⟨a, b, rfl⟩ : ∃ a b, args = [a, b] := len_two (by rw [hl]; decide)
    have ha := hp a (by simp)
    have hb := hp b (by simp)
    simp [wantF, rowF, chk, fitF, typF, allT]
    try (repeat' split) <;> first | rfl | omega | simp_all | (exfalso; omega)
  · obtain ⟨a, b, rfl⟩ : ∃ a b, args = [a, b] := len_two (by rw [hl]; decide)
    have ha := hp a (by simp)
    have hb := hp b (by simp)
    simp [wantF, rowF, chk, fitF, typF, allT]
    try (repeat' split) <;> first | rfl | omega | simp_all | (exfalso; omega)
  · obtain ⟨a, b, rfl⟩ : ∃ a b, args = [a, b] := len_two (by rw [hl]; decide)
    have ha := hp a (by simp)
    have hb := hp b (by simp)
    simp [wantF, rowF, chk, fitF, typF, allT]
    try (repeat' split) <;> first | rfl | omega | simp_all | (exfalso; omega)
  · obtain ⟨a, b, rfl⟩ : ∃ a b, args = [a, b] := len_two (by rw [hl]; decide)
    have ha := hp a (by simp)
    have hb := hp b (by simp)
    simp [wantF, rowF, chk, fitF, typF, allT]
    try (repeat' split) <;> first | rfl | omega | simp_all | (exfalso; omega)
  · obtain ⟨a, b, rfl⟩ : ∃ a b, args = [a, b] := len_two (by rw [hl]; decide)
    have ha := hp a (by simp)
    have hb := hp b (by simp)
    simp [wantF, rowF, chk, fitF, typF, allT]
    try (repeat' split) <;> first | rfl | omega | simp_all | (exfalso; omega)
  · obtain ⟨a, b, rfl⟩ : ∃ a b, args = [a, b] := len_two (by rw [hl]; decide)
    have ha := hp a (by simp)
    have hb := hp b (by simp)
    simp [wantF, rowF, chk, fitF, typF, allT]
    try (repeat' split) <;> first | rfl | omega | simp_all | (exfalso; omega)
  · obtain ⟨a, b, rfl⟩ : ∃ a b, args = [a, b] := len_two (by rw [hl]; decide)
    have ha := hp a (by simp)
    have hb := hp b (by simp)
    simp [wantF, rowF, chk, fitF, typF, allT]
    try (repeat' split) <;> first | rfl | omega | simp_all | (exfalso; omega)
  · obtain ⟨a, b, rfl⟩ : ∃ a b, args = [a, b] := len_two (by rw [hl]; decide)
    have ha := hp a (by simp)
    have hb := hp b (by simp)
    simp [wantF, rowF, chk, fitF, typF, allT]
    try (repeat' split) <;> first | rfl | omega | simp_all | (exfalso; omega)
  · obtain ⟨a, b, rfl⟩ : ∃ a b, args = [a, b] := len_two (by rw [hl]; decide)
    have ha := hp a (by simp)
    have hb := hp b (by simp)
    simp [wantF, rowF, chk, fitF, typF, allT]
    try (repeat' split) <;> first | rfl | omega | simp_all | (exfalso; omega)
  · obtain ⟨a, b, rfl⟩ : ∃ a b, args = [a, b] := len_two (by rw [hl]; decide)
    have ha := hp a (by simp)
    have hb := hp b (by simp)
    simp [wantF, rowF, chk, fitF, typF, allT]
    try (repeat' split) <;> first | rfl | omega | simp_all | (exfalso; omega)
  · obtain ⟨a, b, rfl⟩ : ∃ a b, args = [a, b] := len_two (by rw [hl]; decide)
    have ha := hp a (by simp)
    have hb := hp b (by simp)
    simp [wantF, rowF, chk, fitF, typF, allT]
    try (repeat' split) <;> first | rfl | omega | simp_all | (exfalso; omega)
  · have e : args = [] := List.eq_nil_of_length_eq_zero (by rw [hl]; decide)
    subst e
    simp [wantF, chk, fitF]
  · obtain ⟨a, rfl⟩ : ∃ a, args = [a] := List.length_eq_one_iff.1 (by rw [hl]; decide)
    have ha := hp a (by simp)
    simp [wantF, rowF, chk, fitF, typF, allT]
    try (repeat' split) <;> first | rfl | omega | simp_all | (exfalso; omega)
  · have e : args = [] := List.eq_nil_of_length_eq_zero (by rw [hl]; decide)
    subst e
    simp [wantF, chk, fitF]
  · obtain ⟨a, rfl⟩ : ∃ a, args = [a] := List.length_eq_one_iff.1 (by rw [hl]; decide)
    have ha := hp a (by simp)
    simp [wantF, rowF, chk, fitF, typF, allT]
    try (repeat' split) <;> first | rfl | omega | simp_all | (exfalso; omega)
end Go.Proofs.YtmbonalhbibppaaDoor
