/- Texts that the law FnExactRun leans on, part 3 of 11: contracts of the functions that it reaches and plain lemmas. Each holds under the conditions that it states. -/
import Derived.Test.YtkedmcebngachaaGreatDoorMFnExactRun2
set_option maxHeartbeats 16000000
set_option linter.unusedVariables false
set_option linter.unusedSimpArgs false
namespace Go.Proofs.YtkedmcebngachaaGreatDoor
open Go.Eng
set_option linter.unusedVariables false
set_option linter.unusedSimpArgs false
def kidsF (op : Int) : Int := if 1 ≤ op ∧ op ≤ 7 then 0 else if 8 ≤ op ∧ op ≤ 10 then 1 else if 11 ≤ op ∧ op ≤ 26 then 2 else if op = 27 then 3 else -1
theorem kidsOf_f {w : World} (op : Int) : FC Tryz.prog 178 [.int .i64 op] w fun v _ => v = .int .i64 (kidsF op) := by
 refine FC.intro (cs := []) Tryz.func178 (by kernel_rfl) fun E R hE hr hR => ?_
 conv => cbv
 repeat' (split <;> conv => cbv)
 all_goals (rw [hR]; refine ⟨Ext.refl _, congrArg (Value.int .i64) ?_⟩; simp only [hE.cmp, cmpR, decide_eq_true_eq, beq_iff_eq] at *; unfold kidsF; repeat' split) <;> omega
theorem goesOn_q (o : Int) (w : World) : QB Tryz.prog 169 [.int .i64 o] w (o ≠ 22 ∧ o ≠ 24 ∧ o ≠ 25) := by
 refine QB.intro (cs := []) Tryz.func169 (by kernel_rfl) fun w hx0 w1 hs E R hE hr hR => ?_
 conv => cbv
 refine br (fun g => ?_) (fun g => ?_)
 ·have g : o ≠ 22 := by simpa [hE.cmp, cmpR] using g
  conv => cbv
  refine br (fun g2 => ?_) (fun g2 => ?_)
  ·have g2 : o ≠ 24 := by simpa [hE.cmp, cmpR] using g2
   conv => cbv
   exact hR _ _ hs (by rw [show (E.2 BinOp.neq o 25 = true) = (E.cmp .neq o 25 = true) from rfl, hE.cmp]; simp [cmpR, g, g2])
  ·have g2 : o = 24 := by simpa [hE.cmp, cmpR] using g2
   conv => cbv
   exact hR _ _ hs (by simp [g2])
 ·have g : o = 22 := by simpa [hE.cmp, cmpR] using g
  conv => cbv
  exact hR _ _ hs (by simp [g])
def attrF (g : Int) : Int := if g < 2 then 3 else if g < 4 then 2 else 4
theorem l3attrType_f {w : World} (g : Int) : FC Tryz.prog 239 [.int .i64 g] w fun v _ => v = .int .i64 (attrF g) := by
 refine FC.intro (cs := []) Tryz.func239 (by kernel_rfl) fun E R hE hr hR => ?_
 conv => cbv
 repeat' (split <;> conv => cbv)
 all_goals (rw [hR]; refine ⟨Ext.refl _, congrArg (Value.int .i64) ?_⟩; simp only [hE.cmp, cmpR, decide_eq_true_eq, beq_iff_eq] at *; unfold attrF; repeat' split) <;> omega
def popsF (o : Int) : Int := if o = 1 ∨ o = 2 ∨ o = 3 ∨ o = 22 ∨ o = 24 then 0 else if o = 4 ∨ o = 23 ∨ o = 25 then 1 else kidsF (oprF o)
theorem pops_f {w : World} (hT : Tab w 3 opF) (o : Int) : FC Tryz.prog 167 [.int .i64 o] w fun v _ => v = .int .i64 (popsF o) := by
 refine FC.intro (cs := []) Tryz.func167 (by kernel_rfl) fun E R hE hr hR => ?_
 conv => cbv
 refine br (fun g => ?_) (fun g => ?_)
 ·have g0 := g
  have g : o = 1 := by simpa [hE.cmp, cmpR] using g
  conv => cbv
  refine br (fun _ => ?_) (fun q => absurd g0 q)
  conv => cbv
  rw [hR]; exact ⟨Ext.refl _, by simp [one, popsF, g]⟩
 have g1 : o ≠ 1 := by simpa [hE.cmp, cmpR] using g
 clear g
 conv => cbv
 refine br (fun g => ?_) (fun g => ?_)
 ·have g0 := g
  have g : o = 2 := by simpa [hE.cmp, cmpR] using g
  conv => cbv
  refine br (fun _ => ?_) (fun q => absurd g0 q)
  conv => cbv
  rw [hR]; exact ⟨Ext.refl _, by simp [one, popsF, g]⟩
 have g2 : o ≠ 2 := by simpa [hE.cmp, cmpR] using g
 clear g
 conv => cbv
 refine br (fun g => ?_) (fun g => ?_)
 ·have g0 := g
  have g : o = 3 := by simpa [hE.cmp, cmpR] using g
  conv => cbv
  refine br (fun _ => ?_) (fun q => absurd g0 q)
  conv => cbv
  rw [hR]; exact ⟨Ext.refl _, by simp [one, popsF, g]⟩
 have g3 : o ≠ 3 := by simpa [hE.cmp, cmpR] using g
 clear g
 conv => cbv
 refine br (fun g => ?_) (fun g => ?_)
 ·have g0 := g
  have g : o = 22 := by simpa [hE.cmp, cmpR] using g
  conv => cbv
  refine br (fun _ => ?_) (fun q => absurd g0 q)
  conv => cbv
  rw [hR]; exact ⟨Ext.refl _, by simp [one, popsF, g]⟩
 have g22 : o ≠ 22 := by simpa [hE.cmp, cmpR] using g
 clear g
 conv => cbv
 refine br (fun g => ?_) (fun g => ?_)
 ·have g0 := g
  have g : o = 24 := by simpa [hE.cmp, cmpR] using g
  conv => cbv
  rw [hR]; exact ⟨Ext.refl _, by simp [one, popsF, g]⟩
 have g24 : o ≠ 24 := by simpa [hE.cmp, cmpR] using g
 clear g
 conv => cbv
 refine br (fun g => ?_) (fun g => ?_)
 ·have g0 := g
  have g : o = 4 := by simpa [hE.cmp, cmpR] using g
  conv => cbv
  refine br (fun _ => ?_) (fun q => absurd g0 q)
  conv => cbv
  rw [hR]; exact ⟨Ext.refl _, by simp [one, popsF, g]⟩
 have g4 : o ≠ 4 := by simpa [hE.cmp, cmpR] using g
 clear g
 conv => cbv
 refine br (fun g => ?_) (fun g => ?_)
 ·have g0 := g
  have g : o = 23 := by simpa [hE.cmp, cmpR] using g
  conv => cbv
  refine br (fun _ => ?_) (fun q => absurd g0 q)
  conv => cbv
  rw [hR]; exact ⟨Ext.refl _, by simp [one, popsF, g]⟩
 have g23 : o ≠ 23 := by simpa [hE.cmp, cmpR] using g
 clear g
 conv => cbv
 refine br (fun g => ?_) (fun g => ?_)
 ·have g0 := g
  have g : o = 25 := by simpa [hE.cmp, cmpR] using g
  conv => cbv
  rw [hR]; exact ⟨Ext.refl _, by simp [one, popsF, g]⟩
 have g25 : o ≠ 25 := by simpa [hE.cmp, cmpR] using g
 clear g
 conv => cbv
 refine st_f hr (operatorOf_f hT o) fun v w1 hx ev => ?_
 subst ev
 obtain ⟨p, hp⟩ : ∃ p, p = oprF o := ⟨_, rfl⟩
 rw [← hp]
 conv => cbv
 refine st_f hr (kidsOf_f p) fun v w2 hx2 ev => ?_
 subst ev
 obtain ⟨q, hq⟩ : ∃ q, q = kidsF p := ⟨_, rfl⟩
 rw [← hq]
 conv => cbv
 rw [hR]; exact ⟨hx.trans hx2, by simp [one, popsF, g1, g2, g3, g22, g24, g4, g23, g25, hq, hp]⟩
def allT (t : Int) (ts : List Int) : Bool := ts.all fun x => x == t
theorem same_f {w : World} {B : Nat} {a : Addr} {A : Option Addr} {n c : Nat} {ts : List Int} (hb : Box B 52 1 w a [.slice A n c]) (h : Ints w A n c ts) (t : Int) :
  FC Tryz.prog 281 [.int .i64 t, .pointer (some a)] w fun v _ => v = .bool (allT t ts) := by
 refine FC.intro (cs := []) Tryz.func281 (by kernel_rfl) fun E R hE hr hR => ?_
 have hl := h.len
 have hle := h.le
 conv => cbv
 refine st_load hE cInts (v := .slice A n c) (by have := hb.at 0 _ rfl; rwa [add_zero] at this) ?_
 conv => cbv
 refine st_len hE tInts fun x hx => ?_
 conv => cbv
 refine loop_rule hr (fun (s : Nat × Int) w' => s.1 ≤ n ∧ s.2 = (s.1 : Int) ∧ Ext w w' ∧ ∀ x ∈ ts.take s.1, x = t) (fun s => [(0, .int .i64 t), (6, .slice A n c), (7, .int .i64 x), (8, .int .i64 s.2)]) (fun s => n - s.1) (0, 0)
  (by simp [Fits, lk]) ⟨by simp, by simp, Ext.refl _, by simp⟩ ?_
 rintro I hI ⟨i, ii⟩ w' ⟨hi, hii, hxw, hall⟩
 simp only at hi hii hall
 obtain ⟨ii', hii'⟩ : ∃ z, z = ii + 1 := ⟨_, rfl⟩
 conv => cbv
 refine br (fun g => ?_) (fun g => ?_)
 ·have g : i < n := by
   have : ii < x := by simpa [hE.cmp, cmpR] using g
   omega
  have e1 : E.ar .add .i64 ii 1 = ii' := by rw [hE.ar, hii']; exact wrap_in (by omega) (by omega)
  conv => cbv
  refine st_int hE tInts (h.ext hxw) (k := i) (by omega) g fun p u hu hp => ?_
  conv => cbv
  refine st_load hE cInt hp ?_
  conv => cbv
  refine br (fun g2 => ?_) (fun g2 => ?_)
  ·have g2 : u ≠ t := by simpa [hE.cmp, cmpR] using g2
   conv => cbv
   rw [hR]; refine ⟨hxw, ?_⟩
   have : allT t ts = false := by
    unfold allT; rw [List.all_eq_false]
    exact ⟨u, m1_ hu, by simpa using g2⟩
   rw [this]; rfl
  ·have g2 : u = t := by simpa [hE.cmp, cmpR] using g2
   conv => cbv
   simp only [e1]
   refine ⟨(i + 1, ii'), by simp [Fits, lk], hI _ _ ⟨by simp only; omega, by simp only; omega, hxw, ?_⟩, by simp only; omega⟩
   simp only
   rw [g4_, hu]
   intro y hy
   rcases List.mem_append.1 hy with hy | hy
   ·exact hall y hy
   ·simp at hy; rw [hy, g2]
 ·have g : i = n := by
   have : ¬ ii < x := by simpa [hE.cmp, cmpR] using g
   omega
  rw [g3_ (by omega)] at hall
  conv => cbv
  rw [hR]; refine ⟨hxw, ?_⟩
  have : allT t ts = true := by
   unfold allT; rw [List.all_eq_true]
   exact fun y hy => by simpa using hall y hy
  rw [this]; rfl
theorem fit_f {w : World} (b : Bool) (t : Int) : FC Tryz.prog 282 [.bool b, .int .i64 t] w fun v _ => v = .int .i64 (if b = true then t else 0) := by
 refine FC.intro (cs := []) Tryz.func282 (by kernel_rfl) fun E R hE hr hR => ?_
 cases b with
 | true => conv => cbv
           rw [hR]; exact ⟨Ext.refl _, rfl⟩
 | false => conv => cbv
            rw [hR]; exact ⟨Ext.refl _, rfl⟩
def typF (op : Int) (ts : List Int) : Int :=
 if op = 8 ∨ (11 ≤ op ∧ op ≤ 15) then (if allT 2 ts = true then 2 else 0)
 else if op = 9 then (if allT 1 ts = true then 1 else 0)
 else if op = 10 then (if allT 4 ts = true then 2 else 0)
 else if 16 ≤ op ∧ op ≤ 18 then (if allT 4 ts = true then 4 else 0)
 else if op = 19 ∨ op = 20 then (if ts[0]? = ts[1]? then 1 else 0)
 else if op = 21 ∨ op = 22 then (if allT 2 ts = true then 1 else 0)
 else if op = 23 then (if ts[0]? = some 3 ∧ ts[1]? = some 4 then 1 else 0)
 else (if allT 4 ts = true then 1 else 0)
theorem typeOf_f {w : World} {A : Option Addr} {n c : Nat} {ts : List Int} (h : Ints w A n c ts) (op : Int) (h1 : 8 ≤ op) (h2 : op ≤ 24) (hk : (n : Int) = kidsF op) :
  FC Tryz.prog 247 [.int .i64 op, .slice A n c] w fun v _ => v = .int .i64 (typF op ts) := by
 refine FC.intro (cs := []) Tryz.func247 (by kernel_rfl) fun E R hE hr hR => ?_
 have hl := h.len
 conv => cbv
 refine st_box1 hr rfl fun a w1 hx hb0 => ?_
 have hb := hb0 _ (n1_ _)
 have hl0 : w1.cell? a = some (.slice A n c) := by have := hb.at 0 _ rfl; rwa [add_zero] at this
 conv => cbv
 refine br (fun g => ?_) (fun g => ?_)
 ·have g0 := g
  have g : op = 8 := by simpa [hE.cmp, cmpR] using g
  conv => cbv
  refine br (fun _ => ?_) (fun q => absurd g0 q)
  conv => cbv
  refine st_f hr (same_f hb (h.ext hx) 2) fun v w2 hx2 ev => ?_
  subst ev
  obtain ⟨q, hq⟩ : ∃ q, q = allT 2 ts := ⟨_, rfl⟩
  rw [← hq]
  conv => cbv
  refine st_f hr (fit_f q 2) fun v w3 hx3 ev => ?_
  subst ev
  obtain ⟨z, hz⟩ : ∃ z : Int, z = if q = true then 2 else 0 := ⟨_, rfl⟩
  rw [← hz]
  conv => cbv
  rw [hR]; exact ⟨(hx.trans hx2).trans hx3, by rw [hz, hq]; simp [one, typF, g]⟩
 have g8 : op ≠ 8 := by simpa [hE.cmp, cmpR] using g
 clear g
 conv => cbv
 refine br (fun g => ?_) (fun g => ?_)
 ·have g0 := g
  have g : op = 11 := by simpa [hE.cmp, cmpR] using g
  conv => cbv
  refine br (fun _ => ?_) (fun q => absurd g0 q)
  conv => cbv
  refine st_f hr (same_f hb (h.ext hx) 2) fun v w2 hx2 ev => ?_
  subst ev
  obtain ⟨q, hq⟩ : ∃ q, q = allT 2 ts := ⟨_, rfl⟩
  rw [← hq]
  conv => cbv
  refine st_f hr (fit_f q 2) fun v w3 hx3 ev => ?_
  subst ev
  obtain ⟨z, hz⟩ : ∃ z : Int, z = if q = true then 2 else 0 := ⟨_, rfl⟩
  rw [← hz]
  conv => cbv
  rw [hR]; exact ⟨(hx.trans hx2).trans hx3, by rw [hz, hq]; simp [one, typF, g]⟩
 have g11 : op ≠ 11 := by simpa [hE.cmp, cmpR] using g
 clear g
 conv => cbv
 refine br (fun g => ?_) (fun g => ?_)
 ·have g0 := g
  have g : op = 12 := by simpa [hE.cmp, cmpR] using g
  conv => cbv
  refine br (fun _ => ?_) (fun q => absurd g0 q)
  conv => cbv
  refine st_f hr (same_f hb (h.ext hx) 2) fun v w2 hx2 ev => ?_
  subst ev
  obtain ⟨q, hq⟩ : ∃ q, q = allT 2 ts := ⟨_, rfl⟩
  rw [← hq]
  conv => cbv
  refine st_f hr (fit_f q 2) fun v w3 hx3 ev => ?_
  subst ev
  obtain ⟨z, hz⟩ : ∃ z : Int, z = if q = true then 2 else 0 := ⟨_, rfl⟩
  rw [← hz]
  conv => cbv
  rw [hR]; exact ⟨(hx.trans hx2).trans hx3, by rw [hz, hq]; simp [one, typF, g]⟩
 have g12 : op ≠ 12 := by simpa [hE.cmp, cmpR] using g
 clear g
 conv => cbv
 refine br (fun g => ?_) (fun g => ?_)
 ·have g0 := g
  have g : op = 13 := by simpa [hE.cmp, cmpR] using g
  conv => cbv
  refine br (fun _ => ?_) (fun q => absurd g0 q)
  conv => cbv
  refine st_f hr (same_f hb (h.ext hx) 2) fun v w2 hx2 ev => ?_
  subst ev
  obtain ⟨q, hq⟩ : ∃ q, q = allT 2 ts := ⟨_, rfl⟩
  rw [← hq]
  conv => cbv
  refine st_f hr (fit_f q 2) fun v w3 hx3 ev => ?_
  subst ev
  obtain ⟨z, hz⟩ : ∃ z : Int, z = if q = true then 2 else 0 := ⟨_, rfl⟩
  rw [← hz]
  conv => cbv
  rw [hR]; exact ⟨(hx.trans hx2).trans hx3, by rw [hz, hq]; simp [one, typF, g]⟩
 have g13 : op ≠ 13 := by simpa [hE.cmp, cmpR] using g
 clear g
 conv => cbv
 refine br (fun g => ?_) (fun g => ?_)
 ·have g0 := g
  have g : op = 14 := by simpa [hE.cmp, cmpR] using g
  conv => cbv
  refine br (fun _ => ?_) (fun q => absurd g0 q)
  conv => cbv
  refine st_f hr (same_f hb (h.ext hx) 2) fun v w2 hx2 ev => ?_
  subst ev
  obtain ⟨q, hq⟩ : ∃ q, q = allT 2 ts := ⟨_, rfl⟩
  rw [← hq]
  conv => cbv
  refine st_f hr (fit_f q 2) fun v w3 hx3 ev => ?_
  subst ev
  obtain ⟨z, hz⟩ : ∃ z : Int, z = if q = true then 2 else 0 := ⟨_, rfl⟩
  rw [← hz]
  conv => cbv
  rw [hR]; exact ⟨(hx.trans hx2).trans hx3, by rw [hz, hq]; simp [one, typF, g]⟩
 have g14 : op ≠ 14 := by simpa [hE.cmp, cmpR] using g
 clear g
 conv => cbv
 refine br (fun g => ?_) (fun g => ?_)
 ·have g0 := g
  have g : op = 15 := by simpa [hE.cmp, cmpR] using g
  conv => cbv
  refine st_f hr (same_f hb (h.ext hx) 2) fun v w2 hx2 ev => ?_
  subst ev
  obtain ⟨q, hq⟩ : ∃ q, q = allT 2 ts := ⟨_, rfl⟩
  rw [← hq]
  conv => cbv
  refine st_f hr (fit_f q 2) fun v w3 hx3 ev => ?_
  subst ev
  obtain ⟨z, hz⟩ : ∃ z : Int, z = if q = true then 2 else 0 := ⟨_, rfl⟩
  rw [← hz]
  conv => cbv
  rw [hR]; exact ⟨(hx.trans hx2).trans hx3, by rw [hz, hq]; simp [one, typF, g]⟩
 have g15 : op ≠ 15 := by simpa [hE.cmp, cmpR] using g
 clear g
 conv => cbv
 refine br (fun g => ?_) (fun g => ?_)
 ·have g0 := g
  have g : op = 9 := by simpa [hE.cmp, cmpR] using g
  conv => cbv
  refine br (fun _ => ?_) (fun q => absurd g0 q)
  conv => cbv
  refine st_f hr (same_f hb (h.ext hx) 1) fun v w2 hx2 ev => ?_
  subst ev
  obtain ⟨q, hq⟩ : ∃ q, q = allT 1 ts := ⟨_, rfl⟩
  rw [← hq]
  conv => cbv
  refine st_f hr (fit_f q 1) fun v w3 hx3 ev => ?_
  subst ev
  obtain ⟨z, hz⟩ : ∃ z : Int, z = if q = true then 1 else 0 := ⟨_, rfl⟩
  rw [← hz]
  conv => cbv
  rw [hR]; exact ⟨(hx.trans hx2).trans hx3, by rw [hz, hq]; simp [one, typF, g]⟩
 have g9 : op ≠ 9 := by simpa [hE.cmp, cmpR] using g
 clear g
 conv => cbv
 refine br (fun g => ?_) (fun g => ?_)
 ·have g : op = 25 := by simpa [hE.cmp, cmpR] using g
  omega
 clear g
 conv => cbv
 refine br (fun g => ?_) (fun g => ?_)
 ·have g : op = 26 := by simpa [hE.cmp, cmpR] using g
  omega
 clear g
 conv => cbv
 refine br (fun g => ?_) (fun g => ?_)
 ·have g0 := g
  have g : op = 10 := by simpa [hE.cmp, cmpR] using g
  conv => cbv
  refine st_f hr (same_f hb (h.ext hx) 4) fun v w2 hx2 ev => ?_
  subst ev
  obtain ⟨q, hq⟩ : ∃ q, q = allT 4 ts := ⟨_, rfl⟩
  rw [← hq]
  conv => cbv
  refine st_f hr (fit_f q 2) fun v w3 hx3 ev => ?_
  subst ev
  obtain ⟨z, hz⟩ : ∃ z : Int, z = if q = true then 2 else 0 := ⟨_, rfl⟩
  rw [← hz]
  conv => cbv
  rw [hR]; exact ⟨(hx.trans hx2).trans hx3, by rw [hz, hq]; simp [one, typF, g]⟩
 have g10 : op ≠ 10 := by simpa [hE.cmp, cmpR] using g
 clear g
 conv => cbv
 refine br (fun g => ?_) (fun g => ?_)
 ·have g0 := g
  have g : op = 16 := by simpa [hE.cmp, cmpR] using g
  conv => cbv
  refine br (fun _ => ?_) (fun q => absurd g0 q)
  conv => cbv
  refine st_f hr (same_f hb (h.ext hx) 4) fun v w2 hx2 ev => ?_
  subst ev
  obtain ⟨q, hq⟩ : ∃ q, q = allT 4 ts := ⟨_, rfl⟩
  rw [← hq]
  conv => cbv
  refine st_f hr (fit_f q 4) fun v w3 hx3 ev => ?_
  subst ev
  obtain ⟨z, hz⟩ : ∃ z : Int, z = if q = true then 4 else 0 := ⟨_, rfl⟩
  rw [← hz]
  conv => cbv
  rw [hR]; exact ⟨(hx.trans hx2).trans hx3, by rw [hz, hq]; simp [one, typF, g]⟩
 have g16 : op ≠ 16 := by simpa [hE.cmp, cmpR] using g
 clear g
 conv => cbv
 refine br (fun g => ?_) (fun g => ?_)
 ·have g0 := g
  have g : op = 17 := by simpa [hE.cmp, cmpR] using g
  conv => cbv
  refine br (fun _ => ?_) (fun q => absurd g0 q)
  conv => cbv
  refine st_f hr (same_f hb (h.ext hx) 4) fun v w2 hx2 ev => ?_
  subst ev
  obtain ⟨q, hq⟩ : ∃ q, q = allT 4 ts := ⟨_, rfl⟩
  rw [← hq]
  conv => cbv
  refine st_f hr (fit_f q 4) fun v w3 hx3 ev => ?_
  subst ev
  obtain ⟨z, hz⟩ : ∃ z : Int, z = if q = true then 4 else 0 := ⟨_, rfl⟩
  rw [← hz]
  conv => cbv
  rw [hR]; exact ⟨(hx.trans hx2).trans hx3, by rw [hz, hq]; simp [one, typF, g]⟩
 have g17 : op ≠ 17 := by simpa [hE.cmp, cmpR] using g
 clear g
 conv => cbv
 refine br (fun g => ?_) (fun g => ?_)
 ·have g0 := g
  have g : op = 18 := by simpa [hE.cmp, cmpR] using g
  conv => cbv
  refine st_f hr (same_f hb (h.ext hx) 4) fun v w2 hx2 ev => ?_
  subst ev
  obtain ⟨q, hq⟩ : ∃ q, q = allT 4 ts := ⟨_, rfl⟩
  rw [← hq]
  conv => cbv
  refine st_f hr (fit_f q 4) fun v w3 hx3 ev => ?_
  subst ev
  obtain ⟨z, hz⟩ : ∃ z : Int, z = if q = true then 4 else 0 := ⟨_, rfl⟩
  rw [← hz]
  conv => cbv
  rw [hR]; exact ⟨(hx.trans hx2).trans hx3, by rw [hz, hq]; simp [one, typF, g]⟩
 have g18 : op ≠ 18 := by simpa [hE.cmp, cmpR] using g
 clear g
 conv => cbv
 refine br (fun g => ?_) (fun g => ?_)
 ·have g0 := g
  have g : op = 19 := by simpa [hE.cmp, cmpR] using g
  conv => cbv
  refine br (fun _ => ?_) (fun q => absurd g0 q)
  have hn : n = 2 := by
   have : kidsF op = 2 := by rw [g]; decide
   omega
  conv => cbv
  refine draw_h [0, 1, 2, 3, 4, 5, 6, 7] [(8, false), (9, true)] hr fol (by kernel_rfl) fun E' hE' w4 hs4 S hS => ?_
  have hl4 : w4.cell? a = some (.slice A n c) := hs4.ext.cell hl0
  have h4 := (h.ext hx).ext hs4.ext
  conv => cbv
  refine st_load hE' cInts hl4 ?_
  conv => cbv
  refine st_int hE' tInts h4 (k := 0) rfl (by omega) fun p u hu hp => ?_
  conv => cbv
  refine st_load hE' cInt hp ?_
  conv => cbv
  refine st_load hE' cInts hl4 ?_
  conv => cbv
  refine st_int hE' tInts h4 (k := 1) rfl (by omega) fun p2 u2 hu2 hp2 => ?_
  conv => cbv
  refine st_load hE' cInt hp2 ?_
  obtain ⟨q, hq⟩ : ∃ q, q = E'.cmp .eql u u2 := ⟨_, rfl⟩
  have hq' : q = true ↔ u = u2 := by rw [hq, hE'.cmp]; simp [cmpR]
  conv => cbv
  simp only [← hq]
  refine st_f hr (fit_f q 1) fun v w3 hx3 ev => ?_
  subst ev
  obtain ⟨z, hz⟩ : ∃ z : Int, z = if q = true then 1 else 0 := ⟨_, rfl⟩
  rw [← hz]
  refine ⟨hS _ hx3, ?_⟩
  conv => cbv
  rw [hR]; refine ⟨(hx.trans hs4.ext).trans hx3, ?_⟩
  rw [hz]; cases q with
  | true => rw [if_pos rfl]; have := hq'.1 rfl; simp [one, typF, g, hu, hu2, this]
  | false => rw [if_neg (by simp)]; have : u ≠ u2 := fun e => by simpa using hq'.2 e
             simp [one, typF, g, hu, hu2, this]
 have g19 : op ≠ 19 := by simpa [hE.cmp, cmpR] using g
 clear g
 conv => cbv
 refine br (fun g => ?_) (fun g => ?_)
 ·have g0 := g
  have g : op = 20 := by simpa [hE.cmp, cmpR] using g
  have hn : n = 2 := by
   have : kidsF op = 2 := by rw [g]; decide
   omega
  conv => cbv
  refine draw_h [0, 1, 2, 3, 4, 5, 6, 7] [(8, false), (9, true)] hr fol (by kernel_rfl) fun E' hE' w4 hs4 S hS => ?_
  have hl4 : w4.cell? a = some (.slice A n c) := hs4.ext.cell hl0
  have h4 := (h.ext hx).ext hs4.ext
  conv => cbv
  refine st_load hE' cInts hl4 ?_
  conv => cbv
  refine st_int hE' tInts h4 (k := 0) rfl (by omega) fun p u hu hp => ?_
  conv => cbv
  refine st_load hE' cInt hp ?_
  conv => cbv
  refine st_load hE' cInts hl4 ?_
  conv => cbv
  refine st_int hE' tInts h4 (k := 1) rfl (by omega) fun p2 u2 hu2 hp2 => ?_
  conv => cbv
  refine st_load hE' cInt hp2 ?_
  obtain ⟨q, hq⟩ : ∃ q, q = E'.cmp .eql u u2 := ⟨_, rfl⟩
  have hq' : q = true ↔ u = u2 := by rw [hq, hE'.cmp]; simp [cmpR]
  conv => cbv
  simp only [← hq]
  refine st_f hr (fit_f q 1) fun v w3 hx3 ev => ?_
  subst ev
  obtain ⟨z, hz⟩ : ∃ z : Int, z = if q = true then 1 else 0 := ⟨_, rfl⟩
  rw [← hz]
  refine ⟨hS _ hx3, ?_⟩
  conv => cbv
  rw [hR]; refine ⟨(hx.trans hs4.ext).trans hx3, ?_⟩
  rw [hz]; cases q with
  | true => rw [if_pos rfl]; have := hq'.1 rfl; simp [one, typF, g, hu, hu2, this]
  | false => rw [if_neg (by simp)]; have : u ≠ u2 := fun e => by simpa using hq'.2 e
             simp [one, typF, g, hu, hu2, this]
 have g20 : op ≠ 20 := by simpa [hE.cmp, cmpR] using g
 clear g
 conv => cbv
 refine br (fun g => ?_) (fun g => ?_)
 ·have g0 := g
  have g : op = 21 := by simpa [hE.cmp, cmpR] using g
  conv => cbv
  refine br (fun _ => ?_) (fun q => absurd g0 q)
  conv => cbv
  refine st_f hr (same_f hb (h.ext hx) 2) fun v w2 hx2 ev => ?_
  subst ev
  obtain ⟨q, hq⟩ : ∃ q, q = allT 2 ts := ⟨_, rfl⟩
  rw [← hq]
  conv => cbv
  refine st_f hr (fit_f q 1) fun v w3 hx3 ev => ?_
  subst ev
  obtain ⟨z, hz⟩ : ∃ z : Int, z = if q = true then 1 else 0 := ⟨_, rfl⟩
  rw [← hz]
  conv => cbv
  rw [hR]; exact ⟨(hx.trans hx2).trans hx3, by rw [hz, hq]; simp [one, typF, g]⟩
 have g21 : op ≠ 21 := by simpa [hE.cmp, cmpR] using g
 clear g
 conv => cbv
 refine br (fun g => ?_) (fun g => ?_)
 ·have g0 := g
  have g : op = 22 := by simpa [hE.cmp, cmpR] using g
  conv => cbv
  refine st_f hr (same_f hb (h.ext hx) 2) fun v w2 hx2 ev => ?_
  subst ev
  obtain ⟨q, hq⟩ : ∃ q, q = allT 2 ts := ⟨_, rfl⟩
  rw [← hq]
  conv => cbv
  refine st_f hr (fit_f q 1) fun v w3 hx3 ev => ?_
  subst ev
  obtain ⟨z, hz⟩ : ∃ z : Int, z = if q = true then 1 else 0 := ⟨_, rfl⟩
  rw [← hz]
  conv => cbv
  rw [hR]; exact ⟨(hx.trans hx2).trans hx3, by rw [hz, hq]; simp [one, typF, g]⟩
 have g22 : op ≠ 22 := by simpa [hE.cmp, cmpR] using g
 clear g
 conv => cbv
 refine br (fun g => ?_) (fun g => ?_)
 ·have g0 := g
  have g : op = 23 := by simpa [hE.cmp, cmpR] using g
  have hn : n = 2 := by
   have : kidsF op = 2 := by rw [g]; decide
   omega
  conv => cbv
  refine st_load hE cInts hl0 ?_
  conv => cbv
  refine st_int hE tInts (h.ext hx) (k := 0) rfl (by omega) fun p u hu hp => ?_
  conv => cbv
  refine st_load hE cInt hp ?_
  conv => cbv
  refine br (fun g2 => ?_) (fun g2 => ?_)
  ·have g2 : u = 3 := by simpa [hE.cmp, cmpR] using g2
   conv => cbv
   refine st_load hE cInts hl0 ?_
   conv => cbv
   refine st_int hE tInts (h.ext hx) (k := 1) rfl (by omega) fun p2 u2 hu2 hp2 => ?_
   conv => cbv
   refine st_load hE cInt hp2 ?_
   obtain ⟨q, hq⟩ : ∃ q, q = E.cmp .eql u2 4 := ⟨_, rfl⟩
   have hq' : q = true ↔ u2 = 4 := by rw [hq, hE.cmp]; simp [cmpR]
   conv => cbv
   simp only [← hq]
   conv => cbv
   refine st_f hr (fit_f q 1) fun v w3 hx3 ev => ?_
   subst ev
   obtain ⟨z, hz⟩ : ∃ z : Int, z = if q = true then 1 else 0 := ⟨_, rfl⟩
   rw [← hz]
   conv => cbv
   rw [hR]; refine ⟨hx.trans hx3, ?_⟩
   rw [hz]; cases q with
   | true => rw [if_pos rfl]; have := hq'.1 rfl; simp [one, typF, g, hu, hu2, this, g2]
   | false => rw [if_neg (by simp)]; have : u2 ≠ 4 := fun e => by simpa using hq'.2 e
              simp [one, typF, g, hu, hu2, this]
  ·have g2 : u ≠ 3 := by simpa [hE.cmp, cmpR] using g2
   conv => cbv
   refine st_f hr (fit_f false 1) fun v w3 hx3 ev => ?_
   subst ev
   obtain ⟨z, hz⟩ : ∃ z : Int, z = if false = true then 1 else 0 := ⟨_, rfl⟩
   rw [← hz]
   conv => cbv
   rw [hR]; exact ⟨hx.trans hx3, by rw [hz]; simp [one, typF, g, hu, g2]⟩
 have g23 : op ≠ 23 := by simpa [hE.cmp, cmpR] using g
 clear g
 conv => cbv
 refine br (fun g => ?_) (fun g => ?_)
 ·have g0 := g
  have g : op = 24 := by simpa [hE.cmp, cmpR] using g
  conv => cbv
  refine st_f hr (same_f hb (h.ext hx) 4) fun v w2 hx2 ev => ?_
  subst ev
  obtain ⟨q, hq⟩ : ∃ q, q = allT 4 ts := ⟨_, rfl⟩
  rw [← hq]
  conv => cbv
  refine st_f hr (fit_f q 1) fun v w3 hx3 ev => ?_
  subst ev
  obtain ⟨z, hz⟩ : ∃ z : Int, z = if q = true then 1 else 0 := ⟨_, rfl⟩
  rw [← hz]
  conv => cbv
  rw [hR]; exact ⟨(hx.trans hx2).trans hx3, by rw [hz, hq]; simp [one, typF, g]⟩
 have g24 : op ≠ 24 := by simpa [hE.cmp, cmpR] using g
 clear g
 omega
inductive Tr where
 | con (k n : Int) (tx : ByteArray) (xs : List ByteArray) (at_ : Int)
 | nam (tx : ByteArray) (at_ : Int)
 | att (n : Int)
 | lt (n : Int)
 | op (o : Int) (kids : List Tr) (at_ : Int)
def knd (o : Int) : Int := if o = 1 then 2 else if o = 2 then 3 else if o = 3 then 1 else 4
def leafF (p : PN) (i : Int) : Tr := if p.o = 5 then .nam p.tx i else if p.o = 6 then .att p.z else if p.o = 7 then .lt p.z else .con (knd p.o) p.z p.tx p.xs i
def mkT (p : PN) (i : Int) (kids : List Tr) : Tr := if kidsF p.o = 0 then leafF p i else .op p.o kids i
mutual
def dep : Tr → Nat
 | .op _ kids _ => deps kids + 1
 | _ => 1
def deps : List Tr → Nat
 | [] => 0
 | t :: l => max (dep t) (deps l)
end
inductive IsTs (ns : List PN) : Nat → Nat → List Int → List Tr → Prop
 | nil (a : Nat) : IsTs ns a a [] []
 | cons {a b k : Nat} {p : PN} {ks : List Int} {kids ts : List Tr} (hp : ns[k]? = some p) (hk : (p.ks.length : Int) = kidsF p.o) (h1 : IsTs ns a k p.ks kids) (h2 : IsTs ns (k + 1) b ks ts) : IsTs ns a b ((k : Int) :: ks) (mkT p k kids :: ts)
namespace IsTs
variable {ns : List PN}
theorem le {a b : Nat} {ks : List Int} {ts : List Tr} (h : IsTs ns a b ks ts) : a ≤ b := by
 induction h with
 | nil => omega
 | cons hp hk h1 h2 i1 i2 => omega
theorem len {a b : Nat} {ks : List Int} {ts : List Tr} (h : IsTs ns a b ks ts) : ts.length = ks.length := by
 induction h with
 | nil => rfl
 | cons hp hk h1 h2 i1 i2 => simp [i2]
theorem roots {a b : Nat} {ks : List Int} {ts : List Tr} (h : IsTs ns a b ks ts) : ∀ k ∈ ks, (a : Int) ≤ k ∧ k < b := by
 induction h with
 | nil => simp
 | cons hp hk h1 h2 i1 i2 =>
  intro k hk'
  have e1 := h1.le
  have e2 := h2.le
  rcases List.mem_cons.1 hk' with rfl | hk'
  ·omega
  ·have := i2 k hk'; omega
theorem bound {a b : Nat} {ks : List Int} {ts : List Tr} (h : IsTs ns a b ks ts) : a < b → b ≤ ns.length := by
 induction h with
 | nil => omega
 | @cons a b k p ks kids ts hp hk h1 h2 i1 i2 =>
  intro _
  have := (List.getElem?_eq_some_iff.1 hp).1
  have := h2.le
  rcases Nat.lt_or_ge (k + 1) b with q | q
  ·exact i2 q
  ·omega
theorem append {a c : Nat} {ks : List Int} {ts : List Tr} (h : IsTs ns a c ks ts) : ∀ {b : Nat} {ks2 : List Int} {ts2 : List Tr}, IsTs ns c b ks2 ts2 → IsTs ns a b (ks ++ ks2) (ts ++ ts2) := by
 induction h with
 | nil => intro b ks2 ts2 h; exact h
 | cons hp hk h1 h2 i1 i2 => intro b ks2 ts2 h; exact .cons hp hk h1 (i2 h)
theorem split : ∀ {ks1 : List Int} {a b : Nat} {ks2 : List Int} {ts : List Tr}, IsTs ns a b (ks1 ++ ks2) ts → ∃ c ts1 ts2, ts = ts1 ++ ts2 ∧ IsTs ns a c ks1 ts1 ∧ IsTs ns c b ks2 ts2
 | [], a, b, ks2, ts, h => ⟨a, [], ts, rfl, .nil a, h⟩
 | k :: ks1, a, b, ks2, ts, h => by
  rw [List.cons_append] at h
  cases h with
  | cons hp hk h1 h2 =>
   obtain ⟨c, ts1, ts2, e, g1, g2⟩ := split h2
   exact ⟨c, _ :: ts1, ts2, by rw [e]; rfl, .cons hp hk h1 g1, g2⟩
theorem one {a b : Nat} {k : Int} {ts : List Tr} (h : IsTs ns a b [k] ts) : ∃ (kn : Nat) (p : PN) (kids : List Tr), k = kn ∧ b = kn + 1 ∧ ns[kn]? = some p ∧ (p.ks.length : Int) = kidsF p.o ∧ IsTs ns a kn p.ks kids ∧ ts = [mkT p kn kids] := by
 cases h with
 | cons hp hk h1 h2 => cases h2; exact ⟨_, _, _, rfl, rfl, hp, hk, h1, rfl⟩
theorem uniq {a b : Nat} {ks : List Int} {ts : List Tr} (h : IsTs ns a b ks ts) : ∀ {b' : Nat} {ts' : List Tr}, IsTs ns a b' ks ts' → b = b' ∧ ts = ts' := by
 induction h with
 | nil => intro b' ts' h; cases h; exact ⟨rfl, rfl⟩
 | @cons a b k p ks kids ts hp hk h1 h2 i1 i2 =>
  intro b' ts' h
  generalize hq : ((k : Int) :: ks) = kk at h
  cases h with
  | nil => cases hq
  | cons hp' hk' h1' h2' =>
   simp only [b1_] at hq
   obtain ⟨e1, e2⟩ := hq
   have e1 : k = _ := Int.ofNat.inj e1
   subst e1; subst e2
   rw [hp] at hp'
   cases hp'
   obtain ⟨_, rfl⟩ := i1 h1'
   obtain ⟨rfl, rfl⟩ := i2 h2'
   exact ⟨rfl, rfl⟩
end IsTs
def nodeOK (leafP : PN → Prop) (p : PN) : Prop := (kidsF p.o = 0 → leafP p) ∧ (1 ≤ kidsF p.o → p.z = 0 ∧ p.tx = ⟨#[]⟩ ∧ p.xs = [])
open Classical in
noncomputable def stepM (leafP : PN → Prop) (p : PN) (i : Nat) (st : List (Tr × Int)) : Option (List (Tr × Int)) :=
 if kidsF p.o < 0 ∨ (p.ks.length : Int) ≠ kidsF p.o ∨ st.length < p.ks.length then none
 else if kidsF p.o = 0 then (if leafP p then some (st ++ [(leafF p i, (i : Int))]) else none)
 else if ¬ (p.z = 0 ∧ p.tx = ⟨#[]⟩ ∧ p.xs = []) then none
 else if p.ks ≠ (st.drop (st.length - p.ks.length)).map (·.2) then none
 else if 64 < dep (.op p.o ((st.drop (st.length - p.ks.length)).map (·.1)) i) then none
 else some (st.take (st.length - p.ks.length) ++ [(.op p.o ((st.drop (st.length - p.ks.length)).map (·.1)) i, (i : Int))])
noncomputable def runM (leafP : PN → Prop) : List PN → Nat → List (Tr × Int) → Option (List (Tr × Int))
 | [], _, st => some st
 | p :: l, i, st => match stepM leafP p i st with
  | none => none
  | some st' => runM leafP l (i + 1) st'
def seg (ns : List PN) (a b : Nat) : List PN := (ns.take b).drop a
open Classical in
noncomputable def treeM (ns : List PN) (leafP : PN → Prop) (i : Nat) (top : Int) : Option Tr :=
 if top < i ∨ (ns.length : Int) ≤ top then none
 else match runM leafP (seg ns i (top.toNat + 1)) i [] with
  | some [(t, _)] => some t
  | _ => none
def kidsW (g : Int → List Int → List Int) (top : Int) : List Int → List Int → List Int
 | [], out => out ++ [top]
 | k :: ks, out => if top ≤ k then out ++ [-1] else kidsW g top ks (g k out)
def walkF (ns : List PN) : Nat → Int → List Int → List Int
 | 0, _, out => out ++ [-1]
 | f + 1, top, out => if top < 0 ∨ (ns.length : Int) ≤ top ∨ ns.length < out.length then out ++ [-1] else kidsW (walkF ns f) top ((ns[top.toNat]?).map (·.ks) |>.getD []) out
def foldW (ns : List PN) (f : Nat) : List Int → List Int → List Int
 | [], out => out
 | k :: ks, out => foldW ns f ks (walkF ns f k out)
def rg (n : Nat) : List Int := (List.range n).map fun (i : Nat) => (i : Int)
open Go.Eng
set_option linter.unusedVariables false
set_option linter.unusedSimpArgs false
def fieldsP (ty : Bool) (p : PN) : Prop := (p.ks.length : Int) = kidsF p.o ∧
 (if p.o = 1 then (0 ≤ p.z ∨ ty = true) ∧ p.tx = ⟨#[]⟩ ∧ p.xs = []
  else if p.o = 3 then (p.z = 0 ∨ p.z = 1) ∧ p.tx = ⟨#[]⟩ ∧ p.xs = []
  else if p.o = 2 then p.z = 0 ∧ nameBytes p.tx ∧ p.xs = []
  else if p.o = 5 then ty = false ∧ ident p.tx ∧ p.z = 0 ∧ p.xs = []
  else if p.o = 4 then p.z = 0 ∧ p.tx = ⟨#[]⟩ ∧ isSet p.xs
  else if p.o = 6 then ty = true ∧ 0 ≤ p.z ∧ p.z ≤ 5 ∧ p.tx = ⟨#[]⟩ ∧ p.xs = []
  else if p.o = 7 then ty = true ∧ 0 ≤ p.z ∧ p.z < 600 ∧ p.tx = ⟨#[]⟩ ∧ p.xs = []
  else p.z = 0 ∧ p.tx = ⟨#[]⟩ ∧ p.xs = [])
theorem kidsF_le (o : Int) : kidsF o ≤ 3 := by unfold kidsF; (repeat' split) <;> omega
theorem IsTs.at {ns : List PN} {a b : Nat} {ks : List Int} {ts : List Tr} (h : IsTs ns a b ks ts) : ∀ {j : Nat} {k : Int}, ks[j]? = some k → ∃ t a' b', ts[j]? = some t ∧ IsTs ns a' b' [k] [t] := by
 induction h with
 | nil => intro j k h; simp at h
 | @cons a b k p ks kids ts hp hk h1 h2 i1 i2 =>
  intro j q hq
  cases j with
  | zero => simp at hq; subst hq; exact ⟨_, a, k + 1, rfl, .cons hp hk h1 (.nil _)⟩
  | succ j => simpa using i2 (by simpa using hq)
structure Gro (w : World) (A : Option Addr) (w' : World) (A' : Option Addr) : Prop where
 wr : Wr A w w'
 at_ : blk A' = blk A ∨ ∃ b, blk A' = some b ∧ w.heap.size ≤ b
theorem Gro.refl (w : World) (A : Option Addr) : Gro w A w A := ⟨Wr.refl _ _, .inl rfl⟩
theorem Gro.trans {a b c : World} {A B C : Option Addr} (h : Gro a A b B) (k : Gro b B c C) : Gro a A c C := by
 refine ⟨⟨k.wr.os.trans h.wr.os, k.wr.tape.trans h.wr.tape, k.wr.output.trans h.wr.output, n2_ h.wr.size k.wr.size, fun i hi hn => ?_⟩, ?_⟩
 ·have e1 := h.wr.block i hi hn
  have e2 := k.wr.block i (n3_ hi h.wr.size) (by
   rcases h.at_ with e | ⟨b0, e, hb⟩
   ·rw [e]; exact hn
   ·rw [e]; intro q; cases q; omega)
  rw [e2, e1]
 ·rcases k.at_ with e | ⟨b0, e, hb⟩
  ·rw [e]; exact h.at_
  ·exact .inr ⟨b0, e, n2_ h.wr.size hb⟩
theorem Gro.ext {a b c : World} {A C : Option Addr} (h : Ext a b) (k : Gro b A c C) : Gro a A c C := Gro.trans ⟨h.wr A, .inl rfl⟩ k
theorem Gro.apart {a c : World} {A C : Option Addr} {x : Addr} {B e k m cc : Nat} {xs : List Value} (h : Gro a A c C) (hx : Own B e k a (some x) m cc xs) (ha : Apart A (some x) ∧ Apart (some x) A) : Apart C (some x) ∧ Apart (some x) C := by
 obtain ⟨gb, rfl, _, hlt⟩ := hx.form
 have hb : blk (some (⟨gb, 0, none⟩ : Addr)) = some gb := rfl
 have key : blk C ≠ some gb := by
  rcases h.at_ with e | ⟨b0, e, hb0⟩
  ·rw [e]
   rcases ha.2 with h1 | h1
   ·cases h1
   ·rw [hb] at h1; exact fun q => h1 q.symm
  ·rw [e]; intro q; cases q; omega
 exact ⟨.inr (by rw [hb]; exact key), .inr (by rw [hb]; exact fun q => key q.symm)⟩
def v0N : VN := (⟨⟨0, 0, ⟨#[]⟩, [], []⟩, none, 0, 0, none, 0, 0⟩ : VN)
def v0S : VS := (⟨0, ⟨#[]⟩, 0, 0⟩ : VS)
abbrev zPol : List Value := [.slice none 0 0, .slice none 0 0]
def stmtP (last : Bool) (s : PS) : Prop :=
 if s.k = 1 then last = false ∧ ident s.nm ∧ 0 ≤ s.c ∧ s.g = -1
 else if s.k = 2 then last = false ∧ s.nm = ⟨#[]⟩ ∧ 0 ≤ s.c ∧ -1 ≤ s.g
 else if s.k = 3 then last = true ∧ s.nm = ⟨#[]⟩ ∧ s.c = -1 ∧ -1 ≤ s.g
 else False
def rootS (s : PS) : List Int := (if 0 ≤ s.c then [s.c] else []) ++ (if 0 ≤ s.g then [s.g] else [])
def roots (sv : List PS) : List Int := sv.flatMap rootS
def stmtsP (sv : List PS) : Prop := ∀ i s, sv[i]? = some s → stmtP (decide (i + 1 = sv.length)) s
def policyP (ty : Bool) (nv : List PN) (sv : List PS) : Prop :=
 nv.length ≤ 4000 ∧ 1 ≤ sv.length ∧ sv.length ≤ 600 ∧ (∀ p ∈ nv, fieldsP ty p) ∧ stmtsP sv ∧ ∃ ts, IsTs nv 0 nv.length (roots sv) ts ∧ ∀ t ∈ ts, dep t ≤ 64
def posF : List ByteArray → ByteArray → Option Nat
 | [], _ => none
 | x :: l, s => if x = s then some 0 else (posF l s).map (· + 1)
def posI (l : List ByteArray) (s : ByteArray) : Int := match posF l s with | none => -1 | some i => i
theorem posF_lt : ∀ {l : List ByteArray} {s : ByteArray} {k : Nat}, posF l s = some k → l[k]? = some s
 | [], s, k, h => by cases h
 | x :: l, s, k, h => by
  rw [posF] at h
  split at h
  ·rename_i e; cases h; simp [e]
  ·obtain ⟨j, hj, rfl⟩ := Option.map_eq_some_iff.1 h
   simpa using posF_lt hj
def attrs : List ByteArray := [⟨⟨[99, 108, 105, 101, 110, 116]⟩⟩, ⟨⟨[117, 115, 101, 114]⟩⟩, ⟨⟨[108, 101, 118, 101, 108]⟩⟩, ⟨⟨[110, 111, 119]⟩⟩, ⟨⟨[97, 115, 107, 101, 100]⟩⟩, ⟨⟨[97, 103, 114, 101, 101, 100]⟩⟩]
def typG (o : Int) (ts : List Int) : Int :=
 if o = 25 ∨ o = 26 then (if allT 1 ts = true then 1 else 0)
 else if o = 27 then (if ts[0]? = some 1 ∧ ts[1]? = ts[2]? then ts.getD 1 0 else 0)
 else typF o ts
def rowF (o : Int) : List Int × Int :=
 if o = 1 then ([], 2) else if o = 2 then ([], 3) else if o = 3 then ([], 1) else if o = 4 then ([], 4)
 else if o = 8 then ([2], 2) else if o = 9 then ([1], 1) else if o = 10 then ([4], 2)
 else if 11 ≤ o ∧ o ≤ 15 then ([2, 2], 2) else if 16 ≤ o ∧ o ≤ 18 then ([4, 4], 4)
 else if o = 19 ∨ o = 20 then ([0, 0], 1) else if o = 21 ∨ o = 22 then ([2, 2], 1)
 else if o = 23 then ([3, 4], 1) else if o = 24 then ([4, 4], 1) else if o = 25 ∨ o = 26 then ([1, 1], 1)
 else ([1, 0, 0], 0)
def wantM : List Int → List Int → Int → Option Int
 | [], _, any => some any
 | w :: ws, ks, any =>
  let any' := if w = 0 then (if any = 0 then ks.headD 0 else any) else any
  let w' := if w = 0 then any' else w
  if ks.headD 0 ≠ w' then none else wantM ws ks.tail any'
def typR (o : Int) (ks : List Int) : Int := match wantM (rowF o).1 ks 0 with | none => 0 | some any => if (rowF o).2 = 0 then any else (rowF o).2
def resN (names : List ByteArray) (tx : ByteArray) : Option Tr := match posF attrs tx with
 | some i => some (.att i)
 | none => (posF names tx).map fun i => .lt i
def tyLt (tys : List Int) (n : Int) : Int × Int := if (tys.length : Int) ≤ n then (0, 7) else (tys.getD n.toNat 0, 0)
def tyNam (names : List ByteArray) (tys : List Int) (tx : ByteArray) : Int × Int := match posF attrs tx with
 | some i => (attrF i, 0)
 | none => match posF names tx with
  | none => (0, 7)
  | some i => (tys.getD i 0, 0)
mutual
def tyT (names : List ByteArray) (tys : List Int) : Tr → Int × Int
 | .con k _ _ _ _ => (k, 0)
 | .att n => (attrF n, 0)
 | .lt n => tyLt tys n
 | .nam tx _ => tyNam names tys tx
 | .op o kids _ => if (tyTs names tys kids).1 ≠ 0 then (0, (tyTs names tys kids).1) else if typG o (tyTs names tys kids).2 = 0 then (0, 9) else (typG o (tyTs names tys kids).2, 0)
def tyTs (names : List ByteArray) (tys : List Int) : List Tr → Int × List Int
 | [] => (0, [])
 | t :: l => if (tyT names tys t).2 ≠ 0 then ((tyT names tys t).2, []) else ((tyTs names tys l).1, (tyT names tys t).1 :: (tyTs names tys l).2)
end
mutual
def chk (names : List ByteArray) (tys : List Int) : Tr → List Int → List Int × Int × Int
 | .con k _ _ _ _, acc => (acc ++ [k], 0, k)
 | .att n, acc => (acc ++ [attrF n], 0, attrF n)
 | .lt n, acc => if (tyLt tys n).2 ≠ 0 then (acc, (tyLt tys n).2, 0) else (acc ++ [(tyLt tys n).1], 0, (tyLt tys n).1)
 | .nam tx _, acc => if (tyNam names tys tx).2 ≠ 0 then (acc, (tyNam names tys tx).2, 0) else (acc ++ [(tyNam names tys tx).1], 0, (tyNam names tys tx).1)
 | .op o kids _, acc => if (chks names tys kids acc).2.1 ≠ 0 then ((chks names tys kids acc).1, (chks names tys kids acc).2.1, 0)
  else if typG o (chks names tys kids acc).2.2 = 0 then ((chks names tys kids acc).1, 9, 0)
  else ((chks names tys kids acc).1 ++ [typG o (chks names tys kids acc).2.2], 0, typG o (chks names tys kids acc).2.2)
def chks (names : List ByteArray) (tys : List Int) : List Tr → List Int → List Int × Int × List Int
 | [], acc => (acc, 0, [])
 | t :: l, acc => if (chk names tys t acc).2.1 ≠ 0 then ((chk names tys t acc).1, (chk names tys t acc).2.1, [])
  else ((chks names tys l (chk names tys t acc).1).1, (chks names tys l (chk names tys t acc).1).2.1, (chk names tys t acc).2.2 :: (chks names tys l (chk names tys t acc).1).2.2)
end
mutual
def resT (names : List ByteArray) : Tr → Tr
 | .nam tx at_ => (resN names tx).getD (.nam tx at_)
 | .op o kids at_ => .op o (resTs names kids) at_
 | t => t
def resTs (names : List ByteArray) : List Tr → List Tr
 | [] => []
 | t :: l => resT names t :: resTs names l
end
mutual
def po : Tr → List Tr
 | .op o kids at_ => pos kids ++ [.op o kids at_]
 | t => [t]
def pos : List Tr → List Tr
 | [] => []
 | t :: l => po t ++ pos l
end
def walkL (names : List ByteArray) (tys : List Int) : List Tr → List Int → List Int × Int
 | [], acc => (acc, 0)
 | u :: l, acc => if (tyT names tys u).2 ≠ 0 then (acc, (tyT names tys u).2) else walkL names tys l (acc ++ [(tyT names tys u).1])
theorem walkL_append (names : List ByteArray) (tys : List Int) : ∀ (l r : List Tr) (acc : List Int), walkL names tys (l ++ r) acc = if (walkL names tys l acc).2 ≠ 0 then walkL names tys l acc else walkL names tys r (walkL names tys l acc).1
 | [], r, acc => by simp [walkL]
 | u :: l, r, acc => by
  rw [List.cons_append, walkL, walkL]
  split
  ·rename_i h; simp [h]
  ·exact walkL_append names tys l r _
mutual
theorem chk_walk (names : List ByteArray) (tys : List Int) : ∀ (t : Tr) (acc : List Int), (chk names tys t acc).1 = (walkL names tys (po t) acc).1 ∧ (chk names tys t acc).2.1 = (walkL names tys (po t) acc).2 ∧ ((walkL names tys (po t) acc).2 = 0 → (tyT names tys t).2 = 0 ∧ (chk names tys t acc).2.2 = (tyT names tys t).1)
 | .con k n tx xs at_, acc => by simp [chk, po, walkL, tyT]
 | .att n, acc => by simp [chk, po, walkL, tyT]
 | .lt n, acc => by
  simp only [chk, po, walkL, tyT]
  by_cases h : (tyLt tys n).2 = 0 <;> simp [h]
 | .nam tx at_, acc => by
  simp only [chk, po, walkL, tyT]
  by_cases h : (tyNam names tys tx).2 = 0 <;> simp [h]
 | .op o kids at_, acc => by
  obtain ⟨h1, h2, h3⟩ := chks_walk names tys kids acc
  by_cases h : (walkL names tys (pos kids) acc).2 = 0
  ·obtain ⟨h4, h5⟩ := h3 h
   have e : chk names tys (.op o kids at_) acc = if typG o (tyTs names tys kids).2 = 0 then ((walkL names tys (pos kids) acc).1, 9, 0) else ((walkL names tys (pos kids) acc).1 ++ [typG o (tyTs names tys kids).2], 0, typG o (tyTs names tys kids).2) := by
    rw [chk, if_neg (by rw [h2]; simpa using h), h1, h5]
   have e2 : tyT names tys (.op o kids at_) = if typG o (tyTs names tys kids).2 = 0 then (0, 9) else (typG o (tyTs names tys kids).2, 0) := by rw [tyT, if_neg (by simpa using h4)]
   have e3 : walkL names tys (po (.op o kids at_)) acc = if (tyT names tys (.op o kids at_)).2 ≠ 0 then ((walkL names tys (pos kids) acc).1, (tyT names tys (.op o kids at_)).2) else ((walkL names tys (pos kids) acc).1 ++ [(tyT names tys (.op o kids at_)).1], 0) := by
    rw [po, walkL_append, if_neg (by simpa using h), walkL, walkL]
   rw [e, e3, e2]
   by_cases h6 : typG o (tyTs names tys kids).2 = 0 <;> simp [h6]
  ·have e : chk names tys (.op o kids at_) acc = ((walkL names tys (pos kids) acc).1, (walkL names tys (pos kids) acc).2, 0) := by rw [chk, if_pos (by rw [h2]; exact h), h1, h2]
   have e3 : walkL names tys (po (.op o kids at_)) acc = walkL names tys (pos kids) acc := by rw [po, walkL_append, if_pos h]
   rw [e, e3]
   exact ⟨rfl, rfl, fun q => absurd q h⟩
theorem chks_walk (names : List ByteArray) (tys : List Int) : ∀ (l : List Tr) (acc : List Int), (chks names tys l acc).1 = (walkL names tys (pos l) acc).1 ∧ (chks names tys l acc).2.1 = (walkL names tys (pos l) acc).2 ∧ ((walkL names tys (pos l) acc).2 = 0 → (tyTs names tys l).1 = 0 ∧ (chks names tys l acc).2.2 = (tyTs names tys l).2)
 | [], acc => by simp [chks, pos, walkL, tyTs]
 | t :: l, acc => by
  obtain ⟨h1, h2, h3⟩ := chk_walk names tys t acc
  by_cases h : (walkL names tys (po t) acc).2 = 0
  ·obtain ⟨h4, h5⟩ := h3 h
   obtain ⟨k1, k2, k3⟩ := chks_walk names tys l (walkL names tys (po t) acc).1
   have e : chks names tys (t :: l) acc = ((chks names tys l (walkL names tys (po t) acc).1).1, (chks names tys l (walkL names tys (po t) acc).1).2.1, (tyT names tys t).1 :: (chks names tys l (walkL names tys (po t) acc).1).2.2) := by rw [chks, if_neg (by rw [h2]; simpa using h), h1, h5]
   have e2 : tyTs names tys (t :: l) = ((tyTs names tys l).1, (tyT names tys t).1 :: (tyTs names tys l).2) := by rw [tyTs, if_neg (by simpa using h4)]
   have e3 : walkL names tys (pos (t :: l)) acc = walkL names tys (pos l) (walkL names tys (po t) acc).1 := by rw [pos, walkL_append, if_neg (by simpa using h)]
   rw [e, e2, e3]
   refine ⟨k1, k2, fun q => ?_⟩
   obtain ⟨k4, k5⟩ := k3 q
   exact ⟨k4, by simp only; rw [k5]⟩
  ·have e : chks names tys (t :: l) acc = ((walkL names tys (po t) acc).1, (walkL names tys (po t) acc).2, []) := by rw [chks, if_pos (by rw [h2]; exact h), h1, h2]
   have e3 : walkL names tys (pos (t :: l)) acc = walkL names tys (po t) acc := by rw [pos, walkL_append, if_pos h]
   rw [e, e3]
   exact ⟨rfl, rfl, fun q => absurd q h⟩
end
structure LetsR (w : World) (p : Addr) (names : List ByteArray) (tys : List Int) : Prop where
 ex : ∃ NA nn nc TA tn tc, w.cell? (p.add 0) = some (.slice NA nn nc) ∧ w.cell? (p.add 1) = some (.slice TA tn tc) ∧ Strs w NA nn nc names ∧ Ints w TA tn tc tys
 eq : names.length = tys.length
 le : tys.length ≤ 600
 nz : ∀ y ∈ tys, y ≠ 0
theorem LetsR.ext {w w' : World} {p : Addr} {names : List ByteArray} {tys : List Int} (h : LetsR w p names tys) (hx : Ext w w') : LetsR w' p names tys := by
 obtain ⟨NA, nn, nc, TA, tn, tc, h1, h2, h3, h4⟩ := h.ex
 exact ⟨⟨NA, nn, nc, TA, tn, tc, hx.cell h1, hx.cell h2, h3.ext hx, h4.ext hx⟩, h.eq, h.le, h.nz⟩
end Go.Proofs.YtkedmcebngachaaGreatDoor
