/- Texts that the law FnExactDecide leans on, part 3 of 8: contracts of the functions that it reaches and plain lemmas. Each holds under the conditions that it states. -/
import Derived.Test.YtgnjkdkedjljjaaGreatDoorMFnExactDecide2
set_option maxHeartbeats 16000000
namespace Go.Proofs.YtgnjkdkedjljjaaGreatDoor
open Go.Eng
set_option linter.unusedVariables false
set_option linter.unusedSimpArgs false
def kidsF (op : Int) : Int := if 1 ≤ op ∧ op ≤ 7 then 0 else if 8 ≤ op ∧ op ≤ 10 then 1 else if 11 ≤ op ∧ op ≤ 26 then 2 else if op = 27 then 3 else -1
theorem kidsOf_f {w : World} (op : Int) : FC Tryz.prog 193 [.int .i64 op] w fun v _ => v = .int .i64 (kidsF op) := by
 refine FC.intro (cs := []) Tryz.func193 (by kernel_rfl) fun E R hE hr hR => ?_
 conv => cbv
 repeat' (split <;> conv => cbv)
 all_goals (rw [hR]; refine ⟨Ext.refl _, congrArg (Value.int .i64) ?_⟩; simp only [hE.cmp, cmpR, decide_eq_true_eq, beq_iff_eq] at *; unfold kidsF; repeat' split) <;> omega
def attrF (g : Int) : Int := if g < 2 then 3 else if g < 4 then 2 else 4
theorem l3attrType_f {w : World} (g : Int) : FC Tryz.prog 239 [.int .i64 g] w fun v _ => v = .int .i64 (attrF g) := by
 refine FC.intro (cs := []) Tryz.func239 (by kernel_rfl) fun E R hE hr hR => ?_
 conv => cbv
 repeat' (split <;> conv => cbv)
 all_goals (rw [hR]; refine ⟨Ext.refl _, congrArg (Value.int .i64) ?_⟩; simp only [hE.cmp, cmpR, decide_eq_true_eq, beq_iff_eq] at *; unfold attrF; repeat' split) <;> omega
def popsF (o : Int) : Int := if o = 1 ∨ o = 2 ∨ o = 3 ∨ o = 22 ∨ o = 24 then 0 else if o = 4 ∨ o = 23 ∨ o = 25 then 1 else kidsF (oprF o)
def allT (t : Int) (ts : List Int) : Bool := ts.all fun x => x == t
theorem same_f {w : World} {B : Nat} {a : Addr} {A : Option Addr} {n c : Nat} {ts : List Int} (hb : Box B 29 1 w a [.slice A n c]) (h : Ints w A n c ts) (t : Int) :
  FC Tryz.prog 271 [.int .i64 t, .pointer (some a)] w fun v _ => v = .bool (allT t ts) := by
 refine FC.intro (cs := []) Tryz.func271 (by kernel_rfl) fun E R hE hr hR => ?_
 have hl := h.len
 have hle := h.le
 conv => cbv
 refine st_load hE cInts (v := .slice A n c) (by have := hb.at 0 _ rfl; rwa [add_zero] at this) ?_
 conv => cbv
 refine st_len hE tInts fun x hx => ?_
 conv => cbv
 refine loop_rule hr (fun (s : Nat × Int) w' => s.1 ≤ n ∧ s.2 = (s.1 : Int) ∧ Ext w w' ∧ ∀ x ∈ ts.take s.1, x = t) (fun s => [(0, .int .i64 t), (6, .slice A n c), (7, .int .i64 x), (8, .int .i64 s.2)]) (fun s => n - s.1) (0, 0)
  (by simp [Fits, lk]) ⟨by simp, by simp, Ext.refl _, by simp⟩ ?_
 rintro I hI ⟨i, ii⟩ w' ⟨hi, hii, hxw, hall⟩
 simp only at hi hii hall
 obtain ⟨ii', hii'⟩ : ∃ z, z = ii + 1 := ⟨_, rfl⟩
 conv => cbv
 refine br (fun g => ?_) (fun g => ?_)
 ·have g : i < n := by
   have : ii < x := by simpa [hE.cmp, cmpR] using g
   omega
  have e1 : E.ar .add .i64 ii 1 = ii' := by rw [hE.ar, hii']; exact wrap_in (by omega) (by omega)
  conv => cbv
  refine st_int hE tInts (h.ext hxw) (k := i) (by omega) g fun p u hu hp => ?_
  conv => cbv
  refine st_load hE cInt hp ?_
  conv => cbv
  refine br (fun g2 => ?_) (fun g2 => ?_)
  ·have g2 : u ≠ t := by simpa [hE.cmp, cmpR] using g2
   conv => cbv
   rw [hR]; refine ⟨hxw, ?_⟩
   have : allT t ts = false := by
    unfold allT; rw [List.all_eq_false]
    exact ⟨u, m1_ hu, by simpa using g2⟩
   rw [this]; rfl
  ·have g2 : u = t := by simpa [hE.cmp, cmpR] using g2
   conv => cbv
   simp only [e1]
   refine ⟨(i + 1, ii'), by simp [Fits, lk], hI _ _ ⟨by simp only; omega, by simp only; omega, hxw, ?_⟩, by simp only; omega⟩
   simp only
   rw [g4_, hu]
   intro y hy
   rcases List.mem_append.1 hy with hy | hy
   ·exact hall y hy
   ·simp at hy; rw [hy, g2]
 ·have g : i = n := by
   have : ¬ ii < x := by simpa [hE.cmp, cmpR] using g
   omega
  rw [g3_ (by omega)] at hall
  conv => cbv
  rw [hR]; refine ⟨hxw, ?_⟩
  have : allT t ts = true := by
   unfold allT; rw [List.all_eq_true]
   exact fun y hy => by simpa using hall y hy
  rw [this]; rfl
theorem fit_f {w : World} (b : Bool) (t : Int) : FC Tryz.prog 272 [.bool b, .int .i64 t] w fun v _ => v = .int .i64 (if b = true then t else 0) := by
 refine FC.intro (cs := []) Tryz.func272 (by kernel_rfl) fun E R hE hr hR => ?_
 cases b with
 | true => conv => cbv
           rw [hR]; exact ⟨Ext.refl _, rfl⟩
 | false => conv => cbv
            rw [hR]; exact ⟨Ext.refl _, rfl⟩
def typF (op : Int) (ts : List Int) : Int :=
 if op = 8 ∨ (11 ≤ op ∧ op ≤ 15) then (if allT 2 ts = true then 2 else 0)
 else if op = 9 then (if allT 1 ts = true then 1 else 0)
 else if op = 10 then (if allT 4 ts = true then 2 else 0)
 else if 16 ≤ op ∧ op ≤ 18 then (if allT 4 ts = true then 4 else 0)
 else if op = 19 ∨ op = 20 then (if ts[0]? = ts[1]? then 1 else 0)
 else if op = 21 ∨ op = 22 then (if allT 2 ts = true then 1 else 0)
 else if op = 23 then (if ts[0]? = some 3 ∧ ts[1]? = some 4 then 1 else 0)
 else (if allT 4 ts = true then 1 else 0)
theorem typeOf_f {w : World} {A : Option Addr} {n c : Nat} {ts : List Int} (h : Ints w A n c ts) (op : Int) (h1 : 8 ≤ op) (h2 : op ≤ 24) (hk : (n : Int) = kidsF op) :
  FC Tryz.prog 246 [.int .i64 op, .slice A n c] w fun v _ => v = .int .i64 (typF op ts) := by
 refine FC.intro (cs := []) Tryz.func246 (by kernel_rfl) fun E R hE hr hR => ?_
 have hl := h.len
 conv => cbv
 refine st_box1 hr rfl fun a w1 hx hb0 => ?_
 have hb := hb0 _ (n1_ _)
 have hl0 : w1.cell? a = some (.slice A n c) := by have := hb.at 0 _ rfl; rwa [add_zero] at this
 conv => cbv
 refine br (fun g => ?_) (fun g => ?_)
 ·have g0 := g
  have g : op = 8 := by simpa [hE.cmp, cmpR] using g
  conv => cbv
  refine br (fun _ => ?_) (fun q => absurd g0 q)
  conv => cbv
  refine st_f hr (same_f hb (h.ext hx) 2) fun v w2 hx2 ev => ?_
  subst ev
  obtain ⟨q, hq⟩ : ∃ q, q = allT 2 ts := ⟨_, rfl⟩
  rw [← hq]
  conv => cbv
  refine st_f hr (fit_f q 2) fun v w3 hx3 ev => ?_
  subst ev
  obtain ⟨z, hz⟩ : ∃ z : Int, z = if q = true then 2 else 0 := ⟨_, rfl⟩
  rw [← hz]
  conv => cbv
  rw [hR]; exact ⟨(hx.trans hx2).trans hx3, by rw [hz, hq]; simp [one, typF, g]⟩
 have g8 : op ≠ 8 := by simpa [hE.cmp, cmpR] using g
 clear g
 conv => cbv
 refine br (fun g => ?_) (fun g => ?_)
 ·have g0 := g
  have g : op = 11 := by simpa [hE.cmp, cmpR] using g
  conv => cbv
  refine br (fun _ => ?_) (fun q => absurd g0 q)
  conv => cbv
  refine st_f hr (same_f hb (h.ext hx) 2) fun v w2 hx2 ev => ?_
  subst ev
  obtain ⟨q, hq⟩ : ∃ q, q = allT 2 ts := ⟨_, rfl⟩
  rw [← hq]
  conv => cbv
  refine st_f hr (fit_f q 2) fun v w3 hx3 ev => ?_
  subst ev
  obtain ⟨z, hz⟩ : ∃ z : Int, z = if q = true then 2 else 0 := ⟨_, rfl⟩
  rw [← hz]
  conv => cbv
  rw [hR]; exact ⟨(hx.trans hx2).trans hx3, by rw [hz, hq]; simp [one, typF, g]⟩
 have g11 : op ≠ 11 := by simpa [hE.cmp, cmpR] using g
 clear g
 conv => cbv
 refine br (fun g => ?_) (fun g => ?_)
 ·have g0 := g
  have g : op = 12 := by simpa [hE.cmp, cmpR] using g
  conv => cbv
  refine br (fun _ => ?_) (fun q => absurd g0 q)
  conv => cbv
  refine st_f hr (same_f hb (h.ext hx) 2) fun v w2 hx2 ev => ?_
  subst ev
  obtain ⟨q, hq⟩ : ∃ q, q = allT 2 ts := ⟨_, rfl⟩
  rw [← hq]
  conv => cbv
  refine st_f hr (fit_f q 2) fun v w3 hx3 ev => ?_
  subst ev
  obtain ⟨z, hz⟩ : ∃ z : Int, z = if q = true then 2 else 0 := ⟨_, rfl⟩
  rw [← hz]
  conv => cbv
  rw [hR]; exact ⟨(hx.trans hx2).trans hx3, by rw [hz, hq]; simp [one, typF, g]⟩
 have g12 : op ≠ 12 := by simpa [hE.cmp, cmpR] using g
 clear g
 conv => cbv
 refine br (fun g => ?_) (fun g => ?_)
 ·have g0 := g
  have g : op = 13 := by simpa [hE.cmp, cmpR] using g
  conv => cbv
  refine br (fun _ => ?_) (fun q => absurd g0 q)
  conv => cbv
  refine st_f hr (same_f hb (h.ext hx) 2) fun v w2 hx2 ev => ?_
  subst ev
  obtain ⟨q, hq⟩ : ∃ q, q = allT 2 ts := ⟨_, rfl⟩
  rw [← hq]
  conv => cbv
  refine st_f hr (fit_f q 2) fun v w3 hx3 ev => ?_
  subst ev
  obtain ⟨z, hz⟩ : ∃ z : Int, z = if q = true then 2 else 0 := ⟨_, rfl⟩
  rw [← hz]
  conv => cbv
  rw [hR]; exact ⟨(hx.trans hx2).trans hx3, by rw [hz, hq]; simp [one, typF, g]⟩
 have g13 : op ≠ 13 := by simpa [hE.cmp, cmpR] using g
 clear g
 conv => cbv
 refine br (fun g => ?_) (fun g => ?_)
 ·have g0 := g
  have g : op = 14 := by simpa [hE.cmp, cmpR] using g
  conv => cbv
  refine br (fun _ => ?_) (fun q => absurd g0 q)
  conv => cbv
  refine st_f hr (same_f hb (h.ext hx) 2) fun v w2 hx2 ev => ?_
  subst ev
  obtain ⟨q, hq⟩ : ∃ q, q = allT 2 ts := ⟨_, rfl⟩
  rw [← hq]
  conv => cbv
  refine st_f hr (fit_f q 2) fun v w3 hx3 ev => ?_
  subst ev
  obtain ⟨z, hz⟩ : ∃ z : Int, z = if q = true then 2 else 0 := ⟨_, rfl⟩
  rw [← hz]
  conv => cbv
  rw [hR]; exact ⟨(hx.trans hx2).trans hx3, by rw [hz, hq]; simp [one, typF, g]⟩
 have g14 : op ≠ 14 := by simpa [hE.cmp, cmpR] using g
 clear g
 conv => cbv
 refine br (fun g => ?_) (fun g => ?_)
 ·have g0 := g
  have g : op = 15 := by simpa [hE.cmp, cmpR] using g
  conv => cbv
  refine st_f hr (same_f hb (h.ext hx) 2) fun v w2 hx2 ev => ?_
  subst ev
  obtain ⟨q, hq⟩ : ∃ q, q = allT 2 ts := ⟨_, rfl⟩
  rw [← hq]
  conv => cbv
  refine st_f hr (fit_f q 2) fun v w3 hx3 ev => ?_
  subst ev
  obtain ⟨z, hz⟩ : ∃ z : Int, z = if q = true then 2 else 0 := ⟨_, rfl⟩
  rw [← hz]
  conv => cbv
  rw [hR]; exact ⟨(hx.trans hx2).trans hx3, by rw [hz, hq]; simp [one, typF, g]⟩
 have g15 : op ≠ 15 := by simpa [hE.cmp, cmpR] using g
 clear g
 conv => cbv
 refine br (fun g => ?_) (fun g => ?_)
 ·have g0 := g
  have g : op = 9 := by simpa [hE.cmp, cmpR] using g
  conv => cbv
  refine br (fun _ => ?_) (fun q => absurd g0 q)
  conv => cbv
  refine st_f hr (same_f hb (h.ext hx) 1) fun v w2 hx2 ev => ?_
  subst ev
  obtain ⟨q, hq⟩ : ∃ q, q = allT 1 ts := ⟨_, rfl⟩
  rw [← hq]
  conv => cbv
  refine st_f hr (fit_f q 1) fun v w3 hx3 ev => ?_
  subst ev
  obtain ⟨z, hz⟩ : ∃ z : Int, z = if q = true then 1 else 0 := ⟨_, rfl⟩
  rw [← hz]
  conv => cbv
  rw [hR]; exact ⟨(hx.trans hx2).trans hx3, by rw [hz, hq]; simp [one, typF, g]⟩
 have g9 : op ≠ 9 := by simpa [hE.cmp, cmpR] using g
 clear g
 conv => cbv
 refine br (fun g => ?_) (fun g => ?_)
 ·have g : op = 25 := by simpa [hE.cmp, cmpR] using g
  omega
 clear g
 conv => cbv
 refine br (fun g => ?_) (fun g => ?_)
 ·have g : op = 26 := by simpa [hE.cmp, cmpR] using g
  omega
 clear g
 conv => cbv
 refine br (fun g => ?_) (fun g => ?_)
 ·have g0 := g
  have g : op = 10 := by simpa [hE.cmp, cmpR] using g
  conv => cbv
  refine st_f hr (same_f hb (h.ext hx) 4) fun v w2 hx2 ev => ?_
  subst ev
  obtain ⟨q, hq⟩ : ∃ q, q = allT 4 ts := ⟨_, rfl⟩
  rw [← hq]
  conv => cbv
  refine st_f hr (fit_f q 2) fun v w3 hx3 ev => ?_
  subst ev
  obtain ⟨z, hz⟩ : ∃ z : Int, z = if q = true then 2 else 0 := ⟨_, rfl⟩
  rw [← hz]
  conv => cbv
  rw [hR]; exact ⟨(hx.trans hx2).trans hx3, by rw [hz, hq]; simp [one, typF, g]⟩
 have g10 : op ≠ 10 := by simpa [hE.cmp, cmpR] using g
 clear g
 conv => cbv
 refine br (fun g => ?_) (fun g => ?_)
 ·have g0 := g
  have g : op = 16 := by simpa [hE.cmp, cmpR] using g
  conv => cbv
  refine br (fun _ => ?_) (fun q => absurd g0 q)
  conv => cbv
  refine st_f hr (same_f hb (h.ext hx) 4) fun v w2 hx2 ev => ?_
  subst ev
  obtain ⟨q, hq⟩ : ∃ q, q = allT 4 ts := ⟨_, rfl⟩
  rw [← hq]
  conv => cbv
  refine st_f hr (fit_f q 4) fun v w3 hx3 ev => ?_
  subst ev
  obtain ⟨z, hz⟩ : ∃ z : Int, z = if q = true then 4 else 0 := ⟨_, rfl⟩
  rw [← hz]
  conv => cbv
  rw [hR]; exact ⟨(hx.trans hx2).trans hx3, by rw [hz, hq]; simp [one, typF, g]⟩
 have g16 : op ≠ 16 := by simpa [hE.cmp, cmpR] using g
 clear g
 conv => cbv
 refine br (fun g => ?_) (fun g => ?_)
 ·have g0 := g
  have g : op = 17 := by simpa [hE.cmp, cmpR] using g
  conv => cbv
  refine br (fun _ => ?_) (fun q => absurd g0 q)
  conv => cbv
  refine st_f hr (same_f hb (h.ext hx) 4) fun v w2 hx2 ev => ?_
  subst ev
  obtain ⟨q, hq⟩ : ∃ q, q = allT 4 ts := ⟨_, rfl⟩
  rw [← hq]
  conv => cbv
  refine st_f hr (fit_f q 4) fun v w3 hx3 ev => ?_
  subst ev
  obtain ⟨z, hz⟩ : ∃ z : Int, z = if q = true then 4 else 0 := ⟨_, rfl⟩
  rw [← hz]
  conv => cbv
  rw [hR]; exact ⟨(hx.trans hx2).trans hx3, by rw [hz, hq]; simp [one, typF, g]⟩
 have g17 : op ≠ 17 := by simpa [hE.cmp, cmpR] using g
 clear g
 conv => cbv
 refine br (fun g => ?_) (fun g => ?_)
 ·have g0 := g
  have g : op = 18 := by simpa [hE.cmp, cmpR] using g
  conv => cbv
  refine st_f hr (same_f hb (h.ext hx) 4) fun v w2 hx2 ev => ?_
  subst ev
  obtain ⟨q, hq⟩ : ∃ q, q = allT 4 ts := ⟨_, rfl⟩
  rw [← hq]
  conv => cbv
  refine st_f hr (fit_f q 4) fun v w3 hx3 ev => ?_
  subst ev
  obtain ⟨z, hz⟩ : ∃ z : Int, z = if q = true then 4 else 0 := ⟨_, rfl⟩
  rw [← hz]
  conv => cbv
  rw [hR]; exact ⟨(hx.trans hx2).trans hx3, by rw [hz, hq]; simp [one, typF, g]⟩
 have g18 : op ≠ 18 := by simpa [hE.cmp, cmpR] using g
 clear g
 conv => cbv
 refine br (fun g => ?_) (fun g => ?_)
 ·have g0 := g
  have g : op = 19 := by simpa [hE.cmp, cmpR] using g
  conv => cbv
  refine br (fun _ => ?_) (fun q => absurd g0 q)
  have hn : n = 2 := by
   have : kidsF op = 2 := by rw [g]; decide
   omega
  conv => cbv
  refine draw_h [0, 1, 2, 3, 4, 5, 6, 7] [(8, false), (9, true)] hr fol (by kernel_rfl) fun E' hE' w4 hs4 S hS => ?_
  have hl4 : w4.cell? a = some (.slice A n c) := hs4.ext.cell hl0
  have h4 := (h.ext hx).ext hs4.ext
  conv => cbv
  refine st_load hE' cInts hl4 ?_
  conv => cbv
  refine st_int hE' tInts h4 (k := 0) rfl (by omega) fun p u hu hp => ?_
  conv => cbv
  refine st_load hE' cInt hp ?_
  conv => cbv
  refine st_load hE' cInts hl4 ?_
  conv => cbv
  refine st_int hE' tInts h4 (k := 1) rfl (by omega) fun p2 u2 hu2 hp2 => ?_
  conv => cbv
  refine st_load hE' cInt hp2 ?_
  obtain ⟨q, hq⟩ : ∃ q, q = E'.cmp .eql u u2 := ⟨_, rfl⟩
  have hq' : q = true ↔ u = u2 := by rw [hq, hE'.cmp]; simp [cmpR]
  conv => cbv
  simp only [← hq]
  refine st_f hr (fit_f q 1) fun v w3 hx3 ev => ?_
  subst ev
  obtain ⟨z, hz⟩ : ∃ z : Int, z = if q = true then 1 else 0 := ⟨_, rfl⟩
  rw [← hz]
  refine ⟨hS _ hx3, ?_⟩
  conv => cbv
  rw [hR]; refine ⟨(hx.trans hs4.ext).trans hx3, ?_⟩
  rw [hz]; cases q with
  | true => rw [if_pos rfl]; have := hq'.1 rfl; simp [one, typF, g, hu, hu2, this]
  | false => rw [if_neg (by simp)]; have : u ≠ u2 := fun e => by simpa using hq'.2 e
             simp [one, typF, g, hu, hu2, this]
 have g19 : op ≠ 19 := by simpa [hE.cmp, cmpR] using g
 clear g
 conv => cbv
 refine br (fun g => ?_) (fun g => ?_)
 ·have g0 := g
  have g : op = 20 := by simpa [hE.cmp, cmpR] using g
  have hn : n = 2 := by
   have : kidsF op = 2 := by rw [g]; decide
   omega
  conv => cbv
  refine draw_h [0, 1, 2, 3, 4, 5, 6, 7] [(8, false), (9, true)] hr fol (by kernel_rfl) fun E' hE' w4 hs4 S hS => ?_
  have hl4 : w4.cell? a = some (.slice A n c) := hs4.ext.cell hl0
  have h4 := (h.ext hx).ext hs4.ext
  conv => cbv
  refine st_load hE' cInts hl4 ?_
  conv => cbv
  refine st_int hE' tInts h4 (k := 0) rfl (by omega) fun p u hu hp => ?_
  conv => cbv
  refine st_load hE' cInt hp ?_
  conv => cbv
  refine st_load hE' cInts hl4 ?_
  conv => cbv
  refine st_int hE' tInts h4 (k := 1) rfl (by omega) fun p2 u2 hu2 hp2 => ?_
  conv => cbv
  refine st_load hE' cInt hp2 ?_
  obtain ⟨q, hq⟩ : ∃ q, q = E'.cmp .eql u u2 := ⟨_, rfl⟩
  have hq' : q = true ↔ u = u2 := by rw [hq, hE'.cmp]; simp [cmpR]
  conv => cbv
  simp only [← hq]
  refine st_f hr (fit_f q 1) fun v w3 hx3 ev => ?_
  subst ev
  obtain ⟨z, hz⟩ : ∃ z : Int, z = if q = true then 1 else 0 := ⟨_, rfl⟩
  rw [← hz]
  refine ⟨hS _ hx3, ?_⟩
  conv => cbv
  rw [hR]; refine ⟨(hx.trans hs4.ext).trans hx3, ?_⟩
  rw [hz]; cases q with
  | true => rw [if_pos rfl]; have := hq'.1 rfl; simp [one, typF, g, hu, hu2, this]
  | false => rw [if_neg (by simp)]; have : u ≠ u2 := fun e => by simpa using hq'.2 e
             simp [one, typF, g, hu, hu2, this]
 have g20 : op ≠ 20 := by simpa [hE.cmp, cmpR] using g
 clear g
 conv => cbv
 refine br (fun g => ?_) (fun g => ?_)
 ·have g0 := g
  have g : op = 21 := by simpa [hE.cmp, cmpR] using g
  conv => cbv
  refine br (fun _ => ?_) (fun q => absurd g0 q)
  conv => cbv
  refine st_f hr (same_f hb (h.ext hx) 2) fun v w2 hx2 ev => ?_
  subst ev
  obtain ⟨q, hq⟩ : ∃ q, q = allT 2 ts := ⟨_, rfl⟩
  rw [← hq]
  conv => cbv
  refine st_f hr (fit_f q 1) fun v w3 hx3 ev => ?_
  subst ev
  obtain ⟨z, hz⟩ : ∃ z : Int, z = if q = true then 1 else 0 := ⟨_, rfl⟩
  rw [← hz]
  conv => cbv
  rw [hR]; exact ⟨(hx.trans hx2).trans hx3, by rw [hz, hq]; simp [one, typF, g]⟩
 have g21 : op ≠ 21 := by simpa [hE.cmp, cmpR] using g
 clear g
 conv => cbv
 refine br (fun g => ?_) (fun g => ?_)
 ·have g0 := g
  have g : op = 22 := by simpa [hE.cmp, cmpR] using g
  conv => cbv
  refine st_f hr (same_f hb (h.ext hx) 2) fun v w2 hx2 ev => ?_
  subst ev
  obtain ⟨q, hq⟩ : ∃ q, q = allT 2 ts := ⟨_, rfl⟩
  rw [← hq]
  conv => cbv
  refine st_f hr (fit_f q 1) fun v w3 hx3 ev => ?_
  subst ev
  obtain ⟨z, hz⟩ : ∃ z : Int, z = if q = true then 1 else 0 := ⟨_, rfl⟩
  rw [← hz]
  conv => cbv
  rw [hR]; exact ⟨(hx.trans hx2).trans hx3, by rw [hz, hq]; simp [one, typF, g]⟩
 have g22 : op ≠ 22 := by simpa [hE.cmp, cmpR] using g
 clear g
 conv => cbv
 refine br (fun g => ?_) (fun g => ?_)
 ·have g0 := g
  have g : op = 23 := by simpa [hE.cmp, cmpR] using g
  have hn : n = 2 := by
   have : kidsF op = 2 := by rw [g]; decide
   omega
  conv => cbv
  refine st_load hE cInts hl0 ?_
  conv => cbv
  refine st_int hE tInts (h.ext hx) (k := 0) rfl (by omega) fun p u hu hp => ?_
  conv => cbv
  refine st_load hE cInt hp ?_
  conv => cbv
  refine br (fun g2 => ?_) (fun g2 => ?_)
  ·have g2 : u = 3 := by simpa [hE.cmp, cmpR] using g2
   conv => cbv
   refine st_load hE cInts hl0 ?_
   conv => cbv
   refine st_int hE tInts (h.ext hx) (k := 1) rfl (by omega) fun p2 u2 hu2 hp2 => ?_
   conv => cbv
   refine st_load hE cInt hp2 ?_
   obtain ⟨q, hq⟩ : ∃ q, q = E.cmp .eql u2 4 := ⟨_, rfl⟩
   have hq' : q = true ↔ u2 = 4 := by rw [hq, hE.cmp]; simp [cmpR]
   conv => cbv
   simp only [← hq]
   conv => cbv
   refine st_f hr (fit_f q 1) fun v w3 hx3 ev => ?_
   subst ev
   obtain ⟨z, hz⟩ : ∃ z : Int, z = if q = true then 1 else 0 := ⟨_, rfl⟩
   rw [← hz]
   conv => cbv
   rw [hR]; refine ⟨hx.trans hx3, ?_⟩
   rw [hz]; cases q with
   | true => rw [if_pos rfl]; have := hq'.1 rfl; simp [one, typF, g, hu, hu2, this, g2]
   | false => rw [if_neg (by simp)]; have : u2 ≠ 4 := fun e => by simpa using hq'.2 e
              simp [one, typF, g, hu, hu2, this]
  ·have g2 : u ≠ 3 := by simpa [hE.cmp, cmpR] using g2
   conv => cbv
   refine st_f hr (fit_f false 1) fun v w3 hx3 ev => ?_
   subst ev
   obtain ⟨z, hz⟩ : ∃ z : Int, z = if false = true then 1 else 0 := ⟨_, rfl⟩
   rw [← hz]
   conv => cbv
   rw [hR]; exact ⟨hx.trans hx3, by rw [hz]; simp [one, typF, g, hu, g2]⟩
 have g23 : op ≠ 23 := by simpa [hE.cmp, cmpR] using g
 clear g
 conv => cbv
 refine br (fun g => ?_) (fun g => ?_)
 ·have g0 := g
  have g : op = 24 := by simpa [hE.cmp, cmpR] using g
  conv => cbv
  refine st_f hr (same_f hb (h.ext hx) 4) fun v w2 hx2 ev => ?_
  subst ev
  obtain ⟨q, hq⟩ : ∃ q, q = allT 4 ts := ⟨_, rfl⟩
  rw [← hq]
  conv => cbv
  refine st_f hr (fit_f q 1) fun v w3 hx3 ev => ?_
  subst ev
  obtain ⟨z, hz⟩ : ∃ z : Int, z = if q = true then 1 else 0 := ⟨_, rfl⟩
  rw [← hz]
  conv => cbv
  rw [hR]; exact ⟨(hx.trans hx2).trans hx3, by rw [hz, hq]; simp [one, typF, g]⟩
 have g24 : op ≠ 24 := by simpa [hE.cmp, cmpR] using g
 clear g
 omega
inductive Tr where
 | con (k n : Int) (tx : ByteArray) (xs : List ByteArray) (at_ : Int)
 | nam (tx : ByteArray) (at_ : Int)
 | att (n : Int)
 | lt (n : Int)
 | op (o : Int) (kids : List Tr) (at_ : Int)
def knd (o : Int) : Int := if o = 1 then 2 else if o = 2 then 3 else if o = 3 then 1 else 4
def leafF (p : PN) (i : Int) : Tr := if p.o = 5 then .nam p.tx i else if p.o = 6 then .att p.z else if p.o = 7 then .lt p.z else .con (knd p.o) p.z p.tx p.xs i
def mkT (p : PN) (i : Int) (kids : List Tr) : Tr := if kidsF p.o = 0 then leafF p i else .op p.o kids i
mutual
def dep : Tr → Nat
 | .op _ kids _ => deps kids + 1
 | _ => 1
def deps : List Tr → Nat
 | [] => 0
 | t :: l => max (dep t) (deps l)
end
theorem dep_leaf (p : PN) (i : Int) : dep (leafF p i) = 1 := by unfold leafF; (repeat' split) <;> rfl
theorem deps_mem : ∀ {l : List Tr} {t : Tr}, t ∈ l → dep t ≤ deps l
 | u :: l, t, h => by
  rw [deps]
  rcases List.mem_cons.1 h with rfl | h
  ·omega
  ·have := deps_mem h; omega
theorem deps_le {l : List Tr} {n : Nat} (h : ∀ t ∈ l, dep t ≤ n) : deps l ≤ n := by
 induction l with
 | nil => simp [deps]
 | cons t l ih => rw [deps]; have := h t (by simp); have := ih fun t ht => h t (by simp [ht]); omega
inductive IsTs (ns : List PN) : Nat → Nat → List Int → List Tr → Prop
 | nil (a : Nat) : IsTs ns a a [] []
 | cons {a b k : Nat} {p : PN} {ks : List Int} {kids ts : List Tr} (hp : ns[k]? = some p) (hk : (p.ks.length : Int) = kidsF p.o) (h1 : IsTs ns a k p.ks kids) (h2 : IsTs ns (k + 1) b ks ts) : IsTs ns a b ((k : Int) :: ks) (mkT p k kids :: ts)
namespace IsTs
variable {ns : List PN}
theorem le {a b : Nat} {ks : List Int} {ts : List Tr} (h : IsTs ns a b ks ts) : a ≤ b := by
 induction h with
 | nil => omega
 | cons hp hk h1 h2 i1 i2 => omega
theorem len {a b : Nat} {ks : List Int} {ts : List Tr} (h : IsTs ns a b ks ts) : ts.length = ks.length := by
 induction h with
 | nil => rfl
 | cons hp hk h1 h2 i1 i2 => simp [i2]
theorem roots {a b : Nat} {ks : List Int} {ts : List Tr} (h : IsTs ns a b ks ts) : ∀ k ∈ ks, (a : Int) ≤ k ∧ k < b := by
 induction h with
 | nil => simp
 | cons hp hk h1 h2 i1 i2 =>
  intro k hk'
  have e1 := h1.le
  have e2 := h2.le
  rcases List.mem_cons.1 hk' with rfl | hk'
  ·omega
  ·have := i2 k hk'; omega
theorem bound {a b : Nat} {ks : List Int} {ts : List Tr} (h : IsTs ns a b ks ts) : a < b → b ≤ ns.length := by
 induction h with
 | nil => omega
 | @cons a b k p ks kids ts hp hk h1 h2 i1 i2 =>
  intro _
  have := (List.getElem?_eq_some_iff.1 hp).1
  have := h2.le
  rcases Nat.lt_or_ge (k + 1) b with q | q
  ·exact i2 q
  ·omega
theorem append {a c : Nat} {ks : List Int} {ts : List Tr} (h : IsTs ns a c ks ts) : ∀ {b : Nat} {ks2 : List Int} {ts2 : List Tr}, IsTs ns c b ks2 ts2 → IsTs ns a b (ks ++ ks2) (ts ++ ts2) := by
 induction h with
 | nil => intro b ks2 ts2 h; exact h
 | cons hp hk h1 h2 i1 i2 => intro b ks2 ts2 h; exact .cons hp hk h1 (i2 h)
theorem split : ∀ {ks1 : List Int} {a b : Nat} {ks2 : List Int} {ts : List Tr}, IsTs ns a b (ks1 ++ ks2) ts → ∃ c ts1 ts2, ts = ts1 ++ ts2 ∧ IsTs ns a c ks1 ts1 ∧ IsTs ns c b ks2 ts2
 | [], a, b, ks2, ts, h => ⟨a, [], ts, rfl, .nil a, h⟩
 | k :: ks1, a, b, ks2, ts, h => by
  rw [List.cons_append] at h
  cases h with
  | cons hp hk h1 h2 =>
   obtain ⟨c, ts1, ts2, e, g1, g2⟩ := split h2
   exact ⟨c, _ :: ts1, ts2, by rw [e]; rfl, .cons hp hk h1 g1, g2⟩
theorem one {a b : Nat} {k : Int} {ts : List Tr} (h : IsTs ns a b [k] ts) : ∃ (kn : Nat) (p : PN) (kids : List Tr), k = kn ∧ b = kn + 1 ∧ ns[kn]? = some p ∧ (p.ks.length : Int) = kidsF p.o ∧ IsTs ns a kn p.ks kids ∧ ts = [mkT p kn kids] := by
 cases h with
 | cons hp hk h1 h2 => cases h2; exact ⟨_, _, _, rfl, rfl, hp, hk, h1, rfl⟩
theorem uniq {a b : Nat} {ks : List Int} {ts : List Tr} (h : IsTs ns a b ks ts) : ∀ {b' : Nat} {ts' : List Tr}, IsTs ns a b' ks ts' → b = b' ∧ ts = ts' := by
 induction h with
 | nil => intro b' ts' h; cases h; exact ⟨rfl, rfl⟩
 | @cons a b k p ks kids ts hp hk h1 h2 i1 i2 =>
  intro b' ts' h
  generalize hq : ((k : Int) :: ks) = kk at h
  cases h with
  | nil => cases hq
  | cons hp' hk' h1' h2' =>
   simp only [b1_] at hq
   obtain ⟨e1, e2⟩ := hq
   have e1 : k = _ := Int.ofNat.inj e1
   subst e1; subst e2
   rw [hp] at hp'
   cases hp'
   obtain ⟨_, rfl⟩ := i1 h1'
   obtain ⟨rfl, rfl⟩ := i2 h2'
   exact ⟨rfl, rfl⟩
end IsTs
def nodeOK (leafP : PN → Prop) (p : PN) : Prop := (kidsF p.o = 0 → leafP p) ∧ (1 ≤ kidsF p.o → p.z = 0 ∧ p.tx = ⟨#[]⟩ ∧ p.xs = [])
open Classical in
noncomputable def stepM (leafP : PN → Prop) (p : PN) (i : Nat) (st : List (Tr × Int)) : Option (List (Tr × Int)) :=
 if kidsF p.o < 0 ∨ (p.ks.length : Int) ≠ kidsF p.o ∨ st.length < p.ks.length then none
 else if kidsF p.o = 0 then (if leafP p then some (st ++ [(leafF p i, (i : Int))]) else none)
 else if ¬ (p.z = 0 ∧ p.tx = ⟨#[]⟩ ∧ p.xs = []) then none
 else if p.ks ≠ (st.drop (st.length - p.ks.length)).map (·.2) then none
 else if 64 < dep (.op p.o ((st.drop (st.length - p.ks.length)).map (·.1)) i) then none
 else some (st.take (st.length - p.ks.length) ++ [(.op p.o ((st.drop (st.length - p.ks.length)).map (·.1)) i, (i : Int))])
noncomputable def runM (leafP : PN → Prop) : List PN → Nat → List (Tr × Int) → Option (List (Tr × Int))
 | [], _, st => some st
 | p :: l, i, st => match stepM leafP p i st with
  | none => none
  | some st' => runM leafP l (i + 1) st'
theorem runM_append (leafP : PN → Prop) : ∀ (l r : List PN) (i : Nat) (st : List (Tr × Int)), runM leafP (l ++ r) i st = match runM leafP l i st with
  | none => none
  | some st' => runM leafP r (i + l.length) st'
 | [], r, i, st => by simp [runM]
 | p :: l, r, i, st => by
  rw [List.cons_append, runM, runM]
  cases h : stepM leafP p i st with
  | none => rfl
  | some st' => simp only; rw [runM_append leafP l r (i + 1) st', a3_, show i + 1 + l.length = i + (l.length + 1) by omega]
theorem runM_one (leafP : PN → Prop) (p : PN) (i : Nat) (st : List (Tr × Int)) : runM leafP [p] i st = stepM leafP p i st := by
 rw [runM]; cases stepM leafP p i st <;> rfl
theorem step_sound {ns : List PN} {leafP : PN → Prop} {p : PN} {i a : Nat} {st st' : List (Tr × Int)} (hp : ns[i]? = some p) (h : IsTs ns a i (st.map (·.2)) (st.map (·.1))) (hd : ∀ x ∈ st, dep x.1 ≤ 64) (hs : stepM leafP p i st = some st') :
  IsTs ns a (i + 1) (st'.map (·.2)) (st'.map (·.1)) ∧ (∀ x ∈ st', dep x.1 ≤ 64) ∧ nodeOK leafP p := by
 unfold stepM at hs
 split at hs
 ·cases hs
 rename_i g1
 have hk : (p.ks.length : Int) = kidsF p.o := by omega
 split at hs
 ·rename_i g2
  split at hs
  ·rename_i g3
   cases hs
   have hks : p.ks = [] := List.eq_nil_of_length_eq_zero (by omega)
   refine ⟨?_, fun x hx => ?_, ⟨fun _ => g3, fun q => by omega⟩⟩
   ·simp only [List.map_append, b2_, b3_]
    refine h.append ?_
    have : IsTs ns i (i + 1) [(i : Int)] [mkT p i []] := .cons hp hk (by rw [hks]; exact .nil i) (.nil _)
    rwa [mkT, if_pos g2] at this
   ·rcases List.mem_append.1 hx with hx | hx
    ·exact hd x hx
    ·simp at hx; subst hx; simp only; rw [dep_leaf]; omega
  ·cases hs
 split at hs
 ·cases hs
 split at hs
 ·cases hs
 split at hs
 ·cases hs
 rename_i g2 g3 g4 g5
 cases hs
 have g4 : p.ks = (st.drop (st.length - p.ks.length)).map (·.2) := Classical.byContradiction g4
 refine ⟨?_, fun x hx => ?_, ⟨fun q => absurd q g2, fun _ => Classical.byContradiction g3⟩⟩
 ·simp only [List.map_append, b2_, b3_]
  have e : st = st.take (st.length - p.ks.length) ++ st.drop (st.length - p.ks.length) := (List.take_append_drop _ _).symm
  have h2 := h
  rw [e, List.map_append, List.map_append] at h2
  obtain ⟨c, ts1, ts2, et, k1, k2⟩ := h2.split
  have hlen := k1.len
  obtain ⟨e1, e2⟩ := List.append_inj et (by rw [hlen]; simp)
  rw [← e1] at k1
  rw [← e2] at k2
  refine k1.append ?_
  have : IsTs ns c (i + 1) [(i : Int)] [mkT p i ((st.drop (st.length - p.ks.length)).map (·.1))] := .cons hp hk (by rw [← g4] at k2; exact k2) (.nil _)
  rwa [mkT, if_neg g2] at this
 ·rcases List.mem_append.1 hx with hx | hx
  ·exact hd x (List.mem_of_mem_take hx)
  ·rw [List.mem_singleton] at hx; subst hx; simp only; omega
def seg (ns : List PN) (a b : Nat) : List PN := (ns.take b).drop a
theorem seg_nil (ns : List PN) (a : Nat) : seg ns a a = [] := List.drop_eq_nil_of_le (by simp; omega)
theorem seg_cat {ns : List PN} {a b c : Nat} (h1 : a ≤ b) (h2 : b ≤ c) : seg ns a c = seg ns a b ++ seg ns b c := by
 unfold seg
 apply List.ext_getElem?
 intro i
 rcases Nat.lt_or_ge i ((ns.take b).drop a).length with hi | hi
 ·rw [List.getElem?_append_left hi]
  simp only [List.length_drop, List.length_take] at hi
  rw [List.getElem?_drop, List.getElem?_drop, List.getElem?_take, List.getElem?_take, if_pos (by omega), if_pos (by omega)]
 ·rw [List.getElem?_append_right hi]
  simp only [List.length_drop, List.length_take] at hi ⊢
  rw [List.getElem?_drop, List.getElem?_drop]
  rcases Nat.lt_or_ge b ns.length with q | q
  ·congr 1; omega
  ·rw [List.getElem?_eq_none (by simp; omega), List.getElem?_eq_none (by simp; omega)]
theorem seg_one {ns : List PN} {k : Nat} {p : PN} (h : ns[k]? = some p) : seg ns k (k + 1) = [p] := by
 unfold seg
 rw [g4_, h]
 have := (List.getElem?_eq_some_iff.1 h).1
 rw [List.drop_append_of_le_length (by simp; omega), List.drop_eq_nil_of_le (by simp; omega)]
 rfl
theorem seg_len {ns : List PN} {a b : Nat} (hb : b ≤ ns.length) : (seg ns a b).length = b - a := by unfold seg; simp; omega
theorem run_sound {ns : List PN} {leafP : PN → Prop} {a : Nat} : ∀ (m : Nat) {i : Nat} {st st' : List (Tr × Int)}, i + m ≤ ns.length → IsTs ns a i (st.map (·.2)) (st.map (·.1)) → (∀ x ∈ st, dep x.1 ≤ 64) → runM leafP (seg ns i (i + m)) i st = some st' →
  IsTs ns a (i + m) (st'.map (·.2)) (st'.map (·.1)) ∧ (∀ x ∈ st', dep x.1 ≤ 64) ∧ ∀ j p, i ≤ j → j < i + m → ns[j]? = some p → nodeOK leafP p
 | 0, i, st, st', _, h, hd, hr => by
  rw [Nat.add_zero, seg_nil, runM] at hr
  cases hr
  exact ⟨h, hd, fun j p h1 h2 => by omega⟩
 | m + 1, i, st, st', hb, h, hd, hr => by
  obtain ⟨p, hp⟩ : ∃ p, ns[i]? = some p := ⟨_, g2_ (by omega)⟩
  rw [seg_cat (show i ≤ i + 1 by omega) (show i + 1 ≤ i + (m + 1) by omega), seg_one hp, runM_append, runM_one] at hr
  cases hs : stepM leafP p i st with
  | none => rw [hs] at hr; cases hr
  | some st2 =>
   rw [hs] at hr
   simp only [a3_, a4_] at hr
   obtain ⟨k1, k2, k3⟩ := step_sound hp h hd hs
   rw [show i + (m + 1) = i + 1 + m by omega] at hr ⊢
   obtain ⟨j1, j2, j3⟩ := run_sound m (by omega) k1 k2 hr
   refine ⟨j1, j2, fun j q h1 h2 hq => ?_⟩
   rcases Nat.eq_or_lt_of_le h1 with e | e
   ·subst e; rw [hp] at hq; cases hq; exact k3
   ·exact j3 j q (by omega) (by omega) hq
theorem mkT_dep {p : PN} {i : Int} {kids : List Tr} (h0 : 1 ≤ kidsF p.o) : dep (mkT p i kids) = deps kids + 1 := by
 unfold mkT; rw [if_neg (by omega), dep]
theorem kidsF_ge (o : Int) : -1 ≤ kidsF o := by unfold kidsF; (repeat' split) <;> omega
theorem run_complete {ns : List PN} {leafP : PN → Prop} {a b : Nat} {ks : List Int} {ts : List Tr} (h : IsTs ns a b ks ts) : b ≤ ns.length → (∀ j p, a ≤ j → j < b → ns[j]? = some p → nodeOK leafP p) → (∀ t ∈ ts, dep t ≤ 64) → ∀ st, runM leafP (seg ns a b) a st = some (st ++ ts.zip ks) := by
 induction h with
 | nil a => intro _ _ _ st; rw [seg_nil, runM]; simp
 | @cons a b k p ks kids ts hp hk h1 h2 i1 i2 =>
  intro hb hok hd st
  have e1 := h1.le
  have e2 := h2.le
  have hkn := hok k p e1 (by omega) hp
  have hdk := hd _ (List.mem_cons_self ..)
  have hl1 := h1.len
  rw [seg_cat (b := k) (by omega) (by omega), seg_cat (a := k) (b := k + 1) (by omega) (by omega), seg_one hp, runM_append]
  have hks : ∀ t ∈ kids, dep t ≤ 64 := fun t ht => by
   rcases Int.lt_or_le (kidsF p.o) 1 with q | q
   ·have : kids = [] := List.eq_nil_of_length_eq_zero (by omega)
    rw [this] at ht; cases ht
   ·rw [mkT_dep q] at hdk
    have := deps_mem ht; omega
  rw [i1 (by omega) (fun j p h1 h2 => hok j p h1 (by omega)) hks st]
  simp only
  rw [seg_len (by omega), show a + (k - a) = k by omega, runM_append, runM_one]
  have hz : (kids.zip p.ks).length = p.ks.length := by simp [hl1]
  have hzs : (kids.zip p.ks).map (·.2) = p.ks := by rw [List.map_snd_zip (by omega)]
  have hzf : (kids.zip p.ks).map (·.1) = kids := by rw [List.map_fst_zip (by omega)]
  have hstep : stepM leafP p k (st ++ kids.zip p.ks) = some (st ++ [(mkT p k kids, (k : Int))]) := by
   have hlen : (st ++ kids.zip p.ks).length - p.ks.length = st.length := by rw [List.length_append, hz]; omega
   unfold stepM
   rw [if_neg (by rw [List.length_append, hz]; omega), hlen, List.drop_left, List.take_left, hzs, hzf]
   split
   ·rename_i q
    rw [if_pos (hkn.1 q)]
    have : kids.zip p.ks = [] := List.eq_nil_of_length_eq_zero (by omega)
    rw [this, a7_, mkT, if_pos q]
   ·rename_i q
    have q1 : 1 ≤ kidsF p.o := by omega
    rw [if_neg (fun z => z (hkn.2 q1)), if_neg (fun z => z rfl)]
    rw [mkT, if_neg q] at hdk
    rw [if_neg (by omega), mkT, if_neg q]
  rw [hstep]
  simp only [a3_, a4_]
  rw [i2 hb (fun j p h1 h2 => hok j p (by omega) h2) (fun t ht => hd t (by simp [ht]))]
  simp
open Classical in
noncomputable def treeM (ns : List PN) (leafP : PN → Prop) (i : Nat) (top : Int) : Option Tr :=
 if top < i ∨ (ns.length : Int) ≤ top then none
 else match runM leafP (seg ns i (top.toNat + 1)) i [] with
  | some [(t, _)] => some t
  | _ => none
theorem treeM_iff {ns : List PN} {leafP : PN → Prop} {i : Nat} {top : Int} {t : Tr} : treeM ns leafP i top = some t ↔
  ∃ k : Nat, top = k ∧ i ≤ k ∧ k < ns.length ∧ IsTs ns i (k + 1) [top] [t] ∧ dep t ≤ 64 ∧ ∀ j p, i ≤ j → j < k + 1 → ns[j]? = some p → nodeOK leafP p := by
 unfold treeM
 constructor
 ·intro h
  split at h
  ·cases h
  rename_i g
  obtain ⟨k, rfl⟩ : ∃ k : Nat, top = k := ⟨top.toNat, by omega⟩
  split at h
  ·rename_i t' z hr
   cases h
   obtain ⟨m, hm⟩ : ∃ m, k + 1 = i + m := ⟨k + 1 - i, by omega⟩
   rw [show (k : Int).toNat + 1 = i + m by omega] at hr
   obtain ⟨j1, j2, j3⟩ := run_sound (a := i) m (by omega) (.nil i) (by simp) hr
   rw [← hm] at j1 j3
   obtain ⟨kn, p, kids, e1, e2, _⟩ := j1.one
   simp only at e1
   refine ⟨k, rfl, by omega, by omega, ?_, j2 (t, z) (by simp), j3⟩
   have : z = (k : Int) := by omega
   rw [← this]; exact j1
  ·cases h
 ·rintro ⟨k, rfl, h1, h2, h3, h4, h5⟩
  rw [if_neg (by omega)]
  have := run_complete h3 (by omega) h5 (by simpa using h4) []
  rw [show (k : Int).toNat + 1 = k + 1 by omega, this]
  rfl
def kidsW (g : Int → List Int → List Int) (top : Int) : List Int → List Int → List Int
 | [], out => out ++ [top]
 | k :: ks, out => if top ≤ k then out ++ [-1] else kidsW g top ks (g k out)
def walkF (ns : List PN) : Nat → Int → List Int → List Int
 | 0, _, out => out ++ [-1]
 | f + 1, top, out => if top < 0 ∨ (ns.length : Int) ≤ top ∨ ns.length < out.length then out ++ [-1] else kidsW (walkF ns f) top ((ns[top.toNat]?).map (·.ks) |>.getD []) out
def foldW (ns : List PN) (f : Nat) : List Int → List Int → List Int
 | [], out => out
 | k :: ks, out => foldW ns f ks (walkF ns f k out)
def rg (n : Nat) : List Int := (List.range n).map fun (i : Nat) => (i : Int)
theorem rg_len (n : Nat) : (rg n).length = n := by simp [rg]
theorem rg_succ (n : Nat) : rg (n + 1) = rg n ++ [(n : Int)] := by simp [rg, List.range_succ]
theorem rg_get {n i : Nat} {z : Int} (h : (rg n)[i]? = some z) : z = i ∧ i < n := by
 simp only [rg, List.getElem?_map, Option.map_eq_some_iff] at h
 obtain ⟨j, hj, rfl⟩ := h
 obtain ⟨h1, h2⟩ := List.getElem?_eq_some_iff.1 hj
 simp at h1 h2
 omega
theorem kidsW_all {g : Int → List Int → List Int} {top : Int} : ∀ (ks out : List Int), (∀ k ∈ ks, k < top) → kidsW g top ks out = ks.foldl (fun o k => g k o) out ++ [top]
 | [], out, _ => rfl
 | k :: ks, out, h => by
  rw [kidsW, if_neg (by have := h k (by simp); omega), kidsW_all ks _ fun k hk => h k (by simp [hk])]
  rfl
theorem foldW_eq (ns : List PN) (f : Nat) : ∀ (ks out : List Int), foldW ns f ks out = ks.foldl (fun o k => walkF ns f k o) out
 | [], out => rfl
 | k :: ks, out => by rw [foldW, foldW_eq ns f ks]; rfl
theorem walk_of {ns : List PN} {a b : Nat} {ks : List Int} {ts : List Tr} (h : IsTs ns a b ks ts) : b ≤ ns.length → ∀ f : Nat, (∀ k ∈ ks, k < (f : Int)) → foldW ns f ks (rg a) = rg b := by
 induction h with
 | nil a => intro _ f _; rfl
 | @cons a b k p ks kids ts hp hk h1 h2 i1 i2 =>
  intro hb f hf
  have e1 := h1.le
  have e2 := h2.le
  have hkf : (k : Int) < f := hf k (by simp)
  cases f with
  | zero => omega
  | succ f =>
   rw [foldW, walkF, if_neg (by rw [rg_len]; omega), show ((k : Int)).toNat = k by omega, hp]
   simp only [Option.map_some, Option.getD_some]
   rw [kidsW_all _ _ (fun q hq => by have := (h1.roots q hq).2; omega), ← foldW_eq, i1 (by omega) f (fun q hq => by have := (h1.roots q hq).2; omega), ← rg_succ]
   exact i2 hb (f + 1) fun q hq => hf q (by simp [hq])
theorem pre_app {a b c : List Int} (h : a ++ b <+: c) : a <+: c := (List.prefix_append a b).trans h
theorem pre_rg {l : List Int} {z : Int} {M : Nat} (h : l ++ [z] <+: rg M) : z = l.length := by
 obtain ⟨r, hr⟩ := h
 have : (rg M)[l.length]? = some z := by rw [← hr]; simp
 exact (rg_get this).1
theorem walk_pre (ns : List PN) : ∀ (f : Nat) (top : Int) (out : List Int), out <+: walkF ns f top out := by
 intro f
 induction f with
 | zero => intro top out; exact List.prefix_append _ _
 | succ f ih =>
  intro top out
  rw [walkF]
  split
  ·exact List.prefix_append _ _
  ·have : ∀ (ks out : List Int), out <+: kidsW (walkF ns f) top ks out := by
    intro ks
    induction ks with
    | nil => intro out; exact List.prefix_append _ _
    | cons k ks ih2 =>
     intro out
     rw [kidsW]
     split
     ·exact List.prefix_append _ _
     ·exact (ih k out).trans (ih2 _)
   exact this _ _
theorem foldW_pre (ns : List PN) (f : Nat) : ∀ (ks out : List Int), out <+: foldW ns f ks out
 | [], out => List.prefix_refl _
 | k :: ks, out => (walk_pre ns f k out).trans (foldW_pre ns f ks _)
theorem kidsW_ok {g : Int → List Int → List Int} (hg : ∀ k o, o <+: g k o) {top : Int} {M : Nat} : ∀ (ks out : List Int), kidsW g top ks out <+: rg M → ∀ k ∈ ks, k < top
 | [], out, _ => by simp
 | k :: ks, out, h => by
  rw [kidsW] at h
  split at h
  ·have := pre_rg h; omega
  ·intro q hq
   rcases List.mem_cons.1 hq with rfl | hq
   ·omega
   ·exact kidsW_ok hg ks _ h q hq
theorem walk_conv {ns : List PN} (hk : ∀ p ∈ ns, (p.ks.length : Int) = kidsF p.o) {M : Nat} : ∀ (f : Nat) (ks : List Int) (a : Nat), foldW ns f ks (rg a) <+: rg M → ∃ b ts, foldW ns f ks (rg a) = rg b ∧ IsTs ns a b ks ts := by
 intro f
 induction f with
 | zero =>
  intro ks a h
  cases ks with
  | nil => exact ⟨a, [], rfl, .nil a⟩
  | cons k ks =>
   rw [foldW, walkF] at h
   have := pre_rg ((foldW_pre ns 0 ks _).trans h)
   omega
 | succ f ih =>
  intro ks
  induction ks with
  | nil => intro a h; exact ⟨a, [], rfl, .nil a⟩
  | cons k ks ih2 =>
   intro a h
   rw [foldW] at h ⊢
   have h1 := (foldW_pre ns (f + 1) ks _).trans h
   rw [walkF] at h1
   split at h1
   ·have := pre_rg h1; omega
   rename_i g
   obtain ⟨kn, rfl⟩ : ∃ kn : Nat, k = kn := ⟨k.toNat, by omega⟩
   obtain ⟨p, hp⟩ : ∃ p, ns[kn]? = some p := ⟨_, g2_ (by omega)⟩
   rw [show ((kn : Int)).toNat = kn by omega, hp] at h1
   simp only [Option.map_some, Option.getD_some] at h1
   have hlt := kidsW_ok (walk_pre ns f) _ _ h1
   rw [kidsW_all _ _ hlt, ← foldW_eq] at h1
   obtain ⟨c, kids, e1, e2⟩ := ih p.ks a (pre_app h1)
   rw [e1] at h1
   have ec : kn = c := by have := pre_rg h1; rw [rg_len] at this; omega
   subst ec
   have hw : walkF ns (f + 1) (kn : Int) (rg a) = rg (kn + 1) := by
    rw [walkF, if_neg g, show ((kn : Int)).toNat = kn by omega, hp]
    simp only [Option.map_some, Option.getD_some]
    rw [kidsW_all _ _ hlt, ← foldW_eq, e1, rg_succ]
   rw [hw] at h ⊢
   obtain ⟨b, ts, e3, e4⟩ := ih2 (kn + 1) h
   exact ⟨b, mkT p kn kids :: ts, e3, .cons hp (hk p (m1_ hp)) e2 e4⟩
theorem walk_len {ns : List PN} (hk : ∀ p ∈ ns, p.ks.length ≤ 3) : ∀ (f : Nat) (top : Int) (out : List Int), (walkF ns f top out).length ≤ max (out.length + 1) (ns.length + 1 + 4 * f) := by
 intro f
 induction f with
 | zero => intro top out; simp [walkF]; omega
 | succ f ih =>
  intro top out
  rw [walkF]
  split
  ·simp; omega
  rename_i g
  have step : ∀ (ks out : List Int) (X : Nat), ns.length + 1 + 4 * f ≤ X + 1 → out.length ≤ X → (kidsW (walkF ns f) top ks out).length ≤ X + ks.length + 1 := by
   intro ks
   induction ks with
   | nil => intro out X _ h; simp [kidsW]; omega
   | cons k ks ih2 =>
    intro out X h1 h2
    rw [kidsW]
    split
    ·simp; omega
    ·have := ih2 (walkF ns f k out) (X + 1) (by omega) (by have := ih k out; omega)
     simp only [a3_]; omega
  have hks : ((ns[top.toNat]?).map (·.ks) |>.getD []).length ≤ 3 := by
   cases hq : ns[top.toNat]? with
   | none => simp
   | some p => simpa using hk p (m1_ hq)
  have := step ((ns[top.toNat]?).map (·.ks) |>.getD []) out (ns.length + 4 * f) (by omega) (by omega)
  omega
open Go.Eng
set_option linter.unusedVariables false
set_option linter.unusedSimpArgs false
theorem l2kids_q (op : Int) (w : World) : QF Tryz.prog 234 [.int .i64 op] w (.int .i64 (kidsF op)) := by
 refine QF.intro (cs := []) Tryz.func234 (by kernel_rfl) fun w0 hx0 w1 hs E R hE hr hR => ?_
 have fin : ∀ z : Int, z = kidsF op → R (.int .i64 z) w1 := fun z hz => by rw [hR, hz]; exact ⟨rfl, hs⟩
 conv => cbv
 refine br (fun g0 => ?_) (fun g0 => ?_)
 ·have g0 : 1 ≤ op := by simpa [hE.cmp, cmpR] using g0
  conv => cbv
  refine br (fun k0 => ?_) (fun k0 => ?_)
  ·have k0 : op ≤ 7 := by simpa [hE.cmp, cmpR] using k0
   conv => cbv
   exact fin _ (by unfold kidsF; (repeat' split) <;> omega)
  ·have k0 : ¬ op ≤ 7 := by simpa [hE.cmp, cmpR] using k0
   conv => cbv
   refine br (fun g1 => ?_) (fun g1 => ?_)
   ·have g1 : 8 ≤ op := by simpa [hE.cmp, cmpR] using g1
    conv => cbv
    refine br (fun k1 => ?_) (fun k1 => ?_)
    ·have k1 : op ≤ 10 := by simpa [hE.cmp, cmpR] using k1
     conv => cbv
     exact fin _ (by unfold kidsF; (repeat' split) <;> omega)
    ·have k1 : ¬ op ≤ 10 := by simpa [hE.cmp, cmpR] using k1
     conv => cbv
     refine br (fun g2 => ?_) (fun g2 => ?_)
     ·have g2 : 11 ≤ op := by simpa [hE.cmp, cmpR] using g2
      conv => cbv
      refine br (fun k2 => ?_) (fun k2 => ?_)
      ·have k2 : op ≤ 26 := by simpa [hE.cmp, cmpR] using k2
       conv => cbv
       exact fin _ (by unfold kidsF; (repeat' split) <;> omega)
      ·have k2 : ¬ op ≤ 26 := by simpa [hE.cmp, cmpR] using k2
       conv => cbv
       refine br (fun g27 => ?_) (fun g27 => ?_)
       ·have g27 : op = 27 := by simpa [hE.cmp, cmpR] using g27
        conv => cbv
        exact fin _ (by unfold kidsF; (repeat' split) <;> omega)
       ·have g27 : op ≠ 27 := by simpa [hE.cmp, cmpR] using g27
        conv => cbv
        exact fin _ (by unfold kidsF; (repeat' split) <;> omega)
     ·have g2 : ¬ 11 ≤ op := by simpa [hE.cmp, cmpR] using g2
      conv => cbv
      refine br (fun g27 => ?_) (fun g27 => ?_)
      ·have g27 : op = 27 := by simpa [hE.cmp, cmpR] using g27
       conv => cbv
       exact fin _ (by unfold kidsF; (repeat' split) <;> omega)
      ·have g27 : op ≠ 27 := by simpa [hE.cmp, cmpR] using g27
       conv => cbv
       exact fin _ (by unfold kidsF; (repeat' split) <;> omega)
   ·have g1 : ¬ 8 ≤ op := by simpa [hE.cmp, cmpR] using g1
    conv => cbv
    refine br (fun g2 => ?_) (fun g2 => ?_)
    ·have g2 : 11 ≤ op := by simpa [hE.cmp, cmpR] using g2
     conv => cbv
     refine br (fun k2 => ?_) (fun k2 => ?_)
     ·have k2 : op ≤ 26 := by simpa [hE.cmp, cmpR] using k2
      conv => cbv
      exact fin _ (by unfold kidsF; (repeat' split) <;> omega)
     ·have k2 : ¬ op ≤ 26 := by simpa [hE.cmp, cmpR] using k2
      conv => cbv
      refine br (fun g27 => ?_) (fun g27 => ?_)
      ·have g27 : op = 27 := by simpa [hE.cmp, cmpR] using g27
       conv => cbv
       exact fin _ (by unfold kidsF; (repeat' split) <;> omega)
      ·have g27 : op ≠ 27 := by simpa [hE.cmp, cmpR] using g27
       conv => cbv
       exact fin _ (by unfold kidsF; (repeat' split) <;> omega)
    ·have g2 : ¬ 11 ≤ op := by simpa [hE.cmp, cmpR] using g2
     conv => cbv
     refine br (fun g27 => ?_) (fun g27 => ?_)
     ·have g27 : op = 27 := by simpa [hE.cmp, cmpR] using g27
      conv => cbv
      exact fin _ (by unfold kidsF; (repeat' split) <;> omega)
     ·have g27 : op ≠ 27 := by simpa [hE.cmp, cmpR] using g27
      conv => cbv
      exact fin _ (by unfold kidsF; (repeat' split) <;> omega)
 ·have g0 : ¬ 1 ≤ op := by simpa [hE.cmp, cmpR] using g0
  conv => cbv
  refine br (fun g1 => ?_) (fun g1 => ?_)
  ·have g1 : 8 ≤ op := by simpa [hE.cmp, cmpR] using g1
   conv => cbv
   refine br (fun k1 => ?_) (fun k1 => ?_)
   ·have k1 : op ≤ 10 := by simpa [hE.cmp, cmpR] using k1
    conv => cbv
    exact fin _ (by unfold kidsF; (repeat' split) <;> omega)
   ·have k1 : ¬ op ≤ 10 := by simpa [hE.cmp, cmpR] using k1
    conv => cbv
    refine br (fun g2 => ?_) (fun g2 => ?_)
    ·have g2 : 11 ≤ op := by simpa [hE.cmp, cmpR] using g2
     conv => cbv
     refine br (fun k2 => ?_) (fun k2 => ?_)
     ·have k2 : op ≤ 26 := by simpa [hE.cmp, cmpR] using k2
      conv => cbv
      exact fin _ (by unfold kidsF; (repeat' split) <;> omega)
     ·have k2 : ¬ op ≤ 26 := by simpa [hE.cmp, cmpR] using k2
      conv => cbv
      refine br (fun g27 => ?_) (fun g27 => ?_)
      ·have g27 : op = 27 := by simpa [hE.cmp, cmpR] using g27
       conv => cbv
       exact fin _ (by unfold kidsF; (repeat' split) <;> omega)
      ·have g27 : op ≠ 27 := by simpa [hE.cmp, cmpR] using g27
       conv => cbv
       exact fin _ (by unfold kidsF; (repeat' split) <;> omega)
    ·have g2 : ¬ 11 ≤ op := by simpa [hE.cmp, cmpR] using g2
     conv => cbv
     refine br (fun g27 => ?_) (fun g27 => ?_)
     ·have g27 : op = 27 := by simpa [hE.cmp, cmpR] using g27
      conv => cbv
      exact fin _ (by unfold kidsF; (repeat' split) <;> omega)
     ·have g27 : op ≠ 27 := by simpa [hE.cmp, cmpR] using g27
      conv => cbv
      exact fin _ (by unfold kidsF; (repeat' split) <;> omega)
  ·have g1 : ¬ 8 ≤ op := by simpa [hE.cmp, cmpR] using g1
   conv => cbv
   refine br (fun g2 => ?_) (fun g2 => ?_)
   ·have g2 : 11 ≤ op := by simpa [hE.cmp, cmpR] using g2
    conv => cbv
    refine br (fun k2 => ?_) (fun k2 => ?_)
    ·have k2 : op ≤ 26 := by simpa [hE.cmp, cmpR] using k2
     conv => cbv
     exact fin _ (by unfold kidsF; (repeat' split) <;> omega)
    ·have k2 : ¬ op ≤ 26 := by simpa [hE.cmp, cmpR] using k2
     conv => cbv
     refine br (fun g27 => ?_) (fun g27 => ?_)
     ·have g27 : op = 27 := by simpa [hE.cmp, cmpR] using g27
      conv => cbv
      exact fin _ (by unfold kidsF; (repeat' split) <;> omega)
     ·have g27 : op ≠ 27 := by simpa [hE.cmp, cmpR] using g27
      conv => cbv
      exact fin _ (by unfold kidsF; (repeat' split) <;> omega)
   ·have g2 : ¬ 11 ≤ op := by simpa [hE.cmp, cmpR] using g2
    conv => cbv
    refine br (fun g27 => ?_) (fun g27 => ?_)
    ·have g27 : op = 27 := by simpa [hE.cmp, cmpR] using g27
     conv => cbv
     exact fin _ (by unfold kidsF; (repeat' split) <;> omega)
    ·have g27 : op ≠ 27 := by simpa [hE.cmp, cmpR] using g27
     conv => cbv
     exact fin _ (by unfold kidsF; (repeat' split) <;> omega)
def fieldsP (ty : Bool) (p : PN) : Prop := (p.ks.length : Int) = kidsF p.o ∧
 (if p.o = 1 then (0 ≤ p.z ∨ ty = true) ∧ p.tx = ⟨#[]⟩ ∧ p.xs = []
  else if p.o = 3 then (p.z = 0 ∨ p.z = 1) ∧ p.tx = ⟨#[]⟩ ∧ p.xs = []
  else if p.o = 2 then p.z = 0 ∧ nameBytes p.tx ∧ p.xs = []
  else if p.o = 5 then ty = false ∧ ident p.tx ∧ p.z = 0 ∧ p.xs = []
  else if p.o = 4 then p.z = 0 ∧ p.tx = ⟨#[]⟩ ∧ isSet p.xs
  else if p.o = 6 then ty = true ∧ 0 ≤ p.z ∧ p.z ≤ 5 ∧ p.tx = ⟨#[]⟩ ∧ p.xs = []
  else if p.o = 7 then ty = true ∧ 0 ≤ p.z ∧ p.z < 600 ∧ p.tx = ⟨#[]⟩ ∧ p.xs = []
  else p.z = 0 ∧ p.tx = ⟨#[]⟩ ∧ p.xs = [])
theorem kidsF_le (o : Int) : kidsF o ≤ 3 := by unfold kidsF; (repeat' split) <;> omega
theorem run_bNd (o : Int) (w : World) : (Instr.build 90 #[(0, .int .i64 o)]).run Tryz.prog w = .ok (.agg #[.int .i64 o, .int .i64 0, .string ⟨#[]⟩, .slice none 0 0, .slice none 0 0]) w := by kernel_rfl
theorem st_bNd {E : Sym} {w : World} {K : Value → World → Prop} {d : Option Tmp} {ty : TypeId} {pos : String} {aft : Array Edge} {g : Option (Nat × Bool)} {bq : Bool} (hE : EngB bq Tryz.prog E) {o : Int} {x : Operand} (hk : K (.agg ⟨[.int .i64 o, .int .i64 0, .string ⟨#[]⟩, .slice none 0 0, .slice none 0 0]⟩) w) : E.stop ⟨d, .build 90 ⟨[(0, x)]⟩, ty, pos, aft, g⟩ [.int .i64 o] w K := by
 refine hE.det (v := .agg ⟨[.int .i64 o, .int .i64 0, .string ⟨#[]⟩, .slice none 0 0, .slice none 0 0]⟩) (fun w1 _ ρ hρ => ?_) hk
 simp only [opnds, b2_, b3_, b1_, and_true] at hρ
 have := run_bNd o w1
 simp [execOp, hρ, this]
theorem l2fields_f {w : World} (v : VN) (h : OKN w v) (ty : Bool) :
  FC Tryz.prog 149 [.agg ⟨cN v⟩, .bool ty] w fun u _ => ∃ b : Bool, u = .bool b ∧ (b = true ↔ fieldsP ty v.p) := by
 refine FC.intro (cs := [31]) Tryz.func149 (by kernel_rfl) fun E R hE hr hR => ?_
 obtain ⟨⟨o, z, tx, xs, ks⟩, A0, m0, c0, A1, m1, c1⟩ := v
 have s_tx := h.s_tx
 have r_xs := h.r_xs
 have r_ks := h.r_ks
 clear h
 simp only at s_tx r_xs r_ks hR
 have hkl := r_ks.len
 have hxl := r_xs.len
 obtain ⟨FP, hFP0⟩ : ∃ FP, FP = fieldsP ty ⟨o, z, tx, xs, ks⟩ := ⟨_, rfl⟩
 rw [← hFP0] at hR
 have hFP := hFP0
 unfold fieldsP at hFP
 simp only at hFP
 have no : ¬ FP → ∀ w', Ext w w' → R (.bool false) w' := fun h w' hx => by rw [hR]; exact ⟨hx, false, rfl, by simp [h]⟩
 conv => cbv
 refine st_box hr fun a w1 hx hb0 => ?_
 have hb := hb0 _ (n1_ _)
 clear hb0
 conv => cbv
 refine draw_q hr fol (by kernel_rfl) fun E' hE' => ?_
 conv => cbv
 (refine st_fld hE' fINd4 fun p hp => ?_; (conv => cbv); refine st_load hE' cInts (by rw [hp]; exact (hb).at _ _ rfl) ?_; (conv => cbv))
 refine st_len hE' tInts fun x1 hx1 => ?_
 conv => cbv
 (refine st_fld hE' fINd0 fun p hp => ?_; (conv => cbv); refine st_load hE' cInt (by rw [hp]; exact (hb).at _ _ rfl) ?_; (conv => cbv))
 refine st_q hE' (l2kids_q o _) fun w2 hs2 => ?_
 obtain ⟨kf, hkf⟩ : ∃ kf, kf = kidsF o := ⟨_, rfl⟩
 rw [← hkf]
 obtain ⟨q4, hq4⟩ : ∃ q4, q4 = E'.cmp .neq x1 kf := ⟨_, rfl⟩
 have hq5 : q4 = true ↔ x1 ≠ kf := by rw [hq4, hE'.cmp]; simp [cmpR]
 conv => cbv
 simp only [← hq4]
 intro w3 hs3
 replace hb := hb.bel hs3.ext
 replace hx := hx.trans hs3.ext
 clear hs3 hs2 hq4
 conv => cbv
 refine br (fun g => ?_) (fun g => ?_)
 ·have g := hq5.1 g
  conv => cbv
  exact no (by rw [hFP]; exact fun q => g (by have := q.1; omega)) _ hx
 have g : x1 = kf := Classical.byContradiction fun q => g (hq5.2 q)
 have hks : (ks.length : Int) = kidsF o := by omega
 replace hFP : FP = _ := hFP.trans (propext (and_iff_right hks))
 clear g hq5
 conv => cbv
 (refine st_fld hE fINd0 fun p hp => ?_; (conv => cbv); refine st_load hE cInt (by rw [hp]; exact (hb).at _ _ rfl) ?_; (conv => cbv))
 refine st_bNd hE ?_
 conv => cbv
 refine st_alloc hr tINd rfl fun q w4 hx4 hq0 => ?_
 have hq1 := hq0 _ hx.size
 have aq := (hb.apart (hq0 _ (n1_ _)) (n1_ _)).1
 conv => cbv
 refine st_putS hr (by kernel_rfl) hq1 (add_zero _).symm (by simp) (by simp [Value.oneCell']) fun w5 hw5 hq => ?_
 simp only [a1_, a2_, a3_, a4_, a5_, a6_, a7_] at hq
 replace hb := (hb.bel hx4).wr hw5 aq
 replace hx := hx.trans (hx4.then (hw5.bel (hq0 _ (n1_ _)) hx4.size))
 clear hq0 hq1 hw5 hx4
 conv => cbv
 refine cut_rule [] [] hr (fun (s : Int × ByteArray) w' => Ext w w' ∧ Box w.heap.size 90 5 w' a [.int .i64 o, .int .i64 z, .string tx, .slice A0 m0 c0, .slice A1 m1 c1] ∧ Box w.heap.size 90 5 w' q [.int .i64 o, .int .i64 s.1, .string s.2, .slice none 0 0, .slice none 0 0] ∧ ((z = s.1 ∧ tx = s.2 ∧ xs = []) ↔ FP))
  (fun s => [(1, .bool ty), (2, .pointer (some a)), (5, .pointer (some q))]) (fun I hI => ?_) ?_
 ·conv => cbv
  (refine st_fld hE fINd0 fun p hp => ?_; (conv => cbv); refine st_load hE cInt (by rw [hp]; exact (hb).at _ _ rfl) ?_; (conv => cbv))
  refine br (fun g => ?_) (fun g => ?_)
  ·have g : o = 1 := by simpa [hE.cmp, cmpR] using g
   conv => cbv
   (refine st_fld hE fINd1 fun p hp => ?_; (conv => cbv); refine st_load hE cI64 (by rw [hp]; exact (hb).at _ _ rfl) ?_; (conv => cbv))
   refine br (fun g2 => ?_) (fun g2 => ?_)
   ·have g2 : z < 0 := by simpa [hE.cmp, cmpR] using g2
    conv => cbv
    cases ty with
    | false =>
     conv => cbv
     exact no (by rw [hFP]; rw [if_pos g]; simp; omega) _ hx
    | true =>
     conv => cbv
     (refine st_fld hE fINd1 fun p hp => ?_; (conv => cbv); refine st_load hE cI64 (by rw [hp]; exact (hb).at _ _ rfl) ?_; (conv => cbv))
     refine st_fld hE fINd1 fun p hp => ?_
     conv => cbv
     refine st_put hr zI64 hq hp (by simp) rfl fun w6 hw6 hq6 => ?_
     simp only [b4_, b5_] at hq6
     conv => cbv
     exact ⟨(z, ⟨#[]⟩), by simp [Fits, lk], hI _ _ ⟨hx.then (hw6.bel hq hx.size), hb.wr hw6 aq, hq6, by rw [hFP]; simp only; rw [if_pos g]; simp⟩⟩
   ·have g2 : ¬ z < 0 := by simpa [hE.cmp, cmpR] using g2
    conv => cbv
    (refine st_fld hE fINd1 fun p hp => ?_; (conv => cbv); refine st_load hE cI64 (by rw [hp]; exact (hb).at _ _ rfl) ?_; (conv => cbv))
    refine st_fld hE fINd1 fun p hp => ?_
    conv => cbv
    refine st_put hr zI64 hq hp (by simp) rfl fun w6 hw6 hq6 => ?_
    simp only [b4_, b5_] at hq6
    conv => cbv
    exact ⟨(z, ⟨#[]⟩), by simp [Fits, lk], hI _ _ ⟨hx.then (hw6.bel hq hx.size), hb.wr hw6 aq, hq6, by rw [hFP]; simp only; rw [if_pos g]; simp; intro _ _; omega⟩⟩
  have g1 : o ≠ 1 := by simpa [hE.cmp, cmpR] using g
  clear g
  conv => cbv
  refine br (fun g => ?_) (fun g => ?_)
  ·have g : o = 3 := by simpa [hE.cmp, cmpR] using g
   conv => cbv
   (refine st_fld hE fINd1 fun p hp => ?_; (conv => cbv); refine st_load hE cI64 (by rw [hp]; exact (hb).at _ _ rfl) ?_; (conv => cbv))
   refine br (fun g2 => ?_) (fun g2 => ?_)
   ·have g2 : z ≠ 0 := by simpa [hE.cmp, cmpR] using g2
    conv => cbv
    (refine st_fld hE fINd1 fun p hp => ?_; (conv => cbv); refine st_load hE cI64 (by rw [hp]; exact (hb).at _ _ rfl) ?_; (conv => cbv))
    refine br (fun g3 => ?_) (fun g3 => ?_)
    ·have g3 : z ≠ 1 := by simpa [hE.cmp, cmpR] using g3
     conv => cbv
     exact no (by rw [hFP]; rw [if_neg g1, if_pos g]; simp; omega) _ hx
    ·have g3 : z = 1 := by simpa [hE.cmp, cmpR] using g3
     conv => cbv
     (refine st_fld hE fINd1 fun p hp => ?_; (conv => cbv); refine st_load hE cI64 (by rw [hp]; exact (hb).at _ _ rfl) ?_; (conv => cbv))
     refine st_fld hE fINd1 fun p hp => ?_
     conv => cbv
     refine st_put hr zI64 hq hp (by simp) rfl fun w6 hw6 hq6 => ?_
     simp only [b4_, b5_] at hq6
     conv => cbv
     exact ⟨(z, ⟨#[]⟩), by simp [Fits, lk], hI _ _ ⟨hx.then (hw6.bel hq hx.size), hb.wr hw6 aq, hq6, by rw [hFP]; simp only; rw [if_neg g1, if_pos g]; simp [g3]⟩⟩
   ·have g2 : z = 0 := by simpa [hE.cmp, cmpR] using g2
    conv => cbv
    (refine st_fld hE fINd1 fun p hp => ?_; (conv => cbv); refine st_load hE cI64 (by rw [hp]; exact (hb).at _ _ rfl) ?_; (conv => cbv))
    refine st_fld hE fINd1 fun p hp => ?_
    conv => cbv
    refine st_put hr zI64 hq hp (by simp) rfl fun w6 hw6 hq6 => ?_
    simp only [b4_, b5_] at hq6
    conv => cbv
    exact ⟨(z, ⟨#[]⟩), by simp [Fits, lk], hI _ _ ⟨hx.then (hw6.bel hq hx.size), hb.wr hw6 aq, hq6, by rw [hFP]; simp only; rw [if_neg g1, if_pos g]; simp [g2]⟩⟩
  have g3 : o ≠ 3 := by simpa [hE.cmp, cmpR] using g
  clear g
  conv => cbv
  refine br (fun g => ?_) (fun g => ?_)
  ·have g : o = 2 := by simpa [hE.cmp, cmpR] using g
   conv => cbv
   (refine st_fld hE fINd2 fun p hp => ?_; (conv => cbv); refine st_load hE cStr (by rw [hp]; exact (hb).at _ _ rfl) ?_; (conv => cbv))
   refine st_f hr (l2quoted_f (w := _) tx s_tx) fun u w6 hx6 ⟨b, ev, hbq⟩ => ?_
   subst ev
   replace hb := hb.bel hx6
   replace hq := hq.bel hx6
   replace hx := hx.trans hx6
   clear hx6
   cases b with
   | false =>
    have hbq : ¬ nameBytes tx := fun q => absurd (hbq.2 q) (by simp)
    conv => cbv
    exact no (by rw [hFP]; rw [if_neg g1, if_neg g3, if_pos g]; simp [hbq]) _ hx
   | true =>
    have hbq := hbq.1 rfl
    conv => cbv
    (refine st_fld hE fINd2 fun p hp => ?_; (conv => cbv); refine st_load hE cStr (by rw [hp]; exact (hb).at _ _ rfl) ?_; (conv => cbv))
    refine st_fld hE fINd2 fun p hp => ?_
    conv => cbv
    refine st_put hr zStr hq hp (by simp) rfl fun w6 hw6 hq6 => ?_
    simp only [b4_, b5_] at hq6
    conv => cbv
    exact ⟨(0, tx), by simp [Fits, lk], hI _ _ ⟨hx.then (hw6.bel hq hx.size), hb.wr hw6 aq, hq6, by rw [hFP]; simp only; rw [if_neg g1, if_neg g3, if_pos g]; simp [hbq]⟩⟩
  have g2 : o ≠ 2 := by simpa [hE.cmp, cmpR] using g
  clear g
  conv => cbv
  refine br (fun g => ?_) (fun g => ?_)
  ·have g : o = 5 := by simpa [hE.cmp, cmpR] using g
   cases ty with
   | true =>
    conv => cbv
    exact no (by rw [hFP]; rw [if_neg g1, if_neg g3, if_neg g2, if_pos g]; simp) _ hx
   | false =>
    conv => cbv
    (refine st_fld hE fINd2 fun p hp => ?_; (conv => cbv); refine st_load hE cStr (by rw [hp]; exact (hb).at _ _ rfl) ?_; (conv => cbv))
    refine st_f hr (l2ident_f tx s_tx _) fun u w6 hx6 ⟨b, ev, hbq⟩ => ?_
    subst ev
    replace hb := hb.bel hx6
    replace hq := hq.bel hx6
    replace hx := hx.trans hx6
    clear hx6
    cases b with
    | false =>
     have hbq : ¬ ident tx := fun q => absurd (hbq.2 q) (by simp)
     conv => cbv
     exact no (by rw [hFP]; rw [if_neg g1, if_neg g3, if_neg g2, if_pos g]; simp [hbq]) _ hx
    | true =>
     have hbq := hbq.1 rfl
     conv => cbv
     (refine st_fld hE fINd2 fun p hp => ?_; (conv => cbv); refine st_load hE cStr (by rw [hp]; exact (hb).at _ _ rfl) ?_; (conv => cbv))
     refine st_fld hE fINd2 fun p hp => ?_
     conv => cbv
     refine st_put hr zStr hq hp (by simp) rfl fun w6 hw6 hq6 => ?_
     simp only [b4_, b5_] at hq6
     conv => cbv
     exact ⟨(0, tx), by simp [Fits, lk], hI _ _ ⟨hx.then (hw6.bel hq hx.size), hb.wr hw6 aq, hq6, by rw [hFP]; simp only; rw [if_neg g1, if_neg g3, if_neg g2, if_pos g]; simp [hbq]⟩⟩
  have g5 : o ≠ 5 := by simpa [hE.cmp, cmpR] using g
  clear g
  conv => cbv
  refine br (fun g => ?_) (fun g => ?_)
  ·have g : o = 4 := by simpa [hE.cmp, cmpR] using g
   conv => cbv
   (refine st_fld hE fINd1 fun p hp => ?_; (conv => cbv); refine st_load hE cI64 (by rw [hp]; exact (hb).at _ _ rfl) ?_; (conv => cbv))
   refine br (fun k2 => ?_) (fun k2 => ?_)
   ·have k2 : z = 0 := by simpa [hE.cmp, cmpR] using k2
    conv => cbv
    (refine st_fld hE fINd2 fun p hp => ?_; (conv => cbv); refine st_load hE cStr (by rw [hp]; exact (hb).at _ _ rfl) ?_; (conv => cbv))
    refine br (fun k3 => ?_) (fun k3 => ?_)
    ·have k3 : tx = ⟨#[]⟩ := (scq hE _ _).1 k3
     conv => cbv
     (refine st_fld hE fINd3 fun p hp => ?_; (conv => cbv); refine st_load hE cStrs (by rw [hp]; exact (hb).at _ _ rfl) ?_; (conv => cbv))
     refine st_qb hE (sIsSet_q (r_xs.ext hx)) fun b hbs w6 hs6 => ?_
     conv => cbv
     rw [hR]; exact ⟨hx.trans hs6.ext, b, rfl, by rw [hbs, hFP]; rw [if_neg g1, if_neg g3, if_neg g2, if_neg g5, if_pos g]; simp [k2, k3]⟩
    ·have k3 : tx ≠ ⟨#[]⟩ := fun e => k3 ((scq hE _ _).2 e)
     conv => cbv
     exact no (by rw [hFP]; rw [if_neg g1, if_neg g3, if_neg g2, if_neg g5, if_pos g]; simp [k3]) _ hx
   ·have k2 : z ≠ 0 := by simpa [hE.cmp, cmpR] using k2
    conv => cbv
    exact no (by rw [hFP]; rw [if_neg g1, if_neg g3, if_neg g2, if_neg g5, if_pos g]; simp [k2]) _ hx
  have g4 : o ≠ 4 := by simpa [hE.cmp, cmpR] using g
  clear g
  conv => cbv
  refine br (fun g => ?_) (fun g => ?_)
  ·have g : o = 6 := by simpa [hE.cmp, cmpR] using g
   cases ty with
   | false =>
    conv => cbv
    exact no (by rw [hFP]; rw [if_neg g1, if_neg g3, if_neg g2, if_neg g5, if_neg g4, if_pos g]; simp) _ hx
   | true =>
    conv => cbv
    (refine st_fld hE fINd1 fun p hp => ?_; (conv => cbv); refine st_load hE cI64 (by rw [hp]; exact (hb).at _ _ rfl) ?_; (conv => cbv))
    refine br (fun k2 => ?_) (fun k2 => ?_)
    ·have k2 : z < 0 := by simpa [hE.cmp, cmpR] using k2
     conv => cbv
     exact no (by rw [hFP]; rw [if_neg g1, if_neg g3, if_neg g2, if_neg g5, if_neg g4, if_pos g]; simp; omega) _ hx
    have k2 : ¬ z < 0 := by simpa [hE.cmp, cmpR] using k2
    conv => cbv
    (refine st_fld hE fINd1 fun p hp => ?_; (conv => cbv); refine st_load hE cI64 (by rw [hp]; exact (hb).at _ _ rfl) ?_; (conv => cbv))
    refine br (fun k3 => ?_) (fun k3 => ?_)
    ·have k3 : 5 < z := by simpa [hE.cmp, cmpR] using k3
     conv => cbv
     exact no (by rw [hFP]; rw [if_neg g1, if_neg g3, if_neg g2, if_neg g5, if_neg g4, if_pos g]; simp; omega) _ hx
    have k3 : ¬ (5 < z) := by simpa [hE.cmp, cmpR] using k3
    conv => cbv
    (refine st_fld hE fINd1 fun p hp => ?_; (conv => cbv); refine st_load hE cI64 (by rw [hp]; exact (hb).at _ _ rfl) ?_; (conv => cbv))
    refine st_fld hE fINd1 fun p hp => ?_
    conv => cbv
    refine st_put hr zI64 hq hp (by simp) rfl fun w6 hw6 hq6 => ?_
    simp only [b4_, b5_] at hq6
    conv => cbv
    exact ⟨(z, ⟨#[]⟩), by simp [Fits, lk], hI _ _ ⟨hx.then (hw6.bel hq hx.size), hb.wr hw6 aq, hq6, by rw [hFP]; simp only; rw [if_neg g1, if_neg g3, if_neg g2, if_neg g5, if_neg g4, if_pos g]; simp only [true_and]; exact ⟨fun q => ⟨by omega, by omega, q⟩, fun q => q.2.2⟩⟩⟩
  have g6 : o ≠ 6 := by simpa [hE.cmp, cmpR] using g
  clear g
  conv => cbv
  refine br (fun g => ?_) (fun g => ?_)
  ·have g : o = 7 := by simpa [hE.cmp, cmpR] using g
   cases ty with
   | false =>
    conv => cbv
    exact no (by rw [hFP]; rw [if_neg g1, if_neg g3, if_neg g2, if_neg g5, if_neg g4, if_neg g6, if_pos g]; simp) _ hx
   | true =>
    conv => cbv
    (refine st_fld hE fINd1 fun p hp => ?_; (conv => cbv); refine st_load hE cI64 (by rw [hp]; exact (hb).at _ _ rfl) ?_; (conv => cbv))
    refine br (fun k2 => ?_) (fun k2 => ?_)
    ·have k2 : z < 0 := by simpa [hE.cmp, cmpR] using k2
     conv => cbv
     exact no (by rw [hFP]; rw [if_neg g1, if_neg g3, if_neg g2, if_neg g5, if_neg g4, if_neg g6, if_pos g]; simp; omega) _ hx
    have k2 : ¬ z < 0 := by simpa [hE.cmp, cmpR] using k2
    conv => cbv
    (refine st_fld hE fINd1 fun p hp => ?_; (conv => cbv); refine st_load hE cI64 (by rw [hp]; exact (hb).at _ _ rfl) ?_; (conv => cbv))
    refine br (fun k3 => ?_) (fun k3 => ?_)
    ·have k3 : 600 ≤ z := by simpa [hE.cmp, cmpR] using k3
     conv => cbv
     exact no (by rw [hFP]; rw [if_neg g1, if_neg g3, if_neg g2, if_neg g5, if_neg g4, if_neg g6, if_pos g]; simp; omega) _ hx
    have k3 : ¬ (600 ≤ z) := by simpa [hE.cmp, cmpR] using k3
    conv => cbv
    (refine st_fld hE fINd1 fun p hp => ?_; (conv => cbv); refine st_load hE cI64 (by rw [hp]; exact (hb).at _ _ rfl) ?_; (conv => cbv))
    refine st_fld hE fINd1 fun p hp => ?_
    conv => cbv
    refine st_put hr zI64 hq hp (by simp) rfl fun w6 hw6 hq6 => ?_
    simp only [b4_, b5_] at hq6
    conv => cbv
    exact ⟨(z, ⟨#[]⟩), by simp [Fits, lk], hI _ _ ⟨hx.then (hw6.bel hq hx.size), hb.wr hw6 aq, hq6, by rw [hFP]; simp only; rw [if_neg g1, if_neg g3, if_neg g2, if_neg g5, if_neg g4, if_neg g6, if_pos g]; simp only [true_and]; exact ⟨fun q => ⟨by omega, by omega, q⟩, fun q => q.2.2⟩⟩⟩
  have g7 : o ≠ 7 := by simpa [hE.cmp, cmpR] using g
  clear g
  conv => cbv
  exact ⟨(0, ⟨#[]⟩), by simp [Fits, lk], hI _ _ ⟨hx, hb, hq, by rw [hFP]; simp only; rw [if_neg g1, if_neg g3, if_neg g2, if_neg g5, if_neg g4, if_neg g6, if_neg g7]⟩⟩
 ·clear hb hq hx
  rintro ⟨wz, wt⟩ w6 ⟨hx, hb, hq, hI⟩
  simp only at hq hI
  have no2 : ¬ (z = wz ∧ tx = wt ∧ xs = []) → ∀ w', Ext w w' → R (.bool false) w' := fun h => no fun q => h (hI.2 q)
  conv => cbv
  (refine st_fld hE fINd1 fun p hp => ?_; (conv => cbv); refine st_load hE cI64 (by rw [hp]; exact (hb).at _ _ rfl) ?_; (conv => cbv))
  (refine st_fld hE fINd1 fun p hp => ?_; (conv => cbv); refine st_load hE cI64 (by rw [hp]; exact (hq).at _ _ rfl) ?_; (conv => cbv))
  refine br (fun g => ?_) (fun g => ?_)
  ·have g : z = wz := by simpa [hE.cmp, cmpR] using g
   conv => cbv
   (refine st_fld hE fINd2 fun p hp => ?_; (conv => cbv); refine st_load hE cStr (by rw [hp]; exact (hb).at _ _ rfl) ?_; (conv => cbv))
   (refine st_fld hE fINd2 fun p hp => ?_; (conv => cbv); refine st_load hE cStr (by rw [hp]; exact (hq).at _ _ rfl) ?_; (conv => cbv))
   refine br (fun g2 => ?_) (fun g2 => ?_)
   ·have g2 : tx = wt := (scq hE _ _).1 g2
    conv => cbv
    (refine st_fld hE fINd3 fun p hp => ?_; (conv => cbv); refine st_load hE cStrs (by rw [hp]; exact (hb).at _ _ rfl) ?_; (conv => cbv))
    refine st_len hE tStrs fun x9 hx9 => ?_
    obtain ⟨q4, hq4⟩ : ∃ q4, q4 = E.cmp .eql x9 0 := ⟨_, rfl⟩
    have hq5 : q4 = true ↔ x9 = 0 := by rw [hq4, hE.cmp]; simp [cmpR]
    conv => cbv
    simp only [← hq4]
    rw [hR]; exact ⟨hx, q4, rfl, by
     rw [hq5, ← hI]
     exact ⟨fun q => ⟨g, g2, List.eq_nil_of_length_eq_zero (by omega)⟩, fun q => by rw [q.2.2] at hxl; simp at hxl; omega⟩⟩
   ·have g2 : tx ≠ wt := fun e => g2 ((scq hE _ _).2 e)
    conv => cbv
    exact no2 (fun q => g2 q.2.1) _ hx
  ·have g : z ≠ wz := by simpa [hE.cmp, cmpR] using g
   conv => cbv
   exact no2 (fun q => g q.1) _ hx
theorem IsTs.uniqT {ns : List PN} {a b : Nat} {ks : List Int} {ts : List Tr} (h : IsTs ns a b ks ts) : ∀ {a' b' : Nat} {ts' : List Tr}, IsTs ns a' b' ks ts' → ts = ts' := by
 induction h with
 | nil => intro a' b' ts' h; cases h; rfl
 | @cons a b k p ks kids ts hp hk h1 h2 i1 i2 =>
  intro a' b' ts' h
  generalize hq : ((k : Int) :: ks) = kk at h
  cases h with
  | nil => cases hq
  | cons hp' hk' h1' h2' =>
   simp only [b1_] at hq
   obtain ⟨e1, e2⟩ := hq
   have e1 : k = _ := Int.ofNat.inj e1
   subst e1; subst e2
   rw [hp] at hp'
   cases hp'
   rw [i1 h1', i2 h2']
theorem IsTs.at {ns : List PN} {a b : Nat} {ks : List Int} {ts : List Tr} (h : IsTs ns a b ks ts) : ∀ {j : Nat} {k : Int}, ks[j]? = some k → ∃ t a' b', ts[j]? = some t ∧ IsTs ns a' b' [k] [t] := by
 induction h with
 | nil => intro j k h; simp at h
 | @cons a b k p ks kids ts hp hk h1 h2 i1 i2 =>
  intro j q hq
  cases j with
  | zero => simp at hq; subst hq; exact ⟨_, a, k + 1, rfl, .cons hp hk h1 (.nil _)⟩
  | succ j => simpa using i2 (by simpa using hq)
theorem IsTs.of_mem {ns : List PN} {a b : Nat} {ks : List Int} {ts : List Tr} (h : IsTs ns a b ks ts) {t : Tr} (ht : t ∈ ts) : ∃ k ∈ ks, ∃ a' b', IsTs ns a' b' [k] [t] := by
 obtain ⟨j, hj⟩ := List.mem_iff_getElem?.1 ht
 have hlt : j < ks.length := by rw [← h.len]; exact (List.getElem?_eq_some_iff.1 hj).1
 obtain ⟨t', a', b', h1, h2⟩ := h.at (g2_ hlt)
 rw [hj] at h1
 cases h1
 exact ⟨_, List.getElem_mem hlt, a', b', h2⟩
theorem IsTs.dep_le {ns : List PN} {a b : Nat} {ks : List Int} {ts : List Tr} (h : IsTs ns a b ks ts) : deps ts ≤ b := by
 induction h with
 | nil => simp [deps]
 | @cons a b k p ks kids ts hp hk h1 h2 i1 i2 =>
  have := h2.le
  rw [deps]
  have : dep (mkT p k kids) ≤ deps kids + 1 := by
   unfold mkT
   split
   ·rw [dep_leaf]; omega
   ·rw [dep]; omega
  omega
theorem kidsW_pre {g : Int → List Int → List Int} (hg : ∀ k o, o <+: g k o) {top : Int} : ∀ (ks out : List Int), out <+: kidsW g top ks out
 | [], out => List.prefix_append _ _
 | k :: ks, out => by
  rw [kidsW]
  split
  ·exact List.prefix_append _ _
  ·exact (hg k out).trans (kidsW_pre hg ks _)
theorem pre_len {a b : List Int} (h : a <+: b) : a.length ≤ b.length := h.length_le
structure Gro (w : World) (A : Option Addr) (w' : World) (A' : Option Addr) : Prop where
 wr : Wr A w w'
 at_ : blk A' = blk A ∨ ∃ b, blk A' = some b ∧ w.heap.size ≤ b
theorem Gro.refl (w : World) (A : Option Addr) : Gro w A w A := ⟨Wr.refl _ _, .inl rfl⟩
theorem Gro.trans {a b c : World} {A B C : Option Addr} (h : Gro a A b B) (k : Gro b B c C) : Gro a A c C := by
 refine ⟨⟨k.wr.os.trans h.wr.os, k.wr.tape.trans h.wr.tape, k.wr.output.trans h.wr.output, n2_ h.wr.size k.wr.size, fun i hi hn => ?_⟩, ?_⟩
 ·have e1 := h.wr.block i hi hn
  have e2 := k.wr.block i (n3_ hi h.wr.size) (by
   rcases h.at_ with e | ⟨b0, e, hb⟩
   ·rw [e]; exact hn
   ·rw [e]; intro q; cases q; omega)
  rw [e2, e1]
 ·rcases k.at_ with e | ⟨b0, e, hb⟩
  ·rw [e]; exact h.at_
  ·exact .inr ⟨b0, e, n2_ h.wr.size hb⟩
theorem Gro.ext {a b c : World} {A C : Option Addr} (h : Ext a b) (k : Gro b A c C) : Gro a A c C := Gro.trans ⟨h.wr A, .inl rfl⟩ k
theorem Gro.app {a b c : World} {A C : Option Addr} (h : Ext a b) (hw : Wr A b c) (hk : blk C = blk A ∨ blk C = some b.heap.size) : Gro a A c C :=
 Gro.ext h ⟨hw, hk.imp id fun e => ⟨_, e, n1_ _⟩⟩
theorem Gro.apart {a c : World} {A C : Option Addr} {x : Addr} {B e k m cc : Nat} {xs : List Value} (h : Gro a A c C) (hx : Own B e k a (some x) m cc xs) (ha : Apart A (some x) ∧ Apart (some x) A) : Apart C (some x) ∧ Apart (some x) C := by
 obtain ⟨gb, rfl, _, hlt⟩ := hx.form
 have hb : blk (some (⟨gb, 0, none⟩ : Addr)) = some gb := rfl
 have key : blk C ≠ some gb := by
  rcases h.at_ with e | ⟨b0, e, hb0⟩
  ·rw [e]
   rcases ha.2 with h1 | h1
   ·cases h1
   ·rw [hb] at h1; exact fun q => h1 q.symm
  ·rw [e]; intro q; cases q; omega
 exact ⟨.inr (by rw [hb]; exact key), .inr (by rw [hb]; exact fun q => key q.symm)⟩
theorem l2walk_g {w0 : World} {AN : Option Addr} {N cN : Nat} {nv : List PN} (hN : RNs w0 AN N nv) (hk : ∀ p ∈ nv, p.ks.length ≤ 3) (hNb : N ≤ 4000) : ∀ (f : Nat), f ≤ 4001 → ∀ (top : Int) (w : World) (A : Option Addr) (n c : Nat) (out : List Int), (top < f ∨ (N : Int) ≤ top) → Ext w0 w → Own w0.heap.size 3 1 w A n c (out.map (.int .i64)) → n + f ≤ 60000 →
  GC Tryz.prog 151 [.slice AN N cN, .int .i64 top, .slice A n c] w fun v w' => ∃ A' n' c', v = .slice A' n' c' ∧ Ext w0 w' ∧ Own w0.heap.size 3 1 w' A' n' c' ((walkF nv f top out).map (.int .i64)) ∧ Gro w A w' A' := by
 intro f
 induction f with
 | zero =>
  intro hf top w A n c out htop hx ho hnf
  refine GC.intro (cs := []) Tryz.func151 (by kernel_rfl) fun E R hE hr hR => ?_
  have hol := ho.len
  rw [List.length_map, Nat.mul_one] at hol
  have bad : ∀ w2, w2 = w → E.cmp .eql 0 0 = E.cmp .eql 0 0 := fun _ _ => rfl
  clear bad
  conv => cbv
  refine br (fun g => ?_) (fun g => ?_)
  ·conv => cbv
   refine st_one hr tInts rfl rfl fun A1 w1 hx1 hc1 => ?_
   conv => cbv
   refine st_appsG hr tInts rfl (ho.bel hx1) hc1 rfl (by simp [Value.oneCell']) (n2_ hx.size hx1.size) (by omega) (by omega) fun A2 c2 m2 w2 hm2 hw2 ho2 hk2 => ?_
   conv => cbv
   rw [hR]; exact ⟨A2, m2, c2, rfl, (hx.trans hx1).then (hw2.bel (ho.bel hx1) (n2_ hx.size hx1.size)), by rw [walkF, List.map_append]; exact ho2, Gro.app hx1 hw2 hk2⟩
  have g : ¬ top < 0 := by simpa [hE.cmp, cmpR] using g
  conv => cbv
  refine st_len hE sINd fun x hx9 => ?_
  conv => cbv
  refine br (fun g2 => ?_) (fun g2 => ?_)
  ·conv => cbv
   refine st_one hr tInts rfl rfl fun A1 w1 hx1 hc1 => ?_
   conv => cbv
   refine st_appsG hr tInts rfl (ho.bel hx1) hc1 rfl (by simp [Value.oneCell']) (n2_ hx.size hx1.size) (by omega) (by omega) fun A2 c2 m2 w2 hm2 hw2 ho2 hk2 => ?_
   conv => cbv
   rw [hR]; exact ⟨A2, m2, c2, rfl, (hx.trans hx1).then (hw2.bel (ho.bel hx1) (n2_ hx.size hx1.size)), by rw [walkF, List.map_append]; exact ho2, Gro.app hx1 hw2 hk2⟩
  have g2 : ¬ x ≤ top := by simpa [hE.cmp, cmpR] using g2
  exfalso; omega
 | succ f ih =>
  intro hf top w A n c out htop hx ho hnf
  refine GC.intro (cs := []) Tryz.func151 (by kernel_rfl) fun E R hE hr hR => ?_
  have hol := ho.len
  rw [List.length_map, Nat.mul_one] at hol
  have hNl := hN.len
  have hlen := walk_len hk (f + 1) top out
  obtain ⟨V, hV0⟩ : ∃ V, V = walkF nv (f + 1) top out := ⟨_, rfl⟩
  rw [← hV0] at hR hlen
  have hV := hV0
  rw [walkF] at hV
  conv => cbv
  refine br (fun g => ?_) (fun g => ?_)
  ·have g : top < 0 := by simpa [hE.cmp, cmpR] using g
   rw [if_pos (.inl g)] at hV
   conv => cbv
   refine st_one hr tInts rfl rfl fun A1 w1 hx1 hc1 => ?_
   conv => cbv
   refine st_appsG hr tInts rfl (ho.bel hx1) hc1 rfl (by simp [Value.oneCell']) (n2_ hx.size hx1.size) (by omega) (by omega) fun A2 c2 m2 w2 hm2 hw2 ho2 hk2 => ?_
   conv => cbv
   rw [hR]; exact ⟨A2, m2, c2, rfl, (hx.trans hx1).then (hw2.bel (ho.bel hx1) (n2_ hx.size hx1.size)), by rw [hV, List.map_append]; exact ho2, Gro.app hx1 hw2 hk2⟩
  have g : ¬ top < 0 := by simpa [hE.cmp, cmpR] using g
  conv => cbv
  refine st_len hE sINd fun x hx9 => ?_
  conv => cbv
  refine br (fun g2 => ?_) (fun g2 => ?_)
  ·have g2 : x ≤ top := by simpa [hE.cmp, cmpR] using g2
   rw [if_pos (.inr (.inl (by omega)))] at hV
   conv => cbv
   refine st_one hr tInts rfl rfl fun A1 w1 hx1 hc1 => ?_
   conv => cbv
   refine st_appsG hr tInts rfl (ho.bel hx1) hc1 rfl (by simp [Value.oneCell']) (n2_ hx.size hx1.size) (by omega) (by omega) fun A2 c2 m2 w2 hm2 hw2 ho2 hk2 => ?_
   conv => cbv
   rw [hR]; exact ⟨A2, m2, c2, rfl, (hx.trans hx1).then (hw2.bel (ho.bel hx1) (n2_ hx.size hx1.size)), by rw [hV, List.map_append]; exact ho2, Gro.app hx1 hw2 hk2⟩
  have g2 : ¬ x ≤ top := by simpa [hE.cmp, cmpR] using g2
  conv => cbv
  refine st_len hE tInts fun x3 hx3 => ?_
  conv => cbv
  refine st_len hE sINd fun x4 hx4 => ?_
  conv => cbv
  refine br (fun g3 => ?_) (fun g3 => ?_)
  ·have g3 : x4 < x3 := by simpa [hE.cmp, cmpR] using g3
   rw [if_pos (.inr (.inr (by omega)))] at hV
   conv => cbv
   refine st_one hr tInts rfl rfl fun A1 w1 hx1 hc1 => ?_
   conv => cbv
   refine st_appsG hr tInts rfl (ho.bel hx1) hc1 rfl (by simp [Value.oneCell']) (n2_ hx.size hx1.size) (by omega) (by omega) fun A2 c2 m2 w2 hm2 hw2 ho2 hk2 => ?_
   conv => cbv
   rw [hR]; exact ⟨A2, m2, c2, rfl, (hx.trans hx1).then (hw2.bel (ho.bel hx1) (n2_ hx.size hx1.size)), by rw [hV, List.map_append]; exact ho2, Gro.app hx1 hw2 hk2⟩
  have g3 : ¬ x4 < x3 := by simpa [hE.cmp, cmpR] using g3
  rw [if_neg (by omega)] at hV
  obtain ⟨tn, htn⟩ : ∃ tn : Nat, top = tn := ⟨top.toNat, by omega⟩
  obtain ⟨a, v, hA, hg, hc, hok⟩ := hN.get (i := tn) (by omega)
  rw [show top.toNat = tn by omega, hg] at hV
  simp only [Option.map_some, Option.getD_some] at hV
  conv => cbv
  refine st_idx hE sINd hA (by omega) (by omega) fun q hq => ?_
  rw [show top.toNat = tn by omega] at hq
  conv => cbv
  refine st_fld hE fINd4 fun q2 hq2 => ?_
  conv => cbv
  refine st_load hE cInts (v := .slice v.A1 v.m1 v.c1) (by rw [hq2, hq]; exact hx.cell (hc 4 _ rfl)) ?_
  have rk := hok.r_ks
  have hkl := rk.len
  have hk3 := hk _ (m1_ hg)
  obtain ⟨ks, hks⟩ : ∃ ks, ks = v.p.ks := ⟨_, rfl⟩
  obtain ⟨A5, hA5⟩ : ∃ x, x = v.A1 := ⟨_, rfl⟩
  obtain ⟨m5, hm5⟩ : ∃ x, x = v.m1 := ⟨_, rfl⟩
  obtain ⟨c5, hc5⟩ : ∃ x, x = v.c1 := ⟨_, rfl⟩
  rw [← hks, ← hA5, ← hm5, ← hc5] at rk
  rw [← hks, ← hm5] at hkl
  rw [← hks] at hV hk3
  rw [← hA5, ← hm5, ← hc5]
  conv => cbv
  clear hq hq2 hc hok
  refine st_len hE tInts fun x5 hx5 => ?_
  conv => cbv
  have hle5 := rk.le
  refine loop_rule hr (fun (s : Nat × Int × Option Addr × Nat × Nat × List Int) w' => s.1 ≤ m5 ∧ s.2.1 = (s.1 : Int) ∧ Ext w0 w' ∧ Own w0.heap.size 3 1 w' s.2.2.1 s.2.2.2.1 s.2.2.2.2.1 (s.2.2.2.2.2.map (.int .i64)) ∧ kidsW (walkF nv f) top (ks.drop s.1) s.2.2.2.2.2 = V ∧ Gro w A w' s.2.2.1)
   (fun s => [(0, .slice AN N cN), (1, .int .i64 top), (2, .slice s.2.2.1 s.2.2.2.1 s.2.2.2.2.1), (31, .slice A5 m5 c5), (32, .int .i64 x5), (33, .int .i64 s.2.1)]) (fun s => m5 - s.1) (0, 0, A, n, c, out)
   (by simp [Fits, lk]) ⟨by simp, by simp, hx, ho, by simpa using hV.symm, Gro.refl _ _⟩ ?_
  clear hx ho
  rintro I hI ⟨j, jj, A', n', c', out'⟩ w' ⟨hj, hjj, hx, ho, hKV, hG⟩
  simp only at hj hjj ho hKV hG
  have hol' := ho.len
  rw [List.length_map, Nat.mul_one] at hol'
  have hpl : n' ≤ V.length := by rw [← hol', ← hKV]; exact pre_len (kidsW_pre (walk_pre nv f) _ _)
  have hn' : n' + f ≤ 60000 := by omega
  obtain ⟨jk, hjk⟩ : ∃ z, z = jj + 1 := ⟨_, rfl⟩
  conv => cbv
  refine br (fun g4 => ?_) (fun g4 => ?_)
  ·have g4 : j < m5 := by
    have : jj < x5 := by simpa [hE.cmp, cmpR] using g4
    omega
   have ej : E.ar .add .i64 jj 1 = jk := by rw [hE.ar, hjk]; exact wrap_in (by omega) (by omega)
   conv => cbv
   refine st_int hE tInts (rk.ext hx) (k := j) (by omega) g4 fun p u hu hp => ?_
   have hdr : ks.drop j = u :: ks.drop (j + 1) := by
    obtain ⟨z1, z2⟩ := List.getElem?_eq_some_iff.1 hu
    rw [List.drop_eq_getElem_cons z1, z2]
   rw [hdr, kidsW] at hKV
   conv => cbv
   refine st_load hE cInt hp ?_
   conv => cbv
   refine br (fun g5 => ?_) (fun g5 => ?_)
   ·have g5 : top ≤ u := by simpa [hE.cmp, cmpR] using g5
    rw [if_pos g5] at hKV
    conv => cbv
    refine st_one hr tInts rfl rfl fun A1 w1 hx1 hc1 => ?_
    conv => cbv
    refine st_appsG hr tInts rfl (ho.bel hx1) hc1 rfl (by simp [Value.oneCell']) (n2_ hx.size hx1.size) (by omega) (by omega) fun A2 c2 m2 w2 hm2 hw2 ho2 hk2 => ?_
    conv => cbv
    rw [hR]; exact ⟨A2, m2, c2, rfl, (hx.trans hx1).then (hw2.bel (ho.bel hx1) (n2_ hx.size hx1.size)), by rw [← hKV, List.map_append]; exact ho2, hG.trans (Gro.app hx1 hw2 hk2)⟩
   ·have g5 : ¬ top ≤ u := by simpa [hE.cmp, cmpR] using g5
    rw [if_neg g5] at hKV
    conv => cbv
    refine st_g hr (ih (by omega) u w' A' n' c' out' (.inl (by omega)) hx ho hn') fun r w2 ⟨A2, n2, c2, ev, hx2, ho2, hG2⟩ => ?_
    subst ev
    conv => cbv
    simp only [ej]
    exact ⟨(j + 1, jk, A2, n2, c2, walkF nv f u out'), by simp [Fits, lk], hI _ _ ⟨by simp only; omega, by simp only; omega, hx2, ho2, hKV, hG.trans hG2⟩, by simp only; omega⟩
  ·have g4 : j = m5 := by
    have : ¬ jj < x5 := by simpa [hE.cmp, cmpR] using g4
    omega
   rw [List.drop_of_length_le (by omega), kidsW] at hKV
   conv => cbv
   refine st_one hr tInts rfl rfl fun A1 w1 hx1 hc1 => ?_
   conv => cbv
   refine st_appsG hr tInts rfl (ho.bel hx1) hc1 rfl (by simp [Value.oneCell']) (n2_ hx.size hx1.size) (by omega) (by omega) fun A2 c2 m2 w2 hm2 hw2 ho2 hk2 => ?_
   conv => cbv
   rw [hR]; exact ⟨A2, m2, c2, rfl, (hx.trans hx1).then (hw2.bel (ho.bel hx1) (n2_ hx.size hx1.size)), by rw [← hKV, List.map_append]; exact ho2, hG.trans (Gro.app hx1 hw2 hk2)⟩
theorem l2depth_q {w : World} {AN : Option Addr} {N cN : Nat} {nv : List PN} (hN : RNs w AN N nv) (hNb : N ≤ 4000) : ∀ (k : Nat) (a b : Nat) (t : Tr), IsTs nv a b [(k : Int)] [t] → QF Tryz.prog 152 [.slice AN N cN, .int .i64 (k : Int)] w (.int .i64 (dep t : Int)) := by
 intro k
 induction k using Nat.strongRecOn with
 | _ k ih =>
  intro a b t ht
  refine QF.intro (cs := []) Tryz.func152 (by kernel_rfl) fun w0 hx0 w1 hs E R hE hr hR => ?_
  have hNl := hN.len
  have hdt : dep t ≤ 4000 := by
   have h1 := ht.dep_le
   have h2 := ht.bound (by have := (ht.roots k (by simp)).1; have := (ht.roots k (by simp)).2; omega)
   rw [deps] at h1; omega
  obtain ⟨kn, p, kids, e1, e2, hp, hk, hks, et⟩ := ht.one
  have e1 : k = kn := by omega
  subst e1
  have et : t = mkT p k kids := by simpa using et
  have hkn := (List.getElem?_eq_some_iff.1 hp).1
  obtain ⟨ad, v, hA, hg, hc, hok⟩ := hN.get (i := k) (by omega)
  rw [hp] at hg
  have hpv : p = v.p := Option.some.inj hg
  subst hpv
  have hx1 : Ext w w1 := hx0.trans hs.ext
  obtain ⟨kk, hkk⟩ : ∃ kk : Int, kk = k := ⟨_, rfl⟩
  rw [← hkk]
  obtain ⟨D, hD⟩ : ∃ D : Int, D = dep t := ⟨_, rfl⟩
  rw [← hD] at hR
  conv => cbv
  refine st_idx hE sINd hA (by omega) (by omega) fun q hq => ?_
  rw [show kk.toNat = k by omega] at hq
  conv => cbv
  refine st_fld hE fINd4 fun q2 hq2 => ?_
  conv => cbv
  refine st_load hE cInts (v := .slice v.A1 v.m1 v.c1) (by rw [hq2, hq]; exact hx1.cell (hc 4 _ rfl)) ?_
  have rk := hok.r_ks
  have hkl := rk.len
  have hlen := hks.len
  have hdk : dep t = deps kids + 1 ∨ (kids = [] ∧ dep t = 1) := by
   rw [et, mkT]
   split
   ·rw [dep_leaf]; exact .inr ⟨List.eq_nil_of_length_eq_zero (by omega), rfl⟩
   ·exact .inl (by rw [dep])
  obtain ⟨ks, hks0⟩ : ∃ ks, ks = v.p.ks := ⟨_, rfl⟩
  obtain ⟨A5, hA5⟩ : ∃ x, x = v.A1 := ⟨_, rfl⟩
  obtain ⟨m5, hm5⟩ : ∃ x, x = v.m1 := ⟨_, rfl⟩
  obtain ⟨c5, hc5⟩ : ∃ x, x = v.c1 := ⟨_, rfl⟩
  rw [← hks0, ← hA5, ← hm5, ← hc5] at rk
  rw [← hks0, ← hm5] at hkl
  rw [← hks0] at hks hlen
  rw [← hA5, ← hm5, ← hc5]
  conv => cbv
  clear hq hq2 hc hok
  refine st_len hE tInts fun x5 hx5 => ?_
  conv => cbv
  have hle5 := rk.le
  refine loop_rule hr (fun (s : Nat × Int × Int) w' => s.1 ≤ m5 ∧ s.2.1 = (s.1 : Int) ∧ Same w0 w' ∧ s.2.2 = (deps (kids.take s.1) : Int))
   (fun s => [(0, .slice AN N cN), (1, .int .i64 kk), (5, .int .i64 s.2.2), (13, .slice A5 m5 c5), (14, .int .i64 x5), (15, .int .i64 s.2.1)]) (fun s => m5 - s.1) (0, 0, 0)
   (by simp [Fits, lk]) ⟨by simp, by simp, hs, by simp [deps]⟩ ?_
  rintro I hI ⟨j, jj, d⟩ w' ⟨hj, hjj, hs', hd⟩
  simp only at hj hjj hd
  have hxw : Ext w w' := hx0.trans hs'.ext
  obtain ⟨jk, hjk⟩ : ∃ z, z = jj + 1 := ⟨_, rfl⟩
  have take1 : ∀ (u : Int) (t' : Tr), kids[j]? = some t' → deps (kids.take (j + 1)) = max (deps (kids.take j)) (dep t') := by
   intro u t' h
   rw [g4_, h]
   have : ∀ l : List Tr, deps (l ++ [t']) = max (deps l) (dep t') := by
    intro l
    induction l with
    | nil => simp [deps]
    | cons x l ih => rw [List.cons_append, deps, ih, deps]; omega
   exact this _
  have dle : deps (kids.take j) ≤ deps kids := deps_le fun t ht => deps_mem (List.mem_of_mem_take ht)
  conv => cbv
  refine br (fun g4 => ?_) (fun g4 => ?_)
  ·have g4 : j < m5 := by
    have : jj < x5 := by simpa [hE.cmp, cmpR] using g4
    omega
   have ej : E.ar .add .i64 jj 1 = jk := by rw [hE.ar, hjk]; exact wrap_in (by omega) (by omega)
   conv => cbv
   refine st_int hE tInts (rk.ext hxw) (k := j) (by omega) g4 fun p u hu hp => ?_
   obtain ⟨t', a', b', ht1, ht2⟩ := hks.at hu
   obtain ⟨un, hun⟩ : ∃ un : Nat, u = un := ⟨u.toNat, by have := (hks.roots u (m1_ hu)).1; omega⟩
   have hult : un < k := by have := (hks.roots u (m1_ hu)).2; omega
   conv => cbv
   refine st_load hE cInt hp ?_
   conv => cbv
   have hc := ih un hult a' b' t' (by rw [← hun]; exact ht2)
   rw [← hun] at hc
   have hcx : QF Tryz.prog 152 [.slice AN N cN, .int .i64 u] w' (.int .i64 (dep t' : Int)) := ⟨hc.1, fun w2 h2 => hc.2 w2 (hxw.trans h2)⟩
   refine st_qi hE hcx fun e he w2 hs2 => ?_
   conv => cbv
   refine br (fun g5 => ?_) (fun g5 => ?_)
   ·have g5 : d < e := by simpa [hE.cmp, cmpR] using g5
    conv => cbv
    simp only [ej]
    exact ⟨(j + 1, jk, e), by simp [Fits, lk], hI _ _ ⟨by simp only; omega, by simp only; omega, hs'.trans hs2, by simp only; rw [take1 u t' ht1]; omega⟩, by simp only; omega⟩
   ·have g5 : ¬ d < e := by simpa [hE.cmp, cmpR] using g5
    conv => cbv
    simp only [ej]
    exact ⟨(j + 1, jk, d), by simp [Fits, lk], hI _ _ ⟨by simp only; omega, by simp only; omega, hs'.trans hs2, by simp only; rw [take1 u t' ht1]; omega⟩, by simp only; omega⟩
  ·have g4 : j = m5 := by
    have : ¬ jj < x5 := by simpa [hE.cmp, cmpR] using g4
    omega
   rw [g3_ (by omega)] at hd
   have hD2 : D = d + 1 := by
    rcases hdk with h1 | ⟨h1, h2⟩
    ·omega
    ·rw [h1] at hd; simp [deps] at hd; omega
   have ed : E.ar .add .i64 d 1 = D := by rw [hE.ar, hD2]; exact wrap_in (by omega) (by omega)
   conv => cbv
   simp only [ed]
   rw [hR]; exact ⟨rfl, hs'⟩
theorem room_sum {l : Int} {b : Nat} (h : 0 ≤ room l b) : room l b + b ≤ l := by
 unfold room at *
 split at h
 ·omega
 ·rename_i q; rw [if_neg q]; omega
theorem szIntS_f {w : World} {A : Option Addr} {n c : Nat} {zs : List Int} (h : Ints w A n c zs) (l : Int) (h0 : 0 ≤ l) (h1 : l ≤ 1048576) :
  FC Tryz.prog 79 [.slice A n c, .int .i64 l] w fun v _ => ∃ r : Int, v = .int .i64 r ∧ r ≤ l ∧ (0 ≤ r → r + n ≤ l) := by
 refine FC.intro (cs := []) Tryz.func79 (by kernel_rfl) fun E R hE hr hR => ?_
 have hle := h.le
 conv => cbv
 refine st_len hE tInts fun x hx => ?_
 conv => cbv
 obtain ⟨y1, hy1⟩ : ∃ y, y = l - x := ⟨_, rfl⟩
 have e1 : E.ar .sub .i64 l x = y1 := by rw [hE.ar, hy1]; exact wrap_in (by omega) (by omega)
 simp only [e1]
 refine br (fun _ => ?_) (fun g1 => ?_)
 ·conv => cbv
  rw [hR]; exact ⟨Ext.refl _, -1, rfl, by omega, fun h => by omega⟩
 conv => cbv
 rw [hR]; exact ⟨Ext.refl _, y1, rfl, by omega, fun h => by omega⟩
theorem toIntS_f {w : World} {A : Option Addr} {n c : Nat} {zs : List Int} (h : Ints w A n c zs) (hn : n ≤ 1048576) :
  FC Tryz.prog 82 [.slice A n c] w fun v w' => ∃ A1 c1, v = .slice A1 n c1 ∧ Own w.heap.size 3 1 w' A1 n c1 (zs.map (.int .i64)) := by
 refine FC.intro (cs := []) Tryz.func82 (by kernel_rfl) fun E R hE hr hR => ?_
 have hl := h.len
 conv => cbv
 refine st_len hE tInts fun x hx => ?_
 conv => cbv
 refine st_make hr tInts rfl (m := n) (by omega) (by omega) (by omega) fun A1 w1 hx1 h10 => ?_
 have h1 := h10 _ (n1_ _)
 conv => cbv
 refine loop_rule hr (fun (s : Nat × Int) w' => s.1 ≤ n ∧ s.2 = (s.1 : Int) ∧ Ext w w' ∧ Own w.heap.size 3 1 w' A1 n n ((zs.take s.1).map (.int .i64) ++ List.replicate (n - s.1) (.int .i64 0)))
  (fun s => [(0, .slice A n c), (3, .slice A1 n n), (4, .int .i64 s.2)]) (fun s => n - s.1) (0, 0)
  (by simp [Fits, lk]) ⟨by simp, by simp, hx1, by simpa using h1⟩ ?_
 rintro I hI ⟨i, ii⟩ w' ⟨hi, hii, hxw, ho⟩
 simp only at hi hii ho
 obtain ⟨ii', hii'⟩ : ∃ z, z = ii + 1 := ⟨_, rfl⟩
 conv => cbv
 refine st_len hE tInts fun x2 hx2 => ?_
 conv => cbv
 refine br (fun g2 => ?_) (fun g2 => ?_)
 ·have g2 : i < n := by
   have : ii < x2 := by simpa [hE.cmp, cmpR] using g2
   omega
  have ei : E.ar .add .i64 ii 1 = ii' := by rw [hE.ar, hii']; exact wrap_in (by omega) (by omega)
  obtain ⟨gb, rfl, _⟩ := ho.addr (by omega)
  conv => cbv
  refine st_int hE tInts (h.ext hxw) (k := i) (by omega) g2 fun p u hu hp => ?_
  conv => cbv
  refine st_load hE cInt hp ?_
  conv => cbv
  refine st_idx hE tInts rfl (by omega) (by omega) fun q hq => ?_
  rw [show ii.toNat = i by omega] at hq
  conv => cbv
  refine st_set hr tInts ho rfl (j := i) g2 hq rfl fun w3 hb3 hw3 ho3 => ?_
  conv => cbv
  simp only [ei]
  have hset : ((zs.take i).map (Value.int .i64) ++ List.replicate (n - i) (Value.int .i64 0)).set i (Value.int .i64 u) = (zs.take (i + 1)).map (Value.int .i64) ++ List.replicate (n - (i + 1)) (Value.int .i64 0) := by
   have hli : ((zs.take i).map (Value.int .i64)).length = i := by simp; omega
   rw [List.set_append_right _ _ (by omega), hli, Nat.sub_self, show n - i = (n - (i + 1)) + 1 by omega, List.replicate_succ, b4_, g4_, hu, List.map_append, List.append_assoc]; rfl
  rw [hset] at ho3
  exact ⟨(i + 1, ii'), by simp [Fits, lk], hI _ _ ⟨by simp only; omega, by simp only; omega, hxw.then hb3, ho3⟩, by simp only; omega⟩
 ·have g2 : i = n := by
   have : ¬ ii < x2 := by simpa [hE.cmp, cmpR] using g2
   omega
  subst g2
  rw [g3_ (by omega), Nat.sub_self, List.replicate_zero, a7_] at ho
  conv => cbv
  rw [hR]; exact ⟨hxw, A1, i, rfl, ho⟩
theorem eqIntS_q {w : World} {A A1 : Option Addr} {n c n1 c1 : Nat} {zs ys : List Int} (h : Ints w A n c zs) (h1 : Ints w A1 n1 c1 ys) :
  QB Tryz.prog 54 [.slice A n c, .slice A1 n1 c1] w (zs = ys) := by
 refine QB.intro (cs := []) Tryz.func54 (by kernel_rfl) fun w0 hx0 w1 hs E R hE hr hR => ?_
 replace h := (h.ext hx0).ext hs.ext
 replace h1 := (h1.ext hx0).ext hs.ext
 have hl := h.len
 have hl1 := h1.len
 have hle := h.le
 conv => cbv
 refine st_len hE tInts fun x hx => ?_
 conv => cbv
 refine st_len hE tInts fun x1 hx1 => ?_
 conv => cbv
 refine br (fun g => ?_) (fun g => ?_)
 ·have g : x ≠ x1 := by simpa [hE.cmp, cmpR] using g
  conv => cbv
  exact hR _ _ hs (by simp only [Bool.false_eq_true, false_iff]; exact fun e => g (by rw [e] at hl; omega))
 have g : n = n1 := by
  have : x = x1 := by simpa [hE.cmp, cmpR] using g
  omega
 subst g
 conv => cbv
 refine loop_rule hr (fun (s : Nat × Int) w' => s.1 ≤ n ∧ s.2 = (s.1 : Int) ∧ Same w1 w' ∧ zs.take s.1 = ys.take s.1) (fun s => [(0, .slice A n c), (1, .slice A1 n c1), (5, .int .i64 s.2)]) (fun s => n - s.1) (0, 0)
  (by simp [Fits, lk]) ⟨by simp, by simp, Same.refl _, by simp⟩ ?_
 rintro I hI ⟨i, ii⟩ w' ⟨hi, hii, hxw, hall⟩
 simp only at hi hii hall
 obtain ⟨ii', hii'⟩ : ∃ z, z = ii + 1 := ⟨_, rfl⟩
 conv => cbv
 refine st_len hE tInts fun x2 hx2 => ?_
 conv => cbv
 refine br (fun g => ?_) (fun g => ?_)
 ·have g : i < n := by
   have : ii < x2 := by simpa [hE.cmp, cmpR] using g
   omega
  have e1 : E.ar .add .i64 ii 1 = ii' := by rw [hE.ar, hii']; exact wrap_in (by omega) (by omega)
  conv => cbv
  refine draw_q hr fol (by kernel_rfl) fun E' hE' => ?_
  conv => cbv
  refine st_int hE' tInts (h.ext hxw.ext) (k := i) (by omega) g fun p u hu hp => ?_
  conv => cbv
  refine st_load hE' cInt hp ?_
  conv => cbv
  refine st_int hE' tInts (h1.ext hxw.ext) (k := i) (by omega) g fun p2 y hy hp2 => ?_
  conv => cbv
  refine st_load hE' cInt hp2 ?_
  obtain ⟨q, hq⟩ : ∃ q, q = E'.cmp .neq u y := ⟨_, rfl⟩
  have hq' : q = true ↔ u ≠ y := by rw [hq, hE'.cmp]; simp [cmpR]
  conv => cbv
  simp only [← hq]
  intro w4 hs4
  conv => cbv
  refine br (fun g2 => ?_) (fun g2 => ?_)
  ·have g2 := hq'.1 g2
   conv => cbv
   exact hR _ _ ((hs.trans hxw).trans hs4) (by
    simp only [Bool.false_eq_true, false_iff]
    intro e; rw [e, hy] at hu; exact g2 (Option.some.inj hu).symm)
  ·have g2 : u = y := by
    refine Classical.byContradiction fun e => g2 (hq'.2 e)
   conv => cbv
   simp only [e1]
   exact ⟨(i + 1, ii'), by simp [Fits, lk], hI _ _ ⟨by simp only; omega, by simp only; omega, hxw.trans hs4, by simp only; rw [g4_, g4_, hall, hu, hy, g2]⟩, by simp only; omega⟩
 ·have g : i = n := by
   have : ¬ ii < x2 := by simpa [hE.cmp, cmpR] using g
   omega
  rw [g3_ (by omega), g3_ (by omega)] at hall
  conv => cbv
  exact hR _ _ (hs.trans hxw) (by simp [hall])
theorem szNode_f {w : World} (v : VN) (h : OKN w v) (l : Int) (h0 : 0 ≤ l) (h1 : l ≤ 1048576) :
  FC Tryz.prog 93 [.agg ⟨cN v⟩, .int .i64 l] w fun u _ => ∃ r : Int, u = .int .i64 r ∧ r ≤ l ∧ (0 ≤ r → r + wtN v.p ≤ l) := by
 refine FC.intro (cs := []) Tryz.func93 (by kernel_rfl) fun E R hE hr hR => ?_
 obtain ⟨⟨o, z, tx, xs, ks⟩, A0, m0, c0, A1, m1, c1⟩ := v
 have s_tx := h.s_tx
 have r_xs := h.r_xs
 have r_ks := h.r_ks
 clear h
 simp only at s_tx r_xs r_ks
 conv => cbv
 refine st_box hr fun a w1 hx hb0 => ?_
 have hb := hb0 _ (n1_ _)
 conv => cbv
 (refine st_fld hE fLNd2 fun p hp => ?_; (conv => cbv); refine st_load hE cStr (by rw [hp]; exact (hb).at _ _ rfl) ?_; (conv => cbv))
 refine st_slen hE uStr fun x1 hx1 => ?_
 conv => cbv
 obtain ⟨y1, hy1⟩ : ∃ y, y = l - x1 := ⟨_, rfl⟩
 have e1 : E.ar .sub .i64 l x1 = y1 := by rw [hE.ar, hy1]; exact wrap_in (by omega) (by omega)
 simp only [e1]
 refine br (fun _ => ?_) (fun g1 => ?_)
 ·conv => cbv
  rw [hR]; exact ⟨hx, -1, rfl, by omega, fun h => by omega⟩
 have g1 : 0 ≤ y1 := by simpa [hE.cmp, cmpR] using g1
 conv => cbv
 (refine st_fld hE fLNd3 fun p hp => ?_; (conv => cbv); refine st_load hE cStrs (by rw [hp]; exact (hb).at _ _ rfl) ?_; (conv => cbv))
 refine st_qi hE (szStringS_q (r_xs.ext hx) y1 (by omega) (by omega)) fun y2 hl2 w7 hs2 => ?_
 replace hb := hb.bel hs2.ext
 replace hx := hx.trans hs2.ext
 have hy2 : 0 ≤ y2 → y2 + bulk xs ≤ y1 := fun q => by rw [hl2] at q ⊢; exact room_sum q
 have hz2 : y2 ≤ y1 := by rw [hl2]; unfold room; split <;> omega
 conv => cbv
 refine br (fun _ => ?_) (fun g2 => ?_)
 ·conv => cbv
  rw [hR]; exact ⟨hx, -1, rfl, by omega, fun h => by omega⟩
 have g2 : 0 ≤ y2 := by simpa [hE.cmp, cmpR] using g2
 conv => cbv
 have hy2 := hy2 g2
 (refine st_fld hE fLNd4 fun p hp => ?_; (conv => cbv); refine st_load hE cInts (by rw [hp]; exact (hb).at _ _ rfl) ?_; (conv => cbv))
 refine st_f hr (szIntS_f (r_ks.ext hx) y2 (by omega) (by omega)) fun v w8 hx3 ⟨y3, ev, hz3, hy3⟩ => ?_
 subst ev
 have hl_ks := r_ks.len
 replace hb := hb.bel hx3
 replace hx := hx.trans hx3
 conv => cbv
 refine br (fun _ => ?_) (fun g3 => ?_)
 ·conv => cbv
  rw [hR]; exact ⟨hx, -1, rfl, by omega, fun h => by omega⟩
 have g3 : 0 ≤ y3 := by simpa [hE.cmp, cmpR] using g3
 conv => cbv
 have hy3 := hy3 g3
 rw [hR]; exact ⟨hx, y3, rfl, by omega, fun _ => by simp only [wtN]; omega⟩
theorem szNodeS_f {w : World} {A : Option Addr} {n c : Nat} {pv : List PN} (h : RNs w A n pv) (hn : n ≤ 9223372036854775807) (l : Int) (h0 : 0 ≤ l) (h1 : l ≤ 1048576) :
  FC Tryz.prog 39 [.slice A n c, .int .i64 l] w fun v _ => ∃ r : Int, v = .int .i64 r ∧ r ≤ l ∧ (0 ≤ r → r + wtNs pv ≤ l) := by
 refine FC.intro (cs := []) Tryz.func39 (by kernel_rfl) fun E R hE hr hR => ?_
 have hl := h.len
 conv => cbv
 refine st_len hE sLNd fun x hx => ?_
 conv => cbv
 obtain ⟨y1, hy1⟩ : ∃ y, y = l - x := ⟨_, rfl⟩
 have e1 : E.ar .sub .i64 l x = y1 := by rw [hE.ar, hy1]; exact wrap_in (by omega) (by omega)
 simp only [e1]
 refine br (fun _ => ?_) (fun g1 => ?_)
 ·conv => cbv
  rw [hR]; exact ⟨Ext.refl _, -1, rfl, by omega, fun h => by omega⟩
 have g1 : 0 ≤ y1 := by simpa [hE.cmp, cmpR] using g1
 conv => cbv
 refine loop_rule hr (fun (s : Nat × Int × Int) w' => s.1 ≤ n ∧ s.2.1 = (s.1 : Int) ∧ 0 ≤ s.2.2 ∧ s.2.2 ≤ y1 ∧ Ext w w' ∧ s.2.2 + wtNs (pv.take s.1) ≤ y1 + s.1) (fun s => [(0, .slice A n c), (1, .int .i64 s.2.2), (5, .int .i64 s.2.1)]) (fun s => n - s.1) (0, 0, y1)
  (by simp [Fits, lk]) ⟨by simp, by simp, g1, by simp, Ext.refl _, by simp [wtNs]⟩ ?_
 rintro I hI ⟨i, ii, l'⟩ w' ⟨hi, hii, hl0, hl1, hxw, hall⟩
 simp only at hi hii hl0 hl1 hall
 obtain ⟨ii', hii'⟩ : ∃ z, z = ii + 1 := ⟨_, rfl⟩
 conv => cbv
 refine st_len hE sLNd fun x2 hx2 => ?_
 conv => cbv
 refine br (fun g2 => ?_) (fun g2 => ?_)
 ·have g2 : i < n := by
   have : ii < x2 := by simpa [hE.cmp, cmpR] using g2
   omega
  have ei : E.ar .add .i64 ii 1 = ii' := by rw [hE.ar, hii']; exact wrap_in (by omega) (by omega)
  obtain ⟨a, v, hA, hg, hc, hok⟩ := (h.ext hxw).get g2
  conv => cbv
  refine st_idx hE sLNd hA (by omega) (by omega) fun q hq => ?_
  rw [show ii.toNat = i by omega] at hq
  conv => cbv
  refine st_loadS hE tLNd (vs := cN v) rfl (by rw [hq]; exact hc) ?_
  obtain ⟨cv, hcv⟩ : ∃ cv, cv = cN v := ⟨_, rfl⟩
  rw [← hcv]
  conv => cbv
  rw [hcv]
  refine st_f hr (szNode_f v hok l' hl0 (by omega)) fun u w2 hx3 ⟨r, ev, hr1, hr2⟩ => ?_
  subst ev
  rw [← hcv]
  conv => cbv
  refine br (fun _ => ?_) (fun g3 => ?_)
  ·conv => cbv
   rw [hR]; exact ⟨hxw.trans hx3, -1, rfl, by omega, fun h => by omega⟩
  have g3 : 0 ≤ r := by simpa [hE.cmp, cmpR] using g3
  have hr2 := hr2 g3
  conv => cbv
  simp only [ei]
  refine ⟨(i + 1, ii', r), by simp [Fits, lk], hI _ _ ⟨by simp only; omega, by simp only; omega, g3, by simp only; omega, hxw.trans hx3, ?_⟩, by simp only; omega⟩
  simp only
  rw [g4_, hg, wtNs_app]
  simp only [Option.toList, wtNs]
  omega
 ·have g2 : i = n := by
   have : ¬ ii < x2 := by simpa [hE.cmp, cmpR] using g2
   omega
  rw [g3_ (by omega)] at hall
  conv => cbv
  rw [hR]; exact ⟨hxw, l', rfl, by omega, fun _ => by omega⟩
theorem szStmt_f {w : World} (v : VS) (h : OKS w v) (l : Int) (h0 : 0 ≤ l) (h1 : l ≤ 1048576) :
  FC Tryz.prog 94 [.agg ⟨cS v⟩, .int .i64 l] w fun u _ => ∃ r : Int, u = .int .i64 r ∧ r ≤ l ∧ (0 ≤ r → r + wtS v ≤ l) := by
 refine FC.intro (cs := []) Tryz.func94 (by kernel_rfl) fun E R hE hr hR => ?_
 obtain ⟨k, nm, c, g⟩ := v
 have s_nm := h.s_nm
 clear h
 simp only at s_nm
 conv => cbv
 refine st_box hr fun a w1 hx hb0 => ?_
 have hb := hb0 _ (n1_ _)
 conv => cbv
 (refine st_fld hE fLSd1 fun p hp => ?_; (conv => cbv); refine st_load hE cStr (by rw [hp]; exact (hb).at _ _ rfl) ?_; (conv => cbv))
 refine st_slen hE uStr fun x1 hx1 => ?_
 conv => cbv
 obtain ⟨y1, hy1⟩ : ∃ y, y = l - x1 := ⟨_, rfl⟩
 have e1 : E.ar .sub .i64 l x1 = y1 := by rw [hE.ar, hy1]; exact wrap_in (by omega) (by omega)
 simp only [e1]
 refine br (fun _ => ?_) (fun g1 => ?_)
 ·conv => cbv
  rw [hR]; exact ⟨hx, -1, rfl, by omega, fun h => by omega⟩
 have g1 : 0 ≤ y1 := by simpa [hE.cmp, cmpR] using g1
 conv => cbv
 rw [hR]; exact ⟨hx, y1, rfl, by omega, fun _ => by simp only [wtS]; omega⟩
theorem szStmtS_f {w : World} {A : Option Addr} {n c : Nat} {pv : List PS} (h : RSs w A n pv) (hn : n ≤ 9223372036854775807) (l : Int) (h0 : 0 ≤ l) (h1 : l ≤ 1048576) :
  FC Tryz.prog 40 [.slice A n c, .int .i64 l] w fun v _ => ∃ r : Int, v = .int .i64 r ∧ r ≤ l ∧ (0 ≤ r → r + wtSs pv ≤ l) := by
 refine FC.intro (cs := []) Tryz.func40 (by kernel_rfl) fun E R hE hr hR => ?_
 have hl := h.len
 conv => cbv
 refine st_len hE sLSd fun x hx => ?_
 conv => cbv
 obtain ⟨y1, hy1⟩ : ∃ y, y = l - x := ⟨_, rfl⟩
 have e1 : E.ar .sub .i64 l x = y1 := by rw [hE.ar, hy1]; exact wrap_in (by omega) (by omega)
 simp only [e1]
 refine br (fun _ => ?_) (fun g1 => ?_)
 ·conv => cbv
  rw [hR]; exact ⟨Ext.refl _, -1, rfl, by omega, fun h => by omega⟩
 have g1 : 0 ≤ y1 := by simpa [hE.cmp, cmpR] using g1
 conv => cbv
 refine loop_rule hr (fun (s : Nat × Int × Int) w' => s.1 ≤ n ∧ s.2.1 = (s.1 : Int) ∧ 0 ≤ s.2.2 ∧ s.2.2 ≤ y1 ∧ Ext w w' ∧ s.2.2 + wtSs (pv.take s.1) ≤ y1 + s.1) (fun s => [(0, .slice A n c), (1, .int .i64 s.2.2), (5, .int .i64 s.2.1)]) (fun s => n - s.1) (0, 0, y1)
  (by simp [Fits, lk]) ⟨by simp, by simp, g1, by simp, Ext.refl _, by simp [wtSs]⟩ ?_
 rintro I hI ⟨i, ii, l'⟩ w' ⟨hi, hii, hl0, hl1, hxw, hall⟩
 simp only at hi hii hl0 hl1 hall
 obtain ⟨ii', hii'⟩ : ∃ z, z = ii + 1 := ⟨_, rfl⟩
 conv => cbv
 refine st_len hE sLSd fun x2 hx2 => ?_
 conv => cbv
 refine br (fun g2 => ?_) (fun g2 => ?_)
 ·have g2 : i < n := by
   have : ii < x2 := by simpa [hE.cmp, cmpR] using g2
   omega
  have ei : E.ar .add .i64 ii 1 = ii' := by rw [hE.ar, hii']; exact wrap_in (by omega) (by omega)
  obtain ⟨a, v, hA, hg, hc, hok⟩ := (h.ext hxw).get g2
  conv => cbv
  refine st_idx hE sLSd hA (by omega) (by omega) fun q hq => ?_
  rw [show ii.toNat = i by omega] at hq
  conv => cbv
  refine st_loadS hE tLSd (vs := cS v) rfl (by rw [hq]; exact hc) ?_
  obtain ⟨cv, hcv⟩ : ∃ cv, cv = cS v := ⟨_, rfl⟩
  rw [← hcv]
  conv => cbv
  rw [hcv]
  refine st_f hr (szStmt_f v hok l' hl0 (by omega)) fun u w2 hx3 ⟨r, ev, hr1, hr2⟩ => ?_
  subst ev
  rw [← hcv]
  conv => cbv
  refine br (fun _ => ?_) (fun g3 => ?_)
  ·conv => cbv
   rw [hR]; exact ⟨hxw.trans hx3, -1, rfl, by omega, fun h => by omega⟩
  have g3 : 0 ≤ r := by simpa [hE.cmp, cmpR] using g3
  have hr2 := hr2 g3
  conv => cbv
  simp only [ei]
  refine ⟨(i + 1, ii', r), by simp [Fits, lk], hI _ _ ⟨by simp only; omega, by simp only; omega, g3, by simp only; omega, hxw.trans hx3, ?_⟩, by simp only; omega⟩
  simp only
  rw [g4_, hg, wtSs_app]
  simp only [Option.toList, wtSs]
  omega
 ·have g2 : i = n := by
   have : ¬ ii < x2 := by simpa [hE.cmp, cmpR] using g2
   omega
  rw [g3_ (by omega)] at hall
  conv => cbv
  rw [hR]; exact ⟨hxw, l', rfl, by omega, fun _ => by omega⟩
theorem toNode_f {w : World} (v : VN) (h : OKN w v) (b_xs : v.m0 ≤ 1048576) (b_ks : v.m1 ≤ 1048576) :
  FC Tryz.prog 97 [.agg ⟨cN v⟩] w fun u w' => ∃ B0 n0 d0 B1 n1 d1, u = .agg ⟨[.int .i64 v.p.o, .int .i64 v.p.z, .string v.p.tx, .slice B0 n0 d0, .slice B1 n1 d1]⟩ ∧ Own w.heap.size 9 1 w' B0 n0 d0 (v.p.xs.map (.string)) ∧ Own w.heap.size 3 1 w' B1 n1 d1 (v.p.ks.map (.int .i64)) := by
 refine FC.intro (cs := []) Tryz.func97 (by kernel_rfl) fun E R hE hr hR => ?_
 obtain ⟨⟨o, z, tx, xs, ks⟩, A0, m0, c0, A1, m1, c1⟩ := v
 have r_xs := h.r_xs
 have r_ks := h.r_ks
 clear h
 simp only at r_xs b_xs r_ks b_ks hR
 conv => cbv
 refine st_box hr fun a w1 hx hb0 => ?_
 have hb := hb0 _ (n1_ _)
 conv => cbv
 refine st_alloc hr tINd rfl fun oo w2 hx2 ho0 => ?_
 have ho := ho0 _ hx.size
 have hb := hb.bel hx2
 have hx := hx.trans hx2
 conv => cbv
 refine st_alloc hr tINd rfl fun q w3 hx3 hq0 => ?_
 have hq := hq0 _ hx.size
 have aq := (hb.apart (hq0 _ (n1_ _)) (n1_ _)).1
 have oq := (ho.apart (hq0 _ (n1_ _)) (n1_ _)).1
 have hb := hb.bel hx3
 have ho := ho.bel hx3
 have hx := hx.trans hx3
 clear hb0 ho0 hq0
 conv => cbv
 (refine st_fld hE fLNd0 fun p hp => ?_; (conv => cbv); refine st_load hE cInt (by rw [hp]; exact (hb).at _ _ rfl) ?_; (conv => cbv))
 (refine st_fld hE fINd0 fun p hp => ?_; (conv => cbv); refine st_put hr zInt hq hp (by simp) rfl fun wn hw hq2 => ?_; replace hx := hx.then (hw.bel hq hx.size); (try clear hq); (have hq := hq2); clear hq2; (simp only [b4_, b5_] at hq); clear hp)
 replace hb := hb.wr hw aq
 replace ho := ho.wr hw oq
 conv => cbv
 (refine st_fld hE fLNd1 fun p hp => ?_; (conv => cbv); refine st_load hE cI64 (by rw [hp]; exact (hb).at _ _ rfl) ?_; (conv => cbv))
 (refine st_fld hE fINd1 fun p hp => ?_; (conv => cbv); refine st_put hr zI64 hq hp (by simp) rfl fun wn hw hq2 => ?_; replace hx := hx.then (hw.bel hq hx.size); (try clear hq); (have hq := hq2); clear hq2; (simp only [b4_, b5_] at hq); clear hp)
 replace hb := hb.wr hw aq
 replace ho := ho.wr hw oq
 conv => cbv
 (refine st_fld hE fLNd2 fun p hp => ?_; (conv => cbv); refine st_load hE cStr (by rw [hp]; exact (hb).at _ _ rfl) ?_; (conv => cbv))
 (refine st_fld hE fINd2 fun p hp => ?_; (conv => cbv); refine st_put hr zStr hq hp (by simp) rfl fun wn hw hq2 => ?_; replace hx := hx.then (hw.bel hq hx.size); (try clear hq); (have hq := hq2); clear hq2; (simp only [b4_, b5_] at hq); clear hp)
 replace hb := hb.wr hw aq
 replace ho := ho.wr hw oq
 conv => cbv
 (refine st_fld hE fLNd3 fun p hp => ?_; (conv => cbv); refine st_load hE cStrs (by rw [hp]; exact (hb).at _ _ rfl) ?_; (conv => cbv))
 refine st_f hr (toStringS_f (r_xs.ext hx) b_xs) fun u ww hxx ⟨B0, n0, d0, ev, hcp, o_xs⟩ => ?_
 clear hcp
 subst ev
 have ax_xs := (hq.apart o_xs (n1_ _)).2
 have bx_xs := (ho.apart o_xs (n1_ _)).2
 replace o_xs := o_xs.mono hx.size
 replace hb := hb.bel hxx
 replace ho := ho.bel hxx
 replace hq := hq.bel hxx
 replace hx := hx.trans hxx
 clear hxx
 conv => cbv
 (refine st_fld hE fINd3 fun p hp => ?_; (conv => cbv); refine st_put hr zStrs hq hp (by simp) rfl fun wn hw hq2 => ?_; replace hx := hx.then (hw.bel hq hx.size); (try clear hq); (have hq := hq2); clear hq2; (simp only [b4_, b5_] at hq); clear hp)
 replace hb := hb.wr hw aq
 replace ho := ho.wr hw oq
 replace o_xs := o_xs.wr hw ax_xs
 conv => cbv
 (refine st_fld hE fLNd4 fun p hp => ?_; (conv => cbv); refine st_load hE cInts (by rw [hp]; exact (hb).at _ _ rfl) ?_; (conv => cbv))
 refine st_f hr (toIntS_f (r_ks.ext hx) b_ks) fun u ww hxx ⟨B1, d1, ev, o_ks⟩ => ?_
 subst ev
 have ax_ks := (hq.apart o_ks (n1_ _)).2
 have bx_ks := (ho.apart o_ks (n1_ _)).2
 replace o_ks := o_ks.mono hx.size
 replace hb := hb.bel hxx
 replace ho := ho.bel hxx
 replace hq := hq.bel hxx
 replace hx := hx.trans hxx
 replace o_xs := o_xs.bel hxx
 clear hxx
 conv => cbv
 (refine st_fld hE fINd4 fun p hp => ?_; (conv => cbv); refine st_put hr zInts hq hp (by simp) rfl fun wn hw hq2 => ?_; replace hx := hx.then (hw.bel hq hx.size); (try clear hq); (have hq := hq2); clear hq2; (simp only [b4_, b5_] at hq); clear hp)
 replace hb := hb.wr hw aq
 replace ho := ho.wr hw oq
 replace o_xs := o_xs.wr hw ax_xs
 replace o_ks := o_ks.wr hw ax_ks
 conv => cbv
 refine st_loadS hE tINd rfl hq.at ?_
 conv => cbv
 refine st_putS hr (by kernel_rfl) ho (add_zero _).symm (by simp) (by simp [Value.oneCell']) fun w5 hw5 ho5 => ?_
 simp only [a1_, a2_, a3_, a4_, a5_, a6_, a7_] at ho5
 conv => cbv
 refine st_cell hr tINd rfl ho5.at ?_
 rw [hR]; exact ⟨hx.then (hw5.bel ho hx.size), B0, n0, d0, B1, _, d1, rfl, o_xs.wr hw5 bx_xs, o_ks.wr hw5 bx_ks⟩
def v0N : VN := (⟨⟨0, 0, ⟨#[]⟩, [], []⟩, none, 0, 0, none, 0, 0⟩ : VN)
theorem toNodeS_f {w : World} {A : Option Addr} {n c : Nat} {pv : List PN} (h : RNs w A n pv) (hn : n ≤ 1048576) (hp_xs : ∀ p ∈ pv, p.xs.length ≤ 1048576) (hp_ks : ∀ p ∈ pv, p.ks.length ≤ 1048576) :
  FC Tryz.prog 46 [.slice A n c] w fun v w' => ∃ A1 c1, v = .slice A1 n c1 ∧ ∀ w2, Above w.heap.size w' w2 → RNs w2 A1 n pv := by
 refine FC.intro (cs := []) Tryz.func46 (by kernel_rfl) fun E R hE hr hR => ?_
 have hl := h.len
 conv => cbv
 refine st_len hE sLNd fun x hx => ?_
 conv => cbv
 refine st_makeK hr sINd rfl (m := n) (by omega) (by omega) (by omega) fun A1 w1 hx1 h10 => ?_
 have h1 := h10 _ (n1_ _)
 rw [show (Value.agg ⟨zNd⟩).cells = ⟨cN v0N⟩ from rfl, made_fl (f := cN) v0N n 5 rfl (by omega)] at h1
 conv => cbv
 refine loop_rule hr (fun (s : Nat × Int × List VN) w' => s.1 ≤ n ∧ s.2.1 = (s.1 : Int) ∧ s.2.2.length = s.1 ∧ s.2.2.map (·.p) = pv.take s.1 ∧ Ext w w' ∧ Own w.heap.size 90 5 w' A1 n n ((s.2.2 ++ List.replicate (n - s.1) v0N).flatMap cN) ∧
   (∀ v ∈ s.2.2, Own w1.heap.size 9 1 w' v.A0 v.m0 v.c0 (v.p.xs.map (.string)) ∧ Own w1.heap.size 3 1 w' v.A1 v.m1 v.c1 (v.p.ks.map (.int .i64)) ∧ v.p.tx.size ≤ 9223372036854775807 ∧ (∀ u ∈ v.p.xs, u.size ≤ 9223372036854775807)) ∧ w1.heap.size ≤ w'.heap.size)
  (fun s => [(0, .slice A n c), (3, .slice A1 n n), (4, .int .i64 s.2.1)]) (fun s => n - s.1) (0, 0, [])
  (by simp [Fits, lk]) ⟨by simp, by simp, rfl, by simp, hx1, by simpa using h1, by simp, n1_ _⟩ ?_
 rintro I hI ⟨i, ii, ds⟩ w' ⟨hi, hii, hdl, hdp, hxw, ho, hds, hsz⟩
 simp only at hi hii hdl hdp ho hds
 obtain ⟨ii', hii'⟩ : ∃ z, z = ii + 1 := ⟨_, rfl⟩
 conv => cbv
 refine st_len hE sLNd fun x2 hx2 => ?_
 conv => cbv
 refine br (fun g2 => ?_) (fun g2 => ?_)
 ·have g2 : i < n := by
   have : ii < x2 := by simpa [hE.cmp, cmpR] using g2
   omega
  have ei : E.ar .add .i64 ii 1 = ii' := by rw [hE.ar, hii']; exact wrap_in (by omega) (by omega)
  obtain ⟨a, v, hA, hg, hc, hok⟩ := (h.ext hxw).get g2
  have hb_xs : v.m0 ≤ 1048576 := by rw [← hok.r_xs.len]; exact hp_xs _ (m1_ hg)
  have hb_ks : v.m1 ≤ 1048576 := by rw [← hok.r_ks.len]; exact hp_ks _ (m1_ hg)
  obtain ⟨gb, rfl, _⟩ := ho.addr (by omega)
  conv => cbv
  refine st_idx hE sLNd hA (by omega) (by omega) fun q hq => ?_
  rw [show ii.toNat = i by omega] at hq
  conv => cbv
  refine st_loadS hE tLNd (vs := cN v) rfl (by rw [hq]; exact hc) ?_
  obtain ⟨cv, hcv⟩ : ∃ cv, cv = cN v := ⟨_, rfl⟩
  rw [← hcv]
  conv => cbv
  rw [hcv]
  refine st_f hr (toNode_f v hok hb_xs hb_ks) fun u w2 hx3 ⟨B0, n0, d0, B1, n1, d1, ev, o_xs, o_ks⟩ => ?_
  subst ev
  rw [← hcv]
  replace o_xs := o_xs.mono hsz
  replace o_ks := o_ks.mono hsz
  have ap : ∀ {e m5 c5 ys A5}, Own w1.heap.size e 1 w2 A5 m5 c5 ys → Apart A5 (some ⟨gb, 0, none⟩) := fun h5 => (h1.apart h5 (n1_ _)).2
  replace ho := ho.bel hx3
  have hds2 : ∀ v ∈ ds, Own w1.heap.size 9 1 w2 v.A0 v.m0 v.c0 (v.p.xs.map (.string)) ∧ Own w1.heap.size 3 1 w2 v.A1 v.m1 v.c1 (v.p.ks.map (.int .i64)) ∧ v.p.tx.size ≤ 9223372036854775807 ∧ (∀ u ∈ v.p.xs, u.size ≤ 9223372036854775807) := fun v hv => by
   obtain ⟨k0, k1, k2, k3⟩ := hds v hv
   exact ⟨k0.bel hx3, k1.bel hx3, k2, k3⟩
  replace hxw := hxw.trans hx3
  conv => cbv
  refine st_idx hE sINd rfl (by omega) (by omega) fun q1 hq1 => ?_
  rw [show ii.toNat = i by omega] at hq1
  conv => cbv
  obtain ⟨y, hy⟩ : ∃ y : VN, y = ⟨v.p, B0, n0, d0, B1, n1, d1⟩ := ⟨_, rfl⟩
  refine st_putS hr (vs := [.int .i64 v.p.o, .int .i64 v.p.z, .string v.p.tx, .slice B0 n0 d0, .slice B1 n1 d1]) (by kernel_rfl) ho (j := i * 5) hq1 (by rw [fl_len cN_len]; simp; omega) (by simp [Value.oneCell']) fun w3 hw3 ho3 => ?_
  rw [show ([.int .i64 v.p.o, .int .i64 v.p.z, .string v.p.tx, .slice B0 n0 d0, .slice B1 n1 d1] : List Value) = cN y by rw [hy]; rfl, fl_put cN_len _ i y (by simp; omega)] at ho3
  have hset : (ds ++ List.replicate (n - i) v0N).set i y = (ds ++ [y]) ++ List.replicate (n - (i + 1)) v0N := by
   rw [List.set_append_right _ _ (by omega), hdl, Nat.sub_self, show n - i = (n - (i + 1)) + 1 by omega, List.replicate_succ, b4_, List.append_assoc]; rfl
  rw [hset] at ho3
  conv => cbv
  simp only [ei]
  refine ⟨(i + 1, ii', ds ++ [y]), by simp [Fits, lk], hI _ _ ⟨by simp only; omega, by simp only; omega, by simp [hdl], ?_, hxw.then (hw3.bel ho hxw.size), ho3, ?_, ?_⟩, by simp only; omega⟩
  ·simp only
   rw [List.map_append, hdp, g4_, hg, hy]; rfl
  ·intro v2 hv
   rcases List.mem_append.1 hv with hv | hv
   ·obtain ⟨k0, k1, k2, k3⟩ := hds2 v2 hv
    exact ⟨k0.wr hw3 (ap k0), k1.wr hw3 (ap k1), k2, k3⟩
   ·simp at hv
    subst hv
    rw [hy]
    exact ⟨o_xs.wr hw3 (ap o_xs), o_ks.wr hw3 (ap o_ks), hok.s_tx, hok.r_xs.small⟩
  ·have := hw3.size; have := hx3.size; omega
 ·have g2 : i = n := by
   have : ¬ ii < x2 := by simpa [hE.cmp, cmpR] using g2
   omega
  subst g2
  rw [g3_ (by omega)] at hdp
  simp only [Nat.sub_self, List.replicate_zero, a7_] at ho
  conv => cbv
  rw [hR]; refine ⟨hxw, A1, i, rfl, fun w2 ha => ⟨ds, hdp, hdl, (ho.above ha).cells, fun v hv => ?_⟩⟩
  obtain ⟨k0, k1, k2, k3⟩ := hds v hv
  exact ⟨k2, ((k0.mono hx1.size).above ha).strs k3, ((k1.mono hx1.size).above ha).ints⟩
theorem toStmt_f {w : World} (v : VS) (h : OKS w v) :
  FC Tryz.prog 98 [.agg ⟨cS v⟩] w fun u w' => u = .agg ⟨[.int .i64 v.k, .string v.nm, .int .i64 v.c, .int .i64 v.g]⟩ := by
 refine FC.intro (cs := []) Tryz.func98 (by kernel_rfl) fun E R hE hr hR => ?_
 obtain ⟨k, nm, c, g⟩ := v
 simp only at hR
 conv => cbv
 refine st_box hr fun a w1 hx hb0 => ?_
 have hb := hb0 _ (n1_ _)
 conv => cbv
 refine st_alloc hr tISd rfl fun oo w2 hx2 ho0 => ?_
 have ho := ho0 _ hx.size
 have hb := hb.bel hx2
 have hx := hx.trans hx2
 conv => cbv
 refine st_alloc hr tISd rfl fun q w3 hx3 hq0 => ?_
 have hq := hq0 _ hx.size
 have aq := (hb.apart (hq0 _ (n1_ _)) (n1_ _)).1
 have oq := (ho.apart (hq0 _ (n1_ _)) (n1_ _)).1
 have hb := hb.bel hx3
 have ho := ho.bel hx3
 have hx := hx.trans hx3
 clear hb0 ho0 hq0
 conv => cbv
 (refine st_fld hE fLSd0 fun p hp => ?_; (conv => cbv); refine st_load hE cInt (by rw [hp]; exact (hb).at _ _ rfl) ?_; (conv => cbv))
 (refine st_fld hE fISd0 fun p hp => ?_; (conv => cbv); refine st_put hr zInt hq hp (by simp) rfl fun wn hw hq2 => ?_; replace hx := hx.then (hw.bel hq hx.size); (try clear hq); (have hq := hq2); clear hq2; (simp only [b4_, b5_] at hq); clear hp)
 replace hb := hb.wr hw aq
 replace ho := ho.wr hw oq
 conv => cbv
 (refine st_fld hE fLSd1 fun p hp => ?_; (conv => cbv); refine st_load hE cStr (by rw [hp]; exact (hb).at _ _ rfl) ?_; (conv => cbv))
 (refine st_fld hE fISd1 fun p hp => ?_; (conv => cbv); refine st_put hr zStr hq hp (by simp) rfl fun wn hw hq2 => ?_; replace hx := hx.then (hw.bel hq hx.size); (try clear hq); (have hq := hq2); clear hq2; (simp only [b4_, b5_] at hq); clear hp)
 replace hb := hb.wr hw aq
 replace ho := ho.wr hw oq
 conv => cbv
 (refine st_fld hE fLSd2 fun p hp => ?_; (conv => cbv); refine st_load hE cInt (by rw [hp]; exact (hb).at _ _ rfl) ?_; (conv => cbv))
 (refine st_fld hE fISd2 fun p hp => ?_; (conv => cbv); refine st_put hr zInt hq hp (by simp) rfl fun wn hw hq2 => ?_; replace hx := hx.then (hw.bel hq hx.size); (try clear hq); (have hq := hq2); clear hq2; (simp only [b4_, b5_] at hq); clear hp)
 replace hb := hb.wr hw aq
 replace ho := ho.wr hw oq
 conv => cbv
 (refine st_fld hE fLSd3 fun p hp => ?_; (conv => cbv); refine st_load hE cInt (by rw [hp]; exact (hb).at _ _ rfl) ?_; (conv => cbv))
 (refine st_fld hE fISd3 fun p hp => ?_; (conv => cbv); refine st_put hr zInt hq hp (by simp) rfl fun wn hw hq2 => ?_; replace hx := hx.then (hw.bel hq hx.size); (try clear hq); (have hq := hq2); clear hq2; (simp only [b4_, b5_] at hq); clear hp)
 replace hb := hb.wr hw aq
 replace ho := ho.wr hw oq
 conv => cbv
 refine st_loadS hE tISd rfl hq.at ?_
 conv => cbv
 refine st_putS hr (by kernel_rfl) ho (add_zero _).symm (by simp) (by simp [Value.oneCell']) fun w5 hw5 ho5 => ?_
 simp only [a1_, a2_, a3_, a4_, a5_, a6_, a7_] at ho5
 conv => cbv
 refine st_cell hr tISd rfl ho5.at ?_
 rw [hR]; exact ⟨hx.then (hw5.bel ho hx.size), rfl⟩
def v0S : VS := (⟨0, ⟨#[]⟩, 0, 0⟩ : VS)
theorem toStmtS_f {w : World} {A : Option Addr} {n c : Nat} {pv : List PS} (h : RSs w A n pv) (hn : n ≤ 1048576) :
  FC Tryz.prog 47 [.slice A n c] w fun v w' => ∃ A1 c1, v = .slice A1 n c1 ∧ ∀ w2, Above w.heap.size w' w2 → RSs w2 A1 n pv := by
 refine FC.intro (cs := []) Tryz.func47 (by kernel_rfl) fun E R hE hr hR => ?_
 have hl := h.len
 conv => cbv
 refine st_len hE sLSd fun x hx => ?_
 conv => cbv
 refine st_makeK hr sISd rfl (m := n) (by omega) (by omega) (by omega) fun A1 w1 hx1 h10 => ?_
 have h1 := h10 _ (n1_ _)
 rw [show (Value.agg ⟨zSd⟩).cells = ⟨cS v0S⟩ from rfl, made_fl (f := cS) v0S n 4 rfl (by omega)] at h1
 conv => cbv
 refine loop_rule hr (fun (s : Nat × Int × List VS) w' => s.1 ≤ n ∧ s.2.1 = (s.1 : Int) ∧ s.2.2.length = s.1 ∧ s.2.2 = pv.take s.1 ∧ Ext w w' ∧ Own w.heap.size 155 4 w' A1 n n ((s.2.2 ++ List.replicate (n - s.1) v0S).flatMap cS) ∧
   (∀ v ∈ s.2.2, v.nm.size ≤ 9223372036854775807) ∧ w1.heap.size ≤ w'.heap.size)
  (fun s => [(0, .slice A n c), (3, .slice A1 n n), (4, .int .i64 s.2.1)]) (fun s => n - s.1) (0, 0, [])
  (by simp [Fits, lk]) ⟨by simp, by simp, rfl, by simp, hx1, by simpa using h1, by simp, n1_ _⟩ ?_
 rintro I hI ⟨i, ii, ds⟩ w' ⟨hi, hii, hdl, hdp, hxw, ho, hds, hsz⟩
 simp only at hi hii hdl hdp ho hds
 obtain ⟨ii', hii'⟩ : ∃ z, z = ii + 1 := ⟨_, rfl⟩
 conv => cbv
 refine st_len hE sLSd fun x2 hx2 => ?_
 conv => cbv
 refine br (fun g2 => ?_) (fun g2 => ?_)
 ·have g2 : i < n := by
   have : ii < x2 := by simpa [hE.cmp, cmpR] using g2
   omega
  have ei : E.ar .add .i64 ii 1 = ii' := by rw [hE.ar, hii']; exact wrap_in (by omega) (by omega)
  obtain ⟨a, v, hA, hg, hc, hok⟩ := (h.ext hxw).get g2
  obtain ⟨gb, rfl, _⟩ := ho.addr (by omega)
  conv => cbv
  refine st_idx hE sLSd hA (by omega) (by omega) fun q hq => ?_
  rw [show ii.toNat = i by omega] at hq
  conv => cbv
  refine st_loadS hE tLSd (vs := cS v) rfl (by rw [hq]; exact hc) ?_
  obtain ⟨cv, hcv⟩ : ∃ cv, cv = cS v := ⟨_, rfl⟩
  rw [← hcv]
  conv => cbv
  rw [hcv]
  refine st_f hr (toStmt_f v hok) fun u w2 hx3 ev => ?_
  subst ev
  rw [← hcv]
  replace ho := ho.bel hx3
  have hds2 : ∀ v ∈ ds, v.nm.size ≤ 9223372036854775807 := fun v hv => by
   have k0 := hds v hv
   exact k0
  replace hxw := hxw.trans hx3
  conv => cbv
  refine st_idx hE sISd rfl (by omega) (by omega) fun q1 hq1 => ?_
  rw [show ii.toNat = i by omega] at hq1
  conv => cbv
  obtain ⟨y, hy⟩ : ∃ y : VS, y = v := ⟨_, rfl⟩
  refine st_putS hr (vs := [.int .i64 v.k, .string v.nm, .int .i64 v.c, .int .i64 v.g]) (by kernel_rfl) ho (j := i * 4) hq1 (by rw [fl_len cS_len]; simp; omega) (by simp [Value.oneCell']) fun w3 hw3 ho3 => ?_
  rw [show ([.int .i64 v.k, .string v.nm, .int .i64 v.c, .int .i64 v.g] : List Value) = cS y by rw [hy]; rfl, fl_put cS_len _ i y (by simp; omega)] at ho3
  have hset : (ds ++ List.replicate (n - i) v0S).set i y = (ds ++ [y]) ++ List.replicate (n - (i + 1)) v0S := by
   rw [List.set_append_right _ _ (by omega), hdl, Nat.sub_self, show n - i = (n - (i + 1)) + 1 by omega, List.replicate_succ, b4_, List.append_assoc]; rfl
  rw [hset] at ho3
  conv => cbv
  simp only [ei]
  refine ⟨(i + 1, ii', ds ++ [y]), by simp [Fits, lk], hI _ _ ⟨by simp only; omega, by simp only; omega, by simp [hdl], ?_, hxw.then (hw3.bel ho hxw.size), ho3, ?_, ?_⟩, by simp only; omega⟩
  ·simp only
   rw [hdp, g4_, hg, hy]; rfl
  ·intro v2 hv
   rcases List.mem_append.1 hv with hv | hv
   ·have k0 := hds2 v2 hv
    exact k0
   ·simp at hv
    subst hv
    rw [hy]
    exact hok.s_nm
  ·have := hw3.size; have := hx3.size; omega
 ·have g2 : i = n := by
   have : ¬ ii < x2 := by simpa [hE.cmp, cmpR] using g2
   omega
  subst g2
  rw [g3_ (by omega)] at hdp
  simp only [Nat.sub_self, List.replicate_zero, a7_] at ho
  conv => cbv
  rw [hR]; refine ⟨hxw, A1, i, rfl, fun w2 ha => ⟨ds, hdp, hdl, (ho.above ha).cells, fun v hv => ?_⟩⟩
  have k0 := hds v hv
  exact ⟨k0⟩
theorem eqNode_f {w : World} (v u : VN) (h : OKN w v) (h1 : OKN w u) (he : v.p = u.p) :
  FC Tryz.prog 111 [.agg ⟨cN v⟩, .agg ⟨cN u⟩] w fun r _ => r = .bool true := by
 refine FC.intro (cs := []) Tryz.func111 (by kernel_rfl) fun E R hE hr hR => ?_
 have ei : ∀ z : Int, ¬ E.cmp .neq z z = true := fun z => by rw [hE.cmp]; simp [cmpR]
 have es : ∀ z : ByteArray, ¬ E.scmp .neq z z = true := fun z => by rw [hE.scmp, scmp_neq]; simp
 obtain ⟨⟨o, z, tx, xs, ks⟩, A0, m0, c0, A1, m1, c1⟩ := v
 obtain ⟨p2, B0, n0, d0, B1, n1, d1⟩ := u
 simp only at he
 subst he
 have r_xs := h.r_xs
 have u_xs := h1.r_xs
 have r_ks := h.r_ks
 have u_ks := h1.r_ks
 clear h h1
 simp only at r_xs u_xs r_ks u_ks
 conv => cbv
 refine st_box hr fun a w1 hx ha0 => ?_
 have ha := ha0 _ (n1_ _)
 conv => cbv
 refine st_box hr fun b w2 hx2 hb0 => ?_
 have hb := hb0 _ hx.size
 replace ha := ha.bel hx2
 replace hx := hx.trans hx2
 clear ha0 hb0
 conv => cbv
 (refine st_fld hE fINd0 fun p hp => ?_; (conv => cbv); refine st_load hE cInt (by rw [hp]; exact (ha).at _ _ rfl) ?_; (conv => cbv))
 (refine st_fld hE fINd0 fun p hp => ?_; (conv => cbv); refine st_load hE cInt (by rw [hp]; exact (hb).at _ _ rfl) ?_; (conv => cbv))
 refine br (fun g => absurd g (ei _)) (fun _ => ?_)
 conv => cbv
 (refine st_fld hE fINd1 fun p hp => ?_; (conv => cbv); refine st_load hE cI64 (by rw [hp]; exact (ha).at _ _ rfl) ?_; (conv => cbv))
 (refine st_fld hE fINd1 fun p hp => ?_; (conv => cbv); refine st_load hE cI64 (by rw [hp]; exact (hb).at _ _ rfl) ?_; (conv => cbv))
 refine br (fun g => absurd g (ei _)) (fun _ => ?_)
 conv => cbv
 (refine st_fld hE fINd2 fun p hp => ?_; (conv => cbv); refine st_load hE cStr (by rw [hp]; exact (ha).at _ _ rfl) ?_; (conv => cbv))
 (refine st_fld hE fINd2 fun p hp => ?_; (conv => cbv); refine st_load hE cStr (by rw [hp]; exact (hb).at _ _ rfl) ?_; (conv => cbv))
 refine br (fun g => absurd g (es _)) (fun _ => ?_)
 conv => cbv
 (refine st_fld hE fINd3 fun p hp => ?_; (conv => cbv); refine st_load hE cStrs (by rw [hp]; exact (ha).at _ _ rfl) ?_; (conv => cbv))
 (refine st_fld hE fINd3 fun p hp => ?_; (conv => cbv); refine st_load hE cStrs (by rw [hp]; exact (hb).at _ _ rfl) ?_; (conv => cbv))
 refine st_qb hE (eqStringS_q (r_xs.ext hx) (u_xs.ext hx)) fun v hv ww hss => ?_
 obtain rfl : v = true := hv.2 rfl
 replace ha := ha.bel hss.ext
 replace hb := hb.bel hss.ext
 replace hx := hx.trans hss.ext
 clear hss hv
 conv => cbv
 (refine st_fld hE fINd4 fun p hp => ?_; (conv => cbv); refine st_load hE cInts (by rw [hp]; exact (ha).at _ _ rfl) ?_; (conv => cbv))
 (refine st_fld hE fINd4 fun p hp => ?_; (conv => cbv); refine st_load hE cInts (by rw [hp]; exact (hb).at _ _ rfl) ?_; (conv => cbv))
 refine st_qb hE (eqIntS_q (r_ks.ext hx) (u_ks.ext hx)) fun v hv ww hss => ?_
 obtain rfl : v = true := hv.2 rfl
 replace ha := ha.bel hss.ext
 replace hb := hb.bel hss.ext
 replace hx := hx.trans hss.ext
 clear hss hv
 conv => cbv
 rw [hR]; exact ⟨hx, rfl⟩
theorem eqNodeS_f {w : World} {A A1 : Option Addr} {n c c1 : Nat} {xs : List PN} (h : RNs w A n xs) (h1 : RNs w A1 n xs) (hn : n ≤ 9223372036854775807) :
  FC Tryz.prog 52 [.slice A n c, .slice A1 n c1] w fun v _ => v = .bool true := by
 refine FC.intro (cs := []) Tryz.func52 (by kernel_rfl) fun E R hE hr hR => ?_
 have ei : ∀ z : Int, ¬ E.cmp .neq z z = true := fun z => by rw [hE.cmp]; simp [cmpR]
 conv => cbv
 refine st_len hE sINd fun x hx => ?_
 conv => cbv
 refine st_len hE sINd fun x' hx' => ?_
 obtain rfl : x = x' := by rw [hx, hx']
 conv => cbv
 refine br (fun g => absurd g (ei _)) (fun _ => ?_)
 conv => cbv
 refine loop_rule hr (fun (s : Nat × Int) w' => s.1 ≤ n ∧ s.2 = (s.1 : Int) ∧ Ext w w') (fun s => [(0, .slice A n c), (1, .slice A1 n c1), (5, .int .i64 s.2)]) (fun s => n - s.1) (0, 0)
  (by simp [Fits, lk]) ⟨by simp, by simp, Ext.refl _⟩ ?_
 rintro I hI ⟨i, z⟩ w' ⟨hi, hz, hxw⟩
 simp only at hi hz
 obtain ⟨z', hz'⟩ : ∃ z', z' = z + 1 := ⟨_, rfl⟩
 conv => cbv
 refine st_len hE sINd fun y hy => ?_
 conv => cbv
 refine br (fun g => ?_) (fun g => ?_)
 ·have g : i < n := by
   have : z < y := by simpa [hE.cmp, cmpR] using g
   omega
  have e1 : E.ar .add .i64 z 1 = z' := by rw [hE.ar, hz']; exact wrap_in (by omega) (by omega)
  conv => cbv
  refine draw_h [0, 1, 2, 3, 4, 5, 6, 7] [(8, false), (9, false)] hr fol (by kernel_rfl) fun E' hE' w0 hs0 S hS => ?_
  replace hxw := hxw.trans hs0.ext
  obtain ⟨a, v, hA, hg, hc, hv⟩ := (h.ext hxw).get g
  obtain ⟨a1, u, hA1, hg1, hc1, hu⟩ := (h1.ext hxw).get g
  have he : v.p = u.p := by rw [hg] at hg1; exact Option.some.inj hg1
  conv => cbv
  refine st_idx hE' sINd hA (by omega) (by omega) fun q hq => ?_
  rw [show z.toNat = i by omega] at hq
  conv => cbv
  refine st_loadS hE' tINd (vs := cN v) rfl (by rw [hq]; exact hc) ?_
  obtain ⟨cv, hcv⟩ : ∃ cv, cv = cN v := ⟨_, rfl⟩
  rw [← hcv]
  conv => cbv
  refine st_idx hE' sINd hA1 (by omega) (by omega) fun q1 hq1 => ?_
  rw [show z.toNat = i by omega] at hq1
  conv => cbv
  refine st_loadS hE' tINd (vs := cN u) rfl (by rw [hq1]; exact hc1) ?_
  obtain ⟨cu, hcu⟩ : ∃ cu, cu = cN u := ⟨_, rfl⟩
  rw [← hcu]
  conv => cbv
  rw [hcv, hcu]
  refine st_f hr (eqNode_f v u hv hu he) fun r w2 hx2 ev => ?_
  subst ev
  rw [← hcv, ← hcu]
  replace hxw := hxw.trans hx2
  refine ⟨hS _ hx2, ?_⟩
  conv => cbv
  refine ⟨hS _ hx2, ?_⟩
  conv => cbv
  simp only [e1]
  exact ⟨(i + 1, z'), by simp [Fits, lk], hI _ _ ⟨by simp only; omega, by simp only; omega, hxw⟩, by simp only; omega⟩
 ·conv => cbv
  rw [hR]; exact ⟨hxw, rfl⟩
theorem eqStmt_f {w : World} (v u : VS) (h : OKS w v) (h1 : OKS w u) (he : v = u) :
  FC Tryz.prog 112 [.agg ⟨cS v⟩, .agg ⟨cS u⟩] w fun r _ => r = .bool true := by
 refine FC.intro (cs := []) Tryz.func112 (by kernel_rfl) fun E R hE hr hR => ?_
 have ei : ∀ z : Int, ¬ E.cmp .neq z z = true := fun z => by rw [hE.cmp]; simp [cmpR]
 have es : ∀ z : ByteArray, ¬ E.scmp .neq z z = true := fun z => by rw [hE.scmp, scmp_neq]; simp
 subst he
 obtain ⟨k, nm, c, g⟩ := v
 clear h h1
 conv => cbv
 refine st_box hr fun a w1 hx ha0 => ?_
 have ha := ha0 _ (n1_ _)
 conv => cbv
 refine st_box hr fun b w2 hx2 hb0 => ?_
 have hb := hb0 _ hx.size
 replace ha := ha.bel hx2
 replace hx := hx.trans hx2
 clear ha0 hb0
 conv => cbv
 (refine st_fld hE fISd0 fun p hp => ?_; (conv => cbv); refine st_load hE cInt (by rw [hp]; exact (ha).at _ _ rfl) ?_; (conv => cbv))
 (refine st_fld hE fISd0 fun p hp => ?_; (conv => cbv); refine st_load hE cInt (by rw [hp]; exact (hb).at _ _ rfl) ?_; (conv => cbv))
 refine br (fun g => absurd g (ei _)) (fun _ => ?_)
 conv => cbv
 (refine st_fld hE fISd1 fun p hp => ?_; (conv => cbv); refine st_load hE cStr (by rw [hp]; exact (ha).at _ _ rfl) ?_; (conv => cbv))
 (refine st_fld hE fISd1 fun p hp => ?_; (conv => cbv); refine st_load hE cStr (by rw [hp]; exact (hb).at _ _ rfl) ?_; (conv => cbv))
 refine br (fun g => absurd g (es _)) (fun _ => ?_)
 conv => cbv
 (refine st_fld hE fISd2 fun p hp => ?_; (conv => cbv); refine st_load hE cInt (by rw [hp]; exact (ha).at _ _ rfl) ?_; (conv => cbv))
 (refine st_fld hE fISd2 fun p hp => ?_; (conv => cbv); refine st_load hE cInt (by rw [hp]; exact (hb).at _ _ rfl) ?_; (conv => cbv))
 refine br (fun g => absurd g (ei _)) (fun _ => ?_)
 conv => cbv
 (refine st_fld hE fISd3 fun p hp => ?_; (conv => cbv); refine st_load hE cInt (by rw [hp]; exact (ha).at _ _ rfl) ?_; (conv => cbv))
 (refine st_fld hE fISd3 fun p hp => ?_; (conv => cbv); refine st_load hE cInt (by rw [hp]; exact (hb).at _ _ rfl) ?_; (conv => cbv))
 refine br (fun g => absurd g (ei _)) (fun _ => ?_)
 conv => cbv
 rw [hR]; exact ⟨hx, rfl⟩
theorem eqStmtS_f {w : World} {A A1 : Option Addr} {n c c1 : Nat} {xs : List PS} (h : RSs w A n xs) (h1 : RSs w A1 n xs) (hn : n ≤ 9223372036854775807) :
  FC Tryz.prog 53 [.slice A n c, .slice A1 n c1] w fun v _ => v = .bool true := by
 refine FC.intro (cs := []) Tryz.func53 (by kernel_rfl) fun E R hE hr hR => ?_
 have ei : ∀ z : Int, ¬ E.cmp .neq z z = true := fun z => by rw [hE.cmp]; simp [cmpR]
 conv => cbv
 refine st_len hE sISd fun x hx => ?_
 conv => cbv
 refine st_len hE sISd fun x' hx' => ?_
 obtain rfl : x = x' := by rw [hx, hx']
 conv => cbv
 refine br (fun g => absurd g (ei _)) (fun _ => ?_)
 conv => cbv
 refine loop_rule hr (fun (s : Nat × Int) w' => s.1 ≤ n ∧ s.2 = (s.1 : Int) ∧ Ext w w') (fun s => [(0, .slice A n c), (1, .slice A1 n c1), (5, .int .i64 s.2)]) (fun s => n - s.1) (0, 0)
  (by simp [Fits, lk]) ⟨by simp, by simp, Ext.refl _⟩ ?_
 rintro I hI ⟨i, z⟩ w' ⟨hi, hz, hxw⟩
 simp only at hi hz
 obtain ⟨z', hz'⟩ : ∃ z', z' = z + 1 := ⟨_, rfl⟩
 conv => cbv
 refine st_len hE sISd fun y hy => ?_
 conv => cbv
 refine br (fun g => ?_) (fun g => ?_)
 ·have g : i < n := by
   have : z < y := by simpa [hE.cmp, cmpR] using g
   omega
  have e1 : E.ar .add .i64 z 1 = z' := by rw [hE.ar, hz']; exact wrap_in (by omega) (by omega)
  conv => cbv
  refine draw_h [0, 1, 2, 3, 4, 5, 6, 7] [(8, false), (9, false)] hr fol (by kernel_rfl) fun E' hE' w0 hs0 S hS => ?_
  replace hxw := hxw.trans hs0.ext
  obtain ⟨a, v, hA, hg, hc, hv⟩ := (h.ext hxw).get g
  obtain ⟨a1, u, hA1, hg1, hc1, hu⟩ := (h1.ext hxw).get g
  have he : v = u := by rw [hg] at hg1; exact Option.some.inj hg1
  conv => cbv
  refine st_idx hE' sISd hA (by omega) (by omega) fun q hq => ?_
  rw [show z.toNat = i by omega] at hq
  conv => cbv
  refine st_loadS hE' tISd (vs := cS v) rfl (by rw [hq]; exact hc) ?_
  obtain ⟨cv, hcv⟩ : ∃ cv, cv = cS v := ⟨_, rfl⟩
  rw [← hcv]
  conv => cbv
  refine st_idx hE' sISd hA1 (by omega) (by omega) fun q1 hq1 => ?_
  rw [show z.toNat = i by omega] at hq1
  conv => cbv
  refine st_loadS hE' tISd (vs := cS u) rfl (by rw [hq1]; exact hc1) ?_
  obtain ⟨cu, hcu⟩ : ∃ cu, cu = cS u := ⟨_, rfl⟩
  rw [← hcu]
  conv => cbv
  rw [hcv, hcu]
  refine st_f hr (eqStmt_f v u hv hu he) fun r w2 hx2 ev => ?_
  subst ev
  rw [← hcv, ← hcu]
  replace hxw := hxw.trans hx2
  refine ⟨hS _ hx2, ?_⟩
  conv => cbv
  refine ⟨hS _ hx2, ?_⟩
  conv => cbv
  simp only [e1]
  exact ⟨(i + 1, z'), by simp [Fits, lk], hI _ _ ⟨by simp only; omega, by simp only; omega, hxw⟩, by simp only; omega⟩
 ·conv => cbv
  rw [hR]; exact ⟨hxw, rfl⟩
abbrev zPol : List Value := [.slice none 0 0, .slice none 0 0]
theorem bulk_len : ∀ xs : List ByteArray, xs.length ≤ bulk xs
 | [] => by simp [bulk]
 | x :: xs => by have := bulk_len xs; rw [bulk, a3_]; omega
theorem wt_b {nv : List PN} (h : wtNs nv ≤ 1048576) : nv.length ≤ 1048576 ∧ (∀ p ∈ nv, p.xs.length ≤ 1048576) ∧ ∀ p ∈ nv, p.ks.length ≤ 1048576 := by
 refine ⟨by have := wtNs_len nv; omega, fun p hp => ?_, fun p hp => ?_⟩
 ·have h1 := wtNs_mem hp; have h2 := bulk_len p.xs; unfold wtN at h1; omega
 ·have h1 := wtNs_mem hp; unfold wtN at h1; omega
def stmtP (last : Bool) (s : PS) : Prop :=
 if s.k = 1 then last = false ∧ ident s.nm ∧ 0 ≤ s.c ∧ s.g = -1
 else if s.k = 2 then last = false ∧ s.nm = ⟨#[]⟩ ∧ 0 ≤ s.c ∧ -1 ≤ s.g
 else if s.k = 3 then last = true ∧ s.nm = ⟨#[]⟩ ∧ s.c = -1 ∧ -1 ≤ s.g
 else False
def rootS (s : PS) : List Int := (if 0 ≤ s.c then [s.c] else []) ++ (if 0 ≤ s.g then [s.g] else [])
def roots (sv : List PS) : List Int := sv.flatMap rootS
def stmtsP (sv : List PS) : Prop := ∀ i s, sv[i]? = some s → stmtP (decide (i + 1 = sv.length)) s
def policyP (ty : Bool) (nv : List PN) (sv : List PS) : Prop :=
 nv.length ≤ 4000 ∧ 1 ≤ sv.length ∧ sv.length ≤ 600 ∧ (∀ p ∈ nv, fieldsP ty p) ∧ stmtsP sv ∧ ∃ ts, IsTs nv 0 nv.length (roots sv) ts ∧ ∀ t ∈ ts, dep t ≤ 64
theorem foldW_append (ns : List PN) (f : Nat) : ∀ (k1 k2 out : List Int), foldW ns f (k1 ++ k2) out = foldW ns f k2 (foldW ns f k1 out)
 | [], k2, out => rfl
 | k :: k1, k2, out => by rw [List.cons_append, foldW, foldW_append ns f k1 k2]; rfl
theorem roots_take {sv : List PS} {i : Nat} {s : PS} (h : sv[i]? = some s) : roots (sv.take (i + 1)) = roots (sv.take i) ++ rootS s := by
 unfold roots; rw [g4_, h, List.flatMap_append]; simp
theorem rg_eq {l : List Int} : (∀ (i : Nat) (z : Int), l[i]? = some z → z = i) → l = rg l.length := by
 intro h
 apply List.ext_getElem?
 intro i
 rcases Nat.lt_or_ge i l.length with hi | hi
 ·have e := h i _ (g2_ hi)
  rw [g2_ hi, e]
  simp [rg, hi]
 ·rw [List.getElem?_eq_none hi, List.getElem?_eq_none (by rw [rg_len]; exact hi)]
theorem l2shape_f {w : World} {A A2 : Option Addr} {n c n2 c2 : Nat} {nv : List PN} {sv : List PS} (h : PolR w A n A2 n2 nv sv) (hn : n ≤ 9223372036854775807) (hn2 : n2 ≤ 9223372036854775807) (ty : Bool) :
  FC Tryz.prog 95 [.slice A n c, .slice A2 n2 c2, .bool ty] w fun v _ => ∃ b : Bool, v = .bool b ∧ (b = true ↔ policyP ty nv sv) := by
 refine FC.intro (cs := []) Tryz.func95 (by kernel_rfl) fun E R hE hr hR => ?_
 have hl := h.nodes.len
 have hl2 := h.stmts.len
 obtain ⟨F, hF⟩ : ∃ F : Nat, F = 4001 := ⟨_, rfl⟩
 have no : ¬ policyP ty nv sv → ∀ w', Ext w w' → R (.bool false) w' := fun h w' hx => by rw [hR]; exact ⟨hx, false, rfl, by simp [h]⟩
 conv => cbv
 refine st_len hE sINd fun x1 hx1 => ?_
 conv => cbv
 refine br (fun g => ?_) (fun g => ?_)
 ·have g : 4000 < x1 := by simpa [hE.cmp, cmpR] using g
  conv => cbv
  exact no (fun q => by have := q.1; omega) _ (Ext.refl _)
 have g1 : n ≤ 4000 := by simp [hE.cmp, cmpR] at g; omega
 clear g
 conv => cbv
 refine st_len hE sISd fun x2 hx2 => ?_
 conv => cbv
 refine br (fun g => ?_) (fun g => ?_)
 ·have g : x2 < 1 := by simpa [hE.cmp, cmpR] using g
  conv => cbv
  exact no (fun q => by have := q.2.1; omega) _ (Ext.refl _)
 have g2 : 1 ≤ n2 := by simp [hE.cmp, cmpR] at g; omega
 clear g
 conv => cbv
 refine st_len hE sISd fun x3 hx3 => ?_
 conv => cbv
 refine br (fun g => ?_) (fun g => ?_)
 ·have g : 600 < x3 := by simpa [hE.cmp, cmpR] using g
  conv => cbv
  exact no (fun q => by have := q.2.2.1; omega) _ (Ext.refl _)
 have g3 : n2 ≤ 600 := by simp [hE.cmp, cmpR] at g; omega
 clear g
 conv => cbv
 refine st_len hE sINd fun x4 hx4 => ?_
 conv => cbv
 refine loop_rule hr (fun (s : Nat × Int) w' => s.1 ≤ n ∧ s.2 = (s.1 : Int) ∧ Ext w w' ∧ ∀ p ∈ nv.take s.1, fieldsP ty p) (fun s => [(0, .slice A n c), (1, .slice A2 n2 c2), (2, .bool ty), (31, .slice A n c), (32, .int .i64 x4), (33, .int .i64 s.2)]) (fun s => n - s.1) (0, 0)
  (by simp [Fits, lk]) ⟨by simp, by simp, Ext.refl _, by simp⟩ ?_
 rintro I hI ⟨i, ii⟩ w' ⟨hi, hii, hx, hall⟩
 simp only at hi hii hall
 obtain ⟨ij, hij⟩ : ∃ z, z = ii + 1 := ⟨_, rfl⟩
 conv => cbv
 refine br (fun g => ?_) (fun g => ?_)
 ·have g : i < n := by
   have : ii < x4 := by simpa [hE.cmp, cmpR] using g
   omega
  have ei : E.ar .add .i64 ii 1 = ij := by rw [hE.ar, hij]; exact wrap_in (by omega) (by omega)
  obtain ⟨a, v, hA, hg, hc, hok⟩ := (h.nodes.ext hx).get g
  conv => cbv
  refine st_idx hE sINd hA (by omega) (by omega) fun q hq => ?_
  rw [show ii.toNat = i by omega] at hq
  conv => cbv
  refine st_loadS hE tINd (vs := cN v) rfl (by rw [hq]; exact hc) ?_
  obtain ⟨cv, hcv⟩ : ∃ cv, cv = cN v := ⟨_, rfl⟩
  have hcl : cv.length = 5 := by rw [hcv]; rfl
  have hc1 : ∀ v ∈ cv, v.oneCell' = true := by rw [hcv]; simp [cN, Value.oneCell']
  rw [← hcv]
  conv => cbv
  refine st_alloc hr tINd rfl fun q2 w2 hx2 hq0 => ?_
  conv => cbv
  refine st_putS hr (by rw [hcl]; kernel_rfl) (hq0 _ hx.size) (add_zero _).symm (by simp [hcl]) hc1 fun w3 hw3 hq3 => ?_
  have hq4 : Box w.heap.size 90 5 w3 q2 cv := by
   have e : zNd.take 0 ++ cv ++ zNd.drop (0 + cv.length) = cv := by rw [hcl]; simp
   rwa [e] at hq3
  have hx3 := hx2.then (hw3.bel (hq0 _ (n1_ _)) hx2.size)
  conv => cbv
  refine st_loadS hE tINd hcl hq4.at ?_
  conv => cbv
  rw [hcv]
  refine st_f hr (l2fields_f v (hok.ext hx3) ty) fun u w4 hx4' ⟨b, ev, hb⟩ => ?_
  subst ev
  have hx4 := (hx.trans hx3).trans hx4'
  conv => cbv
  cases b with
  | false =>
   conv => cbv
   exact no (fun q => absurd (hb.2 (q.2.2.2.1 _ (m1_ hg))) (by simp)) _ hx4
  | true =>
   conv => cbv
   simp only [ei]
   refine ⟨(i + 1, ij), by simp [Fits, lk], hI _ _ ⟨by simp only; omega, by simp only; omega, hx4, fun p hp => ?_⟩, by simp only; omega⟩
   simp only at hp
   rw [g4_, hg] at hp
   rcases List.mem_append.1 hp with hp | hp
   ·exact hall p hp
   ·simp at hp; subst hp; exact hb.1 rfl
 have g : i = n := by
  have : ¬ ii < x4 := by simpa [hE.cmp, cmpR] using g
  omega
 rw [g3_ (by omega)] at hall
 conv => cbv
 clear hI I hij ij hii hi
 have hk3 : ∀ p ∈ nv, p.ks.length ≤ 3 := fun p hp => by have := (hall p hp).1; have := kidsF_le p.o; omega
 refine st_len hE sISd fun x5 hx5 => ?_
 conv => cbv
 refine loop_rulec [22] hr (fun (s : Nat × Int × Option Addr × Nat × Nat) w' => s.1 ≤ n2 ∧ s.2.1 = (s.1 : Int) ∧ Ext w w' ∧ Own w.heap.size 3 1 w' s.2.2.1 s.2.2.2.1 s.2.2.2.2 ((foldW nv F (roots (sv.take s.1)) []).map (.int .i64)) ∧ s.2.2.2.1 ≤ 25000 + 2 * s.1 ∧ ∀ j t, j < s.1 → sv[j]? = some t → stmtP (decide (j + 1 = sv.length)) t)
  (fun s => [(0, .slice A n c), (1, .slice A2 n2 c2), (9, .slice s.2.2.1 s.2.2.2.1 s.2.2.2.2), (42, .slice A2 n2 c2), (43, .int .i64 x5), (44, .int .i64 s.2.1)]) (fun s => n2 - s.1) (0, 0, none, 0, 0)
  (by simp [Fits, lk]) ⟨by simp, by simp, hx, Own.nil, by simp, fun j t h => by simp only at h; omega⟩ ?_
 clear hx
 rintro I hI ⟨i, ii, A5, n5, c5⟩ w' ⟨hi, hii, hx, ho, hn5, hst⟩
 simp only at hi hii ho hn5 hst
 obtain ⟨ij, hij⟩ : ∃ z, z = ii + 1 := ⟨_, rfl⟩
 obtain ⟨im, him⟩ : ∃ z : Int, z = n2 - 1 := ⟨_, rfl⟩
 conv => cbv
 refine br (fun g => ?_) (fun g => ?_)
 ·have g : i < n2 := by
   have : ii < x5 := by simpa [hE.cmp, cmpR] using g
   omega
  have ei : E.ar .add .i64 ii 1 = ij := by rw [hE.ar, hij]; exact wrap_in (by omega) (by omega)
  obtain ⟨a, v, hA, hg, hc, hok⟩ := (h.stmts.ext hx).get g
  obtain ⟨k, nm, cc, gg⟩ := v
  have s_nm := hok.s_nm
  simp only at s_nm
  conv => cbv
  refine st_idx hE sISd hA (by omega) (by omega) fun q hq => ?_
  rw [show ii.toNat = i by omega] at hq
  conv => cbv
  refine st_loadS hE tISd (vs := [.int .i64 k, .string nm, .int .i64 cc, .int .i64 gg]) rfl (by rw [hq]; exact hc) ?_
  conv => cbv
  refine st_alloc hr tISd rfl fun q2 w2 hx2 hq0 => ?_
  conv => cbv
  refine st_putS hr (by kernel_rfl) (hq0 _ hx.size) (add_zero _).symm (by simp) (by simp [Value.oneCell']) fun w3 hw3 hq3 => ?_
  simp only [a1_, a2_, a3_, a4_, a5_, a6_, a7_] at hq3
  have hxy := hx2.then (hw3.bel (hq0 _ (n1_ _)) hx2.size)
  replace hx := hx.trans hxy
  have apq : Apart A5 (some q2) ∧ Apart (some q2) A5 := ho.apart (hq0 _ (n1_ _)) (n1_ _)
  replace ho := ho.bel hxy
  clear hq0 hw3 hx2
  conv => cbv
  refine st_len hE sISd fun x6 hx6 => ?_
  have em : E.ar .sub .i64 x6 1 = im := by rw [hE.ar, show arR .sub .i64 x6 1 = IntKind.i64.wrap (x6 - 1) from rfl, wrap_in (by omega) (by omega)]; omega
  obtain ⟨la, hla⟩ : ∃ la, la = E.cmp .eql ii im := ⟨_, rfl⟩
  have hla2 : la = decide (i + 1 = sv.length) := by rw [hla, hE.cmp, Bool.eq_iff_iff]; simp [cmpR]; omega
  conv => cbv
  simp only [em, ← hla]
  refine cut_rule [] [] hr (fun (s : Bool) w9 => Ext w3 w9 ∧ (s = true ↔ stmtP la ⟨k, nm, cc, gg⟩)) (fun s => [(0, .slice A n c), (1, .slice A2 n2 c2), (9, .slice A5 n5 c5), (11, .pointer (some q2)), (13, .bool s), (42, .slice A2 n2 c2), (43, .int .i64 x5), (44, .int .i64 ii)]) (fun J hJ => ?_) ?_
  ·cases la with
   | true =>
    conv => cbv
    (refine st_fld hE fISd0 fun p hp => ?_; (conv => cbv); refine st_load hE cInt (by rw [hp]; exact (hq3).at _ _ rfl) ?_; (conv => cbv))
    refine br (fun g5 => ?_) (fun g5 => ?_)
    ·have g5 : k = 1 := by simpa [hE.cmp, cmpR] using g5
     conv => cbv
     exact ⟨false, by simp [Fits, lk], hJ _ _ ⟨Ext.refl _, by unfold stmtP; rw [if_pos g5]; simp⟩⟩
    have k1 : k ≠ 1 := by simpa [hE.cmp, cmpR] using g5
    clear g5
    conv => cbv
    refine br (fun g5 => ?_) (fun g5 => ?_)
    ·have g5 : k = 2 := by simpa [hE.cmp, cmpR] using g5
     conv => cbv
     exact ⟨false, by simp [Fits, lk], hJ _ _ ⟨Ext.refl _, by unfold stmtP; rw [if_neg k1, if_pos g5]; simp⟩⟩
    have k2 : k ≠ 2 := by simpa [hE.cmp, cmpR] using g5
    clear g5
    conv => cbv
    refine br (fun g5 => ?_) (fun g5 => ?_)
    ·have g5 : k = 3 := by simpa [hE.cmp, cmpR] using g5
     conv => cbv
     (refine st_fld hE fISd1 fun p hp => ?_; (conv => cbv); refine st_load hE cStr (by rw [hp]; exact (hq3).at _ _ rfl) ?_; (conv => cbv))
     refine br (fun t1 => ?_) (fun t1 => ?_)
     ·have t1 : nm = ⟨#[]⟩ := (scq hE _ _).1 t1
      conv => cbv
      (refine st_fld hE fISd2 fun p hp => ?_; (conv => cbv); refine st_load hE cInt (by rw [hp]; exact (hq3).at _ _ rfl) ?_; (conv => cbv))
      refine br (fun t2 => ?_) (fun t2 => ?_)
      ·have t2 : cc = -1 := by simpa [hE.cmp, cmpR] using t2
       conv => cbv
       (refine st_fld hE fISd3 fun p hp => ?_; (conv => cbv); refine st_load hE cInt (by rw [hp]; exact (hq3).at _ _ rfl) ?_; (conv => cbv))
       obtain ⟨q4, hq4⟩ : ∃ q4, q4 = E.cmp .geq gg (-1) := ⟨_, rfl⟩
       have hq5 : q4 = true ↔ -1 ≤ gg := by rw [hq4, hE.cmp]; simp [cmpR]
       simp only [← hq4]
       exact ⟨q4, by simp [Fits, lk], hJ _ _ ⟨Ext.refl _, by rw [hq5]; unfold stmtP; rw [if_neg k1, if_neg k2, if_pos g5]; simp [t1, t2]⟩⟩
      ·have t2 : ¬ (cc = -1) := by simpa [hE.cmp, cmpR] using t2
       conv => cbv
       exact ⟨false, by simp [Fits, lk], hJ _ _ ⟨Ext.refl _, by unfold stmtP; rw [if_neg k1, if_neg k2, if_pos g5]; simp [t1, t2]⟩⟩
     ·have t1 : nm ≠ ⟨#[]⟩ := fun e => t1 ((scq hE _ _).2 e)
      conv => cbv
      exact ⟨false, by simp [Fits, lk], hJ _ _ ⟨Ext.refl _, by unfold stmtP; rw [if_neg k1, if_neg k2, if_pos g5]; simp [t1]⟩⟩
    have k3 : k ≠ 3 := by simpa [hE.cmp, cmpR] using g5
    clear g5
    conv => cbv
    exact ⟨false, by simp [Fits, lk], hJ _ _ ⟨Ext.refl _, by unfold stmtP; rw [if_neg k1, if_neg k2, if_neg k3]; simp⟩⟩
   | false =>
    conv => cbv
    (refine st_fld hE fISd0 fun p hp => ?_; (conv => cbv); refine st_load hE cInt (by rw [hp]; exact (hq3).at _ _ rfl) ?_; (conv => cbv))
    refine br (fun g5 => ?_) (fun g5 => ?_)
    ·have g5 : k = 1 := by simpa [hE.cmp, cmpR] using g5
     conv => cbv
     (refine st_fld hE fISd1 fun p hp => ?_; (conv => cbv); refine st_load hE cStr (by rw [hp]; exact (hq3).at _ _ rfl) ?_; (conv => cbv))
     refine st_f hr (l2ident_f nm s_nm _) fun u w6 hx6 ⟨b, ev, hbq⟩ => ?_
     subst ev
     have hq6 := hq3.bel hx6
     cases b with
     | false =>
      have hbq : ¬ ident nm := fun q => absurd (hbq.2 q) (by simp)
      conv => cbv
      exact ⟨false, by simp [Fits, lk], hJ _ _ ⟨hx6, by unfold stmtP; rw [if_pos g5]; simp [hbq]⟩⟩
     | true =>
      have hbq := hbq.1 rfl
      conv => cbv
      (refine st_fld hE fISd2 fun p hp => ?_; (conv => cbv); refine st_load hE cInt (by rw [hp]; exact (hq6).at _ _ rfl) ?_; (conv => cbv))
      refine br (fun t2 => ?_) (fun t2 => ?_)
      ·have t2 : 0 ≤ cc := by simpa [hE.cmp, cmpR] using t2
       conv => cbv
       (refine st_fld hE fISd3 fun p hp => ?_; (conv => cbv); refine st_load hE cInt (by rw [hp]; exact (hq6).at _ _ rfl) ?_; (conv => cbv))
       obtain ⟨q4, hq4⟩ : ∃ q4, q4 = E.cmp .eql gg (-1) := ⟨_, rfl⟩
       have hq5 : q4 = true ↔ gg = -1 := by rw [hq4, hE.cmp]; simp [cmpR]
       simp only [← hq4]
       exact ⟨q4, by simp [Fits, lk], hJ _ _ ⟨hx6, by rw [hq5]; unfold stmtP; rw [if_pos g5]; simp [hbq, t2]⟩⟩
      ·have t2 : ¬ (0 ≤ cc) := by simpa [hE.cmp, cmpR] using t2
       conv => cbv
       exact ⟨false, by simp [Fits, lk], hJ _ _ ⟨hx6, by unfold stmtP; rw [if_pos g5]; simp [hbq, t2]⟩⟩
    have k1 : k ≠ 1 := by simpa [hE.cmp, cmpR] using g5
    clear g5
    conv => cbv
    refine br (fun g5 => ?_) (fun g5 => ?_)
    ·have g5 : k = 2 := by simpa [hE.cmp, cmpR] using g5
     conv => cbv
     (refine st_fld hE fISd1 fun p hp => ?_; (conv => cbv); refine st_load hE cStr (by rw [hp]; exact (hq3).at _ _ rfl) ?_; (conv => cbv))
     refine br (fun t1 => ?_) (fun t1 => ?_)
     ·have t1 : nm = ⟨#[]⟩ := (scq hE _ _).1 t1
      conv => cbv
      (refine st_fld hE fISd2 fun p hp => ?_; (conv => cbv); refine st_load hE cInt (by rw [hp]; exact (hq3).at _ _ rfl) ?_; (conv => cbv))
      refine br (fun t2 => ?_) (fun t2 => ?_)
      ·have t2 : 0 ≤ cc := by simpa [hE.cmp, cmpR] using t2
       conv => cbv
       (refine st_fld hE fISd3 fun p hp => ?_; (conv => cbv); refine st_load hE cInt (by rw [hp]; exact (hq3).at _ _ rfl) ?_; (conv => cbv))
       obtain ⟨q4, hq4⟩ : ∃ q4, q4 = E.cmp .geq gg (-1) := ⟨_, rfl⟩
       have hq5 : q4 = true ↔ -1 ≤ gg := by rw [hq4, hE.cmp]; simp [cmpR]
       simp only [← hq4]
       exact ⟨q4, by simp [Fits, lk], hJ _ _ ⟨Ext.refl _, by rw [hq5]; unfold stmtP; rw [if_neg k1, if_pos g5]; simp [t1, t2]⟩⟩
      ·have t2 : ¬ (0 ≤ cc) := by simpa [hE.cmp, cmpR] using t2
       conv => cbv
       exact ⟨false, by simp [Fits, lk], hJ _ _ ⟨Ext.refl _, by unfold stmtP; rw [if_neg k1, if_pos g5]; simp [t1, t2]⟩⟩
     ·have t1 : nm ≠ ⟨#[]⟩ := fun e => t1 ((scq hE _ _).2 e)
      conv => cbv
      exact ⟨false, by simp [Fits, lk], hJ _ _ ⟨Ext.refl _, by unfold stmtP; rw [if_neg k1, if_pos g5]; simp [t1]⟩⟩
    have k2 : k ≠ 2 := by simpa [hE.cmp, cmpR] using g5
    clear g5
    conv => cbv
    refine br (fun g5 => ?_) (fun g5 => ?_)
    ·have g5 : k = 3 := by simpa [hE.cmp, cmpR] using g5
     conv => cbv
     exact ⟨false, by simp [Fits, lk], hJ _ _ ⟨Ext.refl _, by unfold stmtP; rw [if_neg k1, if_neg k2, if_pos g5]; simp⟩⟩
    have k3 : k ≠ 3 := by simpa [hE.cmp, cmpR] using g5
    clear g5
    conv => cbv
    exact ⟨false, by simp [Fits, lk], hJ _ _ ⟨Ext.refl _, by unfold stmtP; rw [if_neg k1, if_neg k2, if_neg k3]; simp⟩⟩
  ·rintro b w9 ⟨hx9, hb⟩
   replace hx := hx.trans hx9
   replace ho := ho.bel hx9
   replace hq3 := hq3.bel hx9
   have hol0 := ho.len
   rw [List.length_map, Nat.mul_one] at hol0
   clear hx9
   cases b with
   | false =>
    have hb : ¬ stmtP la ⟨k, nm, cc, gg⟩ := fun q => absurd (hb.2 q) (by simp)
    conv => cbv
    exact no (fun q => hb (by rw [hla2]; exact q.2.2.2.2.1 i _ hg)) _ hx
   | true =>
    have hb := hb.1 rfl
    conv => cbv
    (refine st_fld hE fISd2 fun p hp => ?_; (conv => cbv); refine st_load hE cInt (by rw [hp]; exact (hq3).at _ _ rfl) ?_; (conv => cbv))
    refine br (fun r1 => ?_) (fun r1 => ?_)
    ·have r1 : 0 ≤ cc := by simpa [hE.cmp, cmpR] using r1
     conv => cbv
     (refine st_fld hE fISd2 fun p hp => ?_; (conv => cbv); refine st_load hE cInt (by rw [hp]; exact (hq3).at _ _ rfl) ?_; (conv => cbv))
     have wl1 := walk_len hk3 F cc (foldW nv F (roots (sv.take i)) [])
     refine st_g hr (l2walk_g h.nodes hk3 g1 F (by omega) cc _ _ _ _ (foldW nv F (roots (sv.take i)) []) (by omega) hx ho (by omega)) fun u ww1 ⟨AX1, nX1, cX1, ev, hxx, hoo, hgro⟩ => ?_
     subst ev
     have hol1 := hoo.len
     rw [List.length_map, Nat.mul_one] at hol1
     clear hx ho
     have hx := hxx
     have ho := hoo
     clear hxx hoo
     have hqq := hq3.wr hgro.wr apq.2
     conv => cbv
     (refine st_fld hE fISd3 fun p hp => ?_; (conv => cbv); refine st_load hE cInt (by rw [hp]; exact (hqq).at _ _ rfl) ?_; (conv => cbv))
     refine br (fun r2 => ?_) (fun r2 => ?_)
     ·have r2 : 0 ≤ gg := by simpa [hE.cmp, cmpR] using r2
      conv => cbv
      (refine st_fld hE fISd3 fun p hp => ?_; (conv => cbv); refine st_load hE cInt (by rw [hp]; exact (hqq).at _ _ rfl) ?_; (conv => cbv))
      have wl2 := walk_len hk3 F gg (walkF nv F cc (foldW nv F (roots (sv.take i)) []))
      refine st_g hr (l2walk_g h.nodes hk3 g1 F (by omega) gg _ _ _ _ (walkF nv F cc (foldW nv F (roots (sv.take i)) [])) (by omega) hx ho (by omega)) fun u ww2 ⟨AX2, nX2, cX2, ev, hxx, hoo, hgro⟩ => ?_
      subst ev
      have hol2 := hoo.len
      rw [List.length_map, Nat.mul_one] at hol2
      clear hx ho
      have hx := hxx
      have ho := hoo
      clear hxx hoo
      conv => cbv
      simp only [ei]
      refine ⟨(i + 1, ij, AX2, nX2, cX2), by simp [Fits, lk], hI _ _ ⟨by simp only; omega, by simp only; omega, hx, ?_, by simp only; omega, fun j t hj ht => ?_⟩, by simp only; omega⟩
      ·simp only
       rw [roots_take hg, foldW_append]
       unfold rootS
       simp only [r1, r2, if_true, if_false, a7_, a2_, foldW]
       exact ho
      ·simp only at hj
       rcases Nat.lt_or_ge j i with e | e
       ·exact hst j t e ht
       ·obtain rfl : j = i := by omega
        rw [hg] at ht; cases ht
        rw [← hla2]; exact hb
     ·have r2 : ¬ 0 ≤ gg := by simpa [hE.cmp, cmpR] using r2
      conv => cbv
      simp only [ei]
      refine ⟨(i + 1, ij, AX1, nX1, cX1), by simp [Fits, lk], hI _ _ ⟨by simp only; omega, by simp only; omega, hx, ?_, by simp only; omega, fun j t hj ht => ?_⟩, by simp only; omega⟩
      ·simp only
       rw [roots_take hg, foldW_append]
       unfold rootS
       simp only [r1, r2, if_true, if_false, a7_, a2_, foldW]
       exact ho
      ·simp only at hj
       rcases Nat.lt_or_ge j i with e | e
       ·exact hst j t e ht
       ·obtain rfl : j = i := by omega
        rw [hg] at ht; cases ht
        rw [← hla2]; exact hb
    ·have r1 : ¬ 0 ≤ cc := by simpa [hE.cmp, cmpR] using r1
     have hqq := hq3
     conv => cbv
     (refine st_fld hE fISd3 fun p hp => ?_; (conv => cbv); refine st_load hE cInt (by rw [hp]; exact (hqq).at _ _ rfl) ?_; (conv => cbv))
     refine br (fun r2 => ?_) (fun r2 => ?_)
     ·have r2 : 0 ≤ gg := by simpa [hE.cmp, cmpR] using r2
      conv => cbv
      (refine st_fld hE fISd3 fun p hp => ?_; (conv => cbv); refine st_load hE cInt (by rw [hp]; exact (hqq).at _ _ rfl) ?_; (conv => cbv))
      have wl2 := walk_len hk3 F gg (foldW nv F (roots (sv.take i)) [])
      refine st_g hr (l2walk_g h.nodes hk3 g1 F (by omega) gg _ _ _ _ (foldW nv F (roots (sv.take i)) []) (by omega) hx ho (by omega)) fun u ww2 ⟨AX2, nX2, cX2, ev, hxx, hoo, hgro⟩ => ?_
      subst ev
      have hol2 := hoo.len
      rw [List.length_map, Nat.mul_one] at hol2
      clear hx ho
      have hx := hxx
      have ho := hoo
      clear hxx hoo
      conv => cbv
      simp only [ei]
      refine ⟨(i + 1, ij, AX2, nX2, cX2), by simp [Fits, lk], hI _ _ ⟨by simp only; omega, by simp only; omega, hx, ?_, by simp only; omega, fun j t hj ht => ?_⟩, by simp only; omega⟩
      ·simp only
       rw [roots_take hg, foldW_append]
       unfold rootS
       simp only [r1, r2, if_true, if_false, a7_, a2_, foldW]
       exact ho
      ·simp only at hj
       rcases Nat.lt_or_ge j i with e | e
       ·exact hst j t e ht
       ·obtain rfl : j = i := by omega
        rw [hg] at ht; cases ht
        rw [← hla2]; exact hb
     ·have r2 : ¬ 0 ≤ gg := by simpa [hE.cmp, cmpR] using r2
      conv => cbv
      simp only [ei]
      refine ⟨(i + 1, ij, A5, n5, c5), by simp [Fits, lk], hI _ _ ⟨by simp only; omega, by simp only; omega, hx, ?_, by simp only; omega, fun j t hj ht => ?_⟩, by simp only; omega⟩
      ·simp only
       rw [roots_take hg, foldW_append]
       unfold rootS
       simp only [r1, r2, if_true, if_false, a7_, a2_, foldW]
       exact ho
      ·simp only at hj
       rcases Nat.lt_or_ge j i with e | e
       ·exact hst j t e ht
       ·obtain rfl : j = i := by omega
        rw [hg] at ht; cases ht
        rw [← hla2]; exact hb
 have g : i = n2 := by
  have : ¬ ii < x5 := by simpa [hE.cmp, cmpR] using g
  omega
 subst g
 rw [g3_ (by omega)] at ho
 have hol0 := ho.len
 rw [List.length_map, Nat.mul_one] at hol0
 have hst2 : stmtsP sv := fun j t ht => hst j t (by have := (List.getElem?_eq_some_iff.1 ht).1; omega) ht
 obtain ⟨L, hL⟩ : ∃ L, L = foldW nv F (roots sv) [] := ⟨_, rfl⟩
 rw [← hL] at ho hol0
 have hkk : ∀ p ∈ nv, (p.ks.length : Int) = kidsF p.o := fun p hp => (hall p hp).1
 have toL : (∃ ts, IsTs nv 0 nv.length (roots sv) ts ∧ ∀ t ∈ ts, dep t ≤ 64) → L = rg nv.length := by
  rintro ⟨ts, h1, _⟩
  rw [hL]
  exact walk_of h1 (n1_ _) F fun k hk => by have := (h1.roots k hk).2; omega
 conv => cbv
 clear hI I hij ij him im
 refine st_len hE tInts fun x7 hx7 => ?_
 conv => cbv
 refine st_len hE sINd fun x8 hx8 => ?_
 conv => cbv
 refine br (fun g => ?_) (fun g => ?_)
 ·have g : x7 ≠ x8 := by simpa [hE.cmp, cmpR] using g
  conv => cbv
  exact no (fun q => g (by have := toL q.2.2.2.2.2; rw [this, rg_len] at hol0; omega)) _ hx
 have g : x7 = x8 := by simpa [hE.cmp, cmpR] using g
 have hLn : L.length = nv.length := by omega
 conv => cbv
 refine st_len hE tInts fun x9 hx9 => ?_
 conv => cbv
 refine loop_rule hr (fun (s : Nat × Int) w2 => s.1 ≤ n5 ∧ s.2 = (s.1 : Int) ∧ w2 = w' ∧ ∀ j z, j < s.1 → L[j]? = some z → z = j)
  (fun s => [(0, .slice A n c), (1, .slice A2 i c2), (136, .slice A5 n5 c5), (137, .int .i64 x9), (138, .int .i64 s.2)]) (fun s => n5 - s.1) (0, 0)
  (by simp [Fits, lk]) ⟨by simp, by simp, rfl, fun j z h => by simp only at h; omega⟩ ?_
 rintro I hI ⟨j, jj⟩ w2 ⟨hj, hjj, hw2, hlj⟩
 simp only at hj hjj hlj
 subst hw2
 obtain ⟨jk, hjk⟩ : ∃ z, z = jj + 1 := ⟨_, rfl⟩
 conv => cbv
 refine br (fun g4 => ?_) (fun g4 => ?_)
 ·have g4 : j < n5 := by
   have : jj < x9 := by simpa [hE.cmp, cmpR] using g4
   omega
  have ej : E.ar .add .i64 jj 1 = jk := by rw [hE.ar, hjk]; exact wrap_in (by omega) (by omega)
  conv => cbv
  refine st_int hE tInts ho.ints (k := j) (by omega) g4 fun p u hu hp => ?_
  conv => cbv
  refine st_load hE cInt hp ?_
  conv => cbv
  refine br (fun g5 => ?_) (fun g5 => ?_)
  ·have g5 : jj ≠ u := by simpa [hE.cmp, cmpR] using g5
   conv => cbv
   exact no (fun q => g5 (by have := toL q.2.2.2.2.2; rw [this] at hu; have := (rg_get hu).1; omega)) _ hx
  ·have g5 : jj = u := by simpa [hE.cmp, cmpR] using g5
   conv => cbv
   simp only [ej]
   refine ⟨(j + 1, jk), by simp [Fits, lk], hI _ _ ⟨by simp only; omega, by simp only; omega, rfl, fun q z h1 h2 => ?_⟩, by simp only; omega⟩
   simp only at h1
   rcases Nat.lt_or_ge q j with e | e
   ·exact hlj q z e h2
   ·obtain rfl : q = j := by omega
    rw [hu] at h2; cases h2; omega
 have g4 : j = n5 := by
  have : ¬ jj < x9 := by simpa [hE.cmp, cmpR] using g4
  omega
 have hLr : L = rg nv.length := by
  have := rg_eq (l := L) fun q z hq => hlj q z (by have := (List.getElem?_eq_some_iff.1 hq).1; omega) hq
  rw [hLn] at this; exact this
 obtain ⟨b0, ts, hb0, hts⟩ := walk_conv hkk (M := nv.length) F (roots sv) 0 (by rw [show rg 0 = [] from rfl, ← hL, hLr]; exact List.prefix_refl _)
 have eb : b0 = nv.length := by
  have := congrArg List.length hb0
  rw [rg_len, show rg 0 = [] from rfl, ← hL] at this; omega
 subst eb
 conv => cbv
 clear hI I hjk jk hlj hj hjj g4
 refine st_len hE sISd fun x10 hx10 => ?_
 conv => cbv
 refine loop_rule hr (fun (s : Nat × Int) w2 => s.1 ≤ i ∧ s.2 = (s.1 : Int) ∧ Ext w w2 ∧ ∀ j z, j < s.1 → sv[j]? = some z → ∀ k ∈ rootS z, ∀ a b t, IsTs nv a b [k] [t] → dep t ≤ 64)
  (fun s => [(0, .slice A n c), (147, .slice A2 i c2), (148, .int .i64 x10), (149, .int .i64 s.2)]) (fun s => i - s.1) (0, 0)
  (by simp [Fits, lk]) ⟨by simp, by simp, hx, fun j z h => by simp only at h; omega⟩ ?_
 clear hx ho
 rintro I hI ⟨j, jj⟩ w2 ⟨hj, hjj, hx, hdj⟩
 simp only at hj hjj hdj
 obtain ⟨jk, hjk⟩ : ∃ z, z = jj + 1 := ⟨_, rfl⟩
 conv => cbv
 refine br (fun g4 => ?_) (fun g4 => ?_)
 ·have g4 : j < i := by
   have : jj < x10 := by simpa [hE.cmp, cmpR] using g4
   omega
  have ej : E.ar .add .i64 jj 1 = jk := by rw [hE.ar, hjk]; exact wrap_in (by omega) (by omega)
  obtain ⟨a, v, hA, hg, hc, hok⟩ := (h.stmts.ext hx).get g4
  obtain ⟨k, nm, cc, gg⟩ := v
  have hin : ∀ k ∈ rootS ⟨k, nm, cc, gg⟩, k ∈ roots sv := fun k hk => List.mem_flatMap.2 ⟨_, m1_ hg, hk⟩
  have tr : ∀ q : Int, q ∈ roots sv → ∃ (qn : Nat) (a b : Nat) (t : Tr), q = qn ∧ IsTs nv a b [(qn : Int)] [t] ∧ t ∈ ts := fun q hq => by
   obtain ⟨m, hm⟩ := List.mem_iff_getElem?.1 hq
   obtain ⟨t, a', b', h1, h2⟩ := hts.at hm
   have h3 := (hts.roots q hq).1
   exact ⟨q.toNat, a', b', t, by omega, by rw [show ((q.toNat : Nat) : Int) = q by omega]; exact h2, m1_ h1⟩
  conv => cbv
  refine st_idx hE sISd hA (by omega) (by omega) fun q hq => ?_
  rw [show jj.toNat = j by omega] at hq
  conv => cbv
  refine st_loadS hE tISd (vs := [.int .i64 k, .string nm, .int .i64 cc, .int .i64 gg]) rfl (by rw [hq]; exact hc) ?_
  conv => cbv
  refine st_alloc hr tISd rfl fun q2 w3 hx3 hq0 => ?_
  conv => cbv
  refine st_putS hr (by kernel_rfl) (hq0 _ hx.size) (add_zero _).symm (by simp) (by simp [Value.oneCell']) fun w4 hw4 hq3 => ?_
  simp only [a1_, a2_, a3_, a4_, a5_, a6_, a7_] at hq3
  replace hx := hx.trans (hx3.then (hw4.bel (hq0 _ (n1_ _)) hx3.size))
  clear hq0 hw4 hx3 hq hc hok
  have bad : ∀ q : Int, q ∈ rootS ⟨k, nm, cc, gg⟩ → ∀ t ∈ ts, 64 < dep t → ∀ w', Ext w w' → R (.bool false) w' := fun q hq t ht hd => no fun p => by
   obtain ⟨ts', h1, h2⟩ := p.2.2.2.2.2
   have := hts.uniqT h1
   rw [← this] at h2
   have := h2 t ht; omega
  have go : (∀ q ∈ rootS ⟨k, nm, cc, gg⟩, ∀ a b t, IsTs nv a b [q] [t] → dep t ≤ 64) → ∀ w2, Ext w w2 → I (j + 1, jk) w2 := fun hd w2 h2 => hI _ _ ⟨by simp only; omega, by simp only; omega, h2, fun q z h1 h3 => by
   simp only at h1
   rcases Nat.lt_or_ge q j with e | e
   ·exact hdj q z e h3
   ·obtain rfl : q = j := by omega
    rw [hg] at h3; cases h3; exact hd⟩
  conv => cbv
  (refine st_fld hE fISd2 fun p hp => ?_; (conv => cbv); refine st_load hE cInt (by rw [hp]; exact (hq3).at _ _ rfl) ?_; (conv => cbv))
  refine br (fun m2 => ?_) (fun m2 => ?_)
  ·have m2 : 0 ≤ cc := by simpa [hE.cmp, cmpR] using m2
   obtain ⟨qn2, qa2, qb2, t2, qe2, qt2, qm2⟩ := tr cc (hin cc (by unfold rootS; simp [m2]))
   conv => cbv
   (refine st_fld hE fISd2 fun p hp => ?_; (conv => cbv); refine st_load hE cInt (by rw [hp]; exact (hq3).at _ _ rfl) ?_; (conv => cbv))
   rw [qe2]
   refine st_qi hE (l2depth_q (h.nodes.ext hx) g1 qn2 qa2 qb2 t2 qt2) fun d2 hd2 ww2 hss2 => ?_
   have hx2 := hx.trans hss2.ext
   have hq3 := hq3.bel hss2.ext
   rw [← qe2]
   conv => cbv
   refine br (fun u2 => ?_) (fun u2 => ?_)
   ·have u2 : 64 < d2 := by simpa [hE.cmp, cmpR] using u2
    conv => cbv
    exact bad cc (by unfold rootS; simp [m2]) t2 qm2 (by omega) _ hx2
   have u2 : ¬ 64 < d2 := by simpa [hE.cmp, cmpR] using u2
   have dd2 : ∀ a b t, IsTs nv a b [cc] [t] → dep t ≤ 64 := fun a b t ht => by
    rw [qe2] at ht
    have := qt2.uniqT ht
    simp at this
    rw [← this]; omega
   conv => cbv
   (refine st_fld hE fISd3 fun p hp => ?_; (conv => cbv); refine st_load hE cInt (by rw [hp]; exact (hq3).at _ _ rfl) ?_; (conv => cbv))
   refine br (fun m3 => ?_) (fun m3 => ?_)
   ·have m3 : 0 ≤ gg := by simpa [hE.cmp, cmpR] using m3
    obtain ⟨qn3, qa3, qb3, t3, qe3, qt3, qm3⟩ := tr gg (hin gg (by unfold rootS; simp [m3]))
    conv => cbv
    (refine st_fld hE fISd3 fun p hp => ?_; (conv => cbv); refine st_load hE cInt (by rw [hp]; exact (hq3).at _ _ rfl) ?_; (conv => cbv))
    rw [qe3]
    refine st_qi hE (l2depth_q (h.nodes.ext hx2) g1 qn3 qa3 qb3 t3 qt3) fun d3 hd3 ww3 hss3 => ?_
    have hx3 := hx2.trans hss3.ext
    have hq3 := hq3.bel hss3.ext
    rw [← qe3]
    conv => cbv
    refine br (fun u3 => ?_) (fun u3 => ?_)
    ·have u3 : 64 < d3 := by simpa [hE.cmp, cmpR] using u3
     conv => cbv
     exact bad gg (by unfold rootS; simp [m3]) t3 qm3 (by omega) _ hx3
    have u3 : ¬ 64 < d3 := by simpa [hE.cmp, cmpR] using u3
    have dd3 : ∀ a b t, IsTs nv a b [gg] [t] → dep t ≤ 64 := fun a b t ht => by
     rw [qe3] at ht
     have := qt3.uniqT ht
     simp at this
     rw [← this]; omega
    conv => cbv
    simp only [ej]
    refine ⟨(j + 1, jk), by simp [Fits, lk], go (fun q hq => ?_) _ hx3, by simp only; omega⟩
    unfold rootS at hq
    simp only [m2, m3, if_true, List.mem_append, List.mem_singleton] at hq
    rcases hq with rfl | rfl
    ·exact dd2
    ·exact dd3
   ·have m3 : ¬ 0 ≤ gg := by simpa [hE.cmp, cmpR] using m3
    conv => cbv
    simp only [ej]
    refine ⟨(j + 1, jk), by simp [Fits, lk], go (fun q hq => ?_) _ hx2, by simp only; omega⟩
    unfold rootS at hq
    simp only [m2, m3, if_true, if_false, a7_, List.mem_singleton] at hq
    subst hq
    exact dd2
  ·have m2 : ¬ 0 ≤ cc := by simpa [hE.cmp, cmpR] using m2
   conv => cbv
   (refine st_fld hE fISd3 fun p hp => ?_; (conv => cbv); refine st_load hE cInt (by rw [hp]; exact (hq3).at _ _ rfl) ?_; (conv => cbv))
   refine br (fun m3 => ?_) (fun m3 => ?_)
   ·have m3 : 0 ≤ gg := by simpa [hE.cmp, cmpR] using m3
    obtain ⟨qn3, qa3, qb3, t3, qe3, qt3, qm3⟩ := tr gg (hin gg (by unfold rootS; simp [m3]))
    conv => cbv
    (refine st_fld hE fISd3 fun p hp => ?_; (conv => cbv); refine st_load hE cInt (by rw [hp]; exact (hq3).at _ _ rfl) ?_; (conv => cbv))
    rw [qe3]
    refine st_qi hE (l2depth_q (h.nodes.ext hx) g1 qn3 qa3 qb3 t3 qt3) fun d3 hd3 ww3 hss3 => ?_
    have hx3 := hx.trans hss3.ext
    have hq3 := hq3.bel hss3.ext
    rw [← qe3]
    conv => cbv
    refine br (fun u3 => ?_) (fun u3 => ?_)
    ·have u3 : 64 < d3 := by simpa [hE.cmp, cmpR] using u3
     conv => cbv
     exact bad gg (by unfold rootS; simp [m3]) t3 qm3 (by omega) _ hx3
    have u3 : ¬ 64 < d3 := by simpa [hE.cmp, cmpR] using u3
    have dd3 : ∀ a b t, IsTs nv a b [gg] [t] → dep t ≤ 64 := fun a b t ht => by
     rw [qe3] at ht
     have := qt3.uniqT ht
     simp at this
     rw [← this]; omega
    conv => cbv
    simp only [ej]
    refine ⟨(j + 1, jk), by simp [Fits, lk], go (fun q hq => ?_) _ hx3, by simp only; omega⟩
    unfold rootS at hq
    simp only [m2, m3, if_true, if_false, a2_, List.mem_singleton] at hq
    subst hq
    exact dd3
   ·have m3 : ¬ 0 ≤ gg := by simpa [hE.cmp, cmpR] using m3
    conv => cbv
    simp only [ej]
    refine ⟨(j + 1, jk), by simp [Fits, lk], go (fun q hq => ?_) _ hx, by simp only; omega⟩
    unfold rootS at hq
    simp only [m2, m3, if_false, a7_, List.not_mem_nil] at hq
 have g4 : j = i := by
  have : ¬ jj < x10 := by simpa [hE.cmp, cmpR] using g4
  omega
 conv => cbv
 rw [hR]; refine ⟨hx, true, rfl, fun _ => ⟨by omega, by omega, by omega, hall, hst2, ts, hts, fun t ht => ?_⟩, fun _ => rfl⟩
 obtain ⟨q, hq, a', b', ht'⟩ := hts.of_mem ht
 obtain ⟨z, hz1, hz2⟩ := List.mem_flatMap.1 hq
 obtain ⟨m, hm⟩ := List.mem_iff_getElem?.1 hz1
 exact hdj m z (by have := (List.getElem?_eq_some_iff.1 hm).1; omega) hm q hz2 a' b' t ht'
def posF : List ByteArray → ByteArray → Option Nat
 | [], _ => none
 | x :: l, s => if x = s then some 0 else (posF l s).map (· + 1)
def posI (l : List ByteArray) (s : ByteArray) : Int := match posF l s with | none => -1 | some i => i
theorem posF_none : ∀ {l : List ByteArray} {s : ByteArray}, s ∉ l → posF l s = none
 | [], s, _ => rfl
 | x :: l, s, h => by
  rw [posF, if_neg (fun e => h (by simp [e])), posF_none fun q => h (by simp [q])]; rfl
theorem posF_some : ∀ {l : List ByteArray} {s : ByteArray} {k : Nat}, s ∉ l.take k → l[k]? = some s → posF l s = some k
 | [], s, k, _, h => by simp at h
 | x :: l, s, 0, _, h => by simp at h; rw [posF, if_pos h]
 | x :: l, s, k + 1, h1, h => by
  rw [posF, if_neg (fun e => h1 (by simp [e])), posF_some (k := k) (fun q => h1 (by simp [q])) (by simpa using h)]; rfl
theorem posF_lt : ∀ {l : List ByteArray} {s : ByteArray} {k : Nat}, posF l s = some k → l[k]? = some s
 | [], s, k, h => by cases h
 | x :: l, s, k, h => by
  rw [posF] at h
  split at h
  ·rename_i e; cases h; simp [e]
  ·obtain ⟨j, hj, rfl⟩ := Option.map_eq_some_iff.1 h
   simpa using posF_lt hj
theorem posI_ge {l : List ByteArray} {s : ByteArray} : 0 ≤ posI l s ↔ (posF l s).isSome = true := by
 unfold posI; cases posF l s with
 | none => simp
 | some k => simp
def attrs : List ByteArray := [⟨⟨[99, 108, 105, 101, 110, 116]⟩⟩, ⟨⟨[117, 115, 101, 114]⟩⟩, ⟨⟨[108, 101, 118, 101, 108]⟩⟩, ⟨⟨[110, 111, 119]⟩⟩, ⟨⟨[97, 115, 107, 101, 100]⟩⟩, ⟨⟨[97, 103, 114, 101, 101, 100]⟩⟩]
theorem attrs_small : ∀ s ∈ attrs, s.size ≤ 9223372036854775807 := by
 have h : ∀ s ∈ attrs, s.size ≤ 6 := by decide
 exact fun s hs => by have := h s hs; omega
def typG (o : Int) (ts : List Int) : Int :=
 if o = 25 ∨ o = 26 then (if allT 1 ts = true then 1 else 0)
 else if o = 27 then (if ts[0]? = some 1 ∧ ts[1]? = ts[2]? then ts.getD 1 0 else 0)
 else typF o ts
def rowF (o : Int) : List Int × Int :=
 if o = 1 then ([], 2) else if o = 2 then ([], 3) else if o = 3 then ([], 1) else if o = 4 then ([], 4)
 else if o = 8 then ([2], 2) else if o = 9 then ([1], 1) else if o = 10 then ([4], 2)
 else if 11 ≤ o ∧ o ≤ 15 then ([2, 2], 2) else if 16 ≤ o ∧ o ≤ 18 then ([4, 4], 4)
 else if o = 19 ∨ o = 20 then ([0, 0], 1) else if o = 21 ∨ o = 22 then ([2, 2], 1)
 else if o = 23 then ([3, 4], 1) else if o = 24 then ([4, 4], 1) else if o = 25 ∨ o = 26 then ([1, 1], 1)
 else ([1, 0, 0], 0)
def wantM : List Int → List Int → Int → Option Int
 | [], _, any => some any
 | w :: ws, ks, any =>
  let any' := if w = 0 then (if any = 0 then ks.headD 0 else any) else any
  let w' := if w = 0 then any' else w
  if ks.headD 0 ≠ w' then none else wantM ws ks.tail any'
def typR (o : Int) (ks : List Int) : Int := match wantM (rowF o).1 ks 0 with | none => 0 | some any => if (rowF o).2 = 0 then any else (rowF o).2
theorem typR_leaf {o : Int} (h : 1 ≤ o ∧ o ≤ 4) : typR o [] = knd o := by
 have : o = 1 ∨ o = 2 ∨ o = 3 ∨ o = 4 := by omega
 rcases this with rfl | rfl | rfl | rfl <;> rfl
theorem rowLen {o : Int} (h1 : 1 ≤ kidsF o) : ((rowF o).1.length : Int) = kidsF o := by
 have hr : 8 ≤ o ∧ o ≤ 27 := by unfold kidsF at h1; (repeat' split at h1) <;> omega
 have : o = 8 ∨ o = 9 ∨ o = 10 ∨ o = 11 ∨ o = 12 ∨ o = 13 ∨ o = 14 ∨ o = 15 ∨ o = 16 ∨ o = 17 ∨ o = 18 ∨ o = 19 ∨ o = 20 ∨ o = 21 ∨ o = 22 ∨ o = 23 ∨ o = 24 ∨ o = 25 ∨ o = 26 ∨ o = 27 := by omega
 rcases this with rfl | rfl | rfl | rfl | rfl | rfl | rfl | rfl | rfl | rfl | rfl | rfl | rfl | rfl | rfl | rfl | rfl | rfl | rfl | rfl <;> rfl
theorem typR_eq {o : Int} {ks : List Int} (hk : (ks.length : Int) = kidsF o) (h1 : 1 ≤ kidsF o) (hz : ∀ k ∈ ks, k ≠ 0) : typR o ks = typG o ks := by
 have hr : 8 ≤ o ∧ o ≤ 27 := by unfold kidsF at h1; (repeat' split at h1) <;> omega
 have : o = 8 ∨ o = 9 ∨ o = 10 ∨ o = 11 ∨ o = 12 ∨ o = 13 ∨ o = 14 ∨ o = 15 ∨ o = 16 ∨ o = 17 ∨ o = 18 ∨ o = 19 ∨ o = 20 ∨ o = 21 ∨ o = 22 ∨ o = 23 ∨ o = 24 ∨ o = 25 ∨ o = 26 ∨ o = 27 := by omega
 have hl : ks.length = 1 ∨ ks.length = 2 ∨ ks.length = 3 := by
  have : kidsF o ≤ 3 := kidsF_le o
  omega
 have h3 : (∃ a, ks = [a]) ∨ (∃ a b, ks = [a, b]) ∨ ∃ a b c, ks = [a, b, c] := by
  match ks, hl with
  | [a], _ => exact .inl ⟨a, rfl⟩
  | [a, b], _ => exact .inr (.inl ⟨a, b, rfl⟩)
  | [a, b, c], _ => exact .inr (.inr ⟨a, b, c, rfl⟩)
 rcases this with rfl | rfl | rfl | rfl | rfl | rfl | rfl | rfl | rfl | rfl | rfl | rfl | rfl | rfl | rfl | rfl | rfl | rfl | rfl | rfl <;>
  rcases h3 with ⟨a, rfl⟩ | ⟨a, b, rfl⟩ | ⟨a, b, c, rfl⟩ <;> simp [kidsF] at hk <;> simp at hz <;>
  simp [typR, rowF, wantM, typG, typF, allT, hz] <;> (repeat' split) <;> simp_all <;> omega
theorem l3attr_f (s : ByteArray) (w : World) : FC Tryz.prog 44 [.string s] w fun v _ => v = .int .i64 (posI attrs s) := by
 refine FC.intro (cs := []) Tryz.func44 (by kernel_rfl) fun E R hE hr hR => ?_
 conv => cbv
 refine st_lits hr tStrs rfl (vs := attrs.map .string) (m := 6) rfl (by omega) (by omega) rfl (by simp [attrs, Value.cells]) fun A w1 hx ho => ?_
 have hS : Strs w1 A 6 6 attrs := Own.strs (ho _ (n1_ _)) attrs_small
 conv => cbv
 refine st_len hE tStrs fun x hx2 => ?_
 conv => cbv
 refine loop_rule hr (fun (t : Nat × Int) w' => Same w1 w' ∧ t.2 = (t.1 : Int) ∧ t.1 ≤ 6 ∧ s ∉ attrs.take t.1) (fun t => [(0, .string s), (5, .slice A 6 6), (6, .int .i64 x), (7, .int .i64 t.2)]) (fun t => 6 - t.1) (0, 0)
  (by simp [Fits, lk]) ⟨Same.refl _, rfl, by omega, by simp⟩ ?_
 rintro I hI ⟨k, kk⟩ w' ⟨hs', hkk, hk2, hall⟩
 simp only at hkk hk2 hall
 obtain ⟨kj, hkj⟩ : ∃ z, z = kk + 1 := ⟨_, rfl⟩
 conv => cbv
 refine br (fun g => ?_) (fun g => ?_)
 ·have g : k < 6 := by
   have : kk < x := by simpa [hE.cmp, cmpR] using g
   omega
  have ek : E.ar .add .i64 kk 1 = kj := by rw [hE.ar, hkj]; exact wrap_in (by omega) (by omega)
  conv => cbv
  refine st_str hE tStrs (hS.same hs') (k := k) hkk g fun p u hu _ hp => ?_
  conv => cbv
  refine st_load hE cStr hp ?_
  conv => cbv
  refine br (fun g2 => ?_) (fun g2 => ?_)
  ·have g2 : u = s := (scq hE _ _).1 g2
   conv => cbv
   rw [hR]; exact ⟨hx.trans hs'.ext, by unfold posI; rw [posF_some hall (by rw [hu, g2])]; rw [hkk]; rfl⟩
  ·have g2 : u ≠ s := fun e => g2 ((scq hE _ _).2 e)
   conv => cbv
   simp only [ek]
   refine ⟨(k + 1, kj), by simp [Fits, lk], hI _ _ ⟨hs', by simp only; omega, by simp only; omega, ?_⟩, by simp only; omega⟩
   simp only
   rw [g4_, hu, List.mem_append]
   rintro (q | q)
   ·exact hall q
   ·simp at q; exact g2 q.symm
 ·have g : k = 6 := by
   have : ¬ kk < x := by simpa [hE.cmp, cmpR] using g
   omega
  subst g
  rw [g3_ (by decide)] at hall
  conv => cbv
  rw [hR]; exact ⟨hx.trans hs'.ext, by unfold posI; rw [posF_none hall]; rfl⟩
theorem l3row_f (o : Int) (w : World) : FC Tryz.prog 247 [.int .i64 o] w fun v w' => ∃ A n c, v = .tuple ⟨[.slice A n c, .int .i64 (rowF o).2]⟩ ∧ Ints w' A n c (rowF o).1 := by
 refine FC.intro (cs := []) Tryz.func247 (by kernel_rfl) fun E R hE hr hR => ?_
 conv => cbv
 refine br (fun g => ?_) (fun g => ?_)
 ·have g : o = 1 := by simpa [hE.cmp, cmpR] using g
  conv => cbv
  rw [hR]; exact ⟨Ext.refl _, none, 0, 0, by rw [g]; rfl, by rw [g]; exact ints_nil _⟩
 have g1 : o ≠ 1 := by simpa [hE.cmp, cmpR] using g
 clear g
 conv => cbv
 refine br (fun g => ?_) (fun g => ?_)
 ·have g : o = 2 := by simpa [hE.cmp, cmpR] using g
  conv => cbv
  rw [hR]; exact ⟨Ext.refl _, none, 0, 0, by rw [g]; rfl, by rw [g]; exact ints_nil _⟩
 have g2 : o ≠ 2 := by simpa [hE.cmp, cmpR] using g
 clear g
 conv => cbv
 refine br (fun g => ?_) (fun g => ?_)
 ·have g : o = 3 := by simpa [hE.cmp, cmpR] using g
  conv => cbv
  rw [hR]; exact ⟨Ext.refl _, none, 0, 0, by rw [g]; rfl, by rw [g]; exact ints_nil _⟩
 have g3 : o ≠ 3 := by simpa [hE.cmp, cmpR] using g
 clear g
 conv => cbv
 refine br (fun g => ?_) (fun g => ?_)
 ·have g : o = 4 := by simpa [hE.cmp, cmpR] using g
  conv => cbv
  rw [hR]; exact ⟨Ext.refl _, none, 0, 0, by rw [g]; rfl, by rw [g]; exact ints_nil _⟩
 have g4 : o ≠ 4 := by simpa [hE.cmp, cmpR] using g
 clear g
 conv => cbv
 refine br (fun g => ?_) (fun g => ?_)
 ·have g : o = 8 := by simpa [hE.cmp, cmpR] using g
  conv => cbv
  refine st_lits hr tInts rfl (vs := [.int .i64 2]) (m := 1) rfl (by omega) (by omega) rfl (by simp [Value.cells]) fun A w1 hx ho => ?_
  conv => cbv
  rw [hR]; exact ⟨hx, A, 1, 1, by rw [g]; rfl, by rw [g]; exact Own.ints (zs := [2]) (ho _ (n1_ _))⟩
 have g8 : o ≠ 8 := by simpa [hE.cmp, cmpR] using g
 clear g
 conv => cbv
 refine br (fun g => ?_) (fun g => ?_)
 ·have g : o = 9 := by simpa [hE.cmp, cmpR] using g
  conv => cbv
  refine st_lits hr tInts rfl (vs := [.int .i64 1]) (m := 1) rfl (by omega) (by omega) rfl (by simp [Value.cells]) fun A w1 hx ho => ?_
  conv => cbv
  rw [hR]; exact ⟨hx, A, 1, 1, by rw [g]; rfl, by rw [g]; exact Own.ints (zs := [1]) (ho _ (n1_ _))⟩
 have g9 : o ≠ 9 := by simpa [hE.cmp, cmpR] using g
 clear g
 conv => cbv
 refine br (fun g => ?_) (fun g => ?_)
 ·have g : o = 10 := by simpa [hE.cmp, cmpR] using g
  conv => cbv
  refine st_lits hr tInts rfl (vs := [.int .i64 4]) (m := 1) rfl (by omega) (by omega) rfl (by simp [Value.cells]) fun A w1 hx ho => ?_
  conv => cbv
  rw [hR]; exact ⟨hx, A, 1, 1, by rw [g]; rfl, by rw [g]; exact Own.ints (zs := [4]) (ho _ (n1_ _))⟩
 have g10 : o ≠ 10 := by simpa [hE.cmp, cmpR] using g
 clear g
 conv => cbv
 refine br (fun g => ?_) (fun g => ?_)
 ·have g0 := g
  have g : o = 11 := by simpa [hE.cmp, cmpR] using g
  conv => cbv
  refine br (fun _ => ?_) (fun q => absurd g0 q)
  conv => cbv
  refine st_lits hr tInts rfl (vs := [.int .i64 2, .int .i64 2]) (m := 2) rfl (by omega) (by omega) rfl (by simp [Value.cells]) fun A w1 hx ho => ?_
  conv => cbv
  rw [hR]; exact ⟨hx, A, 2, 2, by rw [g]; rfl, by rw [g]; exact Own.ints (zs := [2, 2]) (ho _ (n1_ _))⟩
 have g11 : o ≠ 11 := by simpa [hE.cmp, cmpR] using g
 clear g
 conv => cbv
 refine br (fun g => ?_) (fun g => ?_)
 ·have g0 := g
  have g : o = 12 := by simpa [hE.cmp, cmpR] using g
  conv => cbv
  refine br (fun _ => ?_) (fun q => absurd g0 q)
  conv => cbv
  refine st_lits hr tInts rfl (vs := [.int .i64 2, .int .i64 2]) (m := 2) rfl (by omega) (by omega) rfl (by simp [Value.cells]) fun A w1 hx ho => ?_
  conv => cbv
  rw [hR]; exact ⟨hx, A, 2, 2, by rw [g]; rfl, by rw [g]; exact Own.ints (zs := [2, 2]) (ho _ (n1_ _))⟩
 have g12 : o ≠ 12 := by simpa [hE.cmp, cmpR] using g
 clear g
 conv => cbv
 refine br (fun g => ?_) (fun g => ?_)
 ·have g0 := g
  have g : o = 13 := by simpa [hE.cmp, cmpR] using g
  conv => cbv
  refine br (fun _ => ?_) (fun q => absurd g0 q)
  conv => cbv
  refine st_lits hr tInts rfl (vs := [.int .i64 2, .int .i64 2]) (m := 2) rfl (by omega) (by omega) rfl (by simp [Value.cells]) fun A w1 hx ho => ?_
  conv => cbv
  rw [hR]; exact ⟨hx, A, 2, 2, by rw [g]; rfl, by rw [g]; exact Own.ints (zs := [2, 2]) (ho _ (n1_ _))⟩
 have g13 : o ≠ 13 := by simpa [hE.cmp, cmpR] using g
 clear g
 conv => cbv
 refine br (fun g => ?_) (fun g => ?_)
 ·have g0 := g
  have g : o = 14 := by simpa [hE.cmp, cmpR] using g
  conv => cbv
  refine br (fun _ => ?_) (fun q => absurd g0 q)
  conv => cbv
  refine st_lits hr tInts rfl (vs := [.int .i64 2, .int .i64 2]) (m := 2) rfl (by omega) (by omega) rfl (by simp [Value.cells]) fun A w1 hx ho => ?_
  conv => cbv
  rw [hR]; exact ⟨hx, A, 2, 2, by rw [g]; rfl, by rw [g]; exact Own.ints (zs := [2, 2]) (ho _ (n1_ _))⟩
 have g14 : o ≠ 14 := by simpa [hE.cmp, cmpR] using g
 clear g
 conv => cbv
 refine br (fun g => ?_) (fun g => ?_)
 ·have g0 := g
  have g : o = 15 := by simpa [hE.cmp, cmpR] using g
  conv => cbv
  refine st_lits hr tInts rfl (vs := [.int .i64 2, .int .i64 2]) (m := 2) rfl (by omega) (by omega) rfl (by simp [Value.cells]) fun A w1 hx ho => ?_
  conv => cbv
  rw [hR]; exact ⟨hx, A, 2, 2, by rw [g]; rfl, by rw [g]; exact Own.ints (zs := [2, 2]) (ho _ (n1_ _))⟩
 have g15 : o ≠ 15 := by simpa [hE.cmp, cmpR] using g
 clear g
 conv => cbv
 refine br (fun g => ?_) (fun g => ?_)
 ·have g0 := g
  have g : o = 16 := by simpa [hE.cmp, cmpR] using g
  conv => cbv
  refine br (fun _ => ?_) (fun q => absurd g0 q)
  conv => cbv
  refine st_lits hr tInts rfl (vs := [.int .i64 4, .int .i64 4]) (m := 2) rfl (by omega) (by omega) rfl (by simp [Value.cells]) fun A w1 hx ho => ?_
  conv => cbv
  rw [hR]; exact ⟨hx, A, 2, 2, by rw [g]; rfl, by rw [g]; exact Own.ints (zs := [4, 4]) (ho _ (n1_ _))⟩
 have g16 : o ≠ 16 := by simpa [hE.cmp, cmpR] using g
 clear g
 conv => cbv
 refine br (fun g => ?_) (fun g => ?_)
 ·have g0 := g
  have g : o = 17 := by simpa [hE.cmp, cmpR] using g
  conv => cbv
  refine br (fun _ => ?_) (fun q => absurd g0 q)
  conv => cbv
  refine st_lits hr tInts rfl (vs := [.int .i64 4, .int .i64 4]) (m := 2) rfl (by omega) (by omega) rfl (by simp [Value.cells]) fun A w1 hx ho => ?_
  conv => cbv
  rw [hR]; exact ⟨hx, A, 2, 2, by rw [g]; rfl, by rw [g]; exact Own.ints (zs := [4, 4]) (ho _ (n1_ _))⟩
 have g17 : o ≠ 17 := by simpa [hE.cmp, cmpR] using g
 clear g
 conv => cbv
 refine br (fun g => ?_) (fun g => ?_)
 ·have g0 := g
  have g : o = 18 := by simpa [hE.cmp, cmpR] using g
  conv => cbv
  refine st_lits hr tInts rfl (vs := [.int .i64 4, .int .i64 4]) (m := 2) rfl (by omega) (by omega) rfl (by simp [Value.cells]) fun A w1 hx ho => ?_
  conv => cbv
  rw [hR]; exact ⟨hx, A, 2, 2, by rw [g]; rfl, by rw [g]; exact Own.ints (zs := [4, 4]) (ho _ (n1_ _))⟩
 have g18 : o ≠ 18 := by simpa [hE.cmp, cmpR] using g
 clear g
 conv => cbv
 refine br (fun g => ?_) (fun g => ?_)
 ·have g0 := g
  have g : o = 19 := by simpa [hE.cmp, cmpR] using g
  conv => cbv
  refine br (fun _ => ?_) (fun q => absurd g0 q)
  conv => cbv
  refine st_lits hr tInts rfl (vs := [.int .i64 0, .int .i64 0]) (m := 2) rfl (by omega) (by omega) rfl (by simp [Value.cells]) fun A w1 hx ho => ?_
  conv => cbv
  rw [hR]; exact ⟨hx, A, 2, 2, by rw [g]; rfl, by rw [g]; exact Own.ints (zs := [0, 0]) (ho _ (n1_ _))⟩
 have g19 : o ≠ 19 := by simpa [hE.cmp, cmpR] using g
 clear g
 conv => cbv
 refine br (fun g => ?_) (fun g => ?_)
 ·have g0 := g
  have g : o = 20 := by simpa [hE.cmp, cmpR] using g
  conv => cbv
  refine st_lits hr tInts rfl (vs := [.int .i64 0, .int .i64 0]) (m := 2) rfl (by omega) (by omega) rfl (by simp [Value.cells]) fun A w1 hx ho => ?_
  conv => cbv
  rw [hR]; exact ⟨hx, A, 2, 2, by rw [g]; rfl, by rw [g]; exact Own.ints (zs := [0, 0]) (ho _ (n1_ _))⟩
 have g20 : o ≠ 20 := by simpa [hE.cmp, cmpR] using g
 clear g
 conv => cbv
 refine br (fun g => ?_) (fun g => ?_)
 ·have g0 := g
  have g : o = 21 := by simpa [hE.cmp, cmpR] using g
  conv => cbv
  refine br (fun _ => ?_) (fun q => absurd g0 q)
  conv => cbv
  refine st_lits hr tInts rfl (vs := [.int .i64 2, .int .i64 2]) (m := 2) rfl (by omega) (by omega) rfl (by simp [Value.cells]) fun A w1 hx ho => ?_
  conv => cbv
  rw [hR]; exact ⟨hx, A, 2, 2, by rw [g]; rfl, by rw [g]; exact Own.ints (zs := [2, 2]) (ho _ (n1_ _))⟩
 have g21 : o ≠ 21 := by simpa [hE.cmp, cmpR] using g
 clear g
 conv => cbv
 refine br (fun g => ?_) (fun g => ?_)
 ·have g0 := g
  have g : o = 22 := by simpa [hE.cmp, cmpR] using g
  conv => cbv
  refine st_lits hr tInts rfl (vs := [.int .i64 2, .int .i64 2]) (m := 2) rfl (by omega) (by omega) rfl (by simp [Value.cells]) fun A w1 hx ho => ?_
  conv => cbv
  rw [hR]; exact ⟨hx, A, 2, 2, by rw [g]; rfl, by rw [g]; exact Own.ints (zs := [2, 2]) (ho _ (n1_ _))⟩
 have g22 : o ≠ 22 := by simpa [hE.cmp, cmpR] using g
 clear g
 conv => cbv
 refine br (fun g => ?_) (fun g => ?_)
 ·have g : o = 23 := by simpa [hE.cmp, cmpR] using g
  conv => cbv
  refine st_lits hr tInts rfl (vs := [.int .i64 3, .int .i64 4]) (m := 2) rfl (by omega) (by omega) rfl (by simp [Value.cells]) fun A w1 hx ho => ?_
  conv => cbv
  rw [hR]; exact ⟨hx, A, 2, 2, by rw [g]; rfl, by rw [g]; exact Own.ints (zs := [3, 4]) (ho _ (n1_ _))⟩
 have g23 : o ≠ 23 := by simpa [hE.cmp, cmpR] using g
 clear g
 conv => cbv
 refine br (fun g => ?_) (fun g => ?_)
 ·have g : o = 24 := by simpa [hE.cmp, cmpR] using g
  conv => cbv
  refine st_lits hr tInts rfl (vs := [.int .i64 4, .int .i64 4]) (m := 2) rfl (by omega) (by omega) rfl (by simp [Value.cells]) fun A w1 hx ho => ?_
  conv => cbv
  rw [hR]; exact ⟨hx, A, 2, 2, by rw [g]; rfl, by rw [g]; exact Own.ints (zs := [4, 4]) (ho _ (n1_ _))⟩
 have g24 : o ≠ 24 := by simpa [hE.cmp, cmpR] using g
 clear g
 conv => cbv
 refine br (fun g => ?_) (fun g => ?_)
 ·have g0 := g
  have g : o = 25 := by simpa [hE.cmp, cmpR] using g
  conv => cbv
  refine br (fun _ => ?_) (fun q => absurd g0 q)
  conv => cbv
  refine st_lits hr tInts rfl (vs := [.int .i64 1, .int .i64 1]) (m := 2) rfl (by omega) (by omega) rfl (by simp [Value.cells]) fun A w1 hx ho => ?_
  conv => cbv
  rw [hR]; exact ⟨hx, A, 2, 2, by rw [g]; rfl, by rw [g]; exact Own.ints (zs := [1, 1]) (ho _ (n1_ _))⟩
 have g25 : o ≠ 25 := by simpa [hE.cmp, cmpR] using g
 clear g
 conv => cbv
 refine br (fun g => ?_) (fun g => ?_)
 ·have g0 := g
  have g : o = 26 := by simpa [hE.cmp, cmpR] using g
  conv => cbv
  refine st_lits hr tInts rfl (vs := [.int .i64 1, .int .i64 1]) (m := 2) rfl (by omega) (by omega) rfl (by simp [Value.cells]) fun A w1 hx ho => ?_
  conv => cbv
  rw [hR]; exact ⟨hx, A, 2, 2, by rw [g]; rfl, by rw [g]; exact Own.ints (zs := [1, 1]) (ho _ (n1_ _))⟩
 have g26 : o ≠ 26 := by simpa [hE.cmp, cmpR] using g
 clear g
 conv => cbv
 have hd : rowF o = ([1, 0, 0], 0) := by unfold rowF; (repeat rw [if_neg (by omega)])
 refine st_lits hr tInts rfl (vs := [.int .i64 1, .int .i64 0, .int .i64 0]) (m := 3) rfl (by omega) (by omega) rfl (by simp [Value.cells]) fun A w1 hx ho => ?_
 conv => cbv
 rw [hR]; exact ⟨hx, A, 3, 3, by rw [hd]; rfl, by rw [hd]; exact Own.ints (zs := [1, 0, 0]) (ho _ (n1_ _))⟩
theorem l3type_f {w : World} {A : Option Addr} {n c : Nat} {ks : List Int} (h : Ints w A n c ks) (o : Int) (hl : (rowF o).1.length ≤ n) :
  FC Tryz.prog 240 [.int .i64 o, .slice A n c] w fun v _ => v = .int .i64 (typR o ks) := by
 refine FC.intro (cs := []) Tryz.func240 (by kernel_rfl) fun E R hE hr hR => ?_
 have hkl := h.len
 have hnl := h.le
 conv => cbv
 refine st_f hr (l3row_f o w) fun v w1 hx ⟨B, m, d, ev, hrow⟩ => ?_
 subst ev
 obtain ⟨ws, hws⟩ : ∃ ws, ws = (rowF o).1 := ⟨_, rfl⟩
 obtain ⟨out, hout⟩ : ∃ out, out = (rowF o).2 := ⟨_, rfl⟩
 obtain ⟨V, hV0⟩ : ∃ V, V = typR o ks := ⟨_, rfl⟩
 rw [← hV0] at hR
 have hV : V = match wantM ws ks 0 with | none => 0 | some any => if out = 0 then any else out := by rw [hV0, hws, hout]; rfl
 rw [← hws] at hrow hl
 rw [← hout]
 have hml := hrow.len
 clear hV0 hws hout
 conv => cbv
 refine st_len hE tInts fun x hx2 => ?_
 conv => cbv
 refine loop_rulec [10] hr (fun (s : Nat × Int × Int) w' => s.1 ≤ m ∧ s.2.1 = (s.1 : Int) ∧ Ext w w' ∧ Ext w1 w' ∧ wantM (ws.drop s.1) (ks.drop s.1) s.2.2 = wantM ws ks 0) (fun s => [(0, .int .i64 o), (1, .slice A n c), (5, .slice B m d), (6, .int .i64 out), (7, .int .i64 s.2.2), (15, .slice B m d), (16, .int .i64 x), (17, .int .i64 s.2.1)]) (fun s => m - s.1) (0, 0, 0)
  (by simp [Fits, lk]) ⟨by simp, by simp, hx, Ext.refl _, by simp⟩ ?_
 rintro I hI ⟨i, ii, any⟩ w' ⟨hi, hii, hxw, hx1, hW⟩
 simp only at hi hii hW
 obtain ⟨ij, hij⟩ : ∃ z, z = ii + 1 := ⟨_, rfl⟩
 conv => cbv
 refine br (fun g => ?_) (fun g => ?_)
 ·have g : i < m := by
   have : ii < x := by simpa [hE.cmp, cmpR] using g
   omega
  have ei : E.ar .add .i64 ii 1 = ij := by rw [hE.ar, hij]; exact wrap_in (by omega) (by omega)
  conv => cbv
  refine st_int hE tInts (hrow.ext hx1) (k := i) hii g fun p u hu hp => ?_
  conv => cbv
  refine st_load hE cInt hp ?_
  obtain ⟨y, hy⟩ : ∃ y, ks[i]? = some y := ⟨_, g2_ (by omega)⟩
  have dc : ∀ {l : List Int} {k : Nat} {x : Int}, l[k]? = some x → l.drop k = x :: l.drop (k + 1) := fun {l k x} h => by
   have := List.getElem?_eq_some_iff.1 h
   rw [List.drop_eq_getElem_cons this.1, this.2]
  rw [dc hu, dc hy, wantM] at hW
  simp only [List.headD_cons, List.tail_cons] at hW
  conv => cbv
  refine cut_rule [] [] hr (fun (s : Int × Int) w9 => w9 = w' ∧ s.1 = (if u = 0 then (if any = 0 then y else any) else any) ∧ s.2 = (if u = 0 then s.1 else u)) (fun s => [(0, .int .i64 o), (1, .slice A n c), (5, .slice B m d), (6, .int .i64 out), (7, .int .i64 s.1), (8, .int .i64 ii), (9, .int .i64 s.2), (15, .slice B m d), (16, .int .i64 x), (17, .int .i64 ii)]) (fun J hJ => ?_) ?_
  ·conv => cbv
   refine br (fun g2 => ?_) (fun g2 => ?_)
   ·have g2 : u = 0 := by simpa [hE.cmp, cmpR] using g2
    conv => cbv
    refine br (fun g3 => ?_) (fun g3 => ?_)
    ·have g3 : any = 0 := by simpa [hE.cmp, cmpR] using g3
     conv => cbv
     refine st_int hE tInts (h.ext hxw) (k := i) hii (by omega) fun p u' hu' hp => ?_
     rw [hy] at hu'
     cases hu'
     conv => cbv
     refine st_load hE cInt hp ?_
     conv => cbv
     exact ⟨(y, y), by simp [Fits, lk], hJ _ _ ⟨rfl, by rw [if_pos g2, if_pos g3], by rw [if_pos g2]⟩⟩
    ·have g3 : any ≠ 0 := by simpa [hE.cmp, cmpR] using g3
     conv => cbv
     exact ⟨(any, any), by simp [Fits, lk], hJ _ _ ⟨rfl, by rw [if_pos g2, if_neg g3], by rw [if_pos g2]⟩⟩
   ·have g2 : u ≠ 0 := by simpa [hE.cmp, cmpR] using g2
    conv => cbv
    exact ⟨(any, u), by simp [Fits, lk], hJ _ _ ⟨rfl, by rw [if_neg g2], by rw [if_neg g2]⟩⟩
  ·rintro ⟨any', w2⟩ w9 ⟨rfl, ha, hb⟩
   simp only at ha hb
   replace hW : (if y ≠ w2 then none else wantM (ws.drop (i + 1)) (ks.drop (i + 1)) any') = wantM ws ks 0 := by rw [hb, ha]; exact hW
   conv => cbv
   refine st_int hE tInts (h.ext hxw) (k := i) hii (by omega) fun p u' hu' hp => ?_
   rw [hy] at hu'
   cases hu'
   conv => cbv
   refine st_load hE cInt hp ?_
   conv => cbv
   refine br (fun g2 => ?_) (fun g2 => ?_)
   ·have g2 : y ≠ w2 := by simpa [hE.cmp, cmpR] using g2
    rw [if_pos g2] at hW
    conv => cbv
    rw [hR]; exact ⟨hxw, by rw [hV, ← hW]; rfl⟩
   ·have g2 : ¬ y ≠ w2 := by simpa [hE.cmp, cmpR] using g2
    rw [if_neg g2] at hW
    conv => cbv
    simp only [ei]
    exact ⟨(i + 1, ij, any'), by simp [Fits, lk], hI _ _ ⟨by simp only; omega, by simp only; omega, hxw, hx1, hW⟩, by simp only; omega⟩
 ·have g : i = m := by
   have : ¬ ii < x := by simpa [hE.cmp, cmpR] using g
   omega
  rw [List.drop_eq_nil_of_le (by omega), wantM] at hW
  rw [← hW] at hV
  simp only at hV
  conv => cbv
  refine br (fun g2 => ?_) (fun g2 => ?_)
  ·have g2 : out = 0 := by simpa [hE.cmp, cmpR] using g2
   conv => cbv
   rw [hR]; exact ⟨hxw, by rw [hV, if_pos g2]; rfl⟩
  ·have g2 : out ≠ 0 := by simpa [hE.cmp, cmpR] using g2
   conv => cbv
   rw [hR]; exact ⟨hxw, by rw [hV, if_neg g2]; rfl⟩
def resN (names : List ByteArray) (tx : ByteArray) : Option Tr := match posF attrs tx with
 | some i => some (.att i)
 | none => (posF names tx).map fun i => .lt i
def tyLt (tys : List Int) (n : Int) : Int × Int := if (tys.length : Int) ≤ n then (0, 7) else (tys.getD n.toNat 0, 0)
def tyNam (names : List ByteArray) (tys : List Int) (tx : ByteArray) : Int × Int := match posF attrs tx with
 | some i => (attrF i, 0)
 | none => match posF names tx with
  | none => (0, 7)
  | some i => (tys.getD i 0, 0)
mutual
def tyT (names : List ByteArray) (tys : List Int) : Tr → Int × Int
 | .con k _ _ _ _ => (k, 0)
 | .att n => (attrF n, 0)
 | .lt n => tyLt tys n
 | .nam tx _ => tyNam names tys tx
 | .op o kids _ => if (tyTs names tys kids).1 ≠ 0 then (0, (tyTs names tys kids).1) else if typG o (tyTs names tys kids).2 = 0 then (0, 9) else (typG o (tyTs names tys kids).2, 0)
def tyTs (names : List ByteArray) (tys : List Int) : List Tr → Int × List Int
 | [] => (0, [])
 | t :: l => if (tyT names tys t).2 ≠ 0 then ((tyT names tys t).2, []) else ((tyTs names tys l).1, (tyT names tys t).1 :: (tyTs names tys l).2)
end
mutual
def chk (names : List ByteArray) (tys : List Int) : Tr → List Int → List Int × Int × Int
 | .con k _ _ _ _, acc => (acc ++ [k], 0, k)
 | .att n, acc => (acc ++ [attrF n], 0, attrF n)
 | .lt n, acc => if (tyLt tys n).2 ≠ 0 then (acc, (tyLt tys n).2, 0) else (acc ++ [(tyLt tys n).1], 0, (tyLt tys n).1)
 | .nam tx _, acc => if (tyNam names tys tx).2 ≠ 0 then (acc, (tyNam names tys tx).2, 0) else (acc ++ [(tyNam names tys tx).1], 0, (tyNam names tys tx).1)
 | .op o kids _, acc => if (chks names tys kids acc).2.1 ≠ 0 then ((chks names tys kids acc).1, (chks names tys kids acc).2.1, 0)
  else if typG o (chks names tys kids acc).2.2 = 0 then ((chks names tys kids acc).1, 9, 0)
  else ((chks names tys kids acc).1 ++ [typG o (chks names tys kids acc).2.2], 0, typG o (chks names tys kids acc).2.2)
def chks (names : List ByteArray) (tys : List Int) : List Tr → List Int → List Int × Int × List Int
 | [], acc => (acc, 0, [])
 | t :: l, acc => if (chk names tys t acc).2.1 ≠ 0 then ((chk names tys t acc).1, (chk names tys t acc).2.1, [])
  else ((chks names tys l (chk names tys t acc).1).1, (chks names tys l (chk names tys t acc).1).2.1, (chk names tys t acc).2.2 :: (chks names tys l (chk names tys t acc).1).2.2)
end
mutual
def resT (names : List ByteArray) : Tr → Tr
 | .nam tx at_ => (resN names tx).getD (.nam tx at_)
 | .op o kids at_ => .op o (resTs names kids) at_
 | t => t
def resTs (names : List ByteArray) : List Tr → List Tr
 | [] => []
 | t :: l => resT names t :: resTs names l
end
mutual
def po : Tr → List Tr
 | .op o kids at_ => pos kids ++ [.op o kids at_]
 | t => [t]
def pos : List Tr → List Tr
 | [] => []
 | t :: l => po t ++ pos l
end
def walkL (names : List ByteArray) (tys : List Int) : List Tr → List Int → List Int × Int
 | [], acc => (acc, 0)
 | u :: l, acc => if (tyT names tys u).2 ≠ 0 then (acc, (tyT names tys u).2) else walkL names tys l (acc ++ [(tyT names tys u).1])
theorem walkL_append (names : List ByteArray) (tys : List Int) : ∀ (l r : List Tr) (acc : List Int), walkL names tys (l ++ r) acc = if (walkL names tys l acc).2 ≠ 0 then walkL names tys l acc else walkL names tys r (walkL names tys l acc).1
 | [], r, acc => by simp [walkL]
 | u :: l, r, acc => by
  rw [List.cons_append, walkL, walkL]
  split
  ·rename_i h; simp [h]
  ·exact walkL_append names tys l r _
mutual
theorem chk_walk (names : List ByteArray) (tys : List Int) : ∀ (t : Tr) (acc : List Int), (chk names tys t acc).1 = (walkL names tys (po t) acc).1 ∧ (chk names tys t acc).2.1 = (walkL names tys (po t) acc).2 ∧ ((walkL names tys (po t) acc).2 = 0 → (tyT names tys t).2 = 0 ∧ (chk names tys t acc).2.2 = (tyT names tys t).1)
 | .con k n tx xs at_, acc => by simp [chk, po, walkL, tyT]
 | .att n, acc => by simp [chk, po, walkL, tyT]
 | .lt n, acc => by
  simp only [chk, po, walkL, tyT]
  by_cases h : (tyLt tys n).2 = 0 <;> simp [h]
 | .nam tx at_, acc => by
  simp only [chk, po, walkL, tyT]
  by_cases h : (tyNam names tys tx).2 = 0 <;> simp [h]
 | .op o kids at_, acc => by
  obtain ⟨h1, h2, h3⟩ := chks_walk names tys kids acc
  by_cases h : (walkL names tys (pos kids) acc).2 = 0
  ·obtain ⟨h4, h5⟩ := h3 h
   have e : chk names tys (.op o kids at_) acc = if typG o (tyTs names tys kids).2 = 0 then ((walkL names tys (pos kids) acc).1, 9, 0) else ((walkL names tys (pos kids) acc).1 ++ [typG o (tyTs names tys kids).2], 0, typG o (tyTs names tys kids).2) := by
    rw [chk, if_neg (by rw [h2]; simpa using h), h1, h5]
   have e2 : tyT names tys (.op o kids at_) = if typG o (tyTs names tys kids).2 = 0 then (0, 9) else (typG o (tyTs names tys kids).2, 0) := by rw [tyT, if_neg (by simpa using h4)]
   have e3 : walkL names tys (po (.op o kids at_)) acc = if (tyT names tys (.op o kids at_)).2 ≠ 0 then ((walkL names tys (pos kids) acc).1, (tyT names tys (.op o kids at_)).2) else ((walkL names tys (pos kids) acc).1 ++ [(tyT names tys (.op o kids at_)).1], 0) := by
    rw [po, walkL_append, if_neg (by simpa using h), walkL, walkL]
   rw [e, e3, e2]
   by_cases h6 : typG o (tyTs names tys kids).2 = 0 <;> simp [h6]
  ·have e : chk names tys (.op o kids at_) acc = ((walkL names tys (pos kids) acc).1, (walkL names tys (pos kids) acc).2, 0) := by rw [chk, if_pos (by rw [h2]; exact h), h1, h2]
   have e3 : walkL names tys (po (.op o kids at_)) acc = walkL names tys (pos kids) acc := by rw [po, walkL_append, if_pos h]
   rw [e, e3]
   exact ⟨rfl, rfl, fun q => absurd q h⟩
theorem chks_walk (names : List ByteArray) (tys : List Int) : ∀ (l : List Tr) (acc : List Int), (chks names tys l acc).1 = (walkL names tys (pos l) acc).1 ∧ (chks names tys l acc).2.1 = (walkL names tys (pos l) acc).2 ∧ ((walkL names tys (pos l) acc).2 = 0 → (tyTs names tys l).1 = 0 ∧ (chks names tys l acc).2.2 = (tyTs names tys l).2)
 | [], acc => by simp [chks, pos, walkL, tyTs]
 | t :: l, acc => by
  obtain ⟨h1, h2, h3⟩ := chk_walk names tys t acc
  by_cases h : (walkL names tys (po t) acc).2 = 0
  ·obtain ⟨h4, h5⟩ := h3 h
   obtain ⟨k1, k2, k3⟩ := chks_walk names tys l (walkL names tys (po t) acc).1
   have e : chks names tys (t :: l) acc = ((chks names tys l (walkL names tys (po t) acc).1).1, (chks names tys l (walkL names tys (po t) acc).1).2.1, (tyT names tys t).1 :: (chks names tys l (walkL names tys (po t) acc).1).2.2) := by rw [chks, if_neg (by rw [h2]; simpa using h), h1, h5]
   have e2 : tyTs names tys (t :: l) = ((tyTs names tys l).1, (tyT names tys t).1 :: (tyTs names tys l).2) := by rw [tyTs, if_neg (by simpa using h4)]
   have e3 : walkL names tys (pos (t :: l)) acc = walkL names tys (pos l) (walkL names tys (po t) acc).1 := by rw [pos, walkL_append, if_neg (by simpa using h)]
   rw [e, e2, e3]
   refine ⟨k1, k2, fun q => ?_⟩
   obtain ⟨k4, k5⟩ := k3 q
   exact ⟨k4, by simp only; rw [k5]⟩
  ·have e : chks names tys (t :: l) acc = ((walkL names tys (po t) acc).1, (walkL names tys (po t) acc).2, []) := by rw [chks, if_pos (by rw [h2]; exact h), h1, h2]
   have e3 : walkL names tys (pos (t :: l)) acc = walkL names tys (po t) acc := by rw [pos, walkL_append, if_pos h]
   rw [e, e3]
   exact ⟨rfl, rfl, fun q => absurd q h⟩
end
theorem po_leaf {p : PN} {i : Int} (h : kidsF p.o = 0) (kids : List Tr) : po (mkT p i kids) = [mkT p i kids] := by
 unfold mkT; rw [if_pos h]; unfold leafF; (repeat' split) <;> simp [po]
theorem IsTs.pos {ns : List PN} {a b : Nat} {ks : List Int} {ts : List Tr} (h : IsTs ns a b ks ts) : (Proofs.YtgnjkdkedjljjaaGreatDoor.pos ts).length = b - a ∧ ∀ j, j < b - a → ∃ u a', (Proofs.YtgnjkdkedjljjaaGreatDoor.pos ts)[j]? = some u ∧ IsTs ns a' (a + j + 1) [((a + j : Nat) : Int)] [u] := by
 induction h with
 | nil a => exact ⟨by simp [Proofs.YtgnjkdkedjljjaaGreatDoor.pos], fun j hj => by omega⟩
 | @cons a b k p ks kids ts hp hk h1 h2 i1 i2 =>
  have e1 := h1.le
  have e2 := h2.le
  obtain ⟨l1, g1⟩ := i1
  obtain ⟨l2, g2⟩ := i2
  have hpo : po (mkT p k kids) = Proofs.YtgnjkdkedjljjaaGreatDoor.pos kids ++ [mkT p k kids] := by
   by_cases h0 : kidsF p.o = 0
   ·have hks : p.ks = [] := List.eq_nil_of_length_eq_zero (by omega)
    have : kids = [] := List.eq_nil_of_length_eq_zero (by rw [h1.len, hks]; rfl)
    rw [po_leaf h0, this]; simp [Proofs.YtgnjkdkedjljjaaGreatDoor.pos]
   ·unfold mkT; rw [if_neg h0, po]
  rw [Proofs.YtgnjkdkedjljjaaGreatDoor.pos, hpo]
  refine ⟨by simp; omega, fun j hj => ?_⟩
  rcases Nat.lt_trichotomy j (k - a) with q | q | q
  ·obtain ⟨u, a', hu, hu2⟩ := g1 j q
   exact ⟨u, a', by rw [List.append_assoc, List.getElem?_append_left (by omega)]; exact hu, hu2⟩
  ·refine ⟨mkT p k kids, a, ?_, ?_⟩
   ·rw [List.append_assoc, List.getElem?_append_right (by omega), show j - (Proofs.YtgnjkdkedjljjaaGreatDoor.pos kids).length = 0 by omega]; rfl
   ·rw [show a + j = k by omega]
    exact .cons hp hk h1 (.nil _)
  ·obtain ⟨u, a', hu, hu2⟩ := g2 (j - (k + 1 - a)) (by omega)
   refine ⟨u, a', ?_, by rw [show a + j = k + 1 + (j - (k + 1 - a)) by omega]; exact hu2⟩
   rw [List.getElem?_append_right (by simp; omega)]
   simp only [List.length_append, a3_, a4_]
   rw [show j - ((Proofs.YtgnjkdkedjljjaaGreatDoor.pos kids).length + (0 + 1)) = j - (k + 1 - a) by omega]
   exact hu
end Go.Proofs.YtgnjkdkedjljjaaGreatDoor
