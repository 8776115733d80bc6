/- Types of operators; what instructions pop and push (printed by gen_v7.py). -/
import Derived.Test.YtmbonalhbibppaaDoorV6
namespace Go.Proofs.YtmbonalhbibppaaDoor
open Go.Eng
set_option linter.unusedVariables false
set_option linter.unusedSimpArgs false
def kidsF (op : Int) : Int := if 1 ≤ op ∧ op ≤ 7 then 0 else if 8 ≤ op ∧ op ≤ 10 then 1 else if 11 ≤ op ∧ op ≤ 26 then 2 else if op = 27 then 3 else -1
theorem kidsOf_f {w : World} (op : Int) : FC Tryd.prog 128 [.int .i64 op] w fun v _ => v = .int .i64 (kidsF op) := by
  refine FC.intro (cs := []) Tryd.func128 (by kernel_rfl) fun E R hE hr hR => ?_
  conv => cbv
  repeat' (split <;> conv => cbv)
  all_goals (rw [hR]; refine ⟨Ext.refl _, congrArg (Value.int .i64) ?_⟩; simp only [hE.cmp, cmpR, decide_eq_true_eq, beq_iff_eq] at *; unfold kidsF; repeat' split) <;> omega
theorem goesOn_q (o : Int) (w : World) : QB Tryd.prog 94 [.int .i64 o] w (o ≠ 22 ∧ o ≠ 24 ∧ o ≠ 25) := by
  refine QB.intro (cs := []) Tryd.func94 (by kernel_rfl) fun w hx0 w1 hs E R hE hr hR => ?_
  conv => cbv
  refine br (fun g => ?_) (fun g => ?_)
  · have g : o ≠ 22 := by simpa [hE.cmp, cmpR] using g
    conv => cbv
    refine br (fun g2 => ?_) (fun g2 => ?_)
    · have g2 : o ≠ 24 := by simpa [hE.cmp, cmpR] using g2
      conv => cbv
      exact hR _ _ hs (by rw [show (E.2 BinOp.neq o 25 = true) = (E.cmp .neq o 25 = true) from rfl, hE.cmp]; simp [cmpR, g, g2])
    · have g2 : o = 24 := by simpa [hE.cmp, cmpR] using g2
      conv => cbv
      exact hR _ _ hs (by simp [g2])
  · have g : o = 22 := by simpa [hE.cmp, cmpR] using g
    conv => cbv
    exact hR _ _ hs (by simp [g])
def attrF (g : Int) : Int := if g < 2 then 3 else if g < 4 then 2 else 4
theorem l3attrType_f {w : World} (g : Int) : FC Tryd.prog 126 [.int .i64 g] w fun v _ => v = .int .i64 (attrF g) := by
  refine FC.intro (cs := []) Tryd.func126 (by kernel_rfl) fun E R hE hr hR => ?_
  conv => cbv
  repeat' (split <;> conv => cbv)
  all_goals (rw [hR]; refine ⟨Ext.refl _, congrArg (Value.int .i64) ?_⟩; simp only [hE.cmp, cmpR, decide_eq_true_eq, beq_iff_eq] at *; unfold attrF; repeat' split) <;> omega
def popsF (o : Int) : Int := if o = 1 ∨ o = 2 ∨ o = 3 ∨ o = 22 ∨ o = 24 then 0 else if o = 4 ∨ o = 23 ∨ o = 25 then 1 else kidsF (oprF o)
theorem pops_f {w : World} (hT : Tab w 8 opF) (o : Int) : FC Tryd.prog 92 [.int .i64 o] w fun v _ => v = .int .i64 (popsF o) := by
  refine FC.intro (cs := []) Tryd.func92 (by kernel_rfl) fun E R hE hr hR => ?_
  conv => cbv
  refine br (fun g => ?_) (fun g => ?_)
  · have g0 := g
    have g : o = 1 := by simpa [hE.cmp, cmpR] using g
    conv => cbv
    refine br (fun _ => ?_) (fun q => absurd g0 q)
    conv => cbv
    rw [hR]; exact ⟨Ext.refl _, by simp [one, popsF, g]⟩
  have g1 : o ≠ 1 := by simpa [hE.cmp, cmpR] using g
  clear g
  conv => cbv
  refine br (fun g => ?_) (fun g => ?_)
  · have g0 := g
    have g : o = 2 := by simpa [hE.cmp, cmpR] using g
    conv => cbv
    refine br (fun _ => ?_) (fun q => absurd g0 q)
    conv => cbv
    rw [hR]; exact ⟨Ext.refl _, by simp [one, popsF, g]⟩
  have g2 : o ≠ 2 := by simpa [hE.cmp, cmpR] using g
  clear g
  conv => cbv
  refine br (fun g => ?_) (fun g => ?_)
  · have g0 := g
    have g : o = 3 := by simpa [hE.cmp, cmpR] using g
    conv => cbv
    refine br (fun _ => ?_) (fun q => absurd g0 q)
    conv => cbv
    rw [hR]; exact ⟨Ext.refl _, by simp [one, popsF, g]⟩
  have g3 : o ≠ 3 := by simpa [hE.cmp, cmpR] using g
  clear g
  conv => cbv
  refine br (fun g => ?_) (fun g => ?_)
  · have g0 := g
    have g : o = 22 := by simpa [hE.cmp, cmpR] using g
    conv => cbv
    refine br (fun _ => ?_) (fun q => absurd g0 q)
    conv => cbv
    rw [hR]; exact ⟨Ext.refl _, by simp [one, popsF, g]⟩
  have g22 : o ≠ 22 := by simpa [hE.cmp, cmpR] using g
  clear g
  conv => cbv
  refine br (fun g => ?_) (fun g => ?_)
  · have g0 := g
    have g : o = 24 := by simpa [hE.cmp, cmpR] using g
    conv => cbv
    rw [hR]; exact ⟨Ext.refl _, by simp [one, popsF, g]⟩
  have g24 : o ≠ 24 := by simpa [hE.cmp, cmpR] using g
  clear g
  conv => cbv
  refine br (fun g => ?_) (fun g => ?_)
  · have g0 := g
    have g : o = 4 := by simpa [hE.cmp, cmpR] using g
    conv => cbv
    refine br (fun _ => ?_) (fun q => absurd g0 q)
    conv => cbv
    rw [hR]; exact ⟨Ext.refl _, by simp [one, popsF, g]⟩
  have g4 : o ≠ 4 := by simpa [hE.cmp, cmpR] using g
  clear g
  conv => cbv
  refine br (fun g => ?_) (fun g => ?_)
  · have g0 := g
    have g : o = 23 := by simpa [hE.cmp, cmpR] using g
    conv => cbv
    refine br (fun _ => ?_) (fun q => absurd g0 q)
    conv => cbv
    rw [hR]; exact ⟨Ext.refl _, by simp [one, popsF, g]⟩
  have g23 : o ≠ 23 := by simpa [hE.cmp, cmpR] using g
  clear g
  conv => cbv
  refine br (fun g => ?_) (fun g => ?_)
  · have g0 := g
    have g : o = 25 := by simpa [hE.cmp, cmpR] using g
    conv => cbv
    rw [hR]; exact ⟨Ext.refl _, by simp [one, popsF, g]⟩
  have g25 : o ≠ 25 := by simpa [hE.cmp, cmpR] using g
  clear g
  conv => cbv
  refine st_f hr (operatorOf_f hT o) fun v w1 hx ev => ?_
  subst ev
  obtain ⟨p, hp⟩ : ∃ p, p = oprF o := ⟨_, rfl⟩
  rw [← hp]
  conv => cbv
  refine st_f hr (kidsOf_f p) fun v w2 hx2 ev => ?_
  subst ev
  obtain ⟨q, hq⟩ : ∃ q, q = kidsF p := ⟨_, rfl⟩
  rw [← hq]
  conv => cbv
  rw [hR]; exact ⟨hx.trans hx2, by simp [one, popsF, g1, g2, g3, g22, g24, g4, g23, g25, hq, hp]⟩
/-! ### typeOf -/
def allT (t : Int) (ts : List Int) : Bool := ts.all fun x => x == t
theorem same_f {w : World} {B : Nat} {a : Addr} {A : Option Addr} {n c : Nat} {ts : List Int} (hb : Box B 49 1 w a [.slice A n c]) (h : Ints w A n c ts) (t : Int) :
    FC Tryd.prog 155 [.int .i64 t, .pointer (some a)] w fun v _ => v = .bool (allT t ts) := by
  refine FC.intro (cs := []) Tryd.func155 (by kernel_rfl) fun E R hE hr hR => ?_
  have hl := h.len
  have hle := h.le
  conv => cbv
  refine st_load hE cInts (v := .slice A n c) (by have := hb.at 0 _ rfl; rwa [add_zero] at this) ?_
  conv => cbv
  refine st_len hE tInts fun x hx => ?_
  conv => cbv
  refine loop_rule hr (fun (s : Nat × Int) w' => s.1 ≤ n ∧ s.2 = (s.1 : Int) ∧ Ext w w' ∧ ∀ x ∈ ts.take s.1, x = t) (fun s => [(0, .int .i64 t), (6, .slice A n c), (7, .int .i64 x), (8, .int .i64 s.2)]) (fun s => n - s.1) (0, 0)
    (by simp [Fits, lk]) ⟨by simp, by simp, Ext.refl _, by simp⟩ ?_
  rintro I hI ⟨i, ii⟩ w' ⟨hi, hii, hxw, hall⟩
  simp only at hi hii hall
  obtain ⟨ii', hii'⟩ : ∃ z, z = ii + 1 := ⟨_, rfl⟩
  conv => cbv
  refine br (fun g => ?_) (fun g => ?_)
  · have g : i < n := by
      have : ii < x := by simpa [hE.cmp, cmpR] using g
      omega
    have e1 : E.ar .add .i64 ii 1 = ii' := by rw [hE.ar, hii']; exact wrap_in (by omega) (by omega)
    conv => cbv
    refine st_int hE tInts (h.ext hxw) (k := i) (by omega) g fun p u hu hp => ?_
    conv => cbv
    refine st_load hE cInt hp ?_
    conv => cbv
    refine br (fun g2 => ?_) (fun g2 => ?_)
    · have g2 : u ≠ t := by simpa [hE.cmp, cmpR] using g2
      conv => cbv
      rw [hR]; refine ⟨hxw, ?_⟩
      have : allT t ts = false := by
        unfold allT; rw [List.all_eq_false]
        exact ⟨u, List.mem_of_getElem? hu, by simpa using g2⟩
      rw [this]; rfl
    · have g2 : u = t := by simpa [hE.cmp, cmpR] using g2
      conv => cbv
      simp only [e1]
      refine ⟨(i + 1, ii'), by simp [Fits, lk], hI _ _ ⟨by simp only; omega, by simp only; omega, hxw, ?_⟩, by simp only; omega⟩
      simp only
      rw [List.take_add_one, hu]
      intro y hy
      rcases List.mem_append.1 hy with hy | hy
      · exact hall y hy
      · simp at hy; rw [hy, g2]
  · have g : i = n := by
      have : ¬ ii < x := by simpa [hE.cmp, cmpR] using g
      omega
    rw [List.take_of_length_le (by omega)] at hall
    conv => cbv
    rw [hR]; refine ⟨hxw, ?_⟩
    have : allT t ts = true := by
      unfold allT; rw [List.all_eq_true]
      exact fun y hy => by simpa using hall y hy
    rw [this]; rfl
theorem fit_f {w : World} (b : Bool) (t : Int) : FC Tryd.prog 156 [.bool b, .int .i64 t] w fun v _ => v = .int .i64 (if b = true then t else 0) := by
  refine FC.intro (cs := []) Tryd.func156 (by kernel_rfl) fun E R hE hr hR => ?_
  cases b with
  | true => conv => cbv
            rw [hR]; exact ⟨Ext.refl _, rfl⟩
  | false => conv => cbv
             rw [hR]; exact ⟨Ext.refl _, rfl⟩
/-- The type of an operator (8 to 24) by its kids'; 0: they do not fit. -/
def typF (op : Int) (ts : List Int) : Int :=
  if op = 8 ∨ (11 ≤ op ∧ op ≤ 15) then (if allT 2 ts = true then 2 else 0)
  else if op = 9 then (if allT 1 ts = true then 1 else 0)
  else if op = 10 then (if allT 4 ts = true then 2 else 0)
  else if 16 ≤ op ∧ op ≤ 18 then (if allT 4 ts = true then 4 else 0)
  else if op = 19 ∨ op = 20 then (if ts[0]? = ts[1]? then 1 else 0)
  else if op = 21 ∨ op = 22 then (if allT 2 ts = true then 1 else 0)
  else if op = 23 then (if ts[0]? = some 3 ∧ ts[1]? = some 4 then 1 else 0)
  else (if allT 4 ts = true then 1 else 0)
set_option maxHeartbeats 4000000 in
theorem typeOf_f {w : World} {A : Option Addr} {n c : Nat} {ts : List Int} (h : Ints w A n c ts) (op : Int) (h1 : 8 ≤ op) (h2 : op ≤ 24) (hk : (n : Int) = kidsF op) :
    FC Tryd.prog 130 [.int .i64 op, .slice A n c] w fun v _ => v = .int .i64 (typF op ts) := by
  refine FC.intro (cs := []) Tryd.func130 (by kernel_rfl) fun E R hE hr hR => ?_
  have hl := h.len
  conv => cbv
  refine st_box1 hr rfl fun a w1 hx hb0 => ?_
  have hb := hb0 _ (Nat.le_refl _)
  have hl0 : w1.cell? a = some (.slice A n c) := by have := hb.at 0 _ rfl; rwa [add_zero] at this
  conv => cbv
  refine br (fun g => ?_) (fun g => ?_)
  · have g0 := g
    have g : op = 8 := by simpa [hE.cmp, cmpR] using g
    conv => cbv
    refine br (fun _ => ?_) (fun q => absurd g0 q)
    conv => cbv
    refine st_f hr (same_f hb (h.ext hx) 2) fun v w2 hx2 ev => ?_
    subst ev
    obtain ⟨q, hq⟩ : ∃ q, q = allT 2 ts := ⟨_, rfl⟩
    rw [← hq]
    conv => cbv
    refine st_f hr (fit_f q 2) fun v w3 hx3 ev => ?_
    subst ev
    obtain ⟨z, hz⟩ : ∃ z : Int, z = if q = true then 2 else 0 := ⟨_, rfl⟩
    rw [← hz]
    conv => cbv
    rw [hR]; exact ⟨(hx.trans hx2).trans hx3, by rw [hz, hq]; simp [one, typF, g]⟩
  have g8 : op ≠ 8 := by simpa [hE.cmp, cmpR] using g
  clear g
  conv => cbv
  refine br (fun g => ?_) (fun g => ?_)
  · have g0 := g
    have g : op = 11 := by simpa [hE.cmp, cmpR] using g
    conv => cbv
    refine br (fun _ => ?_) (fun q => absurd g0 q)
    conv => cbv
    refine st_f hr (same_f hb (h.ext hx) 2) fun v w2 hx2 ev => ?_
    subst ev
    obtain ⟨q, hq⟩ : ∃ q, q = allT 2 ts := ⟨_, rfl⟩
    rw [← hq]
    conv => cbv
    refine st_f hr (fit_f q 2) fun v w3 hx3 ev => ?_
    subst ev
    obtain ⟨z, hz⟩ : ∃ z : Int, z = if q = true then 2 else 0 := ⟨_, rfl⟩
    rw [← hz]
    conv => cbv
    rw [hR]; exact ⟨(hx.trans hx2).trans hx3, by rw [hz, hq]; simp [one, typF, g]⟩
  have g11 : op ≠ 11 := by simpa [hE.cmp, cmpR] using g
  clear g
  conv => cbv
  refine br (fun g => ?_) (fun g => ?_)
  · have g0 := g
    have g : op = 12 := by simpa [hE.cmp, cmpR] using g
    conv => cbv
    refine br (fun _ => ?_) (fun q => absurd g0 q)
    conv => cbv
    refine st_f hr (same_f hb (h.ext hx) 2) fun v w2 hx2 ev => ?_
    subst ev
    obtain ⟨q, hq⟩ : ∃ q, q = allT 2 ts := ⟨_, rfl⟩
    rw [← hq]
    conv => cbv
    refine st_f hr (fit_f q 2) fun v w3 hx3 ev => ?_
    subst ev
    obtain ⟨z, hz⟩ : ∃ z : Int, z = if q = true then 2 else 0 := ⟨_, rfl⟩
    rw [← hz]
    conv => cbv
    rw [hR]; exact ⟨(hx.trans hx2).trans hx3, by rw [hz, hq]; simp [one, typF, g]⟩
  have g12 : op ≠ 12 := by simpa [hE.cmp, cmpR] using g
  clear g
  conv => cbv
  refine br (fun g => ?_) (fun g => ?_)
  · have g0 := g
    have g : op = 13 := by simpa [hE.cmp, cmpR] using g
    conv => cbv
    refine br (fun _ => ?_) (fun q => absurd g0 q)
    conv => cbv
    refine st_f hr (same_f hb (h.ext hx) 2) fun v w2 hx2 ev => ?_
    subst ev
    obtain ⟨q, hq⟩ : ∃ q, q = allT 2 ts := ⟨_, rfl⟩
    rw [← hq]
    conv => cbv
    refine st_f hr (fit_f q 2) fun v w3 hx3 ev => ?_
    subst ev
    obtain ⟨z, hz⟩ : ∃ z : Int, z = if q = true then 2 else 0 := ⟨_, rfl⟩
    rw [← hz]
    conv => cbv
    rw [hR]; exact ⟨(hx.trans hx2).trans hx3, by rw [hz, hq]; simp [one, typF, g]⟩
  have g13 : op ≠ 13 := by simpa [hE.cmp, cmpR] using g
  clear g
  conv => cbv
  refine br (fun g => ?_) (fun g => ?_)
  · have g0 := g
    have g : op = 14 := by simpa [hE.cmp, cmpR] using g
    conv => cbv
    refine br (fun _ => ?_) (fun q => absurd g0 q)
    conv => cbv
    refine st_f hr (same_f hb (h.ext hx) 2) fun v w2 hx2 ev => ?_
    subst ev
    obtain ⟨q, hq⟩ : ∃ q, q = allT 2 ts := ⟨_, rfl⟩
    rw [← hq]
    conv => cbv
    refine st_f hr (fit_f q 2) fun v w3 hx3 ev => ?_
    subst ev
    obtain ⟨z, hz⟩ : ∃ z : Int, z = if q = true then 2 else 0 := ⟨_, rfl⟩
    rw [← hz]
    conv => cbv
    rw [hR]; exact ⟨(hx.trans hx2).trans hx3, by rw [hz, hq]; simp [one, typF, g]⟩
  have g14 : op ≠ 14 := by simpa [hE.cmp, cmpR] using g
  clear g
  conv => cbv
  refine br (fun g => ?_) (fun g => ?_)
  · have g0 := g
    have g : op = 15 := by simpa [hE.cmp, cmpR] using g
    conv => cbv
    refine st_f hr (same_f hb (h.ext hx) 2) fun v w2 hx2 ev => ?_
    subst ev
    obtain ⟨q, hq⟩ : ∃ q, q = allT 2 ts := ⟨_, rfl⟩
    rw [← hq]
    conv => cbv
    refine st_f hr (fit_f q 2) fun v w3 hx3 ev => ?_
    subst ev
    obtain ⟨z, hz⟩ : ∃ z : Int, z = if q = true then 2 else 0 := ⟨_, rfl⟩
    rw [← hz]
    conv => cbv
    rw [hR]; exact ⟨(hx.trans hx2).trans hx3, by rw [hz, hq]; simp [one, typF, g]⟩
  have g15 : op ≠ 15 := by simpa [hE.cmp, cmpR] using g
  clear g
  conv => cbv
  refine br (fun g => ?_) (fun g => ?_)
  · have g0 := g
    have g : op = 9 := by simpa [hE.cmp, cmpR] using g
    conv => cbv
    refine br (fun _ => ?_) (fun q => absurd g0 q)
    conv => cbv
    refine st_f hr (same_f hb (h.ext hx) 1) fun v w2 hx2 ev => ?_
    subst ev
    obtain ⟨q, hq⟩ : ∃ q, q = allT 1 ts := ⟨_, rfl⟩
    rw [← hq]
    conv => cbv
    refine st_f hr (fit_f q 1) fun v w3 hx3 ev => ?_
    subst ev
    obtain ⟨z, hz⟩ : ∃ z : Int, z = if q = true then 1 else 0 := ⟨_, rfl⟩
    rw [← hz]
    conv => cbv
    rw [hR]; exact ⟨(hx.trans hx2).trans hx3, by rw [hz, hq]; simp [one, typF, g]⟩
  have g9 : op ≠ 9 := by simpa [hE.cmp, cmpR] using g
  clear g
  conv => cbv
  refine br (fun g => ?_) (fun g => ?_)
  · have g : op = 25 := by simpa [hE.cmp, cmpR] using g
    omega
  clear g
  conv => cbv
  refine br (fun g => ?_) (fun g => ?_)
  · have g : op = 26 := by simpa [hE.cmp, cmpR] using g
    omega
  clear g
  conv => cbv
  refine br (fun g => ?_) (fun g => ?_)
  · have g0 := g
    have g : op = 10 := by simpa [hE.cmp, cmpR] using g
    conv => cbv
    refine st_f hr (same_f hb (h.ext hx) 4) fun v w2 hx2 ev => ?_
    subst ev
    obtain ⟨q, hq⟩ : ∃ q, q = allT 4 ts := ⟨_, rfl⟩
    rw [← hq]
    conv => cbv
    refine st_f hr (fit_f q 2) fun v w3 hx3 ev => ?_
    subst ev
    obtain ⟨z, hz⟩ : ∃ z : Int, z = if q = true then 2 else 0 := ⟨_, rfl⟩
    rw [← hz]
    conv => cbv
    rw [hR]; exact ⟨(hx.trans hx2).trans hx3, by rw [hz, hq]; simp [one, typF, g]⟩
  have g10 : op ≠ 10 := by simpa [hE.cmp, cmpR] using g
  clear g
  conv => cbv
  refine br (fun g => ?_) (fun g => ?_)
  · have g0 := g
    have g : op = 16 := by simpa [hE.cmp, cmpR] using g
    conv => cbv
    refine br (fun _ => ?_) (fun q => absurd g0 q)
    conv => cbv
    refine st_f hr (same_f hb (h.ext hx) 4) fun v w2 hx2 ev => ?_
    subst ev
    obtain ⟨q, hq⟩ : ∃ q, q = allT 4 ts := ⟨_, rfl⟩
    rw [← hq]
    conv => cbv
    refine st_f hr (fit_f q 4) fun v w3 hx3 ev => ?_
    subst ev
    obtain ⟨z, hz⟩ : ∃ z : Int, z = if q = true then 4 else 0 := ⟨_, rfl⟩
    rw [← hz]
    conv => cbv
    rw [hR]; exact ⟨(hx.trans hx2).trans hx3, by rw [hz, hq]; simp [one, typF, g]⟩
  have g16 : op ≠ 16 := by simpa [hE.cmp, cmpR] using g
  clear g
  conv => cbv
  refine br (fun g => ?_) (fun g => ?_)
  · have g0 := g
    have g : op = 17 := by simpa [hE.cmp, cmpR] using g
    conv => cbv
    refine br (fun _ => ?_) (fun q => absurd g0 q)
    conv => cbv
    refine st_f hr (same_f hb (h.ext hx) 4) fun v w2 hx2 ev => ?_
    subst ev
    obtain ⟨q, hq⟩ : ∃ q, q = allT 4 ts := ⟨_, rfl⟩
    rw [← hq]
    conv => cbv
    refine st_f hr (fit_f q 4) fun v w3 hx3 ev => ?_
    subst ev
    obtain ⟨z, hz⟩ : ∃ z : Int, z = if q = true then 4 else 0 := ⟨_, rfl⟩
    rw [← hz]
    conv => cbv
    rw [hR]; exact ⟨(hx.trans hx2).trans hx3, by rw [hz, hq]; simp [one, typF, g]⟩
  have g17 : op ≠ 17 := by simpa [hE.cmp, cmpR] using g
  clear g
  conv => cbv
  refine br (fun g => ?_) (fun g => ?_)
  · have g0 := g
    have g : op = 18 := by simpa [hE.cmp, cmpR] using g
    conv => cbv
    refine st_f hr (same_f hb (h.ext hx) 4) fun v w2 hx2 ev => ?_
    subst ev
    obtain ⟨q, hq⟩ : ∃ q, q = allT 4 ts := ⟨_, rfl⟩
    rw [← hq]
    conv => cbv
    refine st_f hr (fit_f q 4) fun v w3 hx3 ev => ?_
    subst ev
    obtain ⟨z, hz⟩ : ∃ z : Int, z = if q = true then 4 else 0 := ⟨_, rfl⟩
    rw [← hz]
    conv => cbv
    rw [hR]; exact ⟨(hx.trans hx2).trans hx3, by rw [hz, hq]; simp [one, typF, g]⟩
  have g18 : op ≠ 18 := by simpa [hE.cmp, cmpR] using g
  clear g
  conv => cbv
  refine br (fun g => ?_) (fun g => ?_)
  · have g0 := g
    have g : op = 19 := by simpa [hE.cmp, cmpR] using g
    conv => cbv
    refine br (fun _ => ?_) (fun q => absurd g0 q)
    have hn : n = 2 := by
      have : kidsF op = 2 := by rw [g]; decide
      omega
    conv => cbv
    refine draw_h [0, 1, 2, 3, 4, 5, 6, 7] [(8, false), (9, true)] hr fol (by kernel_rfl) fun E' hE' w4 hs4 S hS => ?_
    have hl4 : w4.cell? a = some (.slice A n c) := hs4.ext.cell hl0
    have h4 := (h.ext hx).ext hs4.ext
    conv => cbv
    refine st_load hE' cInts hl4 ?_
    conv => cbv
    refine st_int hE' tInts h4 (k := 0) rfl (by omega) fun p u hu hp => ?_
    conv => cbv
    refine st_load hE' cInt hp ?_
    conv => cbv
    refine st_load hE' cInts hl4 ?_
    conv => cbv
    refine st_int hE' tInts h4 (k := 1) rfl (by omega) fun p2 u2 hu2 hp2 => ?_
    conv => cbv
    refine st_load hE' cInt hp2 ?_
    obtain ⟨q, hq⟩ : ∃ q, q = E'.cmp .eql u u2 := ⟨_, rfl⟩
    have hq' : q = true ↔ u = u2 := by rw [hq, hE'.cmp]; simp [cmpR]
    conv => cbv
    simp only [← hq]
    refine st_f hr (fit_f q 1) fun v w3 hx3 ev => ?_
    subst ev
    obtain ⟨z, hz⟩ : ∃ z : Int, z = if q = true then 1 else 0 := ⟨_, rfl⟩
    rw [← hz]
    refine ⟨hS _ hx3, ?_⟩
    conv => cbv
    rw [hR]; refine ⟨(hx.trans hs4.ext).trans hx3, ?_⟩
    rw [hz]; cases q with
    | true => rw [if_pos rfl]; have := hq'.1 rfl; simp [one, typF, g, hu, hu2, this]
    | false => rw [if_neg (by simp)]; have : u ≠ u2 := fun e => by simpa using hq'.2 e
               simp [one, typF, g, hu, hu2, this]
  have g19 : op ≠ 19 := by simpa [hE.cmp, cmpR] using g
  clear g
  conv => cbv
  refine br (fun g => ?_) (fun g => ?_)
  · have g0 := g
    have g : op = 20 := by simpa [hE.cmp, cmpR] using g
    have hn : n = 2 := by
      have : kidsF op = 2 := by rw [g]; decide
      omega
    conv => cbv
    refine draw_h [0, 1, 2, 3, 4, 5, 6, 7] [(8, false), (9, true)] hr fol (by kernel_rfl) fun E' hE' w4 hs4 S hS => ?_
    have hl4 : w4.cell? a = some (.slice A n c) := hs4.ext.cell hl0
    have h4 := (h.ext hx).ext hs4.ext
    conv => cbv
    refine st_load hE' cInts hl4 ?_
    conv => cbv
    refine st_int hE' tInts h4 (k := 0) rfl (by omega) fun p u hu hp => ?_
    conv => cbv
    refine st_load hE' cInt hp ?_
    conv => cbv
    refine st_load hE' cInts hl4 ?_
    conv => cbv
    refine st_int hE' tInts h4 (k := 1) rfl (by omega) fun p2 u2 hu2 hp2 => ?_
    conv => cbv
    refine st_load hE' cInt hp2 ?_
    obtain ⟨q, hq⟩ : ∃ q, q = E'.cmp .eql u u2 := ⟨_, rfl⟩
    have hq' : q = true ↔ u = u2 := by rw [hq, hE'.cmp]; simp [cmpR]
    conv => cbv
    simp only [← hq]
    refine st_f hr (fit_f q 1) fun v w3 hx3 ev => ?_
    subst ev
    obtain ⟨z, hz⟩ : ∃ z : Int, z = if q = true then 1 else 0 := ⟨_, rfl⟩
    rw [← hz]
    refine ⟨hS _ hx3, ?_⟩
    conv => cbv
    rw [hR]; refine ⟨(hx.trans hs4.ext).trans hx3, ?_⟩
    rw [hz]; cases q with
    | true => rw [if_pos rfl]; have := hq'.1 rfl; simp [one, typF, g, hu, hu2, this]
    | false => rw [if_neg (by simp)]; have : u ≠ u2 := fun e => by simpa using hq'.2 e
               simp [one, typF, g, hu, hu2, this]
  have g20 : op ≠ 20 := by simpa [hE.cmp, cmpR] using g
  clear g
  conv => cbv
  refine br (fun g => ?_) (fun g => ?_)
  · have g0 := g
    have g : op = 21 := by simpa [hE.cmp, cmpR] using g
    conv => cbv
    refine br (fun _ => ?_) (fun q => absurd g0 q)
    conv => cbv
    refine st_f hr (same_f hb (h.ext hx) 2) fun v w2 hx2 ev => ?_
    subst ev
    obtain ⟨q, hq⟩ : ∃ q, q = allT 2 ts := ⟨_, rfl⟩
    rw [← hq]
    conv => cbv
    refine st_f hr (fit_f q 1) fun v w3 hx3 ev => ?_
    subst ev
    obtain ⟨z, hz⟩ : ∃ z : Int, z = if q = true then 1 else 0 := ⟨_, rfl⟩
    rw [← hz]
    conv => cbv
    rw [hR]; exact ⟨(hx.trans hx2).trans hx3, by rw [hz, hq]; simp [one, typF, g]⟩
  have g21 : op ≠ 21 := by simpa [hE.cmp, cmpR] using g
  clear g
  conv => cbv
  refine br (fun g => ?_) (fun g => ?_)
  · have g0 := g
    have g : op = 22 := by simpa [hE.cmp, cmpR] using g
    conv => cbv
    refine st_f hr (same_f hb (h.ext hx) 2) fun v w2 hx2 ev => ?_
    subst ev
    obtain ⟨q, hq⟩ : ∃ q, q = allT 2 ts := ⟨_, rfl⟩
    rw [← hq]
    conv => cbv
    refine st_f hr (fit_f q 1) fun v w3 hx3 ev => ?_
    subst ev
    obtain ⟨z, hz⟩ : ∃ z : Int, z = if q = true then 1 else 0 := ⟨_, rfl⟩
    rw [← hz]
    conv => cbv
    rw [hR]; exact ⟨(hx.trans hx2).trans hx3, by rw [hz, hq]; simp [one, typF, g]⟩
  have g22 : op ≠ 22 := by simpa [hE.cmp, cmpR] using g
  clear g
  conv => cbv
  refine br (fun g => ?_) (fun g => ?_)
  · have g0 := g
    have g : op = 23 := by simpa [hE.cmp, cmpR] using g
    have hn : n = 2 := by
      have : kidsF op = 2 := by rw [g]; decide
      omega
    conv => cbv
    refine st_load hE cInts hl0 ?_
    conv => cbv
    refine st_int hE tInts (h.ext hx) (k := 0) rfl (by omega) fun p u hu hp => ?_
    conv => cbv
    refine st_load hE cInt hp ?_
    conv => cbv
    refine br (fun g2 => ?_) (fun g2 => ?_)
    · have g2 : u = 3 := by simpa [hE.cmp, cmpR] using g2
      conv => cbv
      refine st_load hE cInts hl0 ?_
      conv => cbv
      refine st_int hE tInts (h.ext hx) (k := 1) rfl (by omega) fun p2 u2 hu2 hp2 => ?_
      conv => cbv
      refine st_load hE cInt hp2 ?_
      obtain ⟨q, hq⟩ : ∃ q, q = E.cmp .eql u2 4 := ⟨_, rfl⟩
      have hq' : q = true ↔ u2 = 4 := by rw [hq, hE.cmp]; simp [cmpR]
      conv => cbv
      simp only [← hq]
      conv => cbv
      refine st_f hr (fit_f q 1) fun v w3 hx3 ev => ?_
      subst ev
      obtain ⟨z, hz⟩ : ∃ z : Int, z = if q = true then 1 else 0 := ⟨_, rfl⟩
      rw [← hz]
      conv => cbv
      rw [hR]; refine ⟨hx.trans hx3, ?_⟩
      rw [hz]; cases q with
      | true => rw [if_pos rfl]; have := hq'.1 rfl; simp [one, typF, g, hu, hu2, this, g2]
      | false => rw [if_neg (by simp)]; have : u2 ≠ 4 := fun e => by simpa using hq'.2 e
                 simp [one, typF, g, hu, hu2, this]
    · have g2 : u ≠ 3 := by simpa [hE.cmp, cmpR] using g2
      conv => cbv
      refine st_f hr (fit_f false 1) fun v w3 hx3 ev => ?_
      subst ev
      obtain ⟨z, hz⟩ : ∃ z : Int, z = if false = true then 1 else 0 := ⟨_, rfl⟩
      rw [← hz]
      conv => cbv
      rw [hR]; exact ⟨hx.trans hx3, by rw [hz]; simp [one, typF, g, hu, g2]⟩
  have g23 : op ≠ 23 := by simpa [hE.cmp, cmpR] using g
  clear g
  conv => cbv
  refine br (fun g => ?_) (fun g => ?_)
  · have g0 := g
    have g : op = 24 := by simpa [hE.cmp, cmpR] using g
    conv => cbv
    refine st_f hr (same_f hb (h.ext hx) 4) fun v w2 hx2 ev => ?_
    subst ev
    obtain ⟨q, hq⟩ : ∃ q, q = allT 4 ts := ⟨_, rfl⟩
    rw [← hq]
    conv => cbv
    refine st_f hr (fit_f q 1) fun v w3 hx3 ev => ?_
    subst ev
    obtain ⟨z, hz⟩ : ∃ z : Int, z = if q = true then 1 else 0 := ⟨_, rfl⟩
    rw [← hz]
    conv => cbv
    rw [hR]; exact ⟨(hx.trans hx2).trans hx3, by rw [hz, hq]; simp [one, typF, g]⟩
  have g24 : op ≠ 24 := by simpa [hE.cmp, cmpR] using g
  clear g
  omega
end Go.Proofs.YtmbonalhbibppaaDoor
