/- Texts that the law FnExactCheck leans on, part 2 of 7: contracts of the functions that it reaches and plain lemmas. Each holds under the conditions that it states. -/
import Derived.Test.YtgnjkdkedjljjaaGreatDoorMFnExactCheck1
import Derived.Deep.Slices
import Derived.WideKeyMaps
import Derived.WideKeyElems2
import Derived.OpenVars
import Derived.LaidMore
import Derived.Stop.Joined
import Derived.Stop.LaidTwo
import Derived.Test.YtgnjkdkedjljjaaGreatDoorTie
import Derived.Test.YtgnjkdkedjljjaaGreatDoorCards
import Derived.SevenTiedAt
import Derived.Lay
import Derived.HandedShaped
import Derived.Maps.RangeRun
set_option maxHeartbeats 16000000
set_option linter.unusedVariables false
set_option linter.unusedSimpArgs false
namespace Go.Proofs.YtgnjkdkedjljjaaGreatDoor
open Go.Eng
set_option linter.unusedVariables false
theorem cInt : Cel Tryz.prog 3 := ⟨_, uInt, by simp, by simp⟩
theorem cInts : Cel Tryz.prog 29 := ⟨_, Tryz.underlying29, by simp, by simp⟩
theorem tInts : Slc Tryz.prog 29 3 (.int .i64 0) 1 8 := ⟨Tryz.underlying29, by kernel_rfl⟩
theorem zInt : (Tryz.prog.info? 3).map (·.size) = some 1 := by kernel_rfl
theorem zInts : (Tryz.prog.info? 29).map (·.size) = some 1 := by kernel_rfl
abbrev zV : List Value := [.int .i64 0, .int .i64 0, .string ⟨#[]⟩, .slice none 0 0]
abbrev zI : List Value := [.int .i64 0, .int .i64 0]
abbrev zC : List Value := [.slice none 0 0, .int .i64 0, .slice none 0 0]
theorem fIV0 : Fld Tryz.prog 218 0 0 := ⟨by kernel_rfl⟩
theorem fIV1 : Fld Tryz.prog 218 1 1 := ⟨by kernel_rfl⟩
theorem fIV2 : Fld Tryz.prog 218 2 2 := ⟨by kernel_rfl⟩
theorem fIV3 : Fld Tryz.prog 218 3 3 := ⟨by kernel_rfl⟩
theorem fl_len {α : Type} {f : α → List Value} {k : Nat} (hf : ∀ x, (f x).length = k) : ∀ xs : List α, (xs.flatMap f).length = xs.length * k
 | [] => by simp
 | x :: xs => by rw [List.flatMap_cons, List.length_append, fl_len hf xs, hf, a3_, Nat.succ_mul, Nat.add_comm]
theorem fl_get {α : Type} {f : α → List Value} {k : Nat} (hf : ∀ x, (f x).length = k) : ∀ (xs : List α) (i : Nat) (x : α) (j : Nat), xs[i]? = some x → j < k → (xs.flatMap f)[i * k + j]? = (f x)[j]?
 | [], i, x, j, h, _ => by simp at h
 | y :: ys, 0, x, j, h, hj => by
  simp at h; subst h
  rw [List.flatMap_cons, List.getElem?_append_left (by rw [hf]; omega)]; simp
 | y :: ys, i + 1, x, j, h, hj => by
  simp only [List.getElem?_cons_succ] at h
  rw [List.flatMap_cons, List.getElem?_append_right (by rw [hf, Nat.succ_mul]; omega), ← fl_get hf ys i x j h hj]
  congr 1; rw [hf, Nat.succ_mul]; omega
theorem fl_take {α : Type} {f : α → List Value} {k : Nat} (hf : ∀ x, (f x).length = k) : ∀ (xs : List α) (i : Nat), (xs.flatMap f).take (i * k) = (xs.take i).flatMap f
 | [], i => by simp
 | x :: xs, 0 => by simp
 | x :: xs, i + 1 => by
  rw [List.flatMap_cons, List.take_succ_cons, List.flatMap_cons, Nat.succ_mul, Nat.add_comm, ← hf x, List.take_length_add_append, hf x, fl_take hf xs i]
theorem fl_drop {α : Type} {f : α → List Value} {k : Nat} (hf : ∀ x, (f x).length = k) : ∀ (xs : List α) (i : Nat), (xs.flatMap f).drop (i * k) = (xs.drop i).flatMap f
 | [], i => by simp
 | x :: xs, 0 => by simp
 | x :: xs, i + 1 => by
  rw [List.flatMap_cons, a5_, Nat.succ_mul, Nat.add_comm, ← hf x, List.drop_length_add_append, hf x, fl_drop hf xs i]
theorem fl_put {α : Type} {f : α → List Value} {k : Nat} (hf : ∀ x, (f x).length = k) (xs : List α) (i : Nat) (y : α) (hi : i < xs.length) :
  (xs.flatMap f).take (i * k) ++ f y ++ (xs.flatMap f).drop (i * k + (f y).length) = (xs.set i y).flatMap f := by
 have h1 : i * k + (f y).length = (i + 1) * k := by rw [hf, Nat.succ_mul]
 rw [h1, fl_take hf, fl_drop hf, List.set_eq_take_append_cons_drop, if_pos hi, List.flatMap_append, List.flatMap_cons, List.append_assoc]
theorem fl_at {α : Type} {f : α → List Value} {k : Nat} (hf : ∀ x, (f x).length = k) {w : World} {A : Option Addr} {xs : List α} (h : Cells w A (xs.flatMap f)) {i : Nat} {x : α} (hk : 0 < k) (hx : xs[i]? = some x) :
  ∃ a, A = some a ∧ ∀ j v, (f x)[j]? = some v → w.cell? ((a.add (i * k)).add j) = some v := by
 have hi := (List.getElem?_eq_some_iff.1 hx).1
 obtain ⟨a, ha⟩ := h.1 (by rw [fl_len hf]; exact Nat.mul_pos (by omega) hk)
 refine ⟨a, ha, fun j v hv => ?_⟩
 have hj : j < k := by
  rcases Nat.lt_or_ge j k with h | h
  ·exact h
  ·rw [List.getElem?_eq_none (by rw [hf]; exact h)] at hv; cases hv
 rw [add_add]
 exact h.2 a ha _ _ (by rw [fl_get hf _ _ _ _ hx hj]; exact hv)
theorem made_fl {α : Type} {f : α → List Value} (x : α) (m k : Nat) (hk : (f x).length = k) (hk0 : 0 < k) : (madeCells ⟨f x⟩ (m * k)).toList = (List.replicate m x).flatMap f := by
 have h0 : ∀ m, (List.replicate m x).flatMap f = (List.replicate m (f x)).flatten := fun m => by rw [← List.map_replicate]; simp [List.flatMap]
 apply List.ext_getElem?
 intro i
 have hlen : ((List.replicate m x).flatMap f).length = m * k := by rw [h0]; simp [hk]
 by_cases hi : i < m * k
 ·have e1 : (madeCells ⟨f x⟩ (m * k)).toList[i]? = (f x)[i % k]? := by
   simp only [madeCells, Array.toList_map, Array.toList_range, List.getElem?_map, List.getElem?_range hi, Option.map_some]
   have : i % k < (f x).length := by rw [hk]; exact Nat.mod_lt _ hk0
   rw [g2_ this]
   simp only [List.size_toArray, hk, List.getElem!_toArray, List.getElem!_eq_getElem?_getD, g2_ this, Option.getD_some]
  rw [e1]
  have h2 : i = (i / k) * k + i % k := by rw [Nat.mul_comm]; exact (Nat.div_add_mod i k).symm
  have h3 : i / k < m := Nat.div_lt_of_lt_mul (by rw [Nat.mul_comm]; exact hi)
  conv => rhs; rw [h2]
  have : ∀ (m q r : Nat), q < m → r < k → ((List.replicate m x).flatMap f)[q * k + r]? = (f x)[r]? := by
   intro m
   induction m with
   | zero => intro q r h; omega
   | succ m ih =>
    intro q r hq hr
    rw [List.replicate_succ, List.flatMap_cons]
    cases q with
    | zero => rw [List.getElem?_append_left (by rw [hk]; omega)]; simp
    | succ q =>
     rw [List.getElem?_append_right (by rw [hk, Nat.succ_mul]; omega), ← ih q r (by omega) hr]
     congr 1; rw [hk, Nat.succ_mul]; omega
  rw [this m _ _ h3 (Nat.mod_lt _ hk0)]
 ·have h1 := size_madeCells ⟨f x⟩ (m * k)
  rw [← Array.length_toList] at h1
  have h2 : (madeCells ⟨f x⟩ (m * k)).toList[i]? = none := List.getElem?_eq_none (by omega)
  have h3 : ((List.replicate m x).flatMap f)[i]? = none := List.getElem?_eq_none (by omega)
  rw [h2, h3]
structure PV where
 k : Int
 n : Int
 tx : ByteArray
 xs : List ByteArray
structure VV where
 p : PV
 A : Option Addr
 m : Nat
 c : Nat
def vC (v : VV) : List Value := [.int .i64 v.p.k, .int .i64 v.p.n, .string v.p.tx, .slice v.A v.m v.c]
theorem vC_len (v : VV) : (vC v).length = 4 := rfl
def Pool (w : World) (A : Option Addr) (n : Nat) (pv : List PV) : Prop :=
 ∃ vs : List VV, vs.map (·.p) = pv ∧ vs.length = n ∧ Cells w A (vs.flatMap vC) ∧ ∀ v ∈ vs, Strs w v.A v.m v.c v.p.xs ∧ v.p.tx.size ≤ 9223372036854775807
theorem Pool.ext {w w' : World} {A : Option Addr} {n : Nat} {pv : List PV} (h : Pool w A n pv) (hx : Ext w w') : Pool w' A n pv := by
 obtain ⟨vs, h1, h2, h3, h4⟩ := h
 exact ⟨vs, h1, h2, h3.ext hx, fun v hv => ⟨(h4 v hv).1.ext hx, (h4 v hv).2⟩⟩
theorem Pool.len {w : World} {A : Option Addr} {n : Nat} {pv : List PV} (h : Pool w A n pv) : pv.length = n := by
 obtain ⟨vs, h1, h2, _⟩ := h
 rw [← h1, List.length_map, h2]
theorem Pool.get {w : World} {A : Option Addr} {n : Nat} {pv : List PV} (h : Pool w A n pv) {i : Nat} (hi : i < n) : ∃ a k z tx xs A1 m c, A = some a ∧ pv[i]? = some ⟨k, z, tx, xs⟩ ∧
  (∀ j v, [Value.int .i64 k, .int .i64 z, .string tx, .slice A1 m c][j]? = some v → w.cell? ((a.add (i * 4)).add j) = some v) ∧ Strs w A1 m c xs ∧ tx.size ≤ 9223372036854775807 := by
 obtain ⟨vs, h1, h2, h3, h4⟩ := h
 have hv : ∃ v, vs[i]? = some v := ⟨_, g2_ (by omega)⟩
 obtain ⟨⟨⟨k, z, tx, xs⟩, A1, m, c⟩, hv⟩ := hv
 obtain ⟨a, ha, hc⟩ := fl_at vC_len h3 (by omega) hv
 exact ⟨a, k, z, tx, xs, A1, m, c, ha, by rw [← h1, List.getElem?_map, hv]; rfl, hc, h4 _ (m1_ hv)⟩
def iC (i : Int × Int) : List Value := [.int .i64 i.1, .int .i64 i.2]
theorem iC_len (i : Int × Int) : (iC i).length = 2 := rfl
structure InsR (w : World) (A : Option Addr) (n : Nat) (is : List (Int × Int)) : Prop where
 len : is.length = n
 cells : Cells w A (is.flatMap iC)
theorem InsR.ext {w w' : World} {A : Option Addr} {n : Nat} {is : List (Int × Int)} (h : InsR w A n is) (hx : Ext w w') : InsR w' A n is := ⟨h.1, h.2.ext hx⟩
theorem InsR.get {w : World} {A : Option Addr} {n : Nat} {is : List (Int × Int)} (h : InsR w A n is) {i : Nat} (hi : i < n) : ∃ a o g, A = some a ∧ is[i]? = some (o, g) ∧
  ∀ j v, [Value.int .i64 o, .int .i64 g][j]? = some v → w.cell? ((a.add (i * 2)).add j) = some v := by
 have hl := h.len
 have hv : ∃ v, is[i]? = some v := ⟨_, g2_ (by omega)⟩
 obtain ⟨⟨o, g⟩, hv⟩ := hv
 obtain ⟨a, ha, hc⟩ := fl_at iC_len h.cells (by omega) hv
 exact ⟨a, o, g, ha, hv, hc⟩
structure CodeR (w : World) (A : Option Addr) (n : Nat) (A2 : Option Addr) (n2 : Nat) (pv : List PV) (is : List (Int × Int)) : Prop where
 pool : Pool w A n pv
 ins : InsR w A2 n2 is
theorem CodeR.ext {w w' : World} {A A2 : Option Addr} {n n2 : Nat} {pv : List PV} {is : List (Int × Int)} (h : CodeR w A n A2 n2 pv is) (hx : Ext w w') : CodeR w' A n A2 n2 pv is := ⟨h.1.ext hx, h.2.ext hx⟩
abbrev codeV (A : Option Addr) (n c : Nat) (sl : Int) (A2 : Option Addr) (n2 c2 : Nat) : Value := .agg ⟨[.slice A n c, .int .i64 sl, .slice A2 n2 c2]⟩
end Go.Proofs.YtgnjkdkedjljjaaGreatDoor
namespace Go.Eng
set_option linter.unusedVariables false
structure Above (B : Nat) (w w' : World) : Prop where
 size : w.heap.size ≤ w'.heap.size
 block : ∀ i, B ≤ i → i < w.heap.size → w'.heap[i]? = w.heap[i]?
theorem Above.refl (B : Nat) (w : World) : Above B w w := ⟨n1_ _, fun _ _ _ => rfl⟩
theorem Above.trans {B : Nat} {a b c : World} (h : Above B a b) (k : Above B b c) : Above B a c :=
 ⟨n2_ h.1 k.1, fun i h1 h2 => by rw [k.2 i h1 (n3_ h2 h.1), h.2 i h1 h2]⟩
theorem Above.mono {B B' : Nat} {w w' : World} (h : Above B w w') (hB : B ≤ B') : Above B' w w' := ⟨h.1, fun i h1 h2 => h.2 i (n2_ hB h1) h2⟩
theorem Ext.above {w w' : World} (h : Ext w w') (B : Nat) : Above B w w' := ⟨h.size, fun i _ hi => h.block i hi⟩
theorem Wr.above {B B' e k} {w w' w0 : World} {a : Addr} {m c : Nat} {xs : List Value} (hw : Wr (some a) w w') (h : Own B' e k w0 (some a) m c xs) (hB : w0.heap.size ≤ B) : Above B w w' := by
 obtain ⟨gb, rfl, _, hg⟩ := h.form
 refine ⟨hw.size, fun i h1 h2 => hw.block i h2 ?_⟩
 simp only [Eng.blk, Value.ownBlock]
 intro e
 simp at e
 omega
theorem Above.cell {B : Nat} {w w' : World} (h : Above B w w') {b o : Nat} {x : Option _} (hb : B ≤ b) {v : Value} (hc : w.cell? ⟨b, o, x⟩ = some v) : w'.cell? ⟨b, o, x⟩ = some v := by
 have hlt : b < w.heap.size := by
  rcases Nat.lt_or_ge b w.heap.size with h1 | h1
  ·exact h1
  ·simp [World.cell?, Array.getElem?_eq_none h1] at hc
 have := h.block b hb hlt
 simp only [World.cell?, this] at hc ⊢
 exact hc
theorem Own.above {B e k} {w w' : World} {A : Option Addr} {m c : Nat} {xs : List Value} (h : Own B e k w A m c xs) (ha : Above B w w') : Own B e k w' A m c xs := by
 refine ⟨h.1, ?_⟩
 rcases h.2 with h1 | ⟨g, cap, cur, h1, h2, h3, h4⟩
 ·exact .inl h1
 ·exact .inr ⟨g, cap, cur, h1, h2, by rw [ha.block g h2 (Array.getElem?_eq_some_iff.1 h3).1, h3], h4⟩
section
variable {P : Program} {Pn : List PanicEntry → World → Prop} {n : Nat} {E : Sym} {w : World} {K : Value → World → Prop} {d : Option Tmp} {ty : TypeId} {pos : String} {aft : Array Edge} {g : Option (Nat × Bool)}
theorem st_litsK (hE : E = real P Pn n) {t e : TypeId} {z : Value} {k b : Nat} (ht : Slc P t e z k b) (hz : z.cells.size = k) (hk0 : 0 < k) {vs : List Value} {m : Nat} {parts : Array (Nat × Operand)} (hm : vs.length = m) (h0 : 0 < m) (hsm : m * k ≤ 16777216) (hp : parts.toList.map (·.1) = List.range m) (h1 : ∀ v ∈ vs, v.cells.size = k) {cs : List Value} (hcs : vs.flatMap (fun v => v.cells.toList) = cs)
  (hk : ∀ A w', Ext w w' → (∀ B, B ≤ w.heap.size → Own B e k w' A m m cs) → K (.slice A m m) w') : E.stop ⟨d, .buildSlice t m parts, ty, pos, aft, g⟩ vs w K := by
 obtain ⟨i0, hi1, hi2, hi3, hi4⟩ := ht.info
 have hlen : cs.length = m * k := by
  rw [← hcs, List.length_flatMap, ← hm]
  have : ∀ l : List Value, (∀ v ∈ l, v.cells.size = k) → (l.map fun v => v.cells.toList.length).sum = l.length * k := by
   intro l
   induction l with
   | nil => simp
   | cons x l ih =>
    intro h
    rw [b2_, List.sum_cons, ih fun v hv => h v (by simp [hv]), a3_, Nat.succ_mul, Array.length_toList, h x (by simp), Nat.add_comm]
  exact this vs h1
 refine st_run hE (v := .slice (some ⟨w.heap.size, 0, none⟩) m m) (w' := w.alloc (.cells ⟨cs⟩ e)) (fun ρ hρ => ?_) (hk _ _ ((Ext.refl w).alloc (n1_ _) _) fun B hB => World.ownsRow_lit (e := e) (size := k) w ⟨cs⟩ m hB (by unfold maxLen; have : m ≤ m * k := Nat.le_mul_of_pos_right _ hk0; omega) (by simp [hlen]))
 have hρ' : parts.toList.map (fun x => ρ x.2) = vs := by simpa [opnds, Function.comp_def] using hρ
 have hf := run_buildSlice (P := P) w t e m (parts.map fun (i, x) => (i, ρ x)) cs.toArray i0 z ht.u hi1 hi2 (by rw [hi3]; omega) (by rw [hi3]; exact Nat.ne_of_gt (Nat.mul_pos h0 hk0)) (by
  rw [hi3, Array.toList_map]
  rw [show (parts.toList.map fun (x : Nat × Operand) => match x with | (i, x) => (i, ρ x)) = parts.toList.map (fun x => (x.1, ρ x.2)) from rfl, parts_zip hp hρ', ← hcs]
  exact Go.Great.fill_whole hk0 vs _ h1 (by simp [hm]))
 simp only [execOp, Sem.run_bind, hf, Result.andThen_ok]
 rfl
theorem st_appsG (hE : E = real P Pn n) {t e : TypeId} {z : Value} {b : Nat} (ht : Slc P t e z 1 b) (hz : z.cells = #[z]) {B : Nat} {A A1 : Option Addr} {m c m1 c1 : Nat} {xs vs : List Value} {ao : Array Operand} (h : Own B e 1 w A m c xs) (hn : Cells w A1 vs) (hl : vs.length = m1) (hv : ∀ v ∈ vs, v.oneCell' = true)
  (hB : B ≤ w.heap.size) (hb : (m + m1) * b ≤ 140737488355328) (hm : m + m1 ≤ 9223372036854775807)
  (hk : ∀ A' c' m' w', m' = m + m1 → Wr A w w' → Own B e 1 w' A' m' c' (xs ++ vs) → (Eng.blk A' = Eng.blk A ∨ Eng.blk A' = some w.heap.size) → K (.slice A' m' c') w') : E.stop ⟨d, .call ⟨.builtin .append, ao, #[t, t]⟩, ty, pos, aft, g⟩ [.slice A m c, .slice A1 m1 c1] w K := by
 obtain ⟨i0, h1, h2, h3, h4⟩ := ht.info
 cases A1 with
 | none =>
  have h0 : vs = [] := by
   rcases Nat.eq_zero_or_pos vs.length with h0 | h0
   ·exact List.length_eq_zero_iff.1 h0
   ·obtain ⟨a, ha⟩ := hn.1 h0; cases ha
  subst h0
  simp only [a4_] at hl
  subst hl
  refine st_run hE (v := .slice A m c) (w' := w) (fun ρ hρ => ?_) (hk _ _ _ _ rfl (Wr.refl _ _) (by simpa using h) (.inl rfl))
  have h3' := map_of (ao := ao) hρ
  simp [execOp, resolve, invoke, builtin, h3', run_append_none ht.u h1 h]
 | some a1 =>
  obtain ⟨v', w', hr, hown, hg, _, hbk⟩ := run_append_own_at (P := P) w B t ty e i0 z 1 b ht.u h1 h2 h3 h4 (by rw [hz]; rfl) (by omega) (.slice A m c) m xs h a1 m1 c1 vs (by omega)
   (fun j u hu => hn.2 a1 rfl j u hu) hv (by unfold maxLen; omega) hb hB
  have hform : ∃ A' c', v' = .slice A' (m + m1) c' := by
   rcases hown.2 with ⟨h5, h6⟩ | ⟨g, cap, cur, h5, _⟩
   ·exact ⟨none, 0, by rw [h5, h6]⟩
   ·exact ⟨_, _, h5⟩
  obtain ⟨A', c', rfl⟩ := hform
  refine st_run hE (v := .slice A' (m + m1) c') (w' := w') (fun ρ hρ => ?_) (hk _ _ _ _ rfl ?_ hown ?_)
  ·have h3' := map_of (ao := ao) hρ
   simp [execOp, resolve, invoke, builtin, h3', hr]
  ·cases A <;> exact hg
  ·cases A <;> cases A' <;> exact hbk
end
set_option linter.unusedSimpArgs false
def reach (md : Region.Mode) (ops : Array Oper) : Nat → Nat → Nat → Bool
 | 0, _, _ => false
 | f + 1, k, i => match ops[k]? with
  | some o => o.after.any fun e => Region.binds md e && (e.on == i || reach md ops f e.on i)
  | none => false
def needS (md : Region.Mode) (ops : Array Oper) (l : List Nat) (k : Nat) : Bool := l.any fun i => !(reach md ops ops.size k i)
def Closed (md : Region.Mode) (ops : Array Oper) (listed : Array Bool) : Prop := ∀ (k : Nat) (o : Oper), ops[k]? = some o → listed.getD k false = true → ∀ e ∈ o.after, Region.binds md e = true → listed.getD e.on false = true
theorem reach_listed {md : Region.Mode} {ops : Array Oper} {listed : Array Bool} (hc : Closed md ops listed) {i : Nat} : ∀ (f k : Nat), (∀ o, ops[k]? = some o → ∀ e ∈ o.after, Region.binds md e = true → listed.getD e.on false = true) → reach md ops f k i = true → listed.getD i false = true
 | 0, k, _, h => by simp [reach] at h
 | f + 1, k, hk, h => by
  rw [reach] at h
  split at h
  ·rename_i o ho
   obtain ⟨q, hq, h⟩ := Array.any_eq_true.1 h
   obtain ⟨e, he⟩ : ∃ e, e = o.after[q] := ⟨_, rfl⟩
   rw [← he] at h
   replace he : e ∈ o.after := by rw [he]; exact Array.getElem_mem hq
   simp only [Bool.and_eq_true, Bool.or_eq_true, beq_iff_eq] at h
   have he1 := hk o ho e he h.1
   rcases h.2 with e1 | e1
   ·rw [← e1]; exact he1
   ·exact reach_listed hc f e.on (fun o' ho' => hc e.on o' ho' he1) e1
  ·cases h
def wpAnyT (P : Program) (md : Region.Mode) (ops : Array Oper) (Q : Exit → Act → World → Prop) (S : World → Prop) (l : List Nat) : Nat → Array Bool → Act → World → Prop
 | 0, listed, a, w => Region.ready md ops listed = [] ∧ Q .normal a w
 | fuel + 1, listed, a, w => (Region.ready md ops listed = [] → Q .normal a w) ∧
  ∀ i ∈ Region.ready md ops listed, wpOp P ops Q i (fun a' w' => (needS md ops l i = true → S w') ∧ wpAnyT P md ops Q S l fuel (listed.setIfInBounds i true) a' w') a w
section
variable {P : Program} {ops : Array Oper} {Q : Exit → Act → World → Prop} {md : Region.Mode} {S : World → Prop} {l : List Nat}
theorem wpAny_of_T : ∀ (fuel : Nat) (listed : Array Bool) (a : Act) (w : World), wpAnyT P md ops Q S l fuel listed a w → wpAny P md ops Q fuel listed a w
 | 0, _, _, _, h => h
 | fuel + 1, _, _, _, h => ⟨h.1, fun i hi => wpOp_mono (fun a' w' h' => wpAny_of_T fuel _ a' w' h'.2) (h.2 i hi)⟩
theorem wpAnyT_first {i : Nat} {oi : Oper} {v : Value} (hi : ops[i]? = some oi) (hil : i ∈ l) (hsel : ∀ (j : Nat) (o : Oper) cs b, ops[j]? = some o → o.op ≠ .select cs b)
  (hQ : ∀ c a w, Q (.panic c) (a.put oi.dst v) w → Q (.panic c) a w) : ∀ (fuel : Nat) (listed : Array Bool) (a : Act) (w : World),
   (∀ j oj, ops[j]? = some oj → j ≠ i → listed.getD j true = false → (∀ e ∈ oj.after, Region.binds md e = true → e.on ≠ i) → oi.apart ops oj = true) →
   i ∈ Region.ready md ops listed → Closed md ops listed → YieldsIf P ops S oi v a → S w →
   wpAnyT P md ops Q S l fuel (listed.setIfInBounds i true) (a.put oi.dst v) w → wpAnyT P md ops Q S l (fuel + 1) listed a w := by
 intro fuel
 induction fuel with
 | zero =>
  intro listed a w _ hr hcl hy hS H
  refine ⟨fun h => (by rw [h] at hr; cases hr), fun j hj => ?_⟩
  by_cases hji : j = i
  ·subst hji; exact hy.wpOp hi hS ⟨fun _ => hS, H⟩
  ·have h0 := ready_mono hj hji
   rw [H.1] at h0
   cases h0
 | succ fuel ih =>
  intro listed a w hfree hr hcl hy hS H
  refine ⟨fun h => (by rw [h] at hr; cases hr), fun j hj => ?_⟩
  by_cases hji : j = i
  ·subst hji; exact hy.wpOp hi hS ⟨fun _ => hS, H⟩
  ·have h1 := H.2 j (ready_mono hj hji)
   obtain ⟨hjun, oj, hoj, hall⟩ := mem_ready.1 hj
   have hnot : ∀ e ∈ oj.after, Region.binds md e = true → e.on ≠ i := fun e he hb heq => by
    have a1 := hall e he hb
    have a0 := (mem_ready.1 hr).1
    rw [heq] at a1
    rcases Nat.lt_or_ge i listed.size with h' | h'
    ·simp [h'] at a0 a1; rw [a0] at a1; cases a1
    ·simp [Array.getElem?_eq_none h'] at a1
   have hneed : needS md ops l j = true := by
    unfold needS
    rw [List.any_eq_true]
    refine ⟨i, hil, ?_⟩
    rw [Bool.not_eq_true']
    refine Bool.eq_false_iff.2 fun hre => ?_
    have hi1 := reach_listed hcl (i := i) ops.size j (fun o ho => by rw [hoj] at ho; cases ho; exact hall) hre
    have hi0 := (mem_ready.1 hr).1
    rcases Nat.lt_or_ge i listed.size with h' | h'
    ·simp [h'] at hi0 hi1; rw [hi0] at hi1; cases hi1
    ·simp [Array.getElem?_eq_none h'] at hi1
   have hcl' : Closed md ops (listed.setIfInBounds j true) := fun k o ho hk e he hb => by
    have key : listed.getD e.on false = true := by
     by_cases hkj : j = k
     ·subst hkj; rw [hoj] at ho; cases ho; exact hall e he hb
     ·rw [getD_set_ne false hkj] at hk; exact hcl k o ho hk e he hb
    by_cases hje : j = e.on
    ·subst hje
     rcases Nat.lt_or_ge e.on listed.size with h' | h'
     ·simp [h']
     ·simp [Array.getElem?_eq_none h'] at key
    ·rw [getD_set_ne false hje]; exact key
   have h2 := wpOp_putIf hoj (hfree j oj hoj hji hjun hnot) (fun cs b => hsel i oi cs b hi) (fun cs b => hsel j oj cs b hoj) hQ hy h1
   have hfree' : ∀ k ok, ops[k]? = some ok → k ≠ i → (listed.setIfInBounds j true).getD k true = false →
     (∀ e ∈ ok.after, Region.binds md e = true → e.on ≠ i) → oi.apart ops ok = true := fun k ok hk hki hun hno => by
    refine hfree k ok hk hki ?_ hno
    by_cases hjk : j = k
    ·subst hjk; exact hjun
    ·rw [getD_set_ne true hjk] at hun; exact hun
   refine wpOp_mono (fun a' w' h3 => ⟨fun _ => h3.2.1 hneed, ih (listed.setIfInBounds j true) a' w' hfree' (ready_mono hr (Ne.symm hji)) hcl' h3.1 (h3.2.1 hneed) ?_⟩) h2
   rw [Array.setIfInBounds_comm _ _ hji]
   exact h3.2.2
theorem wpAnyT_take {i : Nat} {oi : Oper} {v : Value} {fuel : Nat} {listed : Array Bool} {a : Act} {w : World} (hi : ops[i]? = some oi) (hil : i ∈ l)
  (hs : Region.noSelect ops = true) (hf : Region.free md ops listed i = true) (hr : (Region.ready md ops listed).contains i = true) (hcl : Closed md ops listed)
  (hQ : ∀ c a w, Q (.panic c) (a.put oi.dst v) w → Q (.panic c) a w) (hy : YieldsIf P ops S oi v a) (hS : S w)
  (h : wpAnyT P md ops Q S l fuel (listed.setIfInBounds i true) (a.put oi.dst v) w) : wpAnyT P md ops Q S l (fuel + 1) listed a w :=
 wpAnyT_first hi hil (Region.noSelect_spec hs) hQ fuel listed a w (Region.free_spec hi hf) (by simpa using hr) hcl hy hS h
theorem closed_set {listed : Array Bool} {k : Nat} (hcl : Closed md ops listed) (hr : (Region.ready md ops listed).contains k = true) : Closed md ops (listed.setIfInBounds k true) := fun q o ho hq e he hb => by
 have hr : k ∈ Region.ready md ops listed := by simpa using hr
 obtain ⟨hkun, ok, hok, hall⟩ := mem_ready.1 hr
 have key : listed.getD e.on false = true := by
  by_cases hkq : k = q
  ·subst hkq; rw [hok] at ho; cases ho; exact hall e he hb
  ·rw [getD_set_ne false hkq] at hq; exact hcl q o ho hq e he hb
 by_cases hje : k = e.on
 ·subst hje
  rcases Nat.lt_or_ge e.on listed.size with h' | h'
  ·simp [h']
  ·simp [Array.getElem?_eq_none h'] at key
 ·rw [getD_set_ne false hje]; exact key
theorem wpAnyT_done {listed : Array Bool} {a : Act} {w : World} (hr : Region.ready md ops listed = []) (h : Q .normal a w) : ∀ fuel, wpAnyT P md ops Q S l fuel listed a w
 | 0 => ⟨hr, h⟩
 | _ + 1 => ⟨fun _ => h, by rw [hr]; simp⟩
end
def ePh2T (E : Sym) (S : World → Prop) (all : List Oper) : List (Nat × Bool) → Fr → World → (Fr → World → Prop) → Prop
 | [], F, w, K => K F w
 | (k, true) :: l, F, w, K => match all[k]? with
  | none => False
  | some o => eOps E all [o] F w fun F' w' => S w' ∧ ePh2T E S all l F' w' K
 | (k, false) :: l, F, w, K => match all[k]? with
  | none => False
  | some o => eOps E all [o] F w fun F' w' => ePh2T E S all l F' w' K
def planT2 (ops : Array Oper) (l1 : List Nat) : List (Nat × Bool) → Array Bool → Bool
 | [], listed => Region.ready .any ops listed == []
 | (k, b) :: l, listed => Region.ready .any ops listed == [k] && (b || !(needS .any ops l1 k)) && planT2 ops l1 l (listed.setIfInBounds k true)
def planT1 (ops : Array Oper) (l0 : List Nat) : List Nat → List (Nat × Bool) → Array Bool → Bool
 | [], l2, listed => planT2 ops l0 l2 listed
 | k :: l, l2, listed => l0.contains k && Region.free .any ops listed k && (Region.ready .any ops listed).contains k && planT1 ops l0 l l2 (listed.setIfInBounds k true)
def planT (ops : Array Oper) (l1 : List Nat) (l2 : List (Nat × Bool)) : Bool :=
 Region.noSelect ops && Nat.beq (l1.length + l2.length) ops.size && planT1 ops l1 l1 l2 (Array.replicate ops.size false)
section
variable {P : Program} {Pn : List PanicEntry → World → Prop} {n : Nat}
theorem ePh2T_sound {S : World → Prop} {all : List Oper} {l0 : List Nat} (hd : ∀ o ∈ all, ∀ t, o.dst = some t → t < n) {K : Exit → Fr → World → Prop} : ∀ (l : List (Nat × Bool)) (listed : Array Bool) (F : Fr) (a : Act) (w : World), Kn n F a → planT2 all.toArray l0 l listed = true → ePh2T (real P Pn n) S all l F w (K .normal) → wpAnyT P .any all.toArray (QK Pn n K) S l0 l.length listed a w
 | [], listed, F, a, w, hk, hB, h => by
  have hr : Region.ready .any all.toArray listed = [] := by simpa [planT2] using hB
  exact wpAnyT_done hr ⟨F, hk, h⟩ _
 | (k, true) :: l, listed, F, a, w, hk, hB, h => by
  simp only [planT2, Bool.and_eq_true] at hB
  obtain ⟨⟨hr, _⟩, hB⟩ := hB
  have hr : Region.ready .any all.toArray listed = [k] := by simpa using hr
  simp only [ePh2T] at h
  split at h
  ·exact h.elim
  ·rename_i o ho
   refine ⟨fun q => (by rw [hr] at q; cases q), fun i hi => ?_⟩
   obtain rfl : i = k := by rw [hr] at hi; simpa using hi
   exact step_op (Pn := Pn) ho (hd o (m1_ ho)) hk (fun c w h => ⟨hk.defers, h⟩) (fun F' a' w' hk' ⟨h1, h2⟩ => ⟨fun _ => h1, ePh2T_sound hd l _ F' a' w' hk' hB h2⟩) h
 | (k, false) :: l, listed, F, a, w, hk, hB, h => by
  simp only [planT2, Bool.and_eq_true, Bool.false_or, Bool.not_eq_true'] at hB
  obtain ⟨⟨hr, hn⟩, hB⟩ := hB
  have hr : Region.ready .any all.toArray listed = [k] := by simpa using hr
  simp only [ePh2T] at h
  split at h
  ·exact h.elim
  ·rename_i o ho
   refine ⟨fun q => (by rw [hr] at q; cases q), fun i hi => ?_⟩
   obtain rfl : i = k := by rw [hr] at hi; simpa using hi
   exact step_op (Pn := Pn) ho (hd o (m1_ ho)) hk (fun c w h => ⟨hk.defers, h⟩) (fun F' a' w' hk' h2 => ⟨fun q => (by rw [hn] at q; cases q), ePh2T_sound hd l _ F' a' w' hk' hB h2⟩) h
theorem ePh1T_sound {S : World → Prop} {w : World} (hSE : ∀ w1, S w1 → Ext w w1) {all : List Oper} {l0 : List Nat} (hs : Region.noSelect all.toArray = true) (hd : ∀ o ∈ all, ∀ t, o.dst = some t → t < n) {K : Exit → Fr → World → Prop} {w0 : World} (hS : S w0) (l2 : List (Nat × Bool)) (K1 : Fr → World → Prop) : ∀ (l : List Nat) (listed : Array Bool) (F : Fr) (a : Act), Kn n F a → Closed .any all.toArray listed → planT1 all.toArray l0 l l2 listed = true → ePh1 (hreal P) all l F w K1 →
  (∀ F a listed, Kn n F a → planT2 all.toArray l0 l2 listed = true → K1 F w → wpAnyT P .any all.toArray (QK Pn n K) S l0 l2.length listed a w0) → wpAnyT P .any all.toArray (QK Pn n K) S l0 (l.length + l2.length) listed a w0
 | [], listed, F, a, hk, hcl, hB, h, h2 => by simpa using h2 F a listed hk hB h
 | k :: l, listed, F, a, hk, hcl, hB, h, h2 => by
  simp only [planT1, Bool.and_eq_true] at hB
  obtain ⟨⟨⟨hl, hf⟩, hr⟩, hB⟩ := hB
  simp only [ePh1] at h
  split at h
  ·exact h.elim
  ·rename_i o ho
   obtain ⟨v, F', hy, hk', h⟩ := step_yields (P := P) (n := n) (S := S) (E' := hreal P) (fun _ _ => rfl) (fun _ _ _ ⟨v, h1, h2⟩ => ⟨v, fun w1 hw1 => h1 w1 (hSE w1 hw1), h2⟩) (hd o (m1_ ho)) hk h
   have := wpAnyT_take (l := l0) (by simpa using ho) (by simpa using hl) hs hf hr hcl panic_put hy hS (ePh1T_sound hSE hs hd hS l2 K1 l _ F' _ hk' (closed_set hcl hr) hB h h2)
   simpa [Nat.add_right_comm] using this
theorem draw_t (l1 : List Nat) (l2 : List (Nat × Bool)) {E : Sym} (hE : E = real P Pn n) {id : Nat} {ops : Array Oper} {F : Fr} {w : World} {K : Exit → Fr → World → Prop} (hm : P.follows .mixedOrders = true) (hB : planT ops l1 l2 = true)
  (h : ∀ E', EngB false P E' → ∀ w0, Same w w0 → ∀ S : World → Prop, (∀ w', Ext w0 w' → S w') → ePh1 E' ops.toList l1 F w0 (fun F' w' => ePh2T E S ops.toList l2 F' w' (K .normal))) : E.draw id ops F w K := by
 subst hE
 intro hd a hk
 simp only [planT, Bool.and_eq_true, Nat.beq_eq] at hB
 obtain ⟨⟨hs, hl⟩, hB⟩ := hB
 have hs' : Region.noSelect ops.toList.toArray = true := by simpa using hs
 have := ePh1T_sound (Pn := Pn) (K := K) (n := n) (l0 := l1) (S := Ext { w with drawn := w.drawn + 1 }) (w := { w with drawn := w.drawn + 1 }) (fun _ h => h) hs' (okDst_ops hd) (Ext.refl _) l2 _ l1 (Array.replicate ops.size false) F a hk (fun k o _ h => by simp only [Array.getD_eq_getD_getElem?, Array.getElem?_replicate] at h; split at h <;> simp at h) (by simpa using hB) (h (hreal P) (Eng.h P) _ (Same.drew w) _ (fun _ h => h))
  (fun F a listed hk hB h => ePh2T_sound (okDst_ops hd) l2 listed F a _ hk hB h)
 rw [hl] at this
 exact wp_region_any hm (wpAny_of_T _ _ _ _ (by simpa using this))
end
structure STab (w : World) (v : Nat) (f : List ByteArray) : Prop where
 ex : ∃ bm es clock, w.cell? ⟨v, 0, none⟩ = some (.map (some bm)) ∧ w.heap[bm]? = some (.map es clock) ∧ (∀ e ∈ es.toList, ∃ k, e.key = .string k ∧ e.val = .bool true ∧ k ∈ f) ∧ ∀ k ∈ f, ∃ e ∈ es.toList, e.key = .string k ∧ e.val = .bool true
theorem STab.ext {w w' : World} {v : Nat} {f : List ByteArray} (h : STab w v f) (hx : Ext w w') : STab w' v f := by
 obtain ⟨bm, es, clock, h1, h2, h3⟩ := h.ex
 exact ⟨bm, es, clock, hx.cell h1, hx.getMap h2, h3⟩
theorem find_str (k : ByteArray) : ∀ (es : List MapEntry) (i : Nat), (∀ e ∈ es, ∃ q, e.key = .string q) → ∃ r, Instr.findNow .string (.string k) es i = some r ∧ ((r = none ∧ ∀ e ∈ es, e.key ≠ .string k) ∨ ∃ j, ∃ e ∈ es, r = some (j, e.val) ∧ e.key = .string k)
 | [], i, _ => ⟨none, rfl, .inl ⟨rfl, by simp⟩⟩
 | e :: es, i, h => by
  obtain ⟨q, h1⟩ := h e (by simp)
  by_cases hq : k = q
  ·subst hq
   exact ⟨some (i, e.val), by simp [Instr.findNow, Instr.sameNow, h1, (MapKept.bytes_beq k k).2 rfl], .inr ⟨i, e, by simp, rfl, h1⟩⟩
  ·obtain ⟨r, hr, hr2⟩ := find_str k es (i + 1) fun e he => h e (by simp [he])
   have hb : (k == q) = false := by rw [Bool.eq_false_iff]; exact fun h => hq ((MapKept.bytes_beq k q).1 h)
   refine ⟨r, by simp [Instr.findNow, Instr.sameNow, h1, hb, hr], ?_⟩
   rcases hr2 with ⟨h3, h4⟩ | ⟨j, e', he', h3, h4⟩
   ·refine .inl ⟨h3, fun e' he' => ?_⟩
    rcases List.mem_cons.1 he' with rfl | he'
    ·rw [h1]; simp [Ne.symm hq]
    ·exact h4 e' he'
   ·exact .inr ⟨j, e', by simp [he'], h3, h4⟩
section
variable {P : Program} {E : Sym} {w : World} {K : Value → World → Prop} {d : Option Tmp} {ty : TypeId} {pos : String} {aft : Array Edge} {g : Option (Nat × Bool)}
theorem st_stab {bq : Bool} (hE : EngB bq P E) {t kt et : TypeId} (ht : P.underlying t = some (.map kt et)) (hkt : P.underlying kt = some .string) (hz : (P.info? et).map (·.zero) = some (some (.bool false))) {bm : Nat} {f : List ByteArray} {es : Array MapEntry} {clock : Nat} (hb : w.heap[bm]? = some (.map es clock))
  (h1 : ∀ e ∈ es.toList, ∃ k, e.key = .string k ∧ e.val = .bool true ∧ k ∈ f) (h2 : ∀ k ∈ f, ∃ e ∈ es.toList, e.key = .string k ∧ e.val = .bool true) {k : ByteArray} {x y : Operand}
  (hk : ∀ b : Bool, (b = true ↔ k ∈ f) → K (.bool b) w) : E.stop ⟨d, .lookup t x y false, ty, pos, aft, g⟩ [.map (some bm), .string k] w K := by
 obtain ⟨i0, hi, hz⟩ := Option.map_eq_some_iff.1 hz
 obtain ⟨r, hr, hr2⟩ := find_str k es.toList 0 fun e he => by obtain ⟨q, h3, _⟩ := h1 e he; exact ⟨q, h3⟩
 have hck0 : ∀ (q : Nat) (w1 : World), (Instr.checkKey es.isEmpty (q + 1) kt (.string k)).run P w1 = .ok () w1 := fun q w1 => by simp [Instr.checkKey, run_underlying hkt]
 have hck : ∀ w1 : World, (Instr.checkKey es.isEmpty 10000 kt (.string k)).run P w1 = .ok () w1 := hck0 9999
 rcases hr2 with ⟨rfl, hno⟩ | ⟨j, e, he, rfl, hke⟩
 ·refine hE.det (v := .bool false) (fun w1 hx ρ hρ => ?_) (hk false (by
   simp only [Bool.false_eq_true, false_iff]
   intro q
   obtain ⟨e, he, h3, _⟩ := h2 k q
   exact hno e he h3))
  simp only [opnds, b2_, b3_, b1_, and_true] at hρ
  have hb1 : w1.heap[bm]? = some (.map es clock) := hx.getMap hb
  have hg := MapKept.run_getObj_map (P := P) hb1
  simp [execOp, hρ.1, hρ.2, Instr.lookup, run_underlying ht, hg, hck, Instr.findKey, run_underlying hkt, hr, zeroValue, typeInfo, hi, hz]
 ·obtain ⟨q, h3, h4, h5⟩ := h1 e he
  rw [hke] at h3
  cases h3
  refine hE.det (v := .bool true) (fun w1 hx ρ hρ => ?_) (hk true (by simp [h5]))
  simp only [opnds, b2_, b3_, b1_, and_true] at hρ
  have hb1 : w1.heap[bm]? = some (.map es clock) := hx.getMap hb
  have hg := MapKept.run_getObj_map (P := P) hb1
  simp [execOp, hρ.1, hρ.2, Instr.lookup, run_underlying ht, hg, hck, Instr.findKey, run_underlying hkt, hr, h4]
end
end Go.Eng
namespace Go.Proofs.YtgnjkdkedjljjaaGreatDoor
open Go.ChangeShapes Go.WideShapes Go.ChangeAt Go.RowKit Go.Eng
set_option maxRecDepth 100000
theorem list4m {α : Type} : ∀ {l : List α}, l.length = 4 → ∃ a b c d, l = [a, b, c, d]
 | [a, b, c, d], _ => ⟨a, b, c, d, rfl⟩
theorem list2m {α : Type} : ∀ {l : List α}, l.length = 2 → ∃ a b, l = [a, b]
 | [a, b], _ => ⟨a, b, rfl⟩
theorem pick_list {α : Type} {Q : Nat → α → Prop} : ∀ (n : Nat), (∀ i, i < n → ∃ y, Q i y) → ∃ ys : List α, ys.length = n ∧ ∀ i y, ys[i]? = some y → Q i y
 | 0, _ => ⟨[], rfl, by simp⟩
 | n + 1, h => by
  obtain ⟨ys, h1, h2⟩ := pick_list n fun i hi => h i (by omega)
  obtain ⟨y, hy⟩ := h n (by omega)
  refine ⟨ys ++ [y], by simp [h1], fun i z hz => ?_⟩
  rcases Nat.lt_or_ge i n with hi | hi
  ·rw [List.getElem?_append_left (by omega)] at hz; exact h2 i z hz
  ·rw [List.getElem?_append_right (by omega)] at hz
   have : i - ys.length = 0 := by
    rcases Nat.eq_zero_or_pos (i - ys.length) with h0 | h0
    ·exact h0
    ·rw [List.getElem?_eq_none (by simp; omega)] at hz; cases hz
   rw [this] at hz
   simp at hz
   subst hz
   have : i = n := by omega
   subst this; exact hy
section
variable {H : Type} {enc : TypeId × Value → H} {P : Program} {w : World} {base : Nat} {held : Bool} {fuel : Nat} {x : DataW H × List MemPlace}
theorem fldAtM {sp : Nat → Bool} {fs : Array Field} {cs : List Value} {xs : List (DataW H × List MemPlace)} {n : Nat} (hlen : xs.length = fs.size) (hf : ∀ (i : Nat) (f : Field), fs[i]? = some f → DataW.trod enc P w base sp held n f.type ((cs.drop f.offset).take (P.cellsOf f.type)) = xs[i]?)
  (i : Nat) (f : Field) (hi : fs[i]? = some f) : ∃ x, DataW.trod enc P w base sp held n f.type ((cs.drop f.offset).take (P.cellsOf f.type)) = some x := by
 have h1 := (Array.getElem?_eq_some_iff.1 hi).1
 exact ⟨xs[i]'(by omega), by rw [hf i f hi]; simp⟩
theorem open_rowsM {α : Type} {f : α → List Value} {k : Nat} {Q : α → Prop} {t e : TypeId} {cs : List Value} (ht : P.underlying t = some (.slice e)) (hk : P.cellsOf e = k) (hk0 : 0 < k)
  (hel : ∀ n cs x, DataW.trod enc P w base (fun _ => true) held n e cs = some x → ∃ y, cs = f y ∧ (f y).length = k ∧ Q y)
  (h : DataW.trod enc P w base (fun _ => true) held fuel t cs = some x) :
  ∃ (A : Option Addr) (n c : Nat) (ys : List α), cs = [.slice A n c] ∧ ys.length = n ∧ n ≤ c ∧ n ≤ 9223372036854775807 ∧ Cells w A (ys.flatMap f) ∧ ∀ y ∈ ys, Q y := by
 rcases DataW.trod_slice ht h with ⟨rfl, _⟩ | ⟨a, len, cap, elems, rest, n, _, rfl, _, _, hl, hm, hlen, hall, _⟩
 ·exact ⟨none, 0, 0, [], rfl, rfl, by omega, by omega, ⟨by simp, by simp⟩, by simp⟩
 ·obtain ⟨ys, h1, h2⟩ := pick_list (Q := fun i y => (∀ j v, (f y)[j]? = some v → w.cell? ((a.add (i * k)).add j) = some v) ∧ (f y).length = k ∧ Q y) len fun i hi => by
   have key := hall i hi
   rw [g2_ (by omega)] at key
   obtain ⟨cs', g1, g2⟩ := Option.bind_eq_some_iff.1 key
   obtain ⟨y, g3, g4, g5⟩ := hel _ _ _ g2
   refine ⟨y, fun j v hv => ?_, g4, g5⟩
   unfold World.cells? at g1
   split at g1
   ·have hj : j < k := by rw [← g4]; exact (List.getElem?_eq_some_iff.1 hv).1
    have := mapM_some_get g1 j j (by rw [hk]; simp [hj])
    rw [hk] at this
    rw [this, g3, hv]
   ·cases g1
  have hfl : ∀ y ∈ ys, (f y).length = k := fun y hy => by
   obtain ⟨i, hi⟩ := List.mem_iff_getElem?.1 hy
   exact (h2 i y hi).2.1
  unfold maxLen at hm
  refine ⟨some a, len, cap, ys, rfl, h1, hl, by omega, ⟨fun _ => ⟨a, rfl⟩, fun a' ha' j v hv => ?_⟩, fun y hy => ?_⟩
  ·cases ha'
   have get : ∀ (zs : List α) (o : Nat), (∀ z ∈ zs, (f z).length = k) → (∀ i z, zs[i]? = some z → ∀ j v, (f z)[j]? = some v → w.cell? (a.add ((o + i) * k + j)) = some v) → ∀ j v, (zs.flatMap f)[j]? = some v → w.cell? (a.add (o * k + j)) = some v := by
    intro zs
    induction zs with
    | nil => intro o _ _ j v hv; simp at hv
    | cons z zs ih =>
     intro o hz hq j v hv
     rw [List.flatMap_cons] at hv
     rcases Nat.lt_or_ge j k with hj | hj
     ·rw [List.getElem?_append_left (by rw [hz z (by simp)]; exact hj)] at hv
      simpa using hq 0 z rfl j v hv
     ·rw [List.getElem?_append_right (by rw [hz z (by simp)]; exact hj), hz z (by simp)] at hv
      have := ih (o + 1) (fun z hz' => hz z (by simp [hz'])) (fun i z hi j v hv => by have := hq (i + 1) z (by simpa using hi) j v hv; rwa [show o + 1 + i = o + (i + 1) by omega]) (j - k) v hv
      rwa [show (o + 1) * k + (j - k) = o * k + j by rw [Nat.succ_mul]; omega] at this
   have := get ys 0 hfl (fun i z hi j v hv => by have := (h2 i z hi).1 j v hv; rw [add_add] at this; simpa using this) j v hv
   simpa using this
  ·obtain ⟨i, hi⟩ := List.mem_iff_getElem?.1 hy
   exact (h2 i y hi).2.2
end
section
variable {H : Type} {enc : TypeId × Value → H} {w : World} {base : Nat} {held : Bool} {fuel : Nat} {x : DataW H × List MemPlace}
theorem strs_of_cellsM {cs : List Value} (h : DataW.trod enc Tryz.prog w base (fun _ => true) held fuel 49 cs = some x) : ∃ A n c xs, cs = [.slice A n c] ∧ Strs w A n c xs := by
 rcases open_strings Tryz.underlying49 uStr (by kernel_rfl) h with ⟨hcs, _⟩ | ⟨a, len, cap, ss, hcs, _, hl, hm, hz, _, hcell, hws⟩
 ·exact ⟨none, 0, 0, [], hcs, rfl, by omega, by omega, ⟨by simp, by simp⟩, by simp⟩
 ·simp only [if_true] at hz
  unfold maxLen at hm
  refine ⟨some a, len, cap, ss.take len, hcs, by simp; omega, by omega, hl, ⟨fun _ => ⟨a, rfl⟩, fun a' ha' j v hv => ?_⟩, fun s hs => ?_⟩
  ·cases ha'
   rw [List.getElem?_map, List.getElem?_take] at hv
   split at hv
   ·rename_i hj
    rw [hcell j (by omega), ← hv, List.getD_eq_getElem?_getD, g2_ (by omega)]
    simp
   ·simp at hv
  ·have := hws s (List.mem_of_mem_take hs)
   unfold maxLen at this; omega
end
section
variable {H : Type} {enc : TypeId × Value → H} {P : Program} {base : Nat} {held : Bool} {fuel : Nat}
theorem mem_insAll {p : Lit × DataW H} : ∀ (l : List (Lit × DataW H)), p ∈ l.foldr DataW.insert [] ↔ p ∈ l
 | [] => by simp
 | q :: l => by rw [List.foldr_cons, Go.ChangeMaps.mem_insert_iff, mem_insAll l, List.mem_cons]
theorem keyInt {k : TypeId} (hk : P.underlying k = some (.int .i64)) {v : Value} {z : Int} (h : keyOf P k v = some (.int .i64 z)) : v = .int .i64 z := by
 unfold keyOf mapKey at h
 rw [hk] at h
 cases v <;> simp at h
 obtain ⟨⟨rfl, _⟩, rfl⟩ := h
 rfl
theorem tab_of_trod {n : String} {g : Nat} {t k e : TypeId} {cs : Array Value} {sp : Nat → Bool} {L : List (Lit × DataW H)} {p : List MemPlace} {W : World} (hg : P.globalNamed n = some g) (ht : P.underlying t = some (.map k e)) (hk : P.underlying k = some (.int .i64)) (he : P.underlying e = some (.int .i64))
  (hv : W.var? P n = some cs) (hd : DataW.trod enc P W base sp held fuel t cs.toList = some (.map L, p)) (f : List (Int × Int)) (hL : L = f.map fun q => (Lit.int .i64 q.1, .lit (.int .i64 q.2))) : Tab W g f := by
 rcases Go.WideMaps.open_map ht he hd with ⟨_, h0⟩ | ⟨b, es, clock, hcs, hb, _, F, hx⟩
 ·cases h0
 ·have hx1 : L = (es.toList.map (Go.WideMaps.rg H P k .i64)).foldr DataW.insert [] := by
   have := congrArg Prod.fst hx
   simpa using this
  obtain ⟨l⟩ := cs
  simp only at hcs
  subst hcs
  refine ⟨b, es, clock, by simpa using World.var?_cell hg hv 0, hb, fun y hy => ?_, fun kk z hq => ?_, F.stamped.2.1, F.stamped.1⟩
  ·obtain ⟨r, hr⟩ := F.reads y hy
   have h1 := Go.WideMaps.rd_key hr
   obtain ⟨m, h2, h3, _⟩ := Go.WideMaps.rd_val hr
   have hm : r ∈ L := by rw [hx1, mem_insAll, ← Go.WideMaps.rg_of hr]; exact List.mem_map.2 ⟨y, hy, rfl⟩
   rw [hL] at hm
   obtain ⟨q, hq1, hq2⟩ := List.mem_map.1 hm
   rw [← hq2] at h1 h3
   have h4 := keyInt hk h1
   simp at h3
   exact ⟨q.1, q.2, h4, by rw [h2, h3], hq1⟩
  ·have hm : (Lit.int .i64 kk, DataW.lit (.int .i64 z)) ∈ L := by rw [hL]; exact List.mem_map.2 ⟨(kk, z), hq, rfl⟩
   rw [hx1, mem_insAll] at hm
   obtain ⟨y, hy, hy2⟩ := List.mem_map.1 hm
   obtain ⟨r, hr⟩ := F.reads y hy
   rw [Go.WideMaps.rg_of hr] at hy2
   have h1 := Go.WideMaps.rd_key hr
   obtain ⟨m, h2, h3, _⟩ := Go.WideMaps.rd_val hr
   rw [hy2] at h1 h3
   simp at h3
   exact ⟨y, hy, keyInt hk h1, by rw [h2, h3]⟩
theorem keyStr {k : TypeId} (hk : P.underlying k = some .string) {v : Value} {l : List UInt8} (h : keyOf P k v = some (.string l)) : v = .string ⟨⟨l⟩⟩ := by
 unfold keyOf mapKey at h
 rw [hk] at h
 cases v <;> simp at h
 obtain ⟨_, rfl⟩ := h
 rfl
theorem elem_bool {W : World} {sp : Nat → Bool} {n : Nat} {e : TypeId} (he : P.underlying e = some .bool) {v : Value} {z : DataW H × List MemPlace} (h : Go.WideElems.elemAt enc P W base sp held n e v = some z) {b : Bool} (hz : z.1 = .lit (.bool b)) : v = .bool b := by
 unfold Go.WideElems.elemAt at h
 split at h
 ·rename_i hf
  obtain ⟨c, h1, h2⟩ := DataW.trod_bool he h
  rw [h2] at hz
  simp at hz
  subst hz
  cases v <;> simp [Value.cells] at h1
  ·exact congrArg _ h1
  all_goals (first | (exfalso; revert hf; simp [Value.formed, he]; done) | skip)
 ·cases h
theorem stab_of_trod {n : String} {g : Nat} {t k e : TypeId} {cs : Array Value} {sp : Nat → Bool} {L : List (Lit × DataW H)} {p : List MemPlace} {W : World} (hg : P.globalNamed n = some g) (ht : P.underlying t = some (.map k e)) (hk : P.underlying k = some .string) (he : P.underlying e = some .bool)
  (hv : W.var? P n = some cs) (hd : DataW.trod enc P W base sp held fuel t cs.toList = some (.map L, p)) (f : List ByteArray) (hL : L = f.map fun q => (Lit.string q.data.toList, .lit (.bool true))) : STab W g f := by
 rcases Go.WideElems.open_map ht hd with ⟨_, h0⟩ | ⟨b, es, clock, m, _, hcs, hb, _, F, hx⟩
 ·cases h0
 ·have hx1 : L = (es.toList.map (Go.WideElems.rg P k (Go.WideElems.elemAt enc P W base sp held m e))).foldr DataW.insert [] := by
   have := congrArg Prod.fst hx
   simpa using this
  obtain ⟨l⟩ := cs
  simp only at hcs
  subst hcs
  refine ⟨b, es, clock, by simpa using World.var?_cell hg hv 0, hb, fun y hy => ?_, fun kk hq => ?_⟩
  ·obtain ⟨r, hr⟩ := F.reads y hy
   have h1 := Go.WideElems.rd_key hr
   obtain ⟨z, h2, h3⟩ := Go.WideElems.rd_val hr
   have hm : r ∈ L := by rw [hx1, mem_insAll, ← Go.WideElems.rg_of hr]; exact List.mem_map.2 ⟨y, hy, rfl⟩
   rw [hL] at hm
   obtain ⟨q, hq1, hq2⟩ := List.mem_map.1 hm
   rw [← hq2] at h1 h3
   exact ⟨q, keyStr hk h1, elem_bool he h2 h3.symm, hq1⟩
  ·have hm : (Lit.string kk.data.toList, DataW.lit (.bool true)) ∈ L := by rw [hL]; exact List.mem_map.2 ⟨kk, hq, rfl⟩
   rw [hx1, mem_insAll] at hm
   obtain ⟨y, hy, hy2⟩ := List.mem_map.1 hm
   obtain ⟨r, hr⟩ := F.reads y hy
   rw [Go.WideElems.rg_of hr] at hy2
   have h1 := Go.WideElems.rd_key hr
   obtain ⟨z, h2, h3⟩ := Go.WideElems.rd_val hr
   rw [hy2] at h1 h3
   exact ⟨y, hy, keyStr hk h1, elem_bool he h2 h3.symm⟩
theorem stab_perm {w : World} {v : Nat} {f g : List ByteArray} (h : STab w v f) (h1 : ∀ k ∈ f, k ∈ g) (h2 : ∀ k ∈ g, k ∈ f) : STab w v g := by
 obtain ⟨bm, es, clock, a, b, c, d⟩ := h.ex
 exact ⟨bm, es, clock, a, b, fun e he => by obtain ⟨k, p, q, r⟩ := c e he; exact ⟨k, p, q, h1 k r⟩, fun k hk => d k (h2 k hk)⟩
def resL : List ByteArray := [⟨⟨[97, 110, 100]⟩⟩, ⟨⟨[100, 101, 110, 121]⟩⟩, ⟨⟨[101, 108, 115, 101]⟩⟩, ⟨⟨[102, 97, 108, 115, 101]⟩⟩, ⟨⟨[103, 114, 97, 110, 116]⟩⟩, ⟨⟨[105, 102]⟩⟩, ⟨⟨[105, 110]⟩⟩, ⟨⟨[108, 101, 116]⟩⟩, ⟨⟨[110, 111, 116]⟩⟩, ⟨⟨[111, 114]⟩⟩, ⟨⟨[115, 105, 122, 101]⟩⟩, ⟨⟨[116, 104, 101, 110]⟩⟩, ⟨⟨[116, 114, 117, 101]⟩⟩, ⟨⟨[119, 104, 101, 110]⟩⟩, ⟨⟨[119, 105, 116, 104, 105, 110]⟩⟩]
end
open Go.Eng
set_option linter.unusedVariables false
def v0 : VV := ⟨⟨0, 0, ⟨#[]⟩, []⟩, none, 0, 0⟩
set_option linter.unusedSimpArgs false
def valOK (p : PV) : Prop :=
 (p.k = 1 ∧ (p.n = 0 ∨ p.n = 1) ∧ p.tx = ⟨#[]⟩ ∧ p.xs = []) ∨ (p.k = 2 ∧ p.tx = ⟨#[]⟩ ∧ p.xs = []) ∨ (p.k = 3 ∧ p.n = 0 ∧ nameBytes p.tx ∧ p.xs = []) ∨ (p.k = 4 ∧ p.n = 0 ∧ p.tx = ⟨#[]⟩ ∧ isSet p.xs)
theorem data_len (s : ByteArray) : s.data.toList.length = s.size := Array.length_toList
theorem size0 (s : ByteArray) : s.size = 0 ↔ s = ⟨#[]⟩ := by
 constructor
 ·intro h
  have : s.data.toList = [] := List.eq_nil_of_length_eq_zero (by rw [data_len]; exact h)
  cases s with
  | mk d => simp at this; rw [this]
 ·intro h; rw [h]; rfl
theorem quoted_iff (s : ByteArray) : (s = ⟨#[]⟩ ∨ validName s) ↔ nameBytes s := by
 unfold validName
 constructor
 ·rintro (h | h)
  ·subst h; exact ⟨fun i h => by simp [ByteArray.size] at h, by simp [ByteArray.size]⟩
  ·exact h.2
 ·intro h
  by_cases h0 : s.size = 0
  ·exact .inl ((size0 s).1 h0)
  ·exact .inr ⟨h0, h⟩
theorem l2quoted_f {w : World} (s : ByteArray) (hs : s.size ≤ 9223372036854775807) : FC Tryz.prog 235 [.string s] w fun v _ => ∃ b : Bool, v = .bool b ∧ (b = true ↔ nameBytes s) := by
 refine FC.intro (cs := []) Tryz.func235 (by kernel_rfl) fun E R hE hr hR => ?_
 conv => cbv
 refine br (fun g => ?_) (fun g => ?_)
 ·have g : s = ⟨#[]⟩ := by simpa [hE.scmp, scmp_eql] using g
  conv => cbv
  rw [hR]; exact ⟨Ext.refl _, true, rfl, by rw [← quoted_iff]; simp [g]⟩
 ·have g : s ≠ ⟨#[]⟩ := by simpa [hE.scmp, scmp_eql] using g
  conv => cbv
  refine st_qb hE (sValidName_q s _ hs) fun b hb w2 hs2 => ?_
  conv => cbv
  rw [hR]; exact ⟨hs2.ext, b, rfl, by rw [hb, ← quoted_iff]; simp [g]⟩
abbrev zN : List Value := [.int .i64 0, .int .i64 0, .string ⟨#[]⟩, .slice none 0 0, .slice none 0 0]
theorem tIN : Stc Tryz.prog 90 5 zN := ⟨by kernel_rfl, by kernel_rfl⟩
theorem fIN0 : Fld Tryz.prog 90 0 0 := ⟨by kernel_rfl⟩
theorem fIN1 : Fld Tryz.prog 90 1 1 := ⟨by kernel_rfl⟩
theorem fIN2 : Fld Tryz.prog 90 2 2 := ⟨by kernel_rfl⟩
theorem fIN3 : Fld Tryz.prog 90 3 3 := ⟨by kernel_rfl⟩
theorem bare_f {w : World} {o z : Int} {tx : ByteArray} {A B : Option Addr} {m c m2 c2 : Nat} {xs : List ByteArray} (hsl : xs.length = m) (p1 p2 p3 : Bool) :
  FC Tryz.prog 101 [.agg ⟨[.int .i64 o, .int .i64 z, .string tx, .slice A m c, .slice B m2 c2]⟩, .bool p1, .bool p2, .bool p3] w fun v _ => ∃ b : Bool, v = .bool b ∧ (b = true ↔ (p1 = true ∨ z = 0) ∧ (p2 = true ∨ tx = ⟨#[]⟩) ∧ (p3 = true ∨ xs = [])) := by
 refine FC.intro (cs := []) Tryz.func101 (by kernel_rfl) fun E R hE hr hR => ?_
 conv => cbv
 refine st_box hr fun a w1 hx hb0 => ?_
 have hb := hb0 _ (n1_ _)
 clear hb0
 conv => cbv
 refine br (fun g => ?_) (fun g => ?_)
 ·have g1_0 : p1 = true := g
  conv => cbv
  refine br (fun g => ?_) (fun g => ?_)
  ·have g2_0 : p2 = true := g
   conv => cbv
   refine br (fun g => ?_) (fun g => ?_)
   ·have g3_0 : p3 = true := g
    conv => cbv
    rw [hR]; exact ⟨hx, true, rfl, by simp [g1_0, g2_0, g3_0]⟩
   ·have g3_0 : ¬ p3 = true := g
    conv => cbv
    (refine st_fld hE fIN3 fun p hp => ?_; (conv => cbv); refine st_load hE cStrs (by rw [hp]; exact (hb).at _ _ rfl) ?_; (conv => cbv))
    refine st_len hE tStrs fun x hx1 => ?_
    conv => cbv
    obtain ⟨q, hq⟩ : ∃ q, q = E.cmp .eql x 0 := ⟨_, rfl⟩
    have hq' : q = true ↔ xs = [] := by rw [hq, hE.cmp, ← List.length_eq_zero_iff, hsl]; simp [cmpR]; omega
    simp only [← hq]
    rw [hR]; exact ⟨hx, q, rfl, by rw [hq']; simp [g1_0, g2_0, g3_0]⟩
  ·have g2_0 : ¬ p2 = true := g
   conv => cbv
   (refine st_fld hE fIN2 fun p hp => ?_; (conv => cbv); refine st_load hE cStr (by rw [hp]; exact (hb).at _ _ rfl) ?_; (conv => cbv))
   refine br (fun g => ?_) (fun g => ?_)
   ·have g2_1 : tx = ⟨#[]⟩ := by simpa [hE.scmp, scmp_eql] using g
    conv => cbv
    refine br (fun g => ?_) (fun g => ?_)
    ·have g3_0 : p3 = true := g
     conv => cbv
     rw [hR]; exact ⟨hx, true, rfl, by simp [g1_0, g2_0, g2_1, g3_0]⟩
    ·have g3_0 : ¬ p3 = true := g
     conv => cbv
     (refine st_fld hE fIN3 fun p hp => ?_; (conv => cbv); refine st_load hE cStrs (by rw [hp]; exact (hb).at _ _ rfl) ?_; (conv => cbv))
     refine st_len hE tStrs fun x hx1 => ?_
     conv => cbv
     obtain ⟨q, hq⟩ : ∃ q, q = E.cmp .eql x 0 := ⟨_, rfl⟩
     have hq' : q = true ↔ xs = [] := by rw [hq, hE.cmp, ← List.length_eq_zero_iff, hsl]; simp [cmpR]; omega
     simp only [← hq]
     rw [hR]; exact ⟨hx, q, rfl, by rw [hq']; simp [g1_0, g2_0, g2_1, g3_0]⟩
   ·have g2_1 : tx ≠ ⟨#[]⟩ := by simpa [hE.scmp, scmp_eql] using g
    conv => cbv
    rw [hR]; exact ⟨hx, false, rfl, by simp [g1_0, g2_0, g2_1]⟩
 ·have g1_0 : ¬ p1 = true := g
  conv => cbv
  (refine st_fld hE fIN1 fun p hp => ?_; (conv => cbv); refine st_load hE cI64 (by rw [hp]; exact (hb).at _ _ rfl) ?_; (conv => cbv))
  refine br (fun g => ?_) (fun g => ?_)
  ·have g1_1 : z = 0 := by simpa [hE.cmp, cmpR] using g
   conv => cbv
   refine br (fun g => ?_) (fun g => ?_)
   ·have g2_0 : p2 = true := g
    conv => cbv
    refine br (fun g => ?_) (fun g => ?_)
    ·have g3_0 : p3 = true := g
     conv => cbv
     rw [hR]; exact ⟨hx, true, rfl, by simp [g1_0, g1_1, g2_0, g3_0]⟩
    ·have g3_0 : ¬ p3 = true := g
     conv => cbv
     (refine st_fld hE fIN3 fun p hp => ?_; (conv => cbv); refine st_load hE cStrs (by rw [hp]; exact (hb).at _ _ rfl) ?_; (conv => cbv))
     refine st_len hE tStrs fun x hx1 => ?_
     conv => cbv
     obtain ⟨q, hq⟩ : ∃ q, q = E.cmp .eql x 0 := ⟨_, rfl⟩
     have hq' : q = true ↔ xs = [] := by rw [hq, hE.cmp, ← List.length_eq_zero_iff, hsl]; simp [cmpR]; omega
     simp only [← hq]
     rw [hR]; exact ⟨hx, q, rfl, by rw [hq']; simp [g1_0, g1_1, g2_0, g3_0]⟩
   ·have g2_0 : ¬ p2 = true := g
    conv => cbv
    (refine st_fld hE fIN2 fun p hp => ?_; (conv => cbv); refine st_load hE cStr (by rw [hp]; exact (hb).at _ _ rfl) ?_; (conv => cbv))
    refine br (fun g => ?_) (fun g => ?_)
    ·have g2_1 : tx = ⟨#[]⟩ := by simpa [hE.scmp, scmp_eql] using g
     conv => cbv
     refine br (fun g => ?_) (fun g => ?_)
     ·have g3_0 : p3 = true := g
      conv => cbv
      rw [hR]; exact ⟨hx, true, rfl, by simp [g1_0, g1_1, g2_0, g2_1, g3_0]⟩
     ·have g3_0 : ¬ p3 = true := g
      conv => cbv
      (refine st_fld hE fIN3 fun p hp => ?_; (conv => cbv); refine st_load hE cStrs (by rw [hp]; exact (hb).at _ _ rfl) ?_; (conv => cbv))
      refine st_len hE tStrs fun x hx1 => ?_
      conv => cbv
      obtain ⟨q, hq⟩ : ∃ q, q = E.cmp .eql x 0 := ⟨_, rfl⟩
      have hq' : q = true ↔ xs = [] := by rw [hq, hE.cmp, ← List.length_eq_zero_iff, hsl]; simp [cmpR]; omega
      simp only [← hq]
      rw [hR]; exact ⟨hx, q, rfl, by rw [hq']; simp [g1_0, g1_1, g2_0, g2_1, g3_0]⟩
    ·have g2_1 : tx ≠ ⟨#[]⟩ := by simpa [hE.scmp, scmp_eql] using g
     conv => cbv
     rw [hR]; exact ⟨hx, false, rfl, by simp [g1_0, g1_1, g2_0, g2_1]⟩
  ·have g1_1 : z ≠ 0 := by simpa [hE.cmp, cmpR] using g
   conv => cbv
   rw [hR]; exact ⟨hx, false, rfl, by simp [g1_0, g1_1]⟩
def kOp (k : Int) : Int := if k = 1 then 3 else if k = 2 then 1 else if k = 3 then 2 else if k = 4 then 4 else 0
theorem validConst_f {w : World} {o z : Int} {tx : ByteArray} {A B : Option Addr} {m c m2 c2 : Nat} {xs : List ByteArray} (h : Strs w A m c xs) (ht : tx.size ≤ 9223372036854775807) :
  FC Tryz.prog 103 [.agg ⟨[.int .i64 o, .int .i64 z, .string tx, .slice A m c, .slice B m2 c2]⟩] w fun v _ => ∃ b : Bool, v = .bool b ∧
   (b = true ↔ (o = 1 ∧ tx = ⟨#[]⟩ ∧ xs = []) ∨ (o = 2 ∧ z = 0 ∧ nameBytes tx ∧ xs = []) ∨ (o = 3 ∧ (z = 0 ∨ z = 1) ∧ tx = ⟨#[]⟩ ∧ xs = []) ∨ (o = 4 ∧ z = 0 ∧ tx = ⟨#[]⟩ ∧ isSet xs)) := by
 refine FC.intro (cs := []) Tryz.func103 (by kernel_rfl) fun E R hE hr hR => ?_
 have hsl := h.len
 conv => cbv
 refine st_box hr fun a w1 hx hb0 => ?_
 have hb := hb0 _ (n1_ _)
 clear hb0
 conv => cbv
 (refine st_fld hE fIN0 fun p hp => ?_; (conv => cbv); refine st_load hE cInt (by rw [hp]; exact (hb).at _ _ rfl) ?_; (conv => cbv))
 refine br (fun g => ?_) (fun g => ?_)
 ·have k1 : o = 1 := by simpa [hE.cmp, cmpR] using g
  conv => cbv
  refine st_loadS hE tIN rfl hb.at ?_
  conv => cbv
  refine st_f hr (bare_f (o := o) (z := z) (tx := tx) hsl true false false) fun v w2 hx2 ⟨r, ev, hr2⟩ => ?_
  subst ev
  replace hb := hb.bel hx2
  replace hx := hx.trans hx2
  conv => cbv
  rw [hR]; exact ⟨hx, r, rfl, by rw [hr2]; simp [k1]⟩
 have k1 : o ≠ 1 := by simpa [hE.cmp, cmpR] using g
 conv => cbv
 refine br (fun g => ?_) (fun g => ?_)
 ·have k2 : o = 2 := by simpa [hE.cmp, cmpR] using g
  conv => cbv
  refine st_loadS hE tIN rfl hb.at ?_
  conv => cbv
  refine st_f hr (bare_f (o := o) (z := z) (tx := tx) hsl false true false) fun v w2 hx2 ⟨r, ev, hr2⟩ => ?_
  subst ev
  replace hb := hb.bel hx2
  replace hx := hx.trans hx2
  cases r with
  | false =>
   conv => cbv
   rw [hR]; refine ⟨hx, false, rfl, ?_⟩
   have n0 : ¬ _ := fun q => absurd (hr2.2 q) (by simp)
   simp only [k2]; simp at n0 ⊢
   exact fun q _ => n0 q
  | true =>
   have n0 := hr2.1 rfl
   conv => cbv
   (refine st_fld hE fIN2 fun p hp => ?_; (conv => cbv); refine st_load hE cStr (by rw [hp]; exact (hb).at _ _ rfl) ?_; (conv => cbv))
   refine st_qb hE (nameBytes_q tx _ ht) fun q hq w2 hs2 => ?_
   conv => cbv
   rw [hR]; refine ⟨hx.trans hs2.ext, q, rfl, ?_⟩
   simp at n0
   rw [hq]; simp [k2, n0]
 have k2 : o ≠ 2 := by simpa [hE.cmp, cmpR] using g
 conv => cbv
 refine br (fun g => ?_) (fun g => ?_)
 ·have k3 : o = 3 := by simpa [hE.cmp, cmpR] using g
  conv => cbv
  refine st_loadS hE tIN rfl hb.at ?_
  conv => cbv
  refine st_f hr (bare_f (o := o) (z := z) (tx := tx) hsl true false false) fun v w2 hx2 ⟨r, ev, hr2⟩ => ?_
  subst ev
  replace hb := hb.bel hx2
  replace hx := hx.trans hx2
  cases r with
  | false =>
   conv => cbv
   rw [hR]; refine ⟨hx, false, rfl, ?_⟩
   have n0 : ¬ _ := fun q => absurd (hr2.2 q) (by simp)
   simp only [k3]; simp at n0 ⊢
   exact fun _ q => n0 q
  | true =>
   have n0 := hr2.1 rfl
   simp at n0
   conv => cbv
   (refine st_fld hE fIN1 fun p hp => ?_; (conv => cbv); refine st_load hE cI64 (by rw [hp]; exact (hb).at _ _ rfl) ?_; (conv => cbv))
   refine br (fun g => ?_) (fun g => ?_)
   ·have g : z = 0 := by simpa [hE.cmp, cmpR] using g
    conv => cbv
    rw [hR]; exact ⟨hx, true, rfl, by simp [k3, g, n0]⟩
   ·have g : z ≠ 0 := by simpa [hE.cmp, cmpR] using g
    conv => cbv
    (refine st_fld hE fIN1 fun p hp => ?_; (conv => cbv); refine st_load hE cI64 (by rw [hp]; exact (hb).at _ _ rfl) ?_; (conv => cbv))
    obtain ⟨q, hq⟩ : ∃ q, q = E.cmp .eql z 1 := ⟨_, rfl⟩
    have hq' : q = true ↔ z = 1 := by rw [hq, hE.cmp]; simp [cmpR]
    simp only [← hq]
    conv => cbv
    rw [hR]; exact ⟨hx, q, rfl, by rw [hq']; simp [k3, g, n0]⟩
 have k3 : o ≠ 3 := by simpa [hE.cmp, cmpR] using g
 conv => cbv
 refine br (fun g => ?_) (fun g => ?_)
 ·have k4 : o = 4 := by simpa [hE.cmp, cmpR] using g
  conv => cbv
  refine st_loadS hE tIN rfl hb.at ?_
  conv => cbv
  refine st_f hr (bare_f (o := o) (z := z) (tx := tx) hsl false false true) fun v w2 hx2 ⟨r, ev, hr2⟩ => ?_
  subst ev
  replace hb := hb.bel hx2
  replace hx := hx.trans hx2
  cases r with
  | false =>
   conv => cbv
   rw [hR]; refine ⟨hx, false, rfl, ?_⟩
   have n0 : ¬ _ := fun q => absurd (hr2.2 q) (by simp)
   simp only [k4]; simp at n0 ⊢
   exact fun q r => absurd r (n0 q)
  | true =>
   have n0 := hr2.1 rfl
   simp at n0
   conv => cbv
   (refine st_fld hE fIN3 fun p hp => ?_; (conv => cbv); refine st_load hE cStrs (by rw [hp]; exact (hb).at _ _ rfl) ?_; (conv => cbv))
   refine st_qb hE (IsSet_q (h.ext hx)) fun q hq w2 hs2 => ?_
   conv => cbv
   rw [hR]; exact ⟨hx.trans hs2.ext, q, rfl, by rw [hq]; simp [k4, n0]⟩
 have k4 : o ≠ 4 := by simpa [hE.cmp, cmpR] using g
 conv => cbv
 rw [hR]; exact ⟨hx, false, rfl, by simp [k1, k2, k3, k4]⟩
theorem scq {P : Program} {E : Sym} {bq : Bool} (hE : EngB bq P E) (a b : ByteArray) : E.scmp .eql a b = true ↔ a = b := by rw [hE.scmp, scmp_eql]
theorem scn {P : Program} {E : Sym} {bq : Bool} (hE : EngB bq P E) (s : ByteArray) : E.scmp .neq s ⟨#[]⟩ = true ↔ s.size ≠ 0 := by rw [hE.scmp]; exact ne_empty s
def sm (c : Int) : Prop := 97 ≤ c ∧ c ≤ 122
def dg (c : Int) : Prop := 48 ≤ c ∧ c ≤ 57
def wb (c : Int) : Prop := sm c ∨ dg c ∨ c = 95
theorem isSmall_q (c : Int) (w : World) : QB Tryz.prog 156 [.int .u8 c] w (sm c) := by
 refine QB.intro (cs := []) Tryz.func156 (by kernel_rfl) fun w0 hx0 w1 hs E R hE hr hR => ?_
 conv => cbv
 refine br (fun g => ?_) (fun g => ?_)
 ·conv => cbv
  exact hR _ _ hs (by simp [hE.cmp, cmpR] at g ⊢; unfold sm; omega)
 ·conv => cbv
  exact hR _ _ hs (by simp [hE.cmp, cmpR] at g ⊢; unfold sm; omega)
theorem l2letter_q (c : Int) (w : World) : QB Tryz.prog 236 [.int .u8 c] w (sm c) := by
 refine QB.intro (cs := []) Tryz.func236 (by kernel_rfl) fun w0 hx0 w1 hs E R hE hr hR => ?_
 conv => cbv
 refine br (fun g => ?_) (fun g => ?_)
 ·conv => cbv
  exact hR _ _ hs (by simp [hE.cmp, cmpR] at g ⊢; unfold sm; omega)
 ·conv => cbv
  exact hR _ _ hs (by simp [hE.cmp, cmpR] at g ⊢; unfold sm; omega)
theorem isDigit_q (c : Int) (w : World) : QB Tryz.prog 242 [.int .u8 c] w (dg c) := by
 refine QB.intro (cs := []) Tryz.func242 (by kernel_rfl) fun w0 hx0 w1 hs E R hE hr hR => ?_
 conv => cbv
 refine br (fun g => ?_) (fun g => ?_)
 ·conv => cbv
  exact hR _ _ hs (by simp [hE.cmp, cmpR] at g ⊢; unfold dg; omega)
 ·conv => cbv
  exact hR _ _ hs (by simp [hE.cmp, cmpR] at g ⊢; unfold dg; omega)
theorem l2digit_q (c : Int) (w : World) : QB Tryz.prog 270 [.int .u8 c] w (dg c) := by
 refine QB.intro (cs := []) Tryz.func270 (by kernel_rfl) fun w0 hx0 w1 hs E R hE hr hR => ?_
 conv => cbv
 refine br (fun g => ?_) (fun g => ?_)
 ·conv => cbv
  exact hR _ _ hs (by simp [hE.cmp, cmpR] at g ⊢; unfold dg; omega)
 ·conv => cbv
  exact hR _ _ hs (by simp [hE.cmp, cmpR] at g ⊢; unfold dg; omega)
theorem wordByte_q (c : Int) (w : World) : QB Tryz.prog 158 [.int .u8 c] w (wb c) := by
 refine QB.intro (cs := []) Tryz.func158 (by kernel_rfl) fun w0 hx0 w1 hs E R hE hr hR => ?_
 conv => cbv
 refine st_qb hE (isSmall_q c _) fun b hb w2 hs2 => ?_
 replace hs := hs.trans hs2
 cases b with
 | true =>
  conv => cbv
  exact hR _ _ hs (by unfold wb; simp [hb.1 rfl])
 | false =>
  have h1 : ¬ sm c := fun q => absurd (hb.2 q) (by simp)
  conv => cbv
  refine st_qb hE (isDigit_q c _) fun b2 hb2 w3 hs3 => ?_
  replace hs := hs.trans hs3
  cases b2 with
  | true =>
   conv => cbv
   exact hR _ _ hs (by unfold wb; simp [hb2.1 rfl])
  | false =>
   have h2 : ¬ dg c := fun q => absurd (hb2.2 q) (by simp)
   conv => cbv
   exact hR _ _ hs (by simp [hE.cmp, cmpR, wb, h1, h2])
structure RunTo (P : Int → Prop) (s : ByteArray) (i j : Nat) : Prop where
 le : i ≤ j
 hi : j ≤ s.size
 all : ∀ k (h : k < s.size), i ≤ k → k < j → P (s[k].toNat)
 stop : ∀ h : j < s.size, ¬ P (s[j].toNat)
theorem RunTo.uniq {P : Int → Prop} {s : ByteArray} {i j j' : Nat} (h : RunTo P s i j) (h' : RunTo P s i j') : j = j' := by
 rcases Nat.lt_trichotomy j j' with e | e | e
 ·exact absurd (h'.all j (by have := h'.hi; omega) h.le e) (h.stop _)
 ·exact e
 ·exact absurd (h.all j' (by have := h.hi; omega) h'.le e) (h'.stop _)
theorem runTo_ex (P : Int → Prop) (s : ByteArray) : ∀ (m i : Nat), i + m = s.size → ∃ j, RunTo P s i j
 | 0, i, h => ⟨i, n1_ _, by omega, fun k hk h1 h2 => by omega, fun h => by omega⟩
 | m + 1, i, h => by
  by_cases hp : P ((s[i]'(by omega)).toNat)
  ·obtain ⟨j, hj⟩ := runTo_ex P s m (i + 1) (by omega)
   refine ⟨j, by have := hj.le; omega, hj.hi, fun k hk h1 h2 => ?_, hj.stop⟩
   rcases Nat.eq_or_lt_of_le h1 with e | e
   ·subst e; exact hp
   ·exact hj.all k hk e h2
  ·exact ⟨i, n1_ _, by omega, fun k hk h1 h2 => by omega, fun _ => hp⟩
theorem l2run_q {s : ByteArray} {i j : Nat} {ii : Int} (hii : ii = (i : Int)) (hj : RunTo wb s i j) (hl : s.size ≤ 9223372036854775807) (w : World) : QF Tryz.prog 237 [.string s, .int .i64 ii] w (.int .i64 (j : Int)) := by
 refine QF.intro (cs := []) Tryz.func237 (by kernel_rfl) fun w0 hx0 w1 hs E R hE hr hR => ?_
 conv => cbv
 refine loop_rule hr (fun (t : Nat × Int) w' => Same w0 w' ∧ t.2 = (t.1 : Int) ∧ i ≤ t.1 ∧ t.1 ≤ s.size ∧ ∀ k (h : k < s.size), i ≤ k → k < t.1 → wb (s[k].toNat)) (fun t => [(0, .string s), (1, .int .i64 t.2)]) (fun t => s.size - t.1) (i, ii)
  (by simp [Fits, lk]) ⟨hs, hii, n1_ _, by have := hj.le; have := hj.hi; omega, fun k h h1 h2 => by simp only at h2; omega⟩ ?_
 rintro I hI ⟨k, kk⟩ w' ⟨hs', hkk, hk1, hk2, hall⟩
 simp only at hkk hk1 hk2 hall
 obtain ⟨kj, hkj⟩ : ∃ z, z = kk + 1 := ⟨_, rfl⟩
 have fin : ∀ w2, Same w0 w2 → (∀ h : k < s.size, ¬ wb (s[k].toNat)) → R (.int .i64 kk) w2 := fun w2 h2 hst => by
  have := hj.uniq ⟨hk1, hk2, hall, hst⟩
  rw [hR, hkk, this]; exact ⟨rfl, h2⟩
 conv => cbv
 refine st_slen hE uStr fun x hx => ?_
 conv => cbv
 refine br (fun g => ?_) (fun g => ?_)
 ·have g : k < s.size := by
   have : kk < x := by simpa [hE.cmp, cmpR] using g
   omega
  have ek : E.ar .add .i64 kk 1 = kj := by rw [hE.ar, hkj]; exact wrap_in (by omega) (by omega)
  obtain ⟨cz, hcz⟩ : ∃ cz : Int, cz = ((s[k]'g).toNat : Int) := ⟨_, rfl⟩
  have go : wb cz → ∀ w2, Same w0 w2 → I (k + 1, kj) w2 := fun hw w2 h2 => hI _ _ ⟨h2, by simp only; omega, by simp only; omega, by simp only; omega, fun q h h1 h3 => by
   rcases Nat.lt_or_ge q k with e | e
   ·exact hall q h h1 e
   ·obtain rfl : q = k := by simp only at h3; omega
    rw [← hcz]; exact hw⟩
  conv => cbv
  refine st_byte hE uStr (by omega) (by omega) fun c hc h0 h1 => ?_
  have hc : c = cz := by rw [hc, hcz]; congr 2; simp only [hkk, Int.toNat_natCast]
  subst hc
  conv => cbv
  refine st_qb hE (l2letter_q c _) fun b hb w2 hs2 => ?_
  cases b with
  | true =>
   conv => cbv
   simp only [ek]
   exact ⟨(k + 1, kj), by simp [Fits, lk], go (.inl (hb.1 rfl)) _ (hs'.trans hs2), by simp only; omega⟩
  | false =>
   have h2 : ¬ sm c := fun q => absurd (hb.2 q) (by simp)
   conv => cbv
   refine st_byte hE uStr (by omega) (by omega) fun c' hc' _ _ => ?_
   have hc' : c' = c := by rw [hc', hcz]; congr 2; simp only [hkk, Int.toNat_natCast]
   subst hc'
   conv => cbv
   refine st_qb hE (l2digit_q c' _) fun b2 hb2 w3 hs3 => ?_
   cases b2 with
   | true =>
    conv => cbv
    simp only [ek]
    exact ⟨(k + 1, kj), by simp [Fits, lk], go (.inr (.inl (hb2.1 rfl))) _ ((hs'.trans hs2).trans hs3), by simp only; omega⟩
   | false =>
    have h3 : ¬ dg c' := fun q => absurd (hb2.2 q) (by simp)
    conv => cbv
    refine st_byte hE uStr (by omega) (by omega) fun c2 hc2 _ _ => ?_
    have hc2 : c2 = c' := by rw [hc2, hcz]; congr 2; simp only [hkk, Int.toNat_natCast]
    subst hc2
    conv => cbv
    refine br (fun g3 => ?_) (fun g3 => ?_)
    ·have g3 : c2 = 95 := by simpa [hE.cmp, cmpR] using g3
     conv => cbv
     simp only [ek]
     exact ⟨(k + 1, kj), by simp [Fits, lk], go (.inr (.inr g3)) _ ((hs'.trans hs2).trans hs3), by simp only; omega⟩
    ·have g3 : c2 ≠ 95 := by simpa [hE.cmp, cmpR] using g3
     conv => cbv
     exact fin _ ((hs'.trans hs2).trans hs3) (fun _ => by rw [← hcz]; unfold wb; simp [h2, h3, g3])
 ·have g : ¬ k < s.size := by
   have : ¬ kk < x := by simpa [hE.cmp, cmpR] using g
   omega
  conv => cbv
  exact fin _ hs' (fun h => absurd h g)
theorem run_q {s : ByteArray} {j : Nat} {Pr : Int → Prop} {f : FuncId} (hj : RunTo Pr s 0 j) (hl : s.size ≤ 9223372036854775807) (w : World) (hq : ∀ c w', QB Tryz.prog f [.int .u8 c] w' (Pr c)) : QF Tryz.prog 157 [.string s, .func (.func f) #[] #[]] w (.string (s.extract 0 j)) := by
 refine QF.intro (cs := []) Tryz.func157 (by kernel_rfl) fun w0 hx0 w1 hs E R hE hr hR => ?_
 conv => cbv
 refine loop_rule hr (fun (t : Nat × Int) w' => Same w0 w' ∧ t.2 = (t.1 : Int) ∧ t.1 ≤ s.size ∧ ∀ k (h : k < s.size), 0 ≤ k → k < t.1 → Pr (s[k].toNat)) (fun t => [(0, .string s), (1, .func (.func f) #[] #[]), (5, .int .i64 t.2)]) (fun t => s.size - t.1) (0, 0)
  (by simp [Fits, lk]) ⟨hs, rfl, by omega, fun k h h1 h2 => by simp only at h2; omega⟩ ?_
 rintro I hI ⟨k, kk⟩ w' ⟨hs', hkk, hk2, hall⟩
 simp only at hkk hk2 hall
 obtain ⟨kj, hkj⟩ : ∃ z, z = kk + 1 := ⟨_, rfl⟩
 conv => cbv
 refine st_slen hE uStr fun x hx => ?_
 conv => cbv
 refine br (fun g => ?_) (fun g => ?_)
 ·have g : k < s.size := by
   have : kk < x := by simpa [hE.cmp, cmpR] using g
   omega
  have ek : E.ar .add .i64 kk 1 = kj := by rw [hE.ar, hkj]; exact wrap_in (by omega) (by omega)
  obtain ⟨cz, hcz⟩ : ∃ cz : Int, cz = ((s[k]'g).toNat : Int) := ⟨_, rfl⟩
  conv => cbv
  refine st_byte hE uStr (by omega) (by omega) fun c hc h0 h1 => ?_
  have hc : c = cz := by rw [hc, hcz]; congr 2; simp only [hkk, Int.toNat_natCast]
  subst hc
  conv => cbv
  refine st_qb hE (hq c _) fun b hb w2 hs2 => ?_
  cases b with
  | true =>
   conv => cbv
   simp only [ek]
   refine ⟨(k + 1, kj), by simp [Fits, lk], hI _ _ ⟨hs'.trans hs2, by simp only; omega, by simp only; omega, fun q h h1 h3 => ?_⟩, by simp only; omega⟩
   rcases Nat.lt_or_ge q k with e | e
   ·exact hall q h h1 e
   ·obtain rfl : q = k := by simp only at h3; omega
    rw [← hcz]; exact hb.1 rfl
  | false =>
   have h2 : ¬ Pr c := fun q => absurd (hb.2 q) (by simp)
   have ej := hj.uniq ⟨Nat.zero_le _, hk2, hall, fun _ => by rw [← hcz]; exact h2⟩
   conv => cbv
   refine st_upTo hE uStr (by omega) (by omega) fun u hu => ?_
   conv => cbv
   rw [hR, hu, ej, hkk]; exact ⟨by simp; rfl, hs'.trans hs2⟩
 ·have g : ¬ k < s.size := by
   have : ¬ kk < x := by simpa [hE.cmp, cmpR] using g
   omega
  have ej := hj.uniq ⟨Nat.zero_le _, hk2, hall, fun h => absurd h g⟩
  conv => cbv
  refine st_upTo hE uStr (by omega) (by omega) fun u hu => ?_
  conv => cbv
  rw [hR, hu, ej, hkk]; exact ⟨by simp; rfl, hs'⟩
def words : List ByteArray := [⟨⟨[108, 101, 116]⟩⟩, ⟨⟨[119, 104, 101, 110]⟩⟩, ⟨⟨[101, 108, 115, 101]⟩⟩, ⟨⟨[100, 101, 110, 121]⟩⟩, ⟨⟨[103, 114, 97, 110, 116]⟩⟩, ⟨⟨[105, 102]⟩⟩, ⟨⟨[116, 104, 101, 110]⟩⟩, ⟨⟨[110, 111, 116]⟩⟩, ⟨⟨[97, 110, 100]⟩⟩, ⟨⟨[111, 114]⟩⟩, ⟨⟨[105, 110]⟩⟩, ⟨⟨[119, 105, 116, 104, 105, 110]⟩⟩, ⟨⟨[115, 105, 122, 101]⟩⟩, ⟨⟨[116, 114, 117, 101]⟩⟩, ⟨⟨[102, 97, 108, 115, 101]⟩⟩]
theorem words_small : ∀ s ∈ words, s.size ≤ 9223372036854775807 := by
 have h : ∀ s ∈ words, s.size ≤ 6 := by decide
 exact fun s hs => by have := h s hs; omega
theorem l2word_f (s : ByteArray) (w : World) : FC Tryz.prog 238 [.string s] w fun v _ => ∃ b : Bool, v = .bool b ∧ (b = true ↔ s ∈ words) := by
 refine FC.intro (cs := []) Tryz.func238 (by kernel_rfl) fun E R hE hr hR => ?_
 conv => cbv
 refine st_lits hr tStrs rfl (vs := words.map .string) (m := 15) rfl (by omega) (by omega) rfl (by simp [words, Value.cells]) fun A w1 hx ho => ?_
 have hS : Strs w1 A 15 15 words := Own.strs (ho _ (n1_ _)) words_small
 conv => cbv
 refine st_len hE tStrs fun x hx2 => ?_
 conv => cbv
 refine loop_rule hr (fun (t : Nat × Int) w' => Same w1 w' ∧ t.2 = (t.1 : Int) ∧ t.1 ≤ 15 ∧ s ∉ words.take t.1) (fun t => [(0, .string s), (5, .slice A 15 15), (6, .int .i64 x), (7, .int .i64 t.2)]) (fun t => 15 - t.1) (0, 0)
  (by simp [Fits, lk]) ⟨Same.refl _, rfl, by omega, by simp⟩ ?_
 rintro I hI ⟨k, kk⟩ w' ⟨hs', hkk, hk2, hall⟩
 simp only at hkk hk2 hall
 obtain ⟨kj, hkj⟩ : ∃ z, z = kk + 1 := ⟨_, rfl⟩
 conv => cbv
 refine br (fun g => ?_) (fun g => ?_)
 ·have g : k < 15 := by
   have : kk < x := by simpa [hE.cmp, cmpR] using g
   omega
  have ek : E.ar .add .i64 kk 1 = kj := by rw [hE.ar, hkj]; exact wrap_in (by omega) (by omega)
  conv => cbv
  refine st_str hE tStrs (hS.same hs') (k := k) hkk g fun p u hu _ hp => ?_
  conv => cbv
  refine st_load hE cStr hp ?_
  conv => cbv
  refine br (fun g2 => ?_) (fun g2 => ?_)
  ·have g2 : s = u := (scq hE _ _).1 g2
   conv => cbv
   rw [hR]; exact ⟨hx.trans hs'.ext, true, rfl, by simp; rw [g2]; exact m1_ hu⟩
  ·have g2 : s ≠ u := fun e => g2 ((scq hE _ _).2 e)
   conv => cbv
   simp only [ek]
   refine ⟨(k + 1, kj), by simp [Fits, lk], hI _ _ ⟨hs', by simp only; omega, by simp only; omega, ?_⟩, by simp only; omega⟩
   simp only
   rw [g4_, hu, List.mem_append]
   rintro (q | q)
   ·exact hall q
   ·simp at q; exact g2 q
 ·have g : k = 15 := by
   have : ¬ kk < x := by simpa [hE.cmp, cmpR] using g
   omega
  subst g
  rw [g3_ (by decide)] at hall
  conv => cbv
  rw [hR]; exact ⟨hx.trans hs'.ext, false, rfl, by simp [hall]⟩
def ident (s : ByteArray) : Prop := s.size ≠ 0 ∧ s.size ≤ 32 ∧ (∀ h : 0 < s.size, sm (s[0].toNat)) ∧ RunTo wb s 0 s.size ∧ s ∉ words
theorem l2ident_f (s : ByteArray) (hl : s.size ≤ 9223372036854775807) (w : World) : FC Tryz.prog 150 [.string s] w fun v _ => ∃ b : Bool, v = .bool b ∧ (b = true ↔ ident s) := by
 refine FC.intro (cs := []) Tryz.func150 (by kernel_rfl) fun E R hE hr hR => ?_
 have no : ¬ ident s → ∀ w', Ext w w' → R (.bool false) w' := fun h w' hx => by rw [hR]; exact ⟨hx, false, rfl, by simp [h]⟩
 conv => cbv
 refine st_slen hE uStr fun x hx => ?_
 conv => cbv
 refine br (fun g => ?_) (fun g => ?_)
 rotate_left
 ·have g : ¬ 0 < x := by simpa [hE.cmp, cmpR] using g
  conv => cbv
  exact no (fun h => h.1 (by omega)) _ (Ext.refl _)
 have g : 0 < x := by simpa [hE.cmp, cmpR] using g
 conv => cbv
 refine st_slen hE uStr fun x2 hx2 => ?_
 conv => cbv
 refine br (fun g2 => ?_) (fun g2 => ?_)
 rotate_left
 ·have g2 : ¬ x2 ≤ 32 := by simpa [hE.cmp, cmpR] using g2
  conv => cbv
  exact no (fun h => g2 (by have := h.2.1; omega)) _ (Ext.refl _)
 have g2 : x2 ≤ 32 := by simpa [hE.cmp, cmpR] using g2
 conv => cbv
 refine st_byte hE uStr (by omega) (by omega) fun c hc _ _ => ?_
 conv => cbv
 refine st_qb hE (l2letter_q c _) fun b hb w2 hs2 => ?_
 cases b with
 | false =>
  conv => cbv
  exact no (fun h => absurd (hb.2 (by rw [hc]; exact h.2.2.1 (by omega))) (by simp)) _ hs2.ext
 | true =>
 have hb := hb.1 rfl
 obtain ⟨j, hj⟩ := runTo_ex wb s s.size 0 (by omega)
 conv => cbv
 refine st_q hE (l2run_q (ii := 0) rfl hj hl _) fun w3 hs3 => ?_
 have hx3 := (hs2.trans hs3).ext
 obtain ⟨jj, hjj⟩ : ∃ jj : Int, jj = j := ⟨_, rfl⟩
 rw [← hjj]
 conv => cbv
 refine st_slen hE uStr fun x3 hx3' => ?_
 conv => cbv
 refine br (fun g3 => ?_) (fun g3 => ?_)
 rotate_left
 ·have g3 : jj ≠ x3 := by simpa [hE.cmp, cmpR] using g3
  conv => cbv
  exact no (fun h => g3 (by have := hj.uniq h.2.2.2.1; omega)) _ hx3
 have g3 : jj = x3 := by simpa [hE.cmp, cmpR] using g3
 have ej : j = s.size := by omega
 subst ej
 conv => cbv
 refine st_f hr (l2word_f s _) fun v w4 hx4 ⟨b, ev, hb4⟩ => ?_
 subst ev
 cases b with
 | true =>
  conv => cbv
  exact no (fun h => h.2.2.2.2 (hb4.1 rfl)) _ (hx3.trans hx4)
 | false =>
  conv => cbv
  rw [hR]; exact ⟨hx3.trans hx4, true, rfl, by simp only [true_iff]; exact ⟨by omega, by omega, fun _ => by rw [hc] at hb; exact hb, hj, fun q => absurd (hb4.2 q) (by simp)⟩⟩
theorem extract_full {s : ByteArray} {j : Nat} (h : j ≤ s.size) : s.extract 0 j = s ↔ j = s.size := by
 constructor
 ·intro e
  have := congrArg ByteArray.size e
  rw [ByteArray.size_extract] at this; omega
 ·rintro rfl; exact ByteArray.extract_zero_size
theorem cSet : Cel Tryz.prog 272 := ⟨_, Tryz.underlying272, by simp, by simp⟩
theorem isNameToken_f {w : World} (hT : STab w 4 words) (s : ByteArray) (hl : s.size ≤ 9223372036854775807) : QB Tryz.prog 102 [.string s] w (ident s) := by
 refine QB.intro (cs := []) Tryz.func102 (by kernel_rfl) fun w0 hx0 w1 hs E R hE hr hR => ?_
 replace hT := (hT.ext hx0).ext hs.ext
 obtain ⟨bm, es, clock, t1, t2, t3, t4⟩ := hT.ex
 have no : ¬ ident s → ∀ w', Same w0 w' → R (.bool false) w' := fun h w' hx => hR _ _ hx (by simp [h])
 conv => cbv
 refine br (fun g => ?_) (fun g => ?_)
 rotate_left
 ·have g : s.size = 0 := Classical.byContradiction fun q => g ((scn hE _).2 q)
  conv => cbv
  exact no (fun h => h.1 g) _ hs
 have g : s.size ≠ 0 := (scn hE _).1 g
 conv => cbv
 refine st_slen hE uStr fun x2 hx2 => ?_
 conv => cbv
 refine br (fun g2 => ?_) (fun g2 => ?_)
 rotate_left
 ·have g2 : ¬ x2 ≤ 32 := by simpa [hE.cmp, cmpR] using g2
  conv => cbv
  exact no (fun h => g2 (by have := h.2.1; omega)) _ hs
 have g2 : x2 ≤ 32 := by simpa [hE.cmp, cmpR] using g2
 conv => cbv
 refine st_byte hE uStr (by omega) (by omega) fun c hc _ _ => ?_
 conv => cbv
 refine st_qb hE (isSmall_q c _) fun b hb w2 hs2 => ?_
 cases b with
 | false =>
  conv => cbv
  exact no (fun h => absurd (hb.2 (by rw [hc]; exact h.2.2.1 (by omega))) (by simp)) _ (hs.trans hs2)
 | true =>
 have hb := hb.1 rfl
 obtain ⟨j, hj⟩ := runTo_ex wb s s.size 0 (by omega)
 conv => cbv
 refine st_q hE (run_q hj hl _ (fun c w' => wordByte_q c w')) fun w3 hs3 => ?_
 have hx3 := (hs.trans hs2).trans hs3
 obtain ⟨u, hu⟩ : ∃ u, u = s.extract 0 j := ⟨_, rfl⟩
 rw [← hu]
 conv => cbv
 refine br (fun g3 => ?_) (fun g3 => ?_)
 rotate_left
 ·have g3 : u ≠ s := fun e => g3 ((scq hE _ _).2 e)
  conv => cbv
  exact no (fun h => g3 (by rw [hu]; exact (extract_full hj.hi).2 (hj.uniq h.2.2.2.1))) _ hx3
 have g3 : u = s := (scq hE _ _).1 g3
 have ej : j = s.size := (extract_full hj.hi).1 (by rw [← hu]; exact g3)
 subst ej
 have hxx := (hs2.trans hs3).ext
 conv => cbv
 refine st_load hE cSet (hxx.cell t1) ?_
 conv => cbv
 refine st_stab hE Tryz.underlying272 uStr (by kernel_rfl) (hxx.getMap t2) t3 t4 fun b hb4 => ?_
 cases b with
 | true =>
  conv => cbv
  exact no (fun h => h.2.2.2.2 (hb4.1 rfl)) _ hx3
 | false =>
  conv => cbv
  exact hR _ _ hx3 (by simp only [true_iff]; exact ⟨g, by omega, fun _ => by rw [hc] at hb; exact hb, hj, fun q => absurd (hb4.2 q) (by simp)⟩)
abbrev zNd : List Value := [.int .i64 0, .int .i64 0, .string ⟨#[]⟩, .slice none 0 0, .slice none 0 0]
theorem tLNd : Stc Tryz.prog 160 5 zNd := ⟨by kernel_rfl, by kernel_rfl⟩
theorem sLNd : Slc Tryz.prog 22 160 (.agg ⟨zNd⟩) 5 80 := ⟨Tryz.underlying22, by kernel_rfl⟩
theorem cLNs : Cel Tryz.prog 22 := ⟨_, Tryz.underlying22, by simp, by simp⟩
theorem fLNd0 : Fld Tryz.prog 160 0 0 := ⟨by kernel_rfl⟩
theorem fLNd1 : Fld Tryz.prog 160 1 1 := ⟨by kernel_rfl⟩
theorem fLNd2 : Fld Tryz.prog 160 2 2 := ⟨by kernel_rfl⟩
theorem fLNd3 : Fld Tryz.prog 160 3 3 := ⟨by kernel_rfl⟩
theorem fLNd4 : Fld Tryz.prog 160 4 4 := ⟨by kernel_rfl⟩
theorem tINd : Stc Tryz.prog 90 5 zNd := ⟨by kernel_rfl, by kernel_rfl⟩
theorem sINd : Slc Tryz.prog 27 90 (.agg ⟨zNd⟩) 5 80 := ⟨Tryz.underlying27, by kernel_rfl⟩
theorem cINs : Cel Tryz.prog 27 := ⟨_, Tryz.underlying27, by simp, by simp⟩
theorem zINs : (Tryz.prog.info? 27).map (·.size) = some 1 := by kernel_rfl
theorem fINd0 : Fld Tryz.prog 90 0 0 := ⟨by kernel_rfl⟩
theorem fINd1 : Fld Tryz.prog 90 1 1 := ⟨by kernel_rfl⟩
theorem fINd2 : Fld Tryz.prog 90 2 2 := ⟨by kernel_rfl⟩
theorem fINd3 : Fld Tryz.prog 90 3 3 := ⟨by kernel_rfl⟩
theorem fINd4 : Fld Tryz.prog 90 4 4 := ⟨by kernel_rfl⟩
structure PN where
 o : Int
 z : Int
 tx : ByteArray
 xs : List ByteArray
 ks : List Int
structure VN where
 p : PN
 A0 : Option Addr
 m0 : Nat
 c0 : Nat
 A1 : Option Addr
 m1 : Nat
 c1 : Nat
def cN (v : VN) : List Value := [.int .i64 v.p.o, .int .i64 v.p.z, .string v.p.tx, .slice v.A0 v.m0 v.c0, .slice v.A1 v.m1 v.c1]
theorem cN_len (v : VN) : (cN v).length = 5 := rfl
structure OKN (w : World) (v : VN) : Prop where
 s_tx : v.p.tx.size ≤ 9223372036854775807
 r_xs : Strs w v.A0 v.m0 v.c0 v.p.xs
 r_ks : Ints w v.A1 v.m1 v.c1 v.p.ks
theorem OKN.ext {w w' : World} {v : VN} (h : OKN w v) (hx : Ext w w') : OKN w' v := ⟨h.s_tx, h.r_xs.ext hx, h.r_ks.ext hx⟩
def RNs (w : World) (A : Option Addr) (n : Nat) (pv : List PN) : Prop := ∃ vs : List VN, vs.map (·.p) = pv ∧ vs.length = n ∧ Cells w A (vs.flatMap cN) ∧ ∀ v ∈ vs, OKN w v
theorem RNs.ext {w w' : World} {A : Option Addr} {n : Nat} {pv : List PN} (h : RNs w A n pv) (hx : Ext w w') : RNs w' A n pv := by
 obtain ⟨vs, h1, h2, h3, h4⟩ := h
 exact ⟨vs, h1, h2, h3.ext hx, fun v hv => (h4 v hv).ext hx⟩
theorem RNs.len {w : World} {A : Option Addr} {n : Nat} {pv : List PN} (h : RNs w A n pv) : pv.length = n := by
 obtain ⟨vs, h1, h2, _⟩ := h
 rw [← h1, ← h2]; simp
theorem RNs.get {w : World} {A : Option Addr} {n : Nat} {pv : List PN} (h : RNs w A n pv) {i : Nat} (hi : i < n) : ∃ (a : Addr) (v : VN), A = some a ∧ pv[i]? = some v.p ∧ (∀ j u, (cN v)[j]? = some u → w.cell? ((a.add (i * 5)).add j) = some u) ∧ OKN w v := by
 obtain ⟨vs, h1, h2, h3, h4⟩ := h
 obtain ⟨v, hv⟩ : ∃ v, vs[i]? = some v := ⟨_, g2_ (by omega)⟩
 obtain ⟨a, ha, hc⟩ := fl_at cN_len h3 (by omega) hv
 exact ⟨a, v, ha, by rw [← h1]; simp [hv], hc, h4 _ (m1_ hv)⟩
def wtN (p : PN) : Nat := p.tx.size + bulk p.xs + p.ks.length
def wtNs : List PN → Nat
 | [] => 0
 | p :: l => 1 + wtN p + wtNs l
theorem wtNs_app : ∀ (l r : List PN), wtNs (l ++ r) = wtNs l + wtNs r
 | [], r => by simp [wtNs]
 | p :: l, r => by rw [List.cons_append, wtNs, wtNs, wtNs_app l r]; omega
theorem wtNs_mem : ∀ {l : List PN} {p : PN}, p ∈ l → 1 + wtN p ≤ wtNs l
 | q :: l, p, h => by
  rw [wtNs]
  rcases List.mem_cons.1 h with rfl | h
  ·omega
  ·have := wtNs_mem h; omega
theorem wtNs_len : ∀ l : List PN, l.length ≤ wtNs l
 | [] => by simp
 | p :: l => by have := wtNs_len l; rw [wtNs, a3_]; omega
abbrev zSd : List Value := [.int .i64 0, .string ⟨#[]⟩, .int .i64 0, .int .i64 0]
theorem tLSd : Stc Tryz.prog 162 4 zSd := ⟨by kernel_rfl, by kernel_rfl⟩
theorem sLSd : Slc Tryz.prog 23 162 (.agg ⟨zSd⟩) 4 40 := ⟨Tryz.underlying23, by kernel_rfl⟩
theorem cLSs : Cel Tryz.prog 23 := ⟨_, Tryz.underlying23, by simp, by simp⟩
theorem fLSd0 : Fld Tryz.prog 162 0 0 := ⟨by kernel_rfl⟩
theorem fLSd1 : Fld Tryz.prog 162 1 1 := ⟨by kernel_rfl⟩
theorem fLSd2 : Fld Tryz.prog 162 2 2 := ⟨by kernel_rfl⟩
theorem fLSd3 : Fld Tryz.prog 162 3 3 := ⟨by kernel_rfl⟩
theorem tISd : Stc Tryz.prog 155 4 zSd := ⟨by kernel_rfl, by kernel_rfl⟩
theorem sISd : Slc Tryz.prog 28 155 (.agg ⟨zSd⟩) 4 40 := ⟨Tryz.underlying28, by kernel_rfl⟩
theorem cISs : Cel Tryz.prog 28 := ⟨_, Tryz.underlying28, by simp, by simp⟩
theorem zISs : (Tryz.prog.info? 28).map (·.size) = some 1 := by kernel_rfl
theorem fISd0 : Fld Tryz.prog 155 0 0 := ⟨by kernel_rfl⟩
theorem fISd1 : Fld Tryz.prog 155 1 1 := ⟨by kernel_rfl⟩
theorem fISd2 : Fld Tryz.prog 155 2 2 := ⟨by kernel_rfl⟩
theorem fISd3 : Fld Tryz.prog 155 3 3 := ⟨by kernel_rfl⟩
structure PS where
 k : Int
 nm : ByteArray
 c : Int
 g : Int
abbrev VS := PS
def cS (v : VS) : List Value := [.int .i64 v.k, .string v.nm, .int .i64 v.c, .int .i64 v.g]
theorem cS_len (v : VS) : (cS v).length = 4 := rfl
structure OKS (w : World) (v : VS) : Prop where
 s_nm : v.nm.size ≤ 9223372036854775807
theorem OKS.ext {w w' : World} {v : VS} (h : OKS w v) (hx : Ext w w') : OKS w' v := ⟨h.s_nm⟩
def RSs (w : World) (A : Option Addr) (n : Nat) (pv : List PS) : Prop := ∃ vs : List VS, vs = pv ∧ vs.length = n ∧ Cells w A (vs.flatMap cS) ∧ ∀ v ∈ vs, OKS w v
theorem RSs.ext {w w' : World} {A : Option Addr} {n : Nat} {pv : List PS} (h : RSs w A n pv) (hx : Ext w w') : RSs w' A n pv := by
 obtain ⟨vs, h1, h2, h3, h4⟩ := h
 exact ⟨vs, h1, h2, h3.ext hx, fun v hv => (h4 v hv).ext hx⟩
theorem RSs.len {w : World} {A : Option Addr} {n : Nat} {pv : List PS} (h : RSs w A n pv) : pv.length = n := by
 obtain ⟨vs, h1, h2, _⟩ := h
 rw [← h1, ← h2]
theorem RSs.get {w : World} {A : Option Addr} {n : Nat} {pv : List PS} (h : RSs w A n pv) {i : Nat} (hi : i < n) : ∃ (a : Addr) (v : VS), A = some a ∧ pv[i]? = some v ∧ (∀ j u, (cS v)[j]? = some u → w.cell? ((a.add (i * 4)).add j) = some u) ∧ OKS w v := by
 obtain ⟨vs, h1, h2, h3, h4⟩ := h
 obtain ⟨v, hv⟩ : ∃ v, vs[i]? = some v := ⟨_, g2_ (by omega)⟩
 obtain ⟨a, ha, hc⟩ := fl_at cS_len h3 (by omega) hv
 exact ⟨a, v, ha, by rw [← h1]; exact hv, hc, h4 _ (m1_ hv)⟩
def wtS (p : PS) : Nat := p.nm.size
def wtSs : List PS → Nat
 | [] => 0
 | p :: l => 1 + wtS p + wtSs l
theorem wtSs_app : ∀ (l r : List PS), wtSs (l ++ r) = wtSs l + wtSs r
 | [], r => by simp [wtSs]
 | p :: l, r => by rw [List.cons_append, wtSs, wtSs, wtSs_app l r]; omega
theorem wtSs_len : ∀ l : List PS, l.length ≤ wtSs l
 | [] => by simp
 | p :: l => by have := wtSs_len l; rw [wtSs, a3_]; omega
abbrev polV (A : Option Addr) (n c : Nat) (A2 : Option Addr) (n2 c2 : Nat) : Value := .agg ⟨[.slice A n c, .slice A2 n2 c2]⟩
structure PolR (w : World) (A : Option Addr) (n : Nat) (A2 : Option Addr) (n2 : Nat) (nv : List PN) (sv : List PS) : Prop where
 nodes : RNs w A n nv
 stmts : RSs w A2 n2 sv
theorem PolR.ext {w w' : World} {A A2 : Option Addr} {n n2 : Nat} {nv : List PN} {sv : List PS} (h : PolR w A n A2 n2 nv sv) (hx : Ext w w') : PolR w' A n A2 n2 nv sv := ⟨h.1.ext hx, h.2.ext hx⟩
set_option maxRecDepth 100000
theorem list5m {α : Type} : ∀ {l : List α}, l.length = 5 → ∃ a b c d e, l = [a, b, c, d, e]
 | [a, b, c, d, e], _ => ⟨a, b, c, d, e, rfl⟩
theorem fm_map {α β : Type} (f : α → β) (l : List α) : (l.flatMap fun x => [f x]) = l.map f := by
 induction l with
 | nil => rfl
 | cons a l ih => rw [List.flatMap_cons, ih]; rfl
theorem res_words {w : World} {v : Nat} (h : STab w v resL) : STab w v words := stab_perm h (by decide +kernel) (by decide +kernel)
section
variable {H : Type} {enc : TypeId × Value → H} {w : World} {base : Nat} {held : Bool} {fuel : Nat} {x : DataW H × List MemPlace}
theorem ints_of_cellsM {cs : List Value} (h : DataW.trod enc Tryz.prog w base (fun _ => true) held fuel 29 cs = some x) : ∃ A n c zs, cs = [.slice A n c] ∧ Ints w A n c zs := by
 obtain ⟨A, n, c, zs, g, e1, e2, e3, e4, _⟩ := open_rowsM (f := fun z : Int => [Value.int .i64 z]) (k := 1) (Q := fun _ => True) Tryz.underlying29 (show Tryz.prog.cellsOf 3 = 1 by kernel_rfl) (by omega) (fun n cs x h => by
  obtain ⟨z, g, _⟩ := DataW.trod_int uInt h
  exact ⟨z, g, rfl, trivial⟩) h
 rw [fm_map] at e4
 exact ⟨A, n, c, zs, g, e1, e3, e2, e4⟩
theorem el_node (n : Nat) (cs : List Value) (x : DataW H × List MemPlace) (h : DataW.trod enc Tryz.prog w base (fun _ => true) held n 160 cs = some x) : ∃ v : VN, cs = cN v ∧ (cN v).length = 5 ∧ OKN w v := by
 obtain ⟨xs, m, _, _, hl, hlen, hfs⟩ := DataW.trod_struct Tryz.underlying160 h
 rw [show Tryz.prog.cellsOf 160 = 5 by kernel_rfl] at hl
 obtain ⟨c0, c1, c2, c3, c4, rfl⟩ := list5m hl
 obtain ⟨x0, h0⟩ := fldAtM hlen hfs 0 _ rfl
 obtain ⟨x1, h1⟩ := fldAtM hlen hfs 1 _ rfl
 obtain ⟨x2, h2⟩ := fldAtM hlen hfs 2 _ rfl
 obtain ⟨x3, h3⟩ := fldAtM hlen hfs 3 _ rfl
 obtain ⟨x4, h4⟩ := fldAtM hlen hfs 4 _ rfl
 obtain ⟨z0, g0, _⟩ := DataW.trod_int uInt h0
 obtain ⟨z1, g1, _⟩ := DataW.trod_int uI64 h1
 obtain ⟨s2, g2, _, k2⟩ := DataW.trod_string uStr h2
 obtain ⟨A3, n3, d3, q3, g3, k3⟩ := strs_of_cellsM h3
 obtain ⟨A4, n4, d4, q4, g4, k4⟩ := ints_of_cellsM h4
 cases g0; cases g1; cases g2; cases g3; cases g4
 unfold maxLen at k2
 exact ⟨⟨⟨z0, z1, s2, q3, q4⟩, A3, n3, d3, A4, n4, d4⟩, rfl, rfl, ⟨by simp only; omega, k3, k4⟩⟩
theorem el_stmt (n : Nat) (cs : List Value) (x : DataW H × List MemPlace) (h : DataW.trod enc Tryz.prog w base (fun _ => true) held n 162 cs = some x) : ∃ v : VS, cs = cS v ∧ (cS v).length = 4 ∧ OKS w v := by
 obtain ⟨xs, m, _, _, hl, hlen, hfs⟩ := DataW.trod_struct Tryz.underlying162 h
 rw [show Tryz.prog.cellsOf 162 = 4 by kernel_rfl] at hl
 obtain ⟨c0, c1, c2, c3, rfl⟩ := list4m hl
 obtain ⟨x0, h0⟩ := fldAtM hlen hfs 0 _ rfl
 obtain ⟨x1, h1⟩ := fldAtM hlen hfs 1 _ rfl
 obtain ⟨x2, h2⟩ := fldAtM hlen hfs 2 _ rfl
 obtain ⟨x3, h3⟩ := fldAtM hlen hfs 3 _ rfl
 obtain ⟨z0, g0, _⟩ := DataW.trod_int uInt h0
 obtain ⟨s1, g1, _, k1⟩ := DataW.trod_string uStr h1
 obtain ⟨z2, g2, _⟩ := DataW.trod_int uInt h2
 obtain ⟨z3, g3, _⟩ := DataW.trod_int uInt h3
 cases g0; cases g1; cases g2; cases g3
 unfold maxLen at k1
 exact ⟨⟨z0, s1, z2, z3⟩, rfl, rfl, ⟨by simp only; omega⟩⟩
theorem nodes_of_cellsM {cs : List Value} (h : DataW.trod enc Tryz.prog w base (fun _ => true) held fuel 22 cs = some x) : ∃ A n c nv, cs = [.slice A n c] ∧ RNs w A n nv ∧ n ≤ 9223372036854775807 := by
 obtain ⟨A, n, c, vs, g0, e1, e2, e3, e4, e5⟩ := open_rowsM (f := cN) Tryz.underlying22 (show Tryz.prog.cellsOf 160 = 5 by kernel_rfl) (by omega) el_node h
 exact ⟨A, n, c, vs.map (·.p), g0, ⟨vs, rfl, e1, e4, e5⟩, e3⟩
theorem stmts_of_cellsM {cs : List Value} (h : DataW.trod enc Tryz.prog w base (fun _ => true) held fuel 23 cs = some x) : ∃ A n c sv, cs = [.slice A n c] ∧ RSs w A n sv ∧ n ≤ 9223372036854775807 := by
 obtain ⟨A, n, c, vs, g0, e1, e2, e3, e4, e5⟩ := open_rowsM (f := cS) Tryz.underlying23 (show Tryz.prog.cellsOf 162 = 4 by kernel_rfl) (by omega) el_stmt h
 exact ⟨A, n, c, vs, g0, ⟨vs, rfl, e1, e4, e5⟩, e3⟩
theorem open_lpolicy {v : Value} {d : DataW H} {ps : List MemPlace} {r : Reach} {b0 : Nat} (hv : Value.okWide Tryz.prog w r b0 25 v) (h : DataW.Trod enc Tryz.prog w base (fun _ => true) held 25 v d ps) :
  ∃ A n c A2 n2 c2 nv sv, v = polV A n c A2 n2 c2 ∧ PolR w A n A2 n2 nv sv ∧ n ≤ 9223372036854775807 ∧ n2 ≤ 9223372036854775807 := by
 obtain ⟨cs, rfl, hl⟩ := okWide_struct Tryz.underlying25 hv
 obtain ⟨fuel, hf⟩ := h
 obtain ⟨xs, m, _, _, _, hlen, hfs⟩ := DataW.trod_struct Tryz.underlying25 hf
 rw [show Tryz.prog.cellsOf 25 = 2 by kernel_rfl] at hl
 obtain ⟨l⟩ := cs
 obtain ⟨c0, c1, rfl⟩ := list2m (l := l) (by simpa using hl)
 obtain ⟨x0, h0⟩ := fldAtM hlen hfs 0 _ rfl
 obtain ⟨x1, h1⟩ := fldAtM hlen hfs 1 _ rfl
 obtain ⟨A, n, c, nv, g0, k0, e0⟩ := nodes_of_cellsM h0
 obtain ⟨A2, n2, c2, sv, g1, k1, e1⟩ := stmts_of_cellsM h1
 cases g0; cases g1
 exact ⟨A, n, c, A2, n2, c2, nv, sv, rfl, ⟨k0, k1⟩, e0, e1⟩
end
open Go.ChangeShapes Go.WideShapes
set_option maxRecDepth 100000 in
theorem jf_FnExactCheck : joinedFacts Tryz.pinned.checked.prog 3 Tryz.f3 Rows.fnExactCheckSpec Rows.fnExactCheckRow = true := by
 unfold joinedFacts
 simp only [Bool.and_eq_true]
 repeat' apply And.intro
 all_goals (as_aux_lemma => kernel_rfl)
theorem cMap : Cel Tryz.prog 316 := ⟨_, Tryz.underlying316, by simp, by simp⟩
def constF : List (Int × Int) := [(1, 3), (2, 1), (3, 2), (4, 4)]
theorem run_bN (o z : Int) (tx : ByteArray) (A : Option Addr) (m c : Nat) (w : World) : (Instr.build 90 #[(0, .int .i64 o), (1, .int .i64 z), (2, .string tx), (3, .slice A m c)]).run Tryz.prog w = .ok (.agg #[.int .i64 o, .int .i64 z, .string tx, .slice A m c, .slice none 0 0]) w := by kernel_rfl
theorem st_bN {E : Sym} {w : World} {K : Value → World → Prop} {d : Option Tmp} {ty : TypeId} {pos : String} {aft : Array Edge} {g : Option (Nat × Bool)} {bq : Bool} (hE : EngB bq Tryz.prog E) {o z : Int} {tx : ByteArray} {A : Option Addr} {m c : Nat} {x0 x1 x2 x3 : Operand} (hk : K (.agg ⟨[.int .i64 o, .int .i64 z, .string tx, .slice A m c, .slice none 0 0]⟩) w) : E.stop ⟨d, .build 90 ⟨[(0, x0), (1, x1), (2, x2), (3, x3)]⟩, ty, pos, aft, g⟩ [.int .i64 o, .int .i64 z, .string tx, .slice A m c] w K := by
 refine hE.det (v := .agg ⟨[.int .i64 o, .int .i64 z, .string tx, .slice A m c, .slice none 0 0]⟩) (fun w1 _ ρ hρ => ?_) hk
 simp only [opnds, b2_, b3_, b1_, and_true] at hρ
 have := run_bN o z tx A m c w1
 simp [execOp, hρ.1, hρ.2.1, hρ.2.2.1, hρ.2.2.2, this]
def hasA (o : Int) : Prop := o = 1 ∨ o = 2 ∨ o = 3 ∨ o = 4 ∨ o = 22 ∨ o = 23
def insOK (i : Int × Int) : Prop := 1 ≤ i.1 ∧ i.1 ≤ 25 ∧ 0 ≤ i.2 ∧ i.2 ≤ 65535 ∧ (i.2 = 0 ∨ hasA i.1)
def shapeP (pv : List PV) (sl : Int) (is : List (Int × Int)) : Prop := pv.length ≤ 4000 ∧ 0 ≤ sl ∧ sl ≤ 600 ∧ is.length ≤ 20000 ∧ (∀ p ∈ pv, valOK p) ∧ ∀ i ∈ is, insOK i
open Go.ChangeMaps (setBlock)
def opF : List (Int × Int) := (List.range 17).map fun (i : Nat) => ((i : Int) + 8, (i : Int) + 5)
def oprF (o : Int) : Int := if 5 ≤ o ∧ o ≤ 21 then o + 3 else 0
def kidsF (op : Int) : Int := if 1 ≤ op ∧ op ≤ 7 then 0 else if 8 ≤ op ∧ op ≤ 10 then 1 else if 11 ≤ op ∧ op ≤ 26 then 2 else if op = 27 then 3 else -1
theorem kidsOf_f {w : World} (op : Int) : FC Tryz.prog 193 [.int .i64 op] w fun v _ => v = .int .i64 (kidsF op) := by
 refine FC.intro (cs := []) Tryz.func193 (by kernel_rfl) fun E R hE hr hR => ?_
 conv => cbv
 repeat' (split <;> conv => cbv)
 all_goals (rw [hR]; refine ⟨Ext.refl _, congrArg (Value.int .i64) ?_⟩; simp only [hE.cmp, cmpR, decide_eq_true_eq, beq_iff_eq] at *; unfold kidsF; repeat' split) <;> omega
def attrF (g : Int) : Int := if g < 2 then 3 else if g < 4 then 2 else 4
theorem l3attrType_f {w : World} (g : Int) : FC Tryz.prog 239 [.int .i64 g] w fun v _ => v = .int .i64 (attrF g) := by
 refine FC.intro (cs := []) Tryz.func239 (by kernel_rfl) fun E R hE hr hR => ?_
 conv => cbv
 repeat' (split <;> conv => cbv)
 all_goals (rw [hR]; refine ⟨Ext.refl _, congrArg (Value.int .i64) ?_⟩; simp only [hE.cmp, cmpR, decide_eq_true_eq, beq_iff_eq] at *; unfold attrF; repeat' split) <;> omega
def popsF (o : Int) : Int := if o = 1 ∨ o = 2 ∨ o = 3 ∨ o = 22 ∨ o = 24 then 0 else if o = 4 ∨ o = 23 ∨ o = 25 then 1 else kidsF (oprF o)
def allT (t : Int) (ts : List Int) : Bool := ts.all fun x => x == t
theorem same_f {w : World} {B : Nat} {a : Addr} {A : Option Addr} {n c : Nat} {ts : List Int} (hb : Box B 29 1 w a [.slice A n c]) (h : Ints w A n c ts) (t : Int) :
  FC Tryz.prog 271 [.int .i64 t, .pointer (some a)] w fun v _ => v = .bool (allT t ts) := by
 refine FC.intro (cs := []) Tryz.func271 (by kernel_rfl) fun E R hE hr hR => ?_
 have hl := h.len
 have hle := h.le
 conv => cbv
 refine st_load hE cInts (v := .slice A n c) (by have := hb.at 0 _ rfl; rwa [add_zero] at this) ?_
 conv => cbv
 refine st_len hE tInts fun x hx => ?_
 conv => cbv
 refine loop_rule hr (fun (s : Nat × Int) w' => s.1 ≤ n ∧ s.2 = (s.1 : Int) ∧ Ext w w' ∧ ∀ x ∈ ts.take s.1, x = t) (fun s => [(0, .int .i64 t), (6, .slice A n c), (7, .int .i64 x), (8, .int .i64 s.2)]) (fun s => n - s.1) (0, 0)
  (by simp [Fits, lk]) ⟨by simp, by simp, Ext.refl _, by simp⟩ ?_
 rintro I hI ⟨i, ii⟩ w' ⟨hi, hii, hxw, hall⟩
 simp only at hi hii hall
 obtain ⟨ii', hii'⟩ : ∃ z, z = ii + 1 := ⟨_, rfl⟩
 conv => cbv
 refine br (fun g => ?_) (fun g => ?_)
 ·have g : i < n := by
   have : ii < x := by simpa [hE.cmp, cmpR] using g
   omega
  have e1 : E.ar .add .i64 ii 1 = ii' := by rw [hE.ar, hii']; exact wrap_in (by omega) (by omega)
  conv => cbv
  refine st_int hE tInts (h.ext hxw) (k := i) (by omega) g fun p u hu hp => ?_
  conv => cbv
  refine st_load hE cInt hp ?_
  conv => cbv
  refine br (fun g2 => ?_) (fun g2 => ?_)
  ·have g2 : u ≠ t := by simpa [hE.cmp, cmpR] using g2
   conv => cbv
   rw [hR]; refine ⟨hxw, ?_⟩
   have : allT t ts = false := by
    unfold allT; rw [List.all_eq_false]
    exact ⟨u, m1_ hu, by simpa using g2⟩
   rw [this]; rfl
  ·have g2 : u = t := by simpa [hE.cmp, cmpR] using g2
   conv => cbv
   simp only [e1]
   refine ⟨(i + 1, ii'), by simp [Fits, lk], hI _ _ ⟨by simp only; omega, by simp only; omega, hxw, ?_⟩, by simp only; omega⟩
   simp only
   rw [g4_, hu]
   intro y hy
   rcases List.mem_append.1 hy with hy | hy
   ·exact hall y hy
   ·simp at hy; rw [hy, g2]
 ·have g : i = n := by
   have : ¬ ii < x := by simpa [hE.cmp, cmpR] using g
   omega
  rw [g3_ (by omega)] at hall
  conv => cbv
  rw [hR]; refine ⟨hxw, ?_⟩
  have : allT t ts = true := by
   unfold allT; rw [List.all_eq_true]
   exact fun y hy => by simpa using hall y hy
  rw [this]; rfl
theorem fit_f {w : World} (b : Bool) (t : Int) : FC Tryz.prog 272 [.bool b, .int .i64 t] w fun v _ => v = .int .i64 (if b = true then t else 0) := by
 refine FC.intro (cs := []) Tryz.func272 (by kernel_rfl) fun E R hE hr hR => ?_
 cases b with
 | true => conv => cbv
           rw [hR]; exact ⟨Ext.refl _, rfl⟩
 | false => conv => cbv
            rw [hR]; exact ⟨Ext.refl _, rfl⟩
def typF (op : Int) (ts : List Int) : Int :=
 if op = 8 ∨ (11 ≤ op ∧ op ≤ 15) then (if allT 2 ts = true then 2 else 0)
 else if op = 9 then (if allT 1 ts = true then 1 else 0)
 else if op = 10 then (if allT 4 ts = true then 2 else 0)
 else if 16 ≤ op ∧ op ≤ 18 then (if allT 4 ts = true then 4 else 0)
 else if op = 19 ∨ op = 20 then (if ts[0]? = ts[1]? then 1 else 0)
 else if op = 21 ∨ op = 22 then (if allT 2 ts = true then 1 else 0)
 else if op = 23 then (if ts[0]? = some 3 ∧ ts[1]? = some 4 then 1 else 0)
 else (if allT 4 ts = true then 1 else 0)
theorem typeOf_f {w : World} {A : Option Addr} {n c : Nat} {ts : List Int} (h : Ints w A n c ts) (op : Int) (h1 : 8 ≤ op) (h2 : op ≤ 24) (hk : (n : Int) = kidsF op) :
  FC Tryz.prog 246 [.int .i64 op, .slice A n c] w fun v _ => v = .int .i64 (typF op ts) := by
 refine FC.intro (cs := []) Tryz.func246 (by kernel_rfl) fun E R hE hr hR => ?_
 have hl := h.len
 conv => cbv
 refine st_box1 hr rfl fun a w1 hx hb0 => ?_
 have hb := hb0 _ (n1_ _)
 have hl0 : w1.cell? a = some (.slice A n c) := by have := hb.at 0 _ rfl; rwa [add_zero] at this
 conv => cbv
 refine br (fun g => ?_) (fun g => ?_)
 ·have g0 := g
  have g : op = 8 := by simpa [hE.cmp, cmpR] using g
  conv => cbv
  refine br (fun _ => ?_) (fun q => absurd g0 q)
  conv => cbv
  refine st_f hr (same_f hb (h.ext hx) 2) fun v w2 hx2 ev => ?_
  subst ev
  obtain ⟨q, hq⟩ : ∃ q, q = allT 2 ts := ⟨_, rfl⟩
  rw [← hq]
  conv => cbv
  refine st_f hr (fit_f q 2) fun v w3 hx3 ev => ?_
  subst ev
  obtain ⟨z, hz⟩ : ∃ z : Int, z = if q = true then 2 else 0 := ⟨_, rfl⟩
  rw [← hz]
  conv => cbv
  rw [hR]; exact ⟨(hx.trans hx2).trans hx3, by rw [hz, hq]; simp [one, typF, g]⟩
 have g8 : op ≠ 8 := by simpa [hE.cmp, cmpR] using g
 clear g
 conv => cbv
 refine br (fun g => ?_) (fun g => ?_)
 ·have g0 := g
  have g : op = 11 := by simpa [hE.cmp, cmpR] using g
  conv => cbv
  refine br (fun _ => ?_) (fun q => absurd g0 q)
  conv => cbv
  refine st_f hr (same_f hb (h.ext hx) 2) fun v w2 hx2 ev => ?_
  subst ev
  obtain ⟨q, hq⟩ : ∃ q, q = allT 2 ts := ⟨_, rfl⟩
  rw [← hq]
  conv => cbv
  refine st_f hr (fit_f q 2) fun v w3 hx3 ev => ?_
  subst ev
  obtain ⟨z, hz⟩ : ∃ z : Int, z = if q = true then 2 else 0 := ⟨_, rfl⟩
  rw [← hz]
  conv => cbv
  rw [hR]; exact ⟨(hx.trans hx2).trans hx3, by rw [hz, hq]; simp [one, typF, g]⟩
 have g11 : op ≠ 11 := by simpa [hE.cmp, cmpR] using g
 clear g
 conv => cbv
 refine br (fun g => ?_) (fun g => ?_)
 ·have g0 := g
  have g : op = 12 := by simpa [hE.cmp, cmpR] using g
  conv => cbv
  refine br (fun _ => ?_) (fun q => absurd g0 q)
  conv => cbv
  refine st_f hr (same_f hb (h.ext hx) 2) fun v w2 hx2 ev => ?_
  subst ev
  obtain ⟨q, hq⟩ : ∃ q, q = allT 2 ts := ⟨_, rfl⟩
  rw [← hq]
  conv => cbv
  refine st_f hr (fit_f q 2) fun v w3 hx3 ev => ?_
  subst ev
  obtain ⟨z, hz⟩ : ∃ z : Int, z = if q = true then 2 else 0 := ⟨_, rfl⟩
  rw [← hz]
  conv => cbv
  rw [hR]; exact ⟨(hx.trans hx2).trans hx3, by rw [hz, hq]; simp [one, typF, g]⟩
 have g12 : op ≠ 12 := by simpa [hE.cmp, cmpR] using g
 clear g
 conv => cbv
 refine br (fun g => ?_) (fun g => ?_)
 ·have g0 := g
  have g : op = 13 := by simpa [hE.cmp, cmpR] using g
  conv => cbv
  refine br (fun _ => ?_) (fun q => absurd g0 q)
  conv => cbv
  refine st_f hr (same_f hb (h.ext hx) 2) fun v w2 hx2 ev => ?_
  subst ev
  obtain ⟨q, hq⟩ : ∃ q, q = allT 2 ts := ⟨_, rfl⟩
  rw [← hq]
  conv => cbv
  refine st_f hr (fit_f q 2) fun v w3 hx3 ev => ?_
  subst ev
  obtain ⟨z, hz⟩ : ∃ z : Int, z = if q = true then 2 else 0 := ⟨_, rfl⟩
  rw [← hz]
  conv => cbv
  rw [hR]; exact ⟨(hx.trans hx2).trans hx3, by rw [hz, hq]; simp [one, typF, g]⟩
 have g13 : op ≠ 13 := by simpa [hE.cmp, cmpR] using g
 clear g
 conv => cbv
 refine br (fun g => ?_) (fun g => ?_)
 ·have g0 := g
  have g : op = 14 := by simpa [hE.cmp, cmpR] using g
  conv => cbv
  refine br (fun _ => ?_) (fun q => absurd g0 q)
  conv => cbv
  refine st_f hr (same_f hb (h.ext hx) 2) fun v w2 hx2 ev => ?_
  subst ev
  obtain ⟨q, hq⟩ : ∃ q, q = allT 2 ts := ⟨_, rfl⟩
  rw [← hq]
  conv => cbv
  refine st_f hr (fit_f q 2) fun v w3 hx3 ev => ?_
  subst ev
  obtain ⟨z, hz⟩ : ∃ z : Int, z = if q = true then 2 else 0 := ⟨_, rfl⟩
  rw [← hz]
  conv => cbv
  rw [hR]; exact ⟨(hx.trans hx2).trans hx3, by rw [hz, hq]; simp [one, typF, g]⟩
 have g14 : op ≠ 14 := by simpa [hE.cmp, cmpR] using g
 clear g
 conv => cbv
 refine br (fun g => ?_) (fun g => ?_)
 ·have g0 := g
  have g : op = 15 := by simpa [hE.cmp, cmpR] using g
  conv => cbv
  refine st_f hr (same_f hb (h.ext hx) 2) fun v w2 hx2 ev => ?_
  subst ev
  obtain ⟨q, hq⟩ : ∃ q, q = allT 2 ts := ⟨_, rfl⟩
  rw [← hq]
  conv => cbv
  refine st_f hr (fit_f q 2) fun v w3 hx3 ev => ?_
  subst ev
  obtain ⟨z, hz⟩ : ∃ z : Int, z = if q = true then 2 else 0 := ⟨_, rfl⟩
  rw [← hz]
  conv => cbv
  rw [hR]; exact ⟨(hx.trans hx2).trans hx3, by rw [hz, hq]; simp [one, typF, g]⟩
 have g15 : op ≠ 15 := by simpa [hE.cmp, cmpR] using g
 clear g
 conv => cbv
 refine br (fun g => ?_) (fun g => ?_)
 ·have g0 := g
  have g : op = 9 := by simpa [hE.cmp, cmpR] using g
  conv => cbv
  refine br (fun _ => ?_) (fun q => absurd g0 q)
  conv => cbv
  refine st_f hr (same_f hb (h.ext hx) 1) fun v w2 hx2 ev => ?_
  subst ev
  obtain ⟨q, hq⟩ : ∃ q, q = allT 1 ts := ⟨_, rfl⟩
  rw [← hq]
  conv => cbv
  refine st_f hr (fit_f q 1) fun v w3 hx3 ev => ?_
  subst ev
  obtain ⟨z, hz⟩ : ∃ z : Int, z = if q = true then 1 else 0 := ⟨_, rfl⟩
  rw [← hz]
  conv => cbv
  rw [hR]; exact ⟨(hx.trans hx2).trans hx3, by rw [hz, hq]; simp [one, typF, g]⟩
 have g9 : op ≠ 9 := by simpa [hE.cmp, cmpR] using g
 clear g
 conv => cbv
 refine br (fun g => ?_) (fun g => ?_)
 ·have g : op = 25 := by simpa [hE.cmp, cmpR] using g
  omega
 clear g
 conv => cbv
 refine br (fun g => ?_) (fun g => ?_)
 ·have g : op = 26 := by simpa [hE.cmp, cmpR] using g
  omega
 clear g
 conv => cbv
 refine br (fun g => ?_) (fun g => ?_)
 ·have g0 := g
  have g : op = 10 := by simpa [hE.cmp, cmpR] using g
  conv => cbv
  refine st_f hr (same_f hb (h.ext hx) 4) fun v w2 hx2 ev => ?_
  subst ev
  obtain ⟨q, hq⟩ : ∃ q, q = allT 4 ts := ⟨_, rfl⟩
  rw [← hq]
  conv => cbv
  refine st_f hr (fit_f q 2) fun v w3 hx3 ev => ?_
  subst ev
  obtain ⟨z, hz⟩ : ∃ z : Int, z = if q = true then 2 else 0 := ⟨_, rfl⟩
  rw [← hz]
  conv => cbv
  rw [hR]; exact ⟨(hx.trans hx2).trans hx3, by rw [hz, hq]; simp [one, typF, g]⟩
 have g10 : op ≠ 10 := by simpa [hE.cmp, cmpR] using g
 clear g
 conv => cbv
 refine br (fun g => ?_) (fun g => ?_)
 ·have g0 := g
  have g : op = 16 := by simpa [hE.cmp, cmpR] using g
  conv => cbv
  refine br (fun _ => ?_) (fun q => absurd g0 q)
  conv => cbv
  refine st_f hr (same_f hb (h.ext hx) 4) fun v w2 hx2 ev => ?_
  subst ev
  obtain ⟨q, hq⟩ : ∃ q, q = allT 4 ts := ⟨_, rfl⟩
  rw [← hq]
  conv => cbv
  refine st_f hr (fit_f q 4) fun v w3 hx3 ev => ?_
  subst ev
  obtain ⟨z, hz⟩ : ∃ z : Int, z = if q = true then 4 else 0 := ⟨_, rfl⟩
  rw [← hz]
  conv => cbv
  rw [hR]; exact ⟨(hx.trans hx2).trans hx3, by rw [hz, hq]; simp [one, typF, g]⟩
 have g16 : op ≠ 16 := by simpa [hE.cmp, cmpR] using g
 clear g
 conv => cbv
 refine br (fun g => ?_) (fun g => ?_)
 ·have g0 := g
  have g : op = 17 := by simpa [hE.cmp, cmpR] using g
  conv => cbv
  refine br (fun _ => ?_) (fun q => absurd g0 q)
  conv => cbv
  refine st_f hr (same_f hb (h.ext hx) 4) fun v w2 hx2 ev => ?_
  subst ev
  obtain ⟨q, hq⟩ : ∃ q, q = allT 4 ts := ⟨_, rfl⟩
  rw [← hq]
  conv => cbv
  refine st_f hr (fit_f q 4) fun v w3 hx3 ev => ?_
  subst ev
  obtain ⟨z, hz⟩ : ∃ z : Int, z = if q = true then 4 else 0 := ⟨_, rfl⟩
  rw [← hz]
  conv => cbv
  rw [hR]; exact ⟨(hx.trans hx2).trans hx3, by rw [hz, hq]; simp [one, typF, g]⟩
 have g17 : op ≠ 17 := by simpa [hE.cmp, cmpR] using g
 clear g
 conv => cbv
 refine br (fun g => ?_) (fun g => ?_)
 ·have g0 := g
  have g : op = 18 := by simpa [hE.cmp, cmpR] using g
  conv => cbv
  refine st_f hr (same_f hb (h.ext hx) 4) fun v w2 hx2 ev => ?_
  subst ev
  obtain ⟨q, hq⟩ : ∃ q, q = allT 4 ts := ⟨_, rfl⟩
  rw [← hq]
  conv => cbv
  refine st_f hr (fit_f q 4) fun v w3 hx3 ev => ?_
  subst ev
  obtain ⟨z, hz⟩ : ∃ z : Int, z = if q = true then 4 else 0 := ⟨_, rfl⟩
  rw [← hz]
  conv => cbv
  rw [hR]; exact ⟨(hx.trans hx2).trans hx3, by rw [hz, hq]; simp [one, typF, g]⟩
 have g18 : op ≠ 18 := by simpa [hE.cmp, cmpR] using g
 clear g
 conv => cbv
 refine br (fun g => ?_) (fun g => ?_)
 ·have g0 := g
  have g : op = 19 := by simpa [hE.cmp, cmpR] using g
  conv => cbv
  refine br (fun _ => ?_) (fun q => absurd g0 q)
  have hn : n = 2 := by
   have : kidsF op = 2 := by rw [g]; decide
   omega
  conv => cbv
  refine draw_h [0, 1, 2, 3, 4, 5, 6, 7] [(8, false), (9, true)] hr fol (by kernel_rfl) fun E' hE' w4 hs4 S hS => ?_
  have hl4 : w4.cell? a = some (.slice A n c) := hs4.ext.cell hl0
  have h4 := (h.ext hx).ext hs4.ext
  conv => cbv
  refine st_load hE' cInts hl4 ?_
  conv => cbv
  refine st_int hE' tInts h4 (k := 0) rfl (by omega) fun p u hu hp => ?_
  conv => cbv
  refine st_load hE' cInt hp ?_
  conv => cbv
  refine st_load hE' cInts hl4 ?_
  conv => cbv
  refine st_int hE' tInts h4 (k := 1) rfl (by omega) fun p2 u2 hu2 hp2 => ?_
  conv => cbv
  refine st_load hE' cInt hp2 ?_
  obtain ⟨q, hq⟩ : ∃ q, q = E'.cmp .eql u u2 := ⟨_, rfl⟩
  have hq' : q = true ↔ u = u2 := by rw [hq, hE'.cmp]; simp [cmpR]
  conv => cbv
  simp only [← hq]
  refine st_f hr (fit_f q 1) fun v w3 hx3 ev => ?_
  subst ev
  obtain ⟨z, hz⟩ : ∃ z : Int, z = if q = true then 1 else 0 := ⟨_, rfl⟩
  rw [← hz]
  refine ⟨hS _ hx3, ?_⟩
  conv => cbv
  rw [hR]; refine ⟨(hx.trans hs4.ext).trans hx3, ?_⟩
  rw [hz]; cases q with
  | true => rw [if_pos rfl]; have := hq'.1 rfl; simp [one, typF, g, hu, hu2, this]
  | false => rw [if_neg (by simp)]; have : u ≠ u2 := fun e => by simpa using hq'.2 e
             simp [one, typF, g, hu, hu2, this]
 have g19 : op ≠ 19 := by simpa [hE.cmp, cmpR] using g
 clear g
 conv => cbv
 refine br (fun g => ?_) (fun g => ?_)
 ·have g0 := g
  have g : op = 20 := by simpa [hE.cmp, cmpR] using g
  have hn : n = 2 := by
   have : kidsF op = 2 := by rw [g]; decide
   omega
  conv => cbv
  refine draw_h [0, 1, 2, 3, 4, 5, 6, 7] [(8, false), (9, true)] hr fol (by kernel_rfl) fun E' hE' w4 hs4 S hS => ?_
  have hl4 : w4.cell? a = some (.slice A n c) := hs4.ext.cell hl0
  have h4 := (h.ext hx).ext hs4.ext
  conv => cbv
  refine st_load hE' cInts hl4 ?_
  conv => cbv
  refine st_int hE' tInts h4 (k := 0) rfl (by omega) fun p u hu hp => ?_
  conv => cbv
  refine st_load hE' cInt hp ?_
  conv => cbv
  refine st_load hE' cInts hl4 ?_
  conv => cbv
  refine st_int hE' tInts h4 (k := 1) rfl (by omega) fun p2 u2 hu2 hp2 => ?_
  conv => cbv
  refine st_load hE' cInt hp2 ?_
  obtain ⟨q, hq⟩ : ∃ q, q = E'.cmp .eql u u2 := ⟨_, rfl⟩
  have hq' : q = true ↔ u = u2 := by rw [hq, hE'.cmp]; simp [cmpR]
  conv => cbv
  simp only [← hq]
  refine st_f hr (fit_f q 1) fun v w3 hx3 ev => ?_
  subst ev
  obtain ⟨z, hz⟩ : ∃ z : Int, z = if q = true then 1 else 0 := ⟨_, rfl⟩
  rw [← hz]
  refine ⟨hS _ hx3, ?_⟩
  conv => cbv
  rw [hR]; refine ⟨(hx.trans hs4.ext).trans hx3, ?_⟩
  rw [hz]; cases q with
  | true => rw [if_pos rfl]; have := hq'.1 rfl; simp [one, typF, g, hu, hu2, this]
  | false => rw [if_neg (by simp)]; have : u ≠ u2 := fun e => by simpa using hq'.2 e
             simp [one, typF, g, hu, hu2, this]
 have g20 : op ≠ 20 := by simpa [hE.cmp, cmpR] using g
 clear g
 conv => cbv
 refine br (fun g => ?_) (fun g => ?_)
 ·have g0 := g
  have g : op = 21 := by simpa [hE.cmp, cmpR] using g
  conv => cbv
  refine br (fun _ => ?_) (fun q => absurd g0 q)
  conv => cbv
  refine st_f hr (same_f hb (h.ext hx) 2) fun v w2 hx2 ev => ?_
  subst ev
  obtain ⟨q, hq⟩ : ∃ q, q = allT 2 ts := ⟨_, rfl⟩
  rw [← hq]
  conv => cbv
  refine st_f hr (fit_f q 1) fun v w3 hx3 ev => ?_
  subst ev
  obtain ⟨z, hz⟩ : ∃ z : Int, z = if q = true then 1 else 0 := ⟨_, rfl⟩
  rw [← hz]
  conv => cbv
  rw [hR]; exact ⟨(hx.trans hx2).trans hx3, by rw [hz, hq]; simp [one, typF, g]⟩
 have g21 : op ≠ 21 := by simpa [hE.cmp, cmpR] using g
 clear g
 conv => cbv
 refine br (fun g => ?_) (fun g => ?_)
 ·have g0 := g
  have g : op = 22 := by simpa [hE.cmp, cmpR] using g
  conv => cbv
  refine st_f hr (same_f hb (h.ext hx) 2) fun v w2 hx2 ev => ?_
  subst ev
  obtain ⟨q, hq⟩ : ∃ q, q = allT 2 ts := ⟨_, rfl⟩
  rw [← hq]
  conv => cbv
  refine st_f hr (fit_f q 1) fun v w3 hx3 ev => ?_
  subst ev
  obtain ⟨z, hz⟩ : ∃ z : Int, z = if q = true then 1 else 0 := ⟨_, rfl⟩
  rw [← hz]
  conv => cbv
  rw [hR]; exact ⟨(hx.trans hx2).trans hx3, by rw [hz, hq]; simp [one, typF, g]⟩
 have g22 : op ≠ 22 := by simpa [hE.cmp, cmpR] using g
 clear g
 conv => cbv
 refine br (fun g => ?_) (fun g => ?_)
 ·have g0 := g
  have g : op = 23 := by simpa [hE.cmp, cmpR] using g
  have hn : n = 2 := by
   have : kidsF op = 2 := by rw [g]; decide
   omega
  conv => cbv
  refine st_load hE cInts hl0 ?_
  conv => cbv
  refine st_int hE tInts (h.ext hx) (k := 0) rfl (by omega) fun p u hu hp => ?_
  conv => cbv
  refine st_load hE cInt hp ?_
  conv => cbv
  refine br (fun g2 => ?_) (fun g2 => ?_)
  ·have g2 : u = 3 := by simpa [hE.cmp, cmpR] using g2
   conv => cbv
   refine st_load hE cInts hl0 ?_
   conv => cbv
   refine st_int hE tInts (h.ext hx) (k := 1) rfl (by omega) fun p2 u2 hu2 hp2 => ?_
   conv => cbv
   refine st_load hE cInt hp2 ?_
   obtain ⟨q, hq⟩ : ∃ q, q = E.cmp .eql u2 4 := ⟨_, rfl⟩
   have hq' : q = true ↔ u2 = 4 := by rw [hq, hE.cmp]; simp [cmpR]
   conv => cbv
   simp only [← hq]
   conv => cbv
   refine st_f hr (fit_f q 1) fun v w3 hx3 ev => ?_
   subst ev
   obtain ⟨z, hz⟩ : ∃ z : Int, z = if q = true then 1 else 0 := ⟨_, rfl⟩
   rw [← hz]
   conv => cbv
   rw [hR]; refine ⟨hx.trans hx3, ?_⟩
   rw [hz]; cases q with
   | true => rw [if_pos rfl]; have := hq'.1 rfl; simp [one, typF, g, hu, hu2, this, g2]
   | false => rw [if_neg (by simp)]; have : u2 ≠ 4 := fun e => by simpa using hq'.2 e
              simp [one, typF, g, hu, hu2, this]
  ·have g2 : u ≠ 3 := by simpa [hE.cmp, cmpR] using g2
   conv => cbv
   refine st_f hr (fit_f false 1) fun v w3 hx3 ev => ?_
   subst ev
   obtain ⟨z, hz⟩ : ∃ z : Int, z = if false = true then 1 else 0 := ⟨_, rfl⟩
   rw [← hz]
   conv => cbv
   rw [hR]; exact ⟨hx.trans hx3, by rw [hz]; simp [one, typF, g, hu, g2]⟩
 have g23 : op ≠ 23 := by simpa [hE.cmp, cmpR] using g
 clear g
 conv => cbv
 refine br (fun g => ?_) (fun g => ?_)
 ·have g0 := g
  have g : op = 24 := by simpa [hE.cmp, cmpR] using g
  conv => cbv
  refine st_f hr (same_f hb (h.ext hx) 4) fun v w2 hx2 ev => ?_
  subst ev
  obtain ⟨q, hq⟩ : ∃ q, q = allT 4 ts := ⟨_, rfl⟩
  rw [← hq]
  conv => cbv
  refine st_f hr (fit_f q 1) fun v w3 hx3 ev => ?_
  subst ev
  obtain ⟨z, hz⟩ : ∃ z : Int, z = if q = true then 1 else 0 := ⟨_, rfl⟩
  rw [← hz]
  conv => cbv
  rw [hR]; exact ⟨(hx.trans hx2).trans hx3, by rw [hz, hq]; simp [one, typF, g]⟩
 have g24 : op ≠ 24 := by simpa [hE.cmp, cmpR] using g
 clear g
 omega
inductive Tr where
 | con (k n : Int) (tx : ByteArray) (xs : List ByteArray) (at_ : Int)
 | nam (tx : ByteArray) (at_ : Int)
 | att (n : Int)
 | lt (n : Int)
 | op (o : Int) (kids : List Tr) (at_ : Int)
def knd (o : Int) : Int := if o = 1 then 2 else if o = 2 then 3 else if o = 3 then 1 else 4
def leafF (p : PN) (i : Int) : Tr := if p.o = 5 then .nam p.tx i else if p.o = 6 then .att p.z else if p.o = 7 then .lt p.z else .con (knd p.o) p.z p.tx p.xs i
def mkT (p : PN) (i : Int) (kids : List Tr) : Tr := if kidsF p.o = 0 then leafF p i else .op p.o kids i
mutual
def dep : Tr → Nat
 | .op _ kids _ => deps kids + 1
 | _ => 1
def deps : List Tr → Nat
 | [] => 0
 | t :: l => max (dep t) (deps l)
end
theorem dep_leaf (p : PN) (i : Int) : dep (leafF p i) = 1 := by unfold leafF; (repeat' split) <;> rfl
theorem deps_mem : ∀ {l : List Tr} {t : Tr}, t ∈ l → dep t ≤ deps l
 | u :: l, t, h => by
  rw [deps]
  rcases List.mem_cons.1 h with rfl | h
  ·omega
  ·have := deps_mem h; omega
theorem deps_le {l : List Tr} {n : Nat} (h : ∀ t ∈ l, dep t ≤ n) : deps l ≤ n := by
 induction l with
 | nil => simp [deps]
 | cons t l ih => rw [deps]; have := h t (by simp); have := ih fun t ht => h t (by simp [ht]); omega
inductive IsTs (ns : List PN) : Nat → Nat → List Int → List Tr → Prop
 | nil (a : Nat) : IsTs ns a a [] []
 | cons {a b k : Nat} {p : PN} {ks : List Int} {kids ts : List Tr} (hp : ns[k]? = some p) (hk : (p.ks.length : Int) = kidsF p.o) (h1 : IsTs ns a k p.ks kids) (h2 : IsTs ns (k + 1) b ks ts) : IsTs ns a b ((k : Int) :: ks) (mkT p k kids :: ts)
namespace IsTs
variable {ns : List PN}
theorem le {a b : Nat} {ks : List Int} {ts : List Tr} (h : IsTs ns a b ks ts) : a ≤ b := by
 induction h with
 | nil => omega
 | cons hp hk h1 h2 i1 i2 => omega
theorem len {a b : Nat} {ks : List Int} {ts : List Tr} (h : IsTs ns a b ks ts) : ts.length = ks.length := by
 induction h with
 | nil => rfl
 | cons hp hk h1 h2 i1 i2 => simp [i2]
theorem roots {a b : Nat} {ks : List Int} {ts : List Tr} (h : IsTs ns a b ks ts) : ∀ k ∈ ks, (a : Int) ≤ k ∧ k < b := by
 induction h with
 | nil => simp
 | cons hp hk h1 h2 i1 i2 =>
  intro k hk'
  have e1 := h1.le
  have e2 := h2.le
  rcases List.mem_cons.1 hk' with rfl | hk'
  ·omega
  ·have := i2 k hk'; omega
theorem bound {a b : Nat} {ks : List Int} {ts : List Tr} (h : IsTs ns a b ks ts) : a < b → b ≤ ns.length := by
 induction h with
 | nil => omega
 | @cons a b k p ks kids ts hp hk h1 h2 i1 i2 =>
  intro _
  have := (List.getElem?_eq_some_iff.1 hp).1
  have := h2.le
  rcases Nat.lt_or_ge (k + 1) b with q | q
  ·exact i2 q
  ·omega
theorem append {a c : Nat} {ks : List Int} {ts : List Tr} (h : IsTs ns a c ks ts) : ∀ {b : Nat} {ks2 : List Int} {ts2 : List Tr}, IsTs ns c b ks2 ts2 → IsTs ns a b (ks ++ ks2) (ts ++ ts2) := by
 induction h with
 | nil => intro b ks2 ts2 h; exact h
 | cons hp hk h1 h2 i1 i2 => intro b ks2 ts2 h; exact .cons hp hk h1 (i2 h)
theorem split : ∀ {ks1 : List Int} {a b : Nat} {ks2 : List Int} {ts : List Tr}, IsTs ns a b (ks1 ++ ks2) ts → ∃ c ts1 ts2, ts = ts1 ++ ts2 ∧ IsTs ns a c ks1 ts1 ∧ IsTs ns c b ks2 ts2
 | [], a, b, ks2, ts, h => ⟨a, [], ts, rfl, .nil a, h⟩
 | k :: ks1, a, b, ks2, ts, h => by
  rw [List.cons_append] at h
  cases h with
  | cons hp hk h1 h2 =>
   obtain ⟨c, ts1, ts2, e, g1, g2⟩ := split h2
   exact ⟨c, _ :: ts1, ts2, by rw [e]; rfl, .cons hp hk h1 g1, g2⟩
theorem one {a b : Nat} {k : Int} {ts : List Tr} (h : IsTs ns a b [k] ts) : ∃ (kn : Nat) (p : PN) (kids : List Tr), k = kn ∧ b = kn + 1 ∧ ns[kn]? = some p ∧ (p.ks.length : Int) = kidsF p.o ∧ IsTs ns a kn p.ks kids ∧ ts = [mkT p kn kids] := by
 cases h with
 | cons hp hk h1 h2 => cases h2; exact ⟨_, _, _, rfl, rfl, hp, hk, h1, rfl⟩
theorem uniq {a b : Nat} {ks : List Int} {ts : List Tr} (h : IsTs ns a b ks ts) : ∀ {b' : Nat} {ts' : List Tr}, IsTs ns a b' ks ts' → b = b' ∧ ts = ts' := by
 induction h with
 | nil => intro b' ts' h; cases h; exact ⟨rfl, rfl⟩
 | @cons a b k p ks kids ts hp hk h1 h2 i1 i2 =>
  intro b' ts' h
  generalize hq : ((k : Int) :: ks) = kk at h
  cases h with
  | nil => cases hq
  | cons hp' hk' h1' h2' =>
   simp only [b1_] at hq
   obtain ⟨e1, e2⟩ := hq
   have e1 : k = _ := Int.ofNat.inj e1
   subst e1; subst e2
   rw [hp] at hp'
   cases hp'
   obtain ⟨_, rfl⟩ := i1 h1'
   obtain ⟨rfl, rfl⟩ := i2 h2'
   exact ⟨rfl, rfl⟩
end IsTs
def nodeOK (leafP : PN → Prop) (p : PN) : Prop := (kidsF p.o = 0 → leafP p) ∧ (1 ≤ kidsF p.o → p.z = 0 ∧ p.tx = ⟨#[]⟩ ∧ p.xs = [])
open Classical in
noncomputable def stepM (leafP : PN → Prop) (p : PN) (i : Nat) (st : List (Tr × Int)) : Option (List (Tr × Int)) :=
 if kidsF p.o < 0 ∨ (p.ks.length : Int) ≠ kidsF p.o ∨ st.length < p.ks.length then none
 else if kidsF p.o = 0 then (if leafP p then some (st ++ [(leafF p i, (i : Int))]) else none)
 else if ¬ (p.z = 0 ∧ p.tx = ⟨#[]⟩ ∧ p.xs = []) then none
 else if p.ks ≠ (st.drop (st.length - p.ks.length)).map (·.2) then none
 else if 64 < dep (.op p.o ((st.drop (st.length - p.ks.length)).map (·.1)) i) then none
 else some (st.take (st.length - p.ks.length) ++ [(.op p.o ((st.drop (st.length - p.ks.length)).map (·.1)) i, (i : Int))])
noncomputable def runM (leafP : PN → Prop) : List PN → Nat → List (Tr × Int) → Option (List (Tr × Int))
 | [], _, st => some st
 | p :: l, i, st => match stepM leafP p i st with
  | none => none
  | some st' => runM leafP l (i + 1) st'
theorem runM_append (leafP : PN → Prop) : ∀ (l r : List PN) (i : Nat) (st : List (Tr × Int)), runM leafP (l ++ r) i st = match runM leafP l i st with
  | none => none
  | some st' => runM leafP r (i + l.length) st'
 | [], r, i, st => by simp [runM]
 | p :: l, r, i, st => by
  rw [List.cons_append, runM, runM]
  cases h : stepM leafP p i st with
  | none => rfl
  | some st' => simp only; rw [runM_append leafP l r (i + 1) st', a3_, show i + 1 + l.length = i + (l.length + 1) by omega]
theorem runM_one (leafP : PN → Prop) (p : PN) (i : Nat) (st : List (Tr × Int)) : runM leafP [p] i st = stepM leafP p i st := by
 rw [runM]; cases stepM leafP p i st <;> rfl
theorem step_sound {ns : List PN} {leafP : PN → Prop} {p : PN} {i a : Nat} {st st' : List (Tr × Int)} (hp : ns[i]? = some p) (h : IsTs ns a i (st.map (·.2)) (st.map (·.1))) (hd : ∀ x ∈ st, dep x.1 ≤ 64) (hs : stepM leafP p i st = some st') :
  IsTs ns a (i + 1) (st'.map (·.2)) (st'.map (·.1)) ∧ (∀ x ∈ st', dep x.1 ≤ 64) ∧ nodeOK leafP p := by
 unfold stepM at hs
 split at hs
 ·cases hs
 rename_i g1
 have hk : (p.ks.length : Int) = kidsF p.o := by omega
 split at hs
 ·rename_i g2
  split at hs
  ·rename_i g3
   cases hs
   have hks : p.ks = [] := List.eq_nil_of_length_eq_zero (by omega)
   refine ⟨?_, fun x hx => ?_, ⟨fun _ => g3, fun q => by omega⟩⟩
   ·simp only [List.map_append, b2_, b3_]
    refine h.append ?_
    have : IsTs ns i (i + 1) [(i : Int)] [mkT p i []] := .cons hp hk (by rw [hks]; exact .nil i) (.nil _)
    rwa [mkT, if_pos g2] at this
   ·rcases List.mem_append.1 hx with hx | hx
    ·exact hd x hx
    ·simp at hx; subst hx; simp only; rw [dep_leaf]; omega
  ·cases hs
 split at hs
 ·cases hs
 split at hs
 ·cases hs
 split at hs
 ·cases hs
 rename_i g2 g3 g4 g5
 cases hs
 have g4 : p.ks = (st.drop (st.length - p.ks.length)).map (·.2) := Classical.byContradiction g4
 refine ⟨?_, fun x hx => ?_, ⟨fun q => absurd q g2, fun _ => Classical.byContradiction g3⟩⟩
 ·simp only [List.map_append, b2_, b3_]
  have e : st = st.take (st.length - p.ks.length) ++ st.drop (st.length - p.ks.length) := (List.take_append_drop _ _).symm
  have h2 := h
  rw [e, List.map_append, List.map_append] at h2
  obtain ⟨c, ts1, ts2, et, k1, k2⟩ := h2.split
  have hlen := k1.len
  obtain ⟨e1, e2⟩ := List.append_inj et (by rw [hlen]; simp)
  rw [← e1] at k1
  rw [← e2] at k2
  refine k1.append ?_
  have : IsTs ns c (i + 1) [(i : Int)] [mkT p i ((st.drop (st.length - p.ks.length)).map (·.1))] := .cons hp hk (by rw [← g4] at k2; exact k2) (.nil _)
  rwa [mkT, if_neg g2] at this
 ·rcases List.mem_append.1 hx with hx | hx
  ·exact hd x (List.mem_of_mem_take hx)
  ·rw [List.mem_singleton] at hx; subst hx; simp only; omega
def seg (ns : List PN) (a b : Nat) : List PN := (ns.take b).drop a
theorem seg_nil (ns : List PN) (a : Nat) : seg ns a a = [] := List.drop_eq_nil_of_le (by simp; omega)
theorem seg_cat {ns : List PN} {a b c : Nat} (h1 : a ≤ b) (h2 : b ≤ c) : seg ns a c = seg ns a b ++ seg ns b c := by
 unfold seg
 apply List.ext_getElem?
 intro i
 rcases Nat.lt_or_ge i ((ns.take b).drop a).length with hi | hi
 ·rw [List.getElem?_append_left hi]
  simp only [List.length_drop, List.length_take] at hi
  rw [List.getElem?_drop, List.getElem?_drop, List.getElem?_take, List.getElem?_take, if_pos (by omega), if_pos (by omega)]
 ·rw [List.getElem?_append_right hi]
  simp only [List.length_drop, List.length_take] at hi ⊢
  rw [List.getElem?_drop, List.getElem?_drop]
  rcases Nat.lt_or_ge b ns.length with q | q
  ·congr 1; omega
  ·rw [List.getElem?_eq_none (by simp; omega), List.getElem?_eq_none (by simp; omega)]
theorem seg_one {ns : List PN} {k : Nat} {p : PN} (h : ns[k]? = some p) : seg ns k (k + 1) = [p] := by
 unfold seg
 rw [g4_, h]
 have := (List.getElem?_eq_some_iff.1 h).1
 rw [List.drop_append_of_le_length (by simp; omega), List.drop_eq_nil_of_le (by simp; omega)]
 rfl
theorem seg_len {ns : List PN} {a b : Nat} (hb : b ≤ ns.length) : (seg ns a b).length = b - a := by unfold seg; simp; omega
theorem run_sound {ns : List PN} {leafP : PN → Prop} {a : Nat} : ∀ (m : Nat) {i : Nat} {st st' : List (Tr × Int)}, i + m ≤ ns.length → IsTs ns a i (st.map (·.2)) (st.map (·.1)) → (∀ x ∈ st, dep x.1 ≤ 64) → runM leafP (seg ns i (i + m)) i st = some st' →
  IsTs ns a (i + m) (st'.map (·.2)) (st'.map (·.1)) ∧ (∀ x ∈ st', dep x.1 ≤ 64) ∧ ∀ j p, i ≤ j → j < i + m → ns[j]? = some p → nodeOK leafP p
 | 0, i, st, st', _, h, hd, hr => by
  rw [Nat.add_zero, seg_nil, runM] at hr
  cases hr
  exact ⟨h, hd, fun j p h1 h2 => by omega⟩
 | m + 1, i, st, st', hb, h, hd, hr => by
  obtain ⟨p, hp⟩ : ∃ p, ns[i]? = some p := ⟨_, g2_ (by omega)⟩
  rw [seg_cat (show i ≤ i + 1 by omega) (show i + 1 ≤ i + (m + 1) by omega), seg_one hp, runM_append, runM_one] at hr
  cases hs : stepM leafP p i st with
  | none => rw [hs] at hr; cases hr
  | some st2 =>
   rw [hs] at hr
   simp only [a3_, a4_] at hr
   obtain ⟨k1, k2, k3⟩ := step_sound hp h hd hs
   rw [show i + (m + 1) = i + 1 + m by omega] at hr ⊢
   obtain ⟨j1, j2, j3⟩ := run_sound m (by omega) k1 k2 hr
   refine ⟨j1, j2, fun j q h1 h2 hq => ?_⟩
   rcases Nat.eq_or_lt_of_le h1 with e | e
   ·subst e; rw [hp] at hq; cases hq; exact k3
   ·exact j3 j q (by omega) (by omega) hq
theorem mkT_dep {p : PN} {i : Int} {kids : List Tr} (h0 : 1 ≤ kidsF p.o) : dep (mkT p i kids) = deps kids + 1 := by
 unfold mkT; rw [if_neg (by omega), dep]
theorem kidsF_ge (o : Int) : -1 ≤ kidsF o := by unfold kidsF; (repeat' split) <;> omega
theorem run_complete {ns : List PN} {leafP : PN → Prop} {a b : Nat} {ks : List Int} {ts : List Tr} (h : IsTs ns a b ks ts) : b ≤ ns.length → (∀ j p, a ≤ j → j < b → ns[j]? = some p → nodeOK leafP p) → (∀ t ∈ ts, dep t ≤ 64) → ∀ st, runM leafP (seg ns a b) a st = some (st ++ ts.zip ks) := by
 induction h with
 | nil a => intro _ _ _ st; rw [seg_nil, runM]; simp
 | @cons a b k p ks kids ts hp hk h1 h2 i1 i2 =>
  intro hb hok hd st
  have e1 := h1.le
  have e2 := h2.le
  have hkn := hok k p e1 (by omega) hp
  have hdk := hd _ (List.mem_cons_self ..)
  have hl1 := h1.len
  rw [seg_cat (b := k) (by omega) (by omega), seg_cat (a := k) (b := k + 1) (by omega) (by omega), seg_one hp, runM_append]
  have hks : ∀ t ∈ kids, dep t ≤ 64 := fun t ht => by
   rcases Int.lt_or_le (kidsF p.o) 1 with q | q
   ·have : kids = [] := List.eq_nil_of_length_eq_zero (by omega)
    rw [this] at ht; cases ht
   ·rw [mkT_dep q] at hdk
    have := deps_mem ht; omega
  rw [i1 (by omega) (fun j p h1 h2 => hok j p h1 (by omega)) hks st]
  simp only
  rw [seg_len (by omega), show a + (k - a) = k by omega, runM_append, runM_one]
  have hz : (kids.zip p.ks).length = p.ks.length := by simp [hl1]
  have hzs : (kids.zip p.ks).map (·.2) = p.ks := by rw [List.map_snd_zip (by omega)]
  have hzf : (kids.zip p.ks).map (·.1) = kids := by rw [List.map_fst_zip (by omega)]
  have hstep : stepM leafP p k (st ++ kids.zip p.ks) = some (st ++ [(mkT p k kids, (k : Int))]) := by
   have hlen : (st ++ kids.zip p.ks).length - p.ks.length = st.length := by rw [List.length_append, hz]; omega
   unfold stepM
   rw [if_neg (by rw [List.length_append, hz]; omega), hlen, List.drop_left, List.take_left, hzs, hzf]
   split
   ·rename_i q
    rw [if_pos (hkn.1 q)]
    have : kids.zip p.ks = [] := List.eq_nil_of_length_eq_zero (by omega)
    rw [this, a7_, mkT, if_pos q]
   ·rename_i q
    have q1 : 1 ≤ kidsF p.o := by omega
    rw [if_neg (fun z => z (hkn.2 q1)), if_neg (fun z => z rfl)]
    rw [mkT, if_neg q] at hdk
    rw [if_neg (by omega), mkT, if_neg q]
  rw [hstep]
  simp only [a3_, a4_]
  rw [i2 hb (fun j p h1 h2 => hok j p (by omega) h2) (fun t ht => hd t (by simp [ht]))]
  simp
open Classical in
noncomputable def treeM (ns : List PN) (leafP : PN → Prop) (i : Nat) (top : Int) : Option Tr :=
 if top < i ∨ (ns.length : Int) ≤ top then none
 else match runM leafP (seg ns i (top.toNat + 1)) i [] with
  | some [(t, _)] => some t
  | _ => none
theorem treeM_iff {ns : List PN} {leafP : PN → Prop} {i : Nat} {top : Int} {t : Tr} : treeM ns leafP i top = some t ↔
  ∃ k : Nat, top = k ∧ i ≤ k ∧ k < ns.length ∧ IsTs ns i (k + 1) [top] [t] ∧ dep t ≤ 64 ∧ ∀ j p, i ≤ j → j < k + 1 → ns[j]? = some p → nodeOK leafP p := by
 unfold treeM
 constructor
 ·intro h
  split at h
  ·cases h
  rename_i g
  obtain ⟨k, rfl⟩ : ∃ k : Nat, top = k := ⟨top.toNat, by omega⟩
  split at h
  ·rename_i t' z hr
   cases h
   obtain ⟨m, hm⟩ : ∃ m, k + 1 = i + m := ⟨k + 1 - i, by omega⟩
   rw [show (k : Int).toNat + 1 = i + m by omega] at hr
   obtain ⟨j1, j2, j3⟩ := run_sound (a := i) m (by omega) (.nil i) (by simp) hr
   rw [← hm] at j1 j3
   obtain ⟨kn, p, kids, e1, e2, _⟩ := j1.one
   simp only at e1
   refine ⟨k, rfl, by omega, by omega, ?_, j2 (t, z) (by simp), j3⟩
   have : z = (k : Int) := by omega
   rw [← this]; exact j1
  ·cases h
 ·rintro ⟨k, rfl, h1, h2, h3, h4, h5⟩
  rw [if_neg (by omega)]
  have := run_complete h3 (by omega) h5 (by simpa using h4) []
  rw [show (k : Int).toNat + 1 = k + 1 by omega, this]
  rfl
def kidsW (g : Int → List Int → List Int) (top : Int) : List Int → List Int → List Int
 | [], out => out ++ [top]
 | k :: ks, out => if top ≤ k then out ++ [-1] else kidsW g top ks (g k out)
def walkF (ns : List PN) : Nat → Int → List Int → List Int
 | 0, _, out => out ++ [-1]
 | f + 1, top, out => if top < 0 ∨ (ns.length : Int) ≤ top ∨ ns.length < out.length then out ++ [-1] else kidsW (walkF ns f) top ((ns[top.toNat]?).map (·.ks) |>.getD []) out
def foldW (ns : List PN) (f : Nat) : List Int → List Int → List Int
 | [], out => out
 | k :: ks, out => foldW ns f ks (walkF ns f k out)
def rg (n : Nat) : List Int := (List.range n).map fun (i : Nat) => (i : Int)
theorem rg_len (n : Nat) : (rg n).length = n := by simp [rg]
theorem rg_succ (n : Nat) : rg (n + 1) = rg n ++ [(n : Int)] := by simp [rg, List.range_succ]
theorem rg_get {n i : Nat} {z : Int} (h : (rg n)[i]? = some z) : z = i ∧ i < n := by
 simp only [rg, List.getElem?_map, Option.map_eq_some_iff] at h
 obtain ⟨j, hj, rfl⟩ := h
 obtain ⟨h1, h2⟩ := List.getElem?_eq_some_iff.1 hj
 simp at h1 h2
 omega
theorem kidsW_all {g : Int → List Int → List Int} {top : Int} : ∀ (ks out : List Int), (∀ k ∈ ks, k < top) → kidsW g top ks out = ks.foldl (fun o k => g k o) out ++ [top]
 | [], out, _ => rfl
 | k :: ks, out, h => by
  rw [kidsW, if_neg (by have := h k (by simp); omega), kidsW_all ks _ fun k hk => h k (by simp [hk])]
  rfl
theorem foldW_eq (ns : List PN) (f : Nat) : ∀ (ks out : List Int), foldW ns f ks out = ks.foldl (fun o k => walkF ns f k o) out
 | [], out => rfl
 | k :: ks, out => by rw [foldW, foldW_eq ns f ks]; rfl
theorem walk_of {ns : List PN} {a b : Nat} {ks : List Int} {ts : List Tr} (h : IsTs ns a b ks ts) : b ≤ ns.length → ∀ f : Nat, (∀ k ∈ ks, k < (f : Int)) → foldW ns f ks (rg a) = rg b := by
 induction h with
 | nil a => intro _ f _; rfl
 | @cons a b k p ks kids ts hp hk h1 h2 i1 i2 =>
  intro hb f hf
  have e1 := h1.le
  have e2 := h2.le
  have hkf : (k : Int) < f := hf k (by simp)
  cases f with
  | zero => omega
  | succ f =>
   rw [foldW, walkF, if_neg (by rw [rg_len]; omega), show ((k : Int)).toNat = k by omega, hp]
   simp only [Option.map_some, Option.getD_some]
   rw [kidsW_all _ _ (fun q hq => by have := (h1.roots q hq).2; omega), ← foldW_eq, i1 (by omega) f (fun q hq => by have := (h1.roots q hq).2; omega), ← rg_succ]
   exact i2 hb (f + 1) fun q hq => hf q (by simp [hq])
theorem pre_app {a b c : List Int} (h : a ++ b <+: c) : a <+: c := (List.prefix_append a b).trans h
theorem pre_rg {l : List Int} {z : Int} {M : Nat} (h : l ++ [z] <+: rg M) : z = l.length := by
 obtain ⟨r, hr⟩ := h
 have : (rg M)[l.length]? = some z := by rw [← hr]; simp
 exact (rg_get this).1
theorem walk_pre (ns : List PN) : ∀ (f : Nat) (top : Int) (out : List Int), out <+: walkF ns f top out := by
 intro f
 induction f with
 | zero => intro top out; exact List.prefix_append _ _
 | succ f ih =>
  intro top out
  rw [walkF]
  split
  ·exact List.prefix_append _ _
  ·have : ∀ (ks out : List Int), out <+: kidsW (walkF ns f) top ks out := by
    intro ks
    induction ks with
    | nil => intro out; exact List.prefix_append _ _
    | cons k ks ih2 =>
     intro out
     rw [kidsW]
     split
     ·exact List.prefix_append _ _
     ·exact (ih k out).trans (ih2 _)
   exact this _ _
theorem foldW_pre (ns : List PN) (f : Nat) : ∀ (ks out : List Int), out <+: foldW ns f ks out
 | [], out => List.prefix_refl _
 | k :: ks, out => (walk_pre ns f k out).trans (foldW_pre ns f ks _)
theorem kidsW_ok {g : Int → List Int → List Int} (hg : ∀ k o, o <+: g k o) {top : Int} {M : Nat} : ∀ (ks out : List Int), kidsW g top ks out <+: rg M → ∀ k ∈ ks, k < top
 | [], out, _ => by simp
 | k :: ks, out, h => by
  rw [kidsW] at h
  split at h
  ·have := pre_rg h; omega
  ·intro q hq
   rcases List.mem_cons.1 hq with rfl | hq
   ·omega
   ·exact kidsW_ok hg ks _ h q hq
theorem walk_conv {ns : List PN} (hk : ∀ p ∈ ns, (p.ks.length : Int) = kidsF p.o) {M : Nat} : ∀ (f : Nat) (ks : List Int) (a : Nat), foldW ns f ks (rg a) <+: rg M → ∃ b ts, foldW ns f ks (rg a) = rg b ∧ IsTs ns a b ks ts := by
 intro f
 induction f with
 | zero =>
  intro ks a h
  cases ks with
  | nil => exact ⟨a, [], rfl, .nil a⟩
  | cons k ks =>
   rw [foldW, walkF] at h
   have := pre_rg ((foldW_pre ns 0 ks _).trans h)
   omega
 | succ f ih =>
  intro ks
  induction ks with
  | nil => intro a h; exact ⟨a, [], rfl, .nil a⟩
  | cons k ks ih2 =>
   intro a h
   rw [foldW] at h ⊢
   have h1 := (foldW_pre ns (f + 1) ks _).trans h
   rw [walkF] at h1
   split at h1
   ·have := pre_rg h1; omega
   rename_i g
   obtain ⟨kn, rfl⟩ : ∃ kn : Nat, k = kn := ⟨k.toNat, by omega⟩
   obtain ⟨p, hp⟩ : ∃ p, ns[kn]? = some p := ⟨_, g2_ (by omega)⟩
   rw [show ((kn : Int)).toNat = kn by omega, hp] at h1
   simp only [Option.map_some, Option.getD_some] at h1
   have hlt := kidsW_ok (walk_pre ns f) _ _ h1
   rw [kidsW_all _ _ hlt, ← foldW_eq] at h1
   obtain ⟨c, kids, e1, e2⟩ := ih p.ks a (pre_app h1)
   rw [e1] at h1
   have ec : kn = c := by have := pre_rg h1; rw [rg_len] at this; omega
   subst ec
   have hw : walkF ns (f + 1) (kn : Int) (rg a) = rg (kn + 1) := by
    rw [walkF, if_neg g, show ((kn : Int)).toNat = kn by omega, hp]
    simp only [Option.map_some, Option.getD_some]
    rw [kidsW_all _ _ hlt, ← foldW_eq, e1, rg_succ]
   rw [hw] at h ⊢
   obtain ⟨b, ts, e3, e4⟩ := ih2 (kn + 1) h
   exact ⟨b, mkT p kn kids :: ts, e3, .cons hp (hk p (m1_ hp)) e2 e4⟩
theorem walk_len {ns : List PN} (hk : ∀ p ∈ ns, p.ks.length ≤ 3) : ∀ (f : Nat) (top : Int) (out : List Int), (walkF ns f top out).length ≤ max (out.length + 1) (ns.length + 1 + 4 * f) := by
 intro f
 induction f with
 | zero => intro top out; simp [walkF]; omega
 | succ f ih =>
  intro top out
  rw [walkF]
  split
  ·simp; omega
  rename_i g
  have step : ∀ (ks out : List Int) (X : Nat), ns.length + 1 + 4 * f ≤ X + 1 → out.length ≤ X → (kidsW (walkF ns f) top ks out).length ≤ X + ks.length + 1 := by
   intro ks
   induction ks with
   | nil => intro out X _ h; simp [kidsW]; omega
   | cons k ks ih2 =>
    intro out X h1 h2
    rw [kidsW]
    split
    ·simp; omega
    ·have := ih2 (walkF ns f k out) (X + 1) (by omega) (by have := ih k out; omega)
     simp only [a3_]; omega
  have hks : ((ns[top.toNat]?).map (·.ks) |>.getD []).length ≤ 3 := by
   cases hq : ns[top.toNat]? with
   | none => simp
   | some p => simpa using hk p (m1_ hq)
  have := step ((ns[top.toNat]?).map (·.ks) |>.getD []) out (ns.length + 4 * f) (by omega) (by omega)
  omega
end Go.Proofs.YtgnjkdkedjljjaaGreatDoor
