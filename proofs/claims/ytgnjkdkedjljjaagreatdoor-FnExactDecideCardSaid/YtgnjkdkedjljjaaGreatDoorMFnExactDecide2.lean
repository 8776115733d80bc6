/- Texts that the law FnExactDecide leans on, part 2 of 8: contracts of the functions that it reaches and plain lemmas. Each holds under the conditions that it states. -/
import Derived.Test.YtgnjkdkedjljjaaGreatDoorMFnExactDecide1
import Derived.Deep.Slices
import Derived.WideKeyMaps
import Derived.WideKeyElems2
import Derived.OpenVars
import Derived.LaidMore
import Derived.Stop.Joined
import Derived.Stop.LaidTwo
import Derived.Test.YtgnjkdkedjljjaaGreatDoorTie
import Derived.Test.YtgnjkdkedjljjaaGreatDoorCards
import Derived.SevenTiedAt
import Derived.Lay
import Derived.HandedShaped
import Derived.LaidEql
import Derived.Stop.Asserts
import Derived.Laws.Externs
import Derived.Maps.RangeRun
set_option maxHeartbeats 16000000
namespace Go.Proofs.YtgnjkdkedjljjaaGreatDoor
open Go.Eng
set_option linter.unusedVariables false
theorem cInt : Cel Tryz.prog 3 := ⟨_, uInt, by simp, by simp⟩
theorem cInts : Cel Tryz.prog 29 := ⟨_, Tryz.underlying29, by simp, by simp⟩
theorem tInts : Slc Tryz.prog 29 3 (.int .i64 0) 1 8 := ⟨Tryz.underlying29, by kernel_rfl⟩
theorem zInt : (Tryz.prog.info? 3).map (·.size) = some 1 := by kernel_rfl
theorem zInts : (Tryz.prog.info? 29).map (·.size) = some 1 := by kernel_rfl
theorem cIVs : Cel Tryz.prog 59 := ⟨_, Tryz.underlying59, by simp, by simp⟩
theorem zIVs : (Tryz.prog.info? 59).map (·.size) = some 1 := by kernel_rfl
abbrev zV : List Value := [.int .i64 0, .int .i64 0, .string ⟨#[]⟩, .slice none 0 0]
abbrev zI : List Value := [.int .i64 0, .int .i64 0]
abbrev zC : List Value := [.slice none 0 0, .int .i64 0, .slice none 0 0]
theorem tIV : Stc Tryz.prog 218 4 zV := ⟨by kernel_rfl, by kernel_rfl⟩
theorem sIV : Slc Tryz.prog 59 218 (.agg ⟨zV⟩) 4 56 := ⟨Tryz.underlying59, by kernel_rfl⟩
theorem fIV0 : Fld Tryz.prog 218 0 0 := ⟨by kernel_rfl⟩
theorem fIV1 : Fld Tryz.prog 218 1 1 := ⟨by kernel_rfl⟩
theorem fIV2 : Fld Tryz.prog 218 2 2 := ⟨by kernel_rfl⟩
theorem fIV3 : Fld Tryz.prog 218 3 3 := ⟨by kernel_rfl⟩
theorem fl_len {α : Type} {f : α → List Value} {k : Nat} (hf : ∀ x, (f x).length = k) : ∀ xs : List α, (xs.flatMap f).length = xs.length * k
 | [] => by simp
 | x :: xs => by rw [List.flatMap_cons, List.length_append, fl_len hf xs, hf, a3_, Nat.succ_mul, Nat.add_comm]
theorem fl_get {α : Type} {f : α → List Value} {k : Nat} (hf : ∀ x, (f x).length = k) : ∀ (xs : List α) (i : Nat) (x : α) (j : Nat), xs[i]? = some x → j < k → (xs.flatMap f)[i * k + j]? = (f x)[j]?
 | [], i, x, j, h, _ => by simp at h
 | y :: ys, 0, x, j, h, hj => by
  simp at h; subst h
  rw [List.flatMap_cons, List.getElem?_append_left (by rw [hf]; omega)]; simp
 | y :: ys, i + 1, x, j, h, hj => by
  simp only [List.getElem?_cons_succ] at h
  rw [List.flatMap_cons, List.getElem?_append_right (by rw [hf, Nat.succ_mul]; omega), ← fl_get hf ys i x j h hj]
  congr 1; rw [hf, Nat.succ_mul]; omega
theorem fl_take {α : Type} {f : α → List Value} {k : Nat} (hf : ∀ x, (f x).length = k) : ∀ (xs : List α) (i : Nat), (xs.flatMap f).take (i * k) = (xs.take i).flatMap f
 | [], i => by simp
 | x :: xs, 0 => by simp
 | x :: xs, i + 1 => by
  rw [List.flatMap_cons, List.take_succ_cons, List.flatMap_cons, Nat.succ_mul, Nat.add_comm, ← hf x, List.take_length_add_append, hf x, fl_take hf xs i]
theorem fl_drop {α : Type} {f : α → List Value} {k : Nat} (hf : ∀ x, (f x).length = k) : ∀ (xs : List α) (i : Nat), (xs.flatMap f).drop (i * k) = (xs.drop i).flatMap f
 | [], i => by simp
 | x :: xs, 0 => by simp
 | x :: xs, i + 1 => by
  rw [List.flatMap_cons, a5_, Nat.succ_mul, Nat.add_comm, ← hf x, List.drop_length_add_append, hf x, fl_drop hf xs i]
theorem fl_put {α : Type} {f : α → List Value} {k : Nat} (hf : ∀ x, (f x).length = k) (xs : List α) (i : Nat) (y : α) (hi : i < xs.length) :
  (xs.flatMap f).take (i * k) ++ f y ++ (xs.flatMap f).drop (i * k + (f y).length) = (xs.set i y).flatMap f := by
 have h1 : i * k + (f y).length = (i + 1) * k := by rw [hf, Nat.succ_mul]
 rw [h1, fl_take hf, fl_drop hf, List.set_eq_take_append_cons_drop, if_pos hi, List.flatMap_append, List.flatMap_cons, List.append_assoc]
theorem fl_at {α : Type} {f : α → List Value} {k : Nat} (hf : ∀ x, (f x).length = k) {w : World} {A : Option Addr} {xs : List α} (h : Cells w A (xs.flatMap f)) {i : Nat} {x : α} (hk : 0 < k) (hx : xs[i]? = some x) :
  ∃ a, A = some a ∧ ∀ j v, (f x)[j]? = some v → w.cell? ((a.add (i * k)).add j) = some v := by
 have hi := (List.getElem?_eq_some_iff.1 hx).1
 obtain ⟨a, ha⟩ := h.1 (by rw [fl_len hf]; exact Nat.mul_pos (by omega) hk)
 refine ⟨a, ha, fun j v hv => ?_⟩
 have hj : j < k := by
  rcases Nat.lt_or_ge j k with h | h
  ·exact h
  ·rw [List.getElem?_eq_none (by rw [hf]; exact h)] at hv; cases hv
 rw [add_add]
 exact h.2 a ha _ _ (by rw [fl_get hf _ _ _ _ hx hj]; exact hv)
theorem made_fl {α : Type} {f : α → List Value} (x : α) (m k : Nat) (hk : (f x).length = k) (hk0 : 0 < k) : (madeCells ⟨f x⟩ (m * k)).toList = (List.replicate m x).flatMap f := by
 have h0 : ∀ m, (List.replicate m x).flatMap f = (List.replicate m (f x)).flatten := fun m => by rw [← List.map_replicate]; simp [List.flatMap]
 apply List.ext_getElem?
 intro i
 have hlen : ((List.replicate m x).flatMap f).length = m * k := by rw [h0]; simp [hk]
 by_cases hi : i < m * k
 ·have e1 : (madeCells ⟨f x⟩ (m * k)).toList[i]? = (f x)[i % k]? := by
   simp only [madeCells, Array.toList_map, Array.toList_range, List.getElem?_map, List.getElem?_range hi, Option.map_some]
   have : i % k < (f x).length := by rw [hk]; exact Nat.mod_lt _ hk0
   rw [g2_ this]
   simp only [List.size_toArray, hk, List.getElem!_toArray, List.getElem!_eq_getElem?_getD, g2_ this, Option.getD_some]
  rw [e1]
  have h2 : i = (i / k) * k + i % k := by rw [Nat.mul_comm]; exact (Nat.div_add_mod i k).symm
  have h3 : i / k < m := Nat.div_lt_of_lt_mul (by rw [Nat.mul_comm]; exact hi)
  conv => rhs; rw [h2]
  have : ∀ (m q r : Nat), q < m → r < k → ((List.replicate m x).flatMap f)[q * k + r]? = (f x)[r]? := by
   intro m
   induction m with
   | zero => intro q r h; omega
   | succ m ih =>
    intro q r hq hr
    rw [List.replicate_succ, List.flatMap_cons]
    cases q with
    | zero => rw [List.getElem?_append_left (by rw [hk]; omega)]; simp
    | succ q =>
     rw [List.getElem?_append_right (by rw [hk, Nat.succ_mul]; omega), ← ih q r (by omega) hr]
     congr 1; rw [hk, Nat.succ_mul]; omega
  rw [this m _ _ h3 (Nat.mod_lt _ hk0)]
 ·have h1 := size_madeCells ⟨f x⟩ (m * k)
  rw [← Array.length_toList] at h1
  have h2 : (madeCells ⟨f x⟩ (m * k)).toList[i]? = none := List.getElem?_eq_none (by omega)
  have h3 : ((List.replicate m x).flatMap f)[i]? = none := List.getElem?_eq_none (by omega)
  rw [h2, h3]
structure PV where
 k : Int
 n : Int
 tx : ByteArray
 xs : List ByteArray
structure VV where
 p : PV
 A : Option Addr
 m : Nat
 c : Nat
def vC (v : VV) : List Value := [.int .i64 v.p.k, .int .i64 v.p.n, .string v.p.tx, .slice v.A v.m v.c]
theorem vC_len (v : VV) : (vC v).length = 4 := rfl
def Pool (w : World) (A : Option Addr) (n : Nat) (pv : List PV) : Prop :=
 ∃ vs : List VV, vs.map (·.p) = pv ∧ vs.length = n ∧ Cells w A (vs.flatMap vC) ∧ ∀ v ∈ vs, Strs w v.A v.m v.c v.p.xs ∧ v.p.tx.size ≤ 9223372036854775807
theorem Pool.ext {w w' : World} {A : Option Addr} {n : Nat} {pv : List PV} (h : Pool w A n pv) (hx : Ext w w') : Pool w' A n pv := by
 obtain ⟨vs, h1, h2, h3, h4⟩ := h
 exact ⟨vs, h1, h2, h3.ext hx, fun v hv => ⟨(h4 v hv).1.ext hx, (h4 v hv).2⟩⟩
theorem Pool.len {w : World} {A : Option Addr} {n : Nat} {pv : List PV} (h : Pool w A n pv) : pv.length = n := by
 obtain ⟨vs, h1, h2, _⟩ := h
 rw [← h1, List.length_map, h2]
theorem Pool.get {w : World} {A : Option Addr} {n : Nat} {pv : List PV} (h : Pool w A n pv) {i : Nat} (hi : i < n) : ∃ a k z tx xs A1 m c, A = some a ∧ pv[i]? = some ⟨k, z, tx, xs⟩ ∧
  (∀ j v, [Value.int .i64 k, .int .i64 z, .string tx, .slice A1 m c][j]? = some v → w.cell? ((a.add (i * 4)).add j) = some v) ∧ Strs w A1 m c xs ∧ tx.size ≤ 9223372036854775807 := by
 obtain ⟨vs, h1, h2, h3, h4⟩ := h
 have hv : ∃ v, vs[i]? = some v := ⟨_, g2_ (by omega)⟩
 obtain ⟨⟨⟨k, z, tx, xs⟩, A1, m, c⟩, hv⟩ := hv
 obtain ⟨a, ha, hc⟩ := fl_at vC_len h3 (by omega) hv
 exact ⟨a, k, z, tx, xs, A1, m, c, ha, by rw [← h1, List.getElem?_map, hv]; rfl, hc, h4 _ (m1_ hv)⟩
def iC (i : Int × Int) : List Value := [.int .i64 i.1, .int .i64 i.2]
theorem iC_len (i : Int × Int) : (iC i).length = 2 := rfl
structure InsR (w : World) (A : Option Addr) (n : Nat) (is : List (Int × Int)) : Prop where
 len : is.length = n
 cells : Cells w A (is.flatMap iC)
theorem InsR.ext {w w' : World} {A : Option Addr} {n : Nat} {is : List (Int × Int)} (h : InsR w A n is) (hx : Ext w w') : InsR w' A n is := ⟨h.1, h.2.ext hx⟩
theorem InsR.get {w : World} {A : Option Addr} {n : Nat} {is : List (Int × Int)} (h : InsR w A n is) {i : Nat} (hi : i < n) : ∃ a o g, A = some a ∧ is[i]? = some (o, g) ∧
  ∀ j v, [Value.int .i64 o, .int .i64 g][j]? = some v → w.cell? ((a.add (i * 2)).add j) = some v := by
 have hl := h.len
 have hv : ∃ v, is[i]? = some v := ⟨_, g2_ (by omega)⟩
 obtain ⟨⟨o, g⟩, hv⟩ := hv
 obtain ⟨a, ha, hc⟩ := fl_at iC_len h.cells (by omega) hv
 exact ⟨a, o, g, ha, hv, hc⟩
structure CodeR (w : World) (A : Option Addr) (n : Nat) (A2 : Option Addr) (n2 : Nat) (pv : List PV) (is : List (Int × Int)) : Prop where
 pool : Pool w A n pv
 ins : InsR w A2 n2 is
theorem CodeR.ext {w w' : World} {A A2 : Option Addr} {n n2 : Nat} {pv : List PV} {is : List (Int × Int)} (h : CodeR w A n A2 n2 pv is) (hx : Ext w w') : CodeR w' A n A2 n2 pv is := ⟨h.1.ext hx, h.2.ext hx⟩
abbrev codeV (A : Option Addr) (n c : Nat) (sl : Int) (A2 : Option Addr) (n2 c2 : Nat) : Value := .agg ⟨[.slice A n c, .int .i64 sl, .slice A2 n2 c2]⟩
end Go.Proofs.YtgnjkdkedjljjaaGreatDoor
namespace Go.Eng
set_option linter.unusedVariables false
structure Above (B : Nat) (w w' : World) : Prop where
 size : w.heap.size ≤ w'.heap.size
 block : ∀ i, B ≤ i → i < w.heap.size → w'.heap[i]? = w.heap[i]?
theorem Above.refl (B : Nat) (w : World) : Above B w w := ⟨n1_ _, fun _ _ _ => rfl⟩
theorem Above.trans {B : Nat} {a b c : World} (h : Above B a b) (k : Above B b c) : Above B a c :=
 ⟨n2_ h.1 k.1, fun i h1 h2 => by rw [k.2 i h1 (n3_ h2 h.1), h.2 i h1 h2]⟩
theorem Above.mono {B B' : Nat} {w w' : World} (h : Above B w w') (hB : B ≤ B') : Above B' w w' := ⟨h.1, fun i h1 h2 => h.2 i (n2_ hB h1) h2⟩
theorem Ext.above {w w' : World} (h : Ext w w') (B : Nat) : Above B w w' := ⟨h.size, fun i _ hi => h.block i hi⟩
theorem Wr.above {B B' e k} {w w' w0 : World} {a : Addr} {m c : Nat} {xs : List Value} (hw : Wr (some a) w w') (h : Own B' e k w0 (some a) m c xs) (hB : w0.heap.size ≤ B) : Above B w w' := by
 obtain ⟨gb, rfl, _, hg⟩ := h.form
 refine ⟨hw.size, fun i h1 h2 => hw.block i h2 ?_⟩
 simp only [Eng.blk, Value.ownBlock]
 intro e
 simp at e
 omega
theorem Above.cell {B : Nat} {w w' : World} (h : Above B w w') {b o : Nat} {x : Option _} (hb : B ≤ b) {v : Value} (hc : w.cell? ⟨b, o, x⟩ = some v) : w'.cell? ⟨b, o, x⟩ = some v := by
 have hlt : b < w.heap.size := by
  rcases Nat.lt_or_ge b w.heap.size with h1 | h1
  ·exact h1
  ·simp [World.cell?, Array.getElem?_eq_none h1] at hc
 have := h.block b hb hlt
 simp only [World.cell?, this] at hc ⊢
 exact hc
theorem Own.above {B e k} {w w' : World} {A : Option Addr} {m c : Nat} {xs : List Value} (h : Own B e k w A m c xs) (ha : Above B w w') : Own B e k w' A m c xs := by
 refine ⟨h.1, ?_⟩
 rcases h.2 with h1 | ⟨g, cap, cur, h1, h2, h3, h4⟩
 ·exact .inl h1
 ·exact .inr ⟨g, cap, cur, h1, h2, by rw [ha.block g h2 (Array.getElem?_eq_some_iff.1 h3).1, h3], h4⟩
section
variable {P : Program} {Pn : List PanicEntry → World → Prop} {n : Nat} {E : Sym} {w : World} {K : Value → World → Prop} {d : Option Tmp} {ty : TypeId} {pos : String} {aft : Array Edge} {g : Option (Nat × Bool)}
theorem st_litsK (hE : E = real P Pn n) {t e : TypeId} {z : Value} {k b : Nat} (ht : Slc P t e z k b) (hz : z.cells.size = k) (hk0 : 0 < k) {vs : List Value} {m : Nat} {parts : Array (Nat × Operand)} (hm : vs.length = m) (h0 : 0 < m) (hsm : m * k ≤ 16777216) (hp : parts.toList.map (·.1) = List.range m) (h1 : ∀ v ∈ vs, v.cells.size = k) {cs : List Value} (hcs : vs.flatMap (fun v => v.cells.toList) = cs)
  (hk : ∀ A w', Ext w w' → (∀ B, B ≤ w.heap.size → Own B e k w' A m m cs) → K (.slice A m m) w') : E.stop ⟨d, .buildSlice t m parts, ty, pos, aft, g⟩ vs w K := by
 obtain ⟨i0, hi1, hi2, hi3, hi4⟩ := ht.info
 have hlen : cs.length = m * k := by
  rw [← hcs, List.length_flatMap, ← hm]
  have : ∀ l : List Value, (∀ v ∈ l, v.cells.size = k) → (l.map fun v => v.cells.toList.length).sum = l.length * k := by
   intro l
   induction l with
   | nil => simp
   | cons x l ih =>
    intro h
    rw [b2_, List.sum_cons, ih fun v hv => h v (by simp [hv]), a3_, Nat.succ_mul, Array.length_toList, h x (by simp), Nat.add_comm]
  exact this vs h1
 refine st_run hE (v := .slice (some ⟨w.heap.size, 0, none⟩) m m) (w' := w.alloc (.cells ⟨cs⟩ e)) (fun ρ hρ => ?_) (hk _ _ ((Ext.refl w).alloc (n1_ _) _) fun B hB => World.ownsRow_lit (e := e) (size := k) w ⟨cs⟩ m hB (by unfold maxLen; have : m ≤ m * k := Nat.le_mul_of_pos_right _ hk0; omega) (by simp [hlen]))
 have hρ' : parts.toList.map (fun x => ρ x.2) = vs := by simpa [opnds, Function.comp_def] using hρ
 have hf := run_buildSlice (P := P) w t e m (parts.map fun (i, x) => (i, ρ x)) cs.toArray i0 z ht.u hi1 hi2 (by rw [hi3]; omega) (by rw [hi3]; exact Nat.ne_of_gt (Nat.mul_pos h0 hk0)) (by
  rw [hi3, Array.toList_map]
  rw [show (parts.toList.map fun (x : Nat × Operand) => match x with | (i, x) => (i, ρ x)) = parts.toList.map (fun x => (x.1, ρ x.2)) from rfl, parts_zip hp hρ', ← hcs]
  exact Go.Great.fill_whole hk0 vs _ h1 (by simp [hm]))
 simp only [execOp, Sem.run_bind, hf, Result.andThen_ok]
 rfl
theorem st_appsG (hE : E = real P Pn n) {t e : TypeId} {z : Value} {b : Nat} (ht : Slc P t e z 1 b) (hz : z.cells = #[z]) {B : Nat} {A A1 : Option Addr} {m c m1 c1 : Nat} {xs vs : List Value} {ao : Array Operand} (h : Own B e 1 w A m c xs) (hn : Cells w A1 vs) (hl : vs.length = m1) (hv : ∀ v ∈ vs, v.oneCell' = true)
  (hB : B ≤ w.heap.size) (hb : (m + m1) * b ≤ 140737488355328) (hm : m + m1 ≤ 9223372036854775807)
  (hk : ∀ A' c' m' w', m' = m + m1 → Wr A w w' → Own B e 1 w' A' m' c' (xs ++ vs) → (Eng.blk A' = Eng.blk A ∨ Eng.blk A' = some w.heap.size) → K (.slice A' m' c') w') : E.stop ⟨d, .call ⟨.builtin .append, ao, #[t, t]⟩, ty, pos, aft, g⟩ [.slice A m c, .slice A1 m1 c1] w K := by
 obtain ⟨i0, h1, h2, h3, h4⟩ := ht.info
 cases A1 with
 | none =>
  have h0 : vs = [] := by
   rcases Nat.eq_zero_or_pos vs.length with h0 | h0
   ·exact List.length_eq_zero_iff.1 h0
   ·obtain ⟨a, ha⟩ := hn.1 h0; cases ha
  subst h0
  simp only [a4_] at hl
  subst hl
  refine st_run hE (v := .slice A m c) (w' := w) (fun ρ hρ => ?_) (hk _ _ _ _ rfl (Wr.refl _ _) (by simpa using h) (.inl rfl))
  have h3' := map_of (ao := ao) hρ
  simp [execOp, resolve, invoke, builtin, h3', run_append_none ht.u h1 h]
 | some a1 =>
  obtain ⟨v', w', hr, hown, hg, _, hbk⟩ := run_append_own_at (P := P) w B t ty e i0 z 1 b ht.u h1 h2 h3 h4 (by rw [hz]; rfl) (by omega) (.slice A m c) m xs h a1 m1 c1 vs (by omega)
   (fun j u hu => hn.2 a1 rfl j u hu) hv (by unfold maxLen; omega) hb hB
  have hform : ∃ A' c', v' = .slice A' (m + m1) c' := by
   rcases hown.2 with ⟨h5, h6⟩ | ⟨g, cap, cur, h5, _⟩
   ·exact ⟨none, 0, by rw [h5, h6]⟩
   ·exact ⟨_, _, h5⟩
  obtain ⟨A', c', rfl⟩ := hform
  refine st_run hE (v := .slice A' (m + m1) c') (w' := w') (fun ρ hρ => ?_) (hk _ _ _ _ rfl ?_ hown ?_)
  ·have h3' := map_of (ao := ao) hρ
   simp [execOp, resolve, invoke, builtin, h3', hr]
  ·cases A <;> exact hg
  ·cases A <;> cases A' <;> exact hbk
end
set_option linter.unusedSimpArgs false
def reach (md : Region.Mode) (ops : Array Oper) : Nat → Nat → Nat → Bool
 | 0, _, _ => false
 | f + 1, k, i => match ops[k]? with
  | some o => o.after.any fun e => Region.binds md e && (e.on == i || reach md ops f e.on i)
  | none => false
def needS (md : Region.Mode) (ops : Array Oper) (l : List Nat) (k : Nat) : Bool := l.any fun i => !(reach md ops ops.size k i)
def Closed (md : Region.Mode) (ops : Array Oper) (listed : Array Bool) : Prop := ∀ (k : Nat) (o : Oper), ops[k]? = some o → listed.getD k false = true → ∀ e ∈ o.after, Region.binds md e = true → listed.getD e.on false = true
theorem reach_listed {md : Region.Mode} {ops : Array Oper} {listed : Array Bool} (hc : Closed md ops listed) {i : Nat} : ∀ (f k : Nat), (∀ o, ops[k]? = some o → ∀ e ∈ o.after, Region.binds md e = true → listed.getD e.on false = true) → reach md ops f k i = true → listed.getD i false = true
 | 0, k, _, h => by simp [reach] at h
 | f + 1, k, hk, h => by
  rw [reach] at h
  split at h
  ·rename_i o ho
   obtain ⟨q, hq, h⟩ := Array.any_eq_true.1 h
   obtain ⟨e, he⟩ : ∃ e, e = o.after[q] := ⟨_, rfl⟩
   rw [← he] at h
   replace he : e ∈ o.after := by rw [he]; exact Array.getElem_mem hq
   simp only [Bool.and_eq_true, Bool.or_eq_true, beq_iff_eq] at h
   have he1 := hk o ho e he h.1
   rcases h.2 with e1 | e1
   ·rw [← e1]; exact he1
   ·exact reach_listed hc f e.on (fun o' ho' => hc e.on o' ho' he1) e1
  ·cases h
def wpAnyT (P : Program) (md : Region.Mode) (ops : Array Oper) (Q : Exit → Act → World → Prop) (S : World → Prop) (l : List Nat) : Nat → Array Bool → Act → World → Prop
 | 0, listed, a, w => Region.ready md ops listed = [] ∧ Q .normal a w
 | fuel + 1, listed, a, w => (Region.ready md ops listed = [] → Q .normal a w) ∧
  ∀ i ∈ Region.ready md ops listed, wpOp P ops Q i (fun a' w' => (needS md ops l i = true → S w') ∧ wpAnyT P md ops Q S l fuel (listed.setIfInBounds i true) a' w') a w
section
variable {P : Program} {ops : Array Oper} {Q : Exit → Act → World → Prop} {md : Region.Mode} {S : World → Prop} {l : List Nat}
theorem wpAny_of_T : ∀ (fuel : Nat) (listed : Array Bool) (a : Act) (w : World), wpAnyT P md ops Q S l fuel listed a w → wpAny P md ops Q fuel listed a w
 | 0, _, _, _, h => h
 | fuel + 1, _, _, _, h => ⟨h.1, fun i hi => wpOp_mono (fun a' w' h' => wpAny_of_T fuel _ a' w' h'.2) (h.2 i hi)⟩
theorem wpAnyT_first {i : Nat} {oi : Oper} {v : Value} (hi : ops[i]? = some oi) (hil : i ∈ l) (hsel : ∀ (j : Nat) (o : Oper) cs b, ops[j]? = some o → o.op ≠ .select cs b)
  (hQ : ∀ c a w, Q (.panic c) (a.put oi.dst v) w → Q (.panic c) a w) : ∀ (fuel : Nat) (listed : Array Bool) (a : Act) (w : World),
   (∀ j oj, ops[j]? = some oj → j ≠ i → listed.getD j true = false → (∀ e ∈ oj.after, Region.binds md e = true → e.on ≠ i) → oi.apart ops oj = true) →
   i ∈ Region.ready md ops listed → Closed md ops listed → YieldsIf P ops S oi v a → S w →
   wpAnyT P md ops Q S l fuel (listed.setIfInBounds i true) (a.put oi.dst v) w → wpAnyT P md ops Q S l (fuel + 1) listed a w := by
 intro fuel
 induction fuel with
 | zero =>
  intro listed a w _ hr hcl hy hS H
  refine ⟨fun h => (by rw [h] at hr; cases hr), fun j hj => ?_⟩
  by_cases hji : j = i
  ·subst hji; exact hy.wpOp hi hS ⟨fun _ => hS, H⟩
  ·have h0 := ready_mono hj hji
   rw [H.1] at h0
   cases h0
 | succ fuel ih =>
  intro listed a w hfree hr hcl hy hS H
  refine ⟨fun h => (by rw [h] at hr; cases hr), fun j hj => ?_⟩
  by_cases hji : j = i
  ·subst hji; exact hy.wpOp hi hS ⟨fun _ => hS, H⟩
  ·have h1 := H.2 j (ready_mono hj hji)
   obtain ⟨hjun, oj, hoj, hall⟩ := mem_ready.1 hj
   have hnot : ∀ e ∈ oj.after, Region.binds md e = true → e.on ≠ i := fun e he hb heq => by
    have a1 := hall e he hb
    have a0 := (mem_ready.1 hr).1
    rw [heq] at a1
    rcases Nat.lt_or_ge i listed.size with h' | h'
    ·simp [h'] at a0 a1; rw [a0] at a1; cases a1
    ·simp [Array.getElem?_eq_none h'] at a1
   have hneed : needS md ops l j = true := by
    unfold needS
    rw [List.any_eq_true]
    refine ⟨i, hil, ?_⟩
    rw [Bool.not_eq_true']
    refine Bool.eq_false_iff.2 fun hre => ?_
    have hi1 := reach_listed hcl (i := i) ops.size j (fun o ho => by rw [hoj] at ho; cases ho; exact hall) hre
    have hi0 := (mem_ready.1 hr).1
    rcases Nat.lt_or_ge i listed.size with h' | h'
    ·simp [h'] at hi0 hi1; rw [hi0] at hi1; cases hi1
    ·simp [Array.getElem?_eq_none h'] at hi1
   have hcl' : Closed md ops (listed.setIfInBounds j true) := fun k o ho hk e he hb => by
    have key : listed.getD e.on false = true := by
     by_cases hkj : j = k
     ·subst hkj; rw [hoj] at ho; cases ho; exact hall e he hb
     ·rw [getD_set_ne false hkj] at hk; exact hcl k o ho hk e he hb
    by_cases hje : j = e.on
    ·subst hje
     rcases Nat.lt_or_ge e.on listed.size with h' | h'
     ·simp [h']
     ·simp [Array.getElem?_eq_none h'] at key
    ·rw [getD_set_ne false hje]; exact key
   have h2 := wpOp_putIf hoj (hfree j oj hoj hji hjun hnot) (fun cs b => hsel i oi cs b hi) (fun cs b => hsel j oj cs b hoj) hQ hy h1
   have hfree' : ∀ k ok, ops[k]? = some ok → k ≠ i → (listed.setIfInBounds j true).getD k true = false →
     (∀ e ∈ ok.after, Region.binds md e = true → e.on ≠ i) → oi.apart ops ok = true := fun k ok hk hki hun hno => by
    refine hfree k ok hk hki ?_ hno
    by_cases hjk : j = k
    ·subst hjk; exact hjun
    ·rw [getD_set_ne true hjk] at hun; exact hun
   refine wpOp_mono (fun a' w' h3 => ⟨fun _ => h3.2.1 hneed, ih (listed.setIfInBounds j true) a' w' hfree' (ready_mono hr (Ne.symm hji)) hcl' h3.1 (h3.2.1 hneed) ?_⟩) h2
   rw [Array.setIfInBounds_comm _ _ hji]
   exact h3.2.2
theorem wpAnyT_take {i : Nat} {oi : Oper} {v : Value} {fuel : Nat} {listed : Array Bool} {a : Act} {w : World} (hi : ops[i]? = some oi) (hil : i ∈ l)
  (hs : Region.noSelect ops = true) (hf : Region.free md ops listed i = true) (hr : (Region.ready md ops listed).contains i = true) (hcl : Closed md ops listed)
  (hQ : ∀ c a w, Q (.panic c) (a.put oi.dst v) w → Q (.panic c) a w) (hy : YieldsIf P ops S oi v a) (hS : S w)
  (h : wpAnyT P md ops Q S l fuel (listed.setIfInBounds i true) (a.put oi.dst v) w) : wpAnyT P md ops Q S l (fuel + 1) listed a w :=
 wpAnyT_first hi hil (Region.noSelect_spec hs) hQ fuel listed a w (Region.free_spec hi hf) (by simpa using hr) hcl hy hS h
theorem closed_set {listed : Array Bool} {k : Nat} (hcl : Closed md ops listed) (hr : (Region.ready md ops listed).contains k = true) : Closed md ops (listed.setIfInBounds k true) := fun q o ho hq e he hb => by
 have hr : k ∈ Region.ready md ops listed := by simpa using hr
 obtain ⟨hkun, ok, hok, hall⟩ := mem_ready.1 hr
 have key : listed.getD e.on false = true := by
  by_cases hkq : k = q
  ·subst hkq; rw [hok] at ho; cases ho; exact hall e he hb
  ·rw [getD_set_ne false hkq] at hq; exact hcl q o ho hq e he hb
 by_cases hje : k = e.on
 ·subst hje
  rcases Nat.lt_or_ge e.on listed.size with h' | h'
  ·simp [h']
  ·simp [Array.getElem?_eq_none h'] at key
 ·rw [getD_set_ne false hje]; exact key
theorem wpAnyT_done {listed : Array Bool} {a : Act} {w : World} (hr : Region.ready md ops listed = []) (h : Q .normal a w) : ∀ fuel, wpAnyT P md ops Q S l fuel listed a w
 | 0 => ⟨hr, h⟩
 | _ + 1 => ⟨fun _ => h, by rw [hr]; simp⟩
end
def ePh2T (E : Sym) (S : World → Prop) (all : List Oper) : List (Nat × Bool) → Fr → World → (Fr → World → Prop) → Prop
 | [], F, w, K => K F w
 | (k, true) :: l, F, w, K => match all[k]? with
  | none => False
  | some o => eOps E all [o] F w fun F' w' => S w' ∧ ePh2T E S all l F' w' K
 | (k, false) :: l, F, w, K => match all[k]? with
  | none => False
  | some o => eOps E all [o] F w fun F' w' => ePh2T E S all l F' w' K
def planT2 (ops : Array Oper) (l1 : List Nat) : List (Nat × Bool) → Array Bool → Bool
 | [], listed => Region.ready .any ops listed == []
 | (k, b) :: l, listed => Region.ready .any ops listed == [k] && (b || !(needS .any ops l1 k)) && planT2 ops l1 l (listed.setIfInBounds k true)
def planT1 (ops : Array Oper) (l0 : List Nat) : List Nat → List (Nat × Bool) → Array Bool → Bool
 | [], l2, listed => planT2 ops l0 l2 listed
 | k :: l, l2, listed => l0.contains k && Region.free .any ops listed k && (Region.ready .any ops listed).contains k && planT1 ops l0 l l2 (listed.setIfInBounds k true)
def planT (ops : Array Oper) (l1 : List Nat) (l2 : List (Nat × Bool)) : Bool :=
 Region.noSelect ops && Nat.beq (l1.length + l2.length) ops.size && planT1 ops l1 l1 l2 (Array.replicate ops.size false)
section
variable {P : Program} {Pn : List PanicEntry → World → Prop} {n : Nat}
theorem ePh2T_sound {S : World → Prop} {all : List Oper} {l0 : List Nat} (hd : ∀ o ∈ all, ∀ t, o.dst = some t → t < n) {K : Exit → Fr → World → Prop} : ∀ (l : List (Nat × Bool)) (listed : Array Bool) (F : Fr) (a : Act) (w : World), Kn n F a → planT2 all.toArray l0 l listed = true → ePh2T (real P Pn n) S all l F w (K .normal) → wpAnyT P .any all.toArray (QK Pn n K) S l0 l.length listed a w
 | [], listed, F, a, w, hk, hB, h => by
  have hr : Region.ready .any all.toArray listed = [] := by simpa [planT2] using hB
  exact wpAnyT_done hr ⟨F, hk, h⟩ _
 | (k, true) :: l, listed, F, a, w, hk, hB, h => by
  simp only [planT2, Bool.and_eq_true] at hB
  obtain ⟨⟨hr, _⟩, hB⟩ := hB
  have hr : Region.ready .any all.toArray listed = [k] := by simpa using hr
  simp only [ePh2T] at h
  split at h
  ·exact h.elim
  ·rename_i o ho
   refine ⟨fun q => (by rw [hr] at q; cases q), fun i hi => ?_⟩
   obtain rfl : i = k := by rw [hr] at hi; simpa using hi
   exact step_op (Pn := Pn) ho (hd o (m1_ ho)) hk (fun c w h => ⟨hk.defers, h⟩) (fun F' a' w' hk' ⟨h1, h2⟩ => ⟨fun _ => h1, ePh2T_sound hd l _ F' a' w' hk' hB h2⟩) h
 | (k, false) :: l, listed, F, a, w, hk, hB, h => by
  simp only [planT2, Bool.and_eq_true, Bool.false_or, Bool.not_eq_true'] at hB
  obtain ⟨⟨hr, hn⟩, hB⟩ := hB
  have hr : Region.ready .any all.toArray listed = [k] := by simpa using hr
  simp only [ePh2T] at h
  split at h
  ·exact h.elim
  ·rename_i o ho
   refine ⟨fun q => (by rw [hr] at q; cases q), fun i hi => ?_⟩
   obtain rfl : i = k := by rw [hr] at hi; simpa using hi
   exact step_op (Pn := Pn) ho (hd o (m1_ ho)) hk (fun c w h => ⟨hk.defers, h⟩) (fun F' a' w' hk' h2 => ⟨fun q => (by rw [hn] at q; cases q), ePh2T_sound hd l _ F' a' w' hk' hB h2⟩) h
theorem ePh1T_sound {S : World → Prop} {w : World} (hSE : ∀ w1, S w1 → Ext w w1) {all : List Oper} {l0 : List Nat} (hs : Region.noSelect all.toArray = true) (hd : ∀ o ∈ all, ∀ t, o.dst = some t → t < n) {K : Exit → Fr → World → Prop} {w0 : World} (hS : S w0) (l2 : List (Nat × Bool)) (K1 : Fr → World → Prop) : ∀ (l : List Nat) (listed : Array Bool) (F : Fr) (a : Act), Kn n F a → Closed .any all.toArray listed → planT1 all.toArray l0 l l2 listed = true → ePh1 (hreal P) all l F w K1 →
  (∀ F a listed, Kn n F a → planT2 all.toArray l0 l2 listed = true → K1 F w → wpAnyT P .any all.toArray (QK Pn n K) S l0 l2.length listed a w0) → wpAnyT P .any all.toArray (QK Pn n K) S l0 (l.length + l2.length) listed a w0
 | [], listed, F, a, hk, hcl, hB, h, h2 => by simpa using h2 F a listed hk hB h
 | k :: l, listed, F, a, hk, hcl, hB, h, h2 => by
  simp only [planT1, Bool.and_eq_true] at hB
  obtain ⟨⟨⟨hl, hf⟩, hr⟩, hB⟩ := hB
  simp only [ePh1] at h
  split at h
  ·exact h.elim
  ·rename_i o ho
   obtain ⟨v, F', hy, hk', h⟩ := step_yields (P := P) (n := n) (S := S) (E' := hreal P) (fun _ _ => rfl) (fun _ _ _ ⟨v, h1, h2⟩ => ⟨v, fun w1 hw1 => h1 w1 (hSE w1 hw1), h2⟩) (hd o (m1_ ho)) hk h
   have := wpAnyT_take (l := l0) (by simpa using ho) (by simpa using hl) hs hf hr hcl panic_put hy hS (ePh1T_sound hSE hs hd hS l2 K1 l _ F' _ hk' (closed_set hcl hr) hB h h2)
   simpa [Nat.add_right_comm] using this
theorem draw_t (l1 : List Nat) (l2 : List (Nat × Bool)) {E : Sym} (hE : E = real P Pn n) {id : Nat} {ops : Array Oper} {F : Fr} {w : World} {K : Exit → Fr → World → Prop} (hm : P.follows .mixedOrders = true) (hB : planT ops l1 l2 = true)
  (h : ∀ E', EngB false P E' → ∀ w0, Same w w0 → ∀ S : World → Prop, (∀ w', Ext w0 w' → S w') → ePh1 E' ops.toList l1 F w0 (fun F' w' => ePh2T E S ops.toList l2 F' w' (K .normal))) : E.draw id ops F w K := by
 subst hE
 intro hd a hk
 simp only [planT, Bool.and_eq_true, Nat.beq_eq] at hB
 obtain ⟨⟨hs, hl⟩, hB⟩ := hB
 have hs' : Region.noSelect ops.toList.toArray = true := by simpa using hs
 have := ePh1T_sound (Pn := Pn) (K := K) (n := n) (l0 := l1) (S := Ext { w with drawn := w.drawn + 1 }) (w := { w with drawn := w.drawn + 1 }) (fun _ h => h) hs' (okDst_ops hd) (Ext.refl _) l2 _ l1 (Array.replicate ops.size false) F a hk (fun k o _ h => by simp only [Array.getD_eq_getD_getElem?, Array.getElem?_replicate] at h; split at h <;> simp at h) (by simpa using hB) (h (hreal P) (Eng.h P) _ (Same.drew w) _ (fun _ h => h))
  (fun F a listed hk hB h => ePh2T_sound (okDst_ops hd) l2 listed F a _ hk hB h)
 rw [hl] at this
 exact wp_region_any hm (wpAny_of_T _ _ _ _ (by simpa using this))
end
structure STab (w : World) (v : Nat) (f : List ByteArray) : Prop where
 ex : ∃ bm es clock, w.cell? ⟨v, 0, none⟩ = some (.map (some bm)) ∧ w.heap[bm]? = some (.map es clock) ∧ (∀ e ∈ es.toList, ∃ k, e.key = .string k ∧ e.val = .bool true ∧ k ∈ f) ∧ ∀ k ∈ f, ∃ e ∈ es.toList, e.key = .string k ∧ e.val = .bool true
theorem STab.ext {w w' : World} {v : Nat} {f : List ByteArray} (h : STab w v f) (hx : Ext w w') : STab w' v f := by
 obtain ⟨bm, es, clock, h1, h2, h3⟩ := h.ex
 exact ⟨bm, es, clock, hx.cell h1, hx.getMap h2, h3⟩
theorem find_str (k : ByteArray) : ∀ (es : List MapEntry) (i : Nat), (∀ e ∈ es, ∃ q, e.key = .string q) → ∃ r, Instr.findNow .string (.string k) es i = some r ∧ ((r = none ∧ ∀ e ∈ es, e.key ≠ .string k) ∨ ∃ j, ∃ e ∈ es, r = some (j, e.val) ∧ e.key = .string k)
 | [], i, _ => ⟨none, rfl, .inl ⟨rfl, by simp⟩⟩
 | e :: es, i, h => by
  obtain ⟨q, h1⟩ := h e (by simp)
  by_cases hq : k = q
  ·subst hq
   exact ⟨some (i, e.val), by simp [Instr.findNow, Instr.sameNow, h1, (MapKept.bytes_beq k k).2 rfl], .inr ⟨i, e, by simp, rfl, h1⟩⟩
  ·obtain ⟨r, hr, hr2⟩ := find_str k es (i + 1) fun e he => h e (by simp [he])
   have hb : (k == q) = false := by rw [Bool.eq_false_iff]; exact fun h => hq ((MapKept.bytes_beq k q).1 h)
   refine ⟨r, by simp [Instr.findNow, Instr.sameNow, h1, hb, hr], ?_⟩
   rcases hr2 with ⟨h3, h4⟩ | ⟨j, e', he', h3, h4⟩
   ·refine .inl ⟨h3, fun e' he' => ?_⟩
    rcases List.mem_cons.1 he' with rfl | he'
    ·rw [h1]; simp [Ne.symm hq]
    ·exact h4 e' he'
   ·exact .inr ⟨j, e', by simp [he'], h3, h4⟩
section
variable {P : Program} {E : Sym} {w : World} {K : Value → World → Prop} {d : Option Tmp} {ty : TypeId} {pos : String} {aft : Array Edge} {g : Option (Nat × Bool)}
theorem st_stab {bq : Bool} (hE : EngB bq P E) {t kt et : TypeId} (ht : P.underlying t = some (.map kt et)) (hkt : P.underlying kt = some .string) (hz : (P.info? et).map (·.zero) = some (some (.bool false))) {bm : Nat} {f : List ByteArray} {es : Array MapEntry} {clock : Nat} (hb : w.heap[bm]? = some (.map es clock))
  (h1 : ∀ e ∈ es.toList, ∃ k, e.key = .string k ∧ e.val = .bool true ∧ k ∈ f) (h2 : ∀ k ∈ f, ∃ e ∈ es.toList, e.key = .string k ∧ e.val = .bool true) {k : ByteArray} {x y : Operand}
  (hk : ∀ b : Bool, (b = true ↔ k ∈ f) → K (.bool b) w) : E.stop ⟨d, .lookup t x y false, ty, pos, aft, g⟩ [.map (some bm), .string k] w K := by
 obtain ⟨i0, hi, hz⟩ := Option.map_eq_some_iff.1 hz
 obtain ⟨r, hr, hr2⟩ := find_str k es.toList 0 fun e he => by obtain ⟨q, h3, _⟩ := h1 e he; exact ⟨q, h3⟩
 have hck0 : ∀ (q : Nat) (w1 : World), (Instr.checkKey es.isEmpty (q + 1) kt (.string k)).run P w1 = .ok () w1 := fun q w1 => by simp [Instr.checkKey, run_underlying hkt]
 have hck : ∀ w1 : World, (Instr.checkKey es.isEmpty 10000 kt (.string k)).run P w1 = .ok () w1 := hck0 9999
 rcases hr2 with ⟨rfl, hno⟩ | ⟨j, e, he, rfl, hke⟩
 ·refine hE.det (v := .bool false) (fun w1 hx ρ hρ => ?_) (hk false (by
   simp only [Bool.false_eq_true, false_iff]
   intro q
   obtain ⟨e, he, h3, _⟩ := h2 k q
   exact hno e he h3))
  simp only [opnds, b2_, b3_, b1_, and_true] at hρ
  have hb1 : w1.heap[bm]? = some (.map es clock) := hx.getMap hb
  have hg := MapKept.run_getObj_map (P := P) hb1
  simp [execOp, hρ.1, hρ.2, Instr.lookup, run_underlying ht, hg, hck, Instr.findKey, run_underlying hkt, hr, zeroValue, typeInfo, hi, hz]
 ·obtain ⟨q, h3, h4, h5⟩ := h1 e he
  rw [hke] at h3
  cases h3
  refine hE.det (v := .bool true) (fun w1 hx ρ hρ => ?_) (hk true (by simp [h5]))
  simp only [opnds, b2_, b3_, b1_, and_true] at hρ
  have hb1 : w1.heap[bm]? = some (.map es clock) := hx.getMap hb
  have hg := MapKept.run_getObj_map (P := P) hb1
  simp [execOp, hρ.1, hρ.2, Instr.lookup, run_underlying ht, hg, hck, Instr.findKey, run_underlying hkt, hr, h4]
end
end Go.Eng
namespace Go.Proofs.YtgnjkdkedjljjaaGreatDoor
open Go.ChangeShapes Go.WideShapes Go.ChangeAt Go.RowKit Go.Eng
set_option maxRecDepth 100000
theorem list4m {α : Type} : ∀ {l : List α}, l.length = 4 → ∃ a b c d, l = [a, b, c, d]
 | [a, b, c, d], _ => ⟨a, b, c, d, rfl⟩
theorem list3m {α : Type} : ∀ {l : List α}, l.length = 3 → ∃ a b c, l = [a, b, c]
 | [a, b, c], _ => ⟨a, b, c, rfl⟩
theorem pick_list {α : Type} {Q : Nat → α → Prop} : ∀ (n : Nat), (∀ i, i < n → ∃ y, Q i y) → ∃ ys : List α, ys.length = n ∧ ∀ i y, ys[i]? = some y → Q i y
 | 0, _ => ⟨[], rfl, by simp⟩
 | n + 1, h => by
  obtain ⟨ys, h1, h2⟩ := pick_list n fun i hi => h i (by omega)
  obtain ⟨y, hy⟩ := h n (by omega)
  refine ⟨ys ++ [y], by simp [h1], fun i z hz => ?_⟩
  rcases Nat.lt_or_ge i n with hi | hi
  ·rw [List.getElem?_append_left (by omega)] at hz; exact h2 i z hz
  ·rw [List.getElem?_append_right (by omega)] at hz
   have : i - ys.length = 0 := by
    rcases Nat.eq_zero_or_pos (i - ys.length) with h0 | h0
    ·exact h0
    ·rw [List.getElem?_eq_none (by simp; omega)] at hz; cases hz
   rw [this] at hz
   simp at hz
   subst hz
   have : i = n := by omega
   subst this; exact hy
section
variable {H : Type} {enc : TypeId × Value → H} {P : Program} {w : World} {base : Nat} {held : Bool} {fuel : Nat} {x : DataW H × List MemPlace}
theorem fldAtM {sp : Nat → Bool} {fs : Array Field} {cs : List Value} {xs : List (DataW H × List MemPlace)} {n : Nat} (hlen : xs.length = fs.size) (hf : ∀ (i : Nat) (f : Field), fs[i]? = some f → DataW.trod enc P w base sp held n f.type ((cs.drop f.offset).take (P.cellsOf f.type)) = xs[i]?)
  (i : Nat) (f : Field) (hi : fs[i]? = some f) : ∃ x, DataW.trod enc P w base sp held n f.type ((cs.drop f.offset).take (P.cellsOf f.type)) = some x := by
 have h1 := (Array.getElem?_eq_some_iff.1 hi).1
 exact ⟨xs[i]'(by omega), by rw [hf i f hi]; simp⟩
theorem open_rowsM {α : Type} {f : α → List Value} {k : Nat} {Q : α → Prop} {t e : TypeId} {cs : List Value} (ht : P.underlying t = some (.slice e)) (hk : P.cellsOf e = k) (hk0 : 0 < k)
  (hel : ∀ n cs x, DataW.trod enc P w base (fun _ => true) held n e cs = some x → ∃ y, cs = f y ∧ (f y).length = k ∧ Q y)
  (h : DataW.trod enc P w base (fun _ => true) held fuel t cs = some x) :
  ∃ (A : Option Addr) (n c : Nat) (ys : List α), cs = [.slice A n c] ∧ ys.length = n ∧ n ≤ c ∧ n ≤ 9223372036854775807 ∧ Cells w A (ys.flatMap f) ∧ ∀ y ∈ ys, Q y := by
 rcases DataW.trod_slice ht h with ⟨rfl, _⟩ | ⟨a, len, cap, elems, rest, n, _, rfl, _, _, hl, hm, hlen, hall, _⟩
 ·exact ⟨none, 0, 0, [], rfl, rfl, by omega, by omega, ⟨by simp, by simp⟩, by simp⟩
 ·obtain ⟨ys, h1, h2⟩ := pick_list (Q := fun i y => (∀ j v, (f y)[j]? = some v → w.cell? ((a.add (i * k)).add j) = some v) ∧ (f y).length = k ∧ Q y) len fun i hi => by
   have key := hall i hi
   rw [g2_ (by omega)] at key
   obtain ⟨cs', g1, g2⟩ := Option.bind_eq_some_iff.1 key
   obtain ⟨y, g3, g4, g5⟩ := hel _ _ _ g2
   refine ⟨y, fun j v hv => ?_, g4, g5⟩
   unfold World.cells? at g1
   split at g1
   ·have hj : j < k := by rw [← g4]; exact (List.getElem?_eq_some_iff.1 hv).1
    have := mapM_some_get g1 j j (by rw [hk]; simp [hj])
    rw [hk] at this
    rw [this, g3, hv]
   ·cases g1
  have hfl : ∀ y ∈ ys, (f y).length = k := fun y hy => by
   obtain ⟨i, hi⟩ := List.mem_iff_getElem?.1 hy
   exact (h2 i y hi).2.1
  unfold maxLen at hm
  refine ⟨some a, len, cap, ys, rfl, h1, hl, by omega, ⟨fun _ => ⟨a, rfl⟩, fun a' ha' j v hv => ?_⟩, fun y hy => ?_⟩
  ·cases ha'
   have get : ∀ (zs : List α) (o : Nat), (∀ z ∈ zs, (f z).length = k) → (∀ i z, zs[i]? = some z → ∀ j v, (f z)[j]? = some v → w.cell? (a.add ((o + i) * k + j)) = some v) → ∀ j v, (zs.flatMap f)[j]? = some v → w.cell? (a.add (o * k + j)) = some v := by
    intro zs
    induction zs with
    | nil => intro o _ _ j v hv; simp at hv
    | cons z zs ih =>
     intro o hz hq j v hv
     rw [List.flatMap_cons] at hv
     rcases Nat.lt_or_ge j k with hj | hj
     ·rw [List.getElem?_append_left (by rw [hz z (by simp)]; exact hj)] at hv
      simpa using hq 0 z rfl j v hv
     ·rw [List.getElem?_append_right (by rw [hz z (by simp)]; exact hj), hz z (by simp)] at hv
      have := ih (o + 1) (fun z hz' => hz z (by simp [hz'])) (fun i z hi j v hv => by have := hq (i + 1) z (by simpa using hi) j v hv; rwa [show o + 1 + i = o + (i + 1) by omega]) (j - k) v hv
      rwa [show (o + 1) * k + (j - k) = o * k + j by rw [Nat.succ_mul]; omega] at this
   have := get ys 0 hfl (fun i z hi j v hv => by have := (h2 i z hi).1 j v hv; rw [add_add] at this; simpa using this) j v hv
   simpa using this
  ·obtain ⟨i, hi⟩ := List.mem_iff_getElem?.1 hy
   exact (h2 i y hi).2.2
end
section
variable {H : Type} {enc : TypeId × Value → H} {w : World} {base : Nat} {held : Bool} {fuel : Nat} {x : DataW H × List MemPlace}
theorem strs_of_cellsM {cs : List Value} (h : DataW.trod enc Tryz.prog w base (fun _ => true) held fuel 49 cs = some x) : ∃ A n c xs, cs = [.slice A n c] ∧ Strs w A n c xs := by
 rcases open_strings Tryz.underlying49 uStr (by kernel_rfl) h with ⟨hcs, _⟩ | ⟨a, len, cap, ss, hcs, _, hl, hm, hz, _, hcell, hws⟩
 ·exact ⟨none, 0, 0, [], hcs, rfl, by omega, by omega, ⟨by simp, by simp⟩, by simp⟩
 ·simp only [if_true] at hz
  unfold maxLen at hm
  refine ⟨some a, len, cap, ss.take len, hcs, by simp; omega, by omega, hl, ⟨fun _ => ⟨a, rfl⟩, fun a' ha' j v hv => ?_⟩, fun s hs => ?_⟩
  ·cases ha'
   rw [List.getElem?_map, List.getElem?_take] at hv
   split at hv
   ·rename_i hj
    rw [hcell j (by omega), ← hv, List.getD_eq_getElem?_getD, g2_ (by omega)]
    simp
   ·simp at hv
  ·have := hws s (List.mem_of_mem_take hs)
   unfold maxLen at this; omega
end
section
variable {H : Type} {enc : TypeId × Value → H} {P : Program} {base : Nat} {held : Bool} {fuel : Nat}
theorem mem_insAll {p : Lit × DataW H} : ∀ (l : List (Lit × DataW H)), p ∈ l.foldr DataW.insert [] ↔ p ∈ l
 | [] => by simp
 | q :: l => by rw [List.foldr_cons, Go.ChangeMaps.mem_insert_iff, mem_insAll l, List.mem_cons]
theorem keyInt {k : TypeId} (hk : P.underlying k = some (.int .i64)) {v : Value} {z : Int} (h : keyOf P k v = some (.int .i64 z)) : v = .int .i64 z := by
 unfold keyOf mapKey at h
 rw [hk] at h
 cases v <;> simp at h
 obtain ⟨⟨rfl, _⟩, rfl⟩ := h
 rfl
theorem tab_of_trod {n : String} {g : Nat} {t k e : TypeId} {cs : Array Value} {sp : Nat → Bool} {L : List (Lit × DataW H)} {p : List MemPlace} {W : World} (hg : P.globalNamed n = some g) (ht : P.underlying t = some (.map k e)) (hk : P.underlying k = some (.int .i64)) (he : P.underlying e = some (.int .i64))
  (hv : W.var? P n = some cs) (hd : DataW.trod enc P W base sp held fuel t cs.toList = some (.map L, p)) (f : List (Int × Int)) (hL : L = f.map fun q => (Lit.int .i64 q.1, .lit (.int .i64 q.2))) : Tab W g f := by
 rcases Go.WideMaps.open_map ht he hd with ⟨_, h0⟩ | ⟨b, es, clock, hcs, hb, _, F, hx⟩
 ·cases h0
 ·have hx1 : L = (es.toList.map (Go.WideMaps.rg H P k .i64)).foldr DataW.insert [] := by
   have := congrArg Prod.fst hx
   simpa using this
  obtain ⟨l⟩ := cs
  simp only at hcs
  subst hcs
  refine ⟨b, es, clock, by simpa using World.var?_cell hg hv 0, hb, fun y hy => ?_, fun kk z hq => ?_, F.stamped.2.1, F.stamped.1⟩
  ·obtain ⟨r, hr⟩ := F.reads y hy
   have h1 := Go.WideMaps.rd_key hr
   obtain ⟨m, h2, h3, _⟩ := Go.WideMaps.rd_val hr
   have hm : r ∈ L := by rw [hx1, mem_insAll, ← Go.WideMaps.rg_of hr]; exact List.mem_map.2 ⟨y, hy, rfl⟩
   rw [hL] at hm
   obtain ⟨q, hq1, hq2⟩ := List.mem_map.1 hm
   rw [← hq2] at h1 h3
   have h4 := keyInt hk h1
   simp at h3
   exact ⟨q.1, q.2, h4, by rw [h2, h3], hq1⟩
  ·have hm : (Lit.int .i64 kk, DataW.lit (.int .i64 z)) ∈ L := by rw [hL]; exact List.mem_map.2 ⟨(kk, z), hq, rfl⟩
   rw [hx1, mem_insAll] at hm
   obtain ⟨y, hy, hy2⟩ := List.mem_map.1 hm
   obtain ⟨r, hr⟩ := F.reads y hy
   rw [Go.WideMaps.rg_of hr] at hy2
   have h1 := Go.WideMaps.rd_key hr
   obtain ⟨m, h2, h3, _⟩ := Go.WideMaps.rd_val hr
   rw [hy2] at h1 h3
   simp at h3
   exact ⟨y, hy, keyInt hk h1, by rw [h2, h3]⟩
theorem keyStr {k : TypeId} (hk : P.underlying k = some .string) {v : Value} {l : List UInt8} (h : keyOf P k v = some (.string l)) : v = .string ⟨⟨l⟩⟩ := by
 unfold keyOf mapKey at h
 rw [hk] at h
 cases v <;> simp at h
 obtain ⟨_, rfl⟩ := h
 rfl
theorem elem_bool {W : World} {sp : Nat → Bool} {n : Nat} {e : TypeId} (he : P.underlying e = some .bool) {v : Value} {z : DataW H × List MemPlace} (h : Go.WideElems.elemAt enc P W base sp held n e v = some z) {b : Bool} (hz : z.1 = .lit (.bool b)) : v = .bool b := by
 unfold Go.WideElems.elemAt at h
 split at h
 ·rename_i hf
  obtain ⟨c, h1, h2⟩ := DataW.trod_bool he h
  rw [h2] at hz
  simp at hz
  subst hz
  cases v <;> simp [Value.cells] at h1
  ·exact congrArg _ h1
  all_goals (first | (exfalso; revert hf; simp [Value.formed, he]; done) | skip)
 ·cases h
theorem stab_of_trod {n : String} {g : Nat} {t k e : TypeId} {cs : Array Value} {sp : Nat → Bool} {L : List (Lit × DataW H)} {p : List MemPlace} {W : World} (hg : P.globalNamed n = some g) (ht : P.underlying t = some (.map k e)) (hk : P.underlying k = some .string) (he : P.underlying e = some .bool)
  (hv : W.var? P n = some cs) (hd : DataW.trod enc P W base sp held fuel t cs.toList = some (.map L, p)) (f : List ByteArray) (hL : L = f.map fun q => (Lit.string q.data.toList, .lit (.bool true))) : STab W g f := by
 rcases Go.WideElems.open_map ht hd with ⟨_, h0⟩ | ⟨b, es, clock, m, _, hcs, hb, _, F, hx⟩
 ·cases h0
 ·have hx1 : L = (es.toList.map (Go.WideElems.rg P k (Go.WideElems.elemAt enc P W base sp held m e))).foldr DataW.insert [] := by
   have := congrArg Prod.fst hx
   simpa using this
  obtain ⟨l⟩ := cs
  simp only at hcs
  subst hcs
  refine ⟨b, es, clock, by simpa using World.var?_cell hg hv 0, hb, fun y hy => ?_, fun kk hq => ?_⟩
  ·obtain ⟨r, hr⟩ := F.reads y hy
   have h1 := Go.WideElems.rd_key hr
   obtain ⟨z, h2, h3⟩ := Go.WideElems.rd_val hr
   have hm : r ∈ L := by rw [hx1, mem_insAll, ← Go.WideElems.rg_of hr]; exact List.mem_map.2 ⟨y, hy, rfl⟩
   rw [hL] at hm
   obtain ⟨q, hq1, hq2⟩ := List.mem_map.1 hm
   rw [← hq2] at h1 h3
   exact ⟨q, keyStr hk h1, elem_bool he h2 h3.symm, hq1⟩
  ·have hm : (Lit.string kk.data.toList, DataW.lit (.bool true)) ∈ L := by rw [hL]; exact List.mem_map.2 ⟨kk, hq, rfl⟩
   rw [hx1, mem_insAll] at hm
   obtain ⟨y, hy, hy2⟩ := List.mem_map.1 hm
   obtain ⟨r, hr⟩ := F.reads y hy
   rw [Go.WideElems.rg_of hr] at hy2
   have h1 := Go.WideElems.rd_key hr
   obtain ⟨z, h2, h3⟩ := Go.WideElems.rd_val hr
   rw [hy2] at h1 h3
   exact ⟨y, hy, keyStr hk h1, elem_bool he h2 h3.symm⟩
theorem stab_perm {w : World} {v : Nat} {f g : List ByteArray} (h : STab w v f) (h1 : ∀ k ∈ f, k ∈ g) (h2 : ∀ k ∈ g, k ∈ f) : STab w v g := by
 obtain ⟨bm, es, clock, a, b, c, d⟩ := h.ex
 exact ⟨bm, es, clock, a, b, fun e he => by obtain ⟨k, p, q, r⟩ := c e he; exact ⟨k, p, q, h1 k r⟩, fun k hk => d k (h2 k hk)⟩
def resL : List ByteArray := [⟨⟨[97, 110, 100]⟩⟩, ⟨⟨[100, 101, 110, 121]⟩⟩, ⟨⟨[101, 108, 115, 101]⟩⟩, ⟨⟨[102, 97, 108, 115, 101]⟩⟩, ⟨⟨[103, 114, 97, 110, 116]⟩⟩, ⟨⟨[105, 102]⟩⟩, ⟨⟨[105, 110]⟩⟩, ⟨⟨[108, 101, 116]⟩⟩, ⟨⟨[110, 111, 116]⟩⟩, ⟨⟨[111, 114]⟩⟩, ⟨⟨[115, 105, 122, 101]⟩⟩, ⟨⟨[116, 104, 101, 110]⟩⟩, ⟨⟨[116, 114, 117, 101]⟩⟩, ⟨⟨[119, 104, 101, 110]⟩⟩, ⟨⟨[119, 105, 116, 104, 105, 110]⟩⟩]
end
open Go.Eng
set_option linter.unusedVariables false
def v0 : VV := ⟨⟨0, 0, ⟨#[]⟩, []⟩, none, 0, 0⟩
set_option linter.unusedSimpArgs false
def valOK (p : PV) : Prop :=
 (p.k = 1 ∧ (p.n = 0 ∨ p.n = 1) ∧ p.tx = ⟨#[]⟩ ∧ p.xs = []) ∨ (p.k = 2 ∧ p.tx = ⟨#[]⟩ ∧ p.xs = []) ∨ (p.k = 3 ∧ p.n = 0 ∧ nameBytes p.tx ∧ p.xs = []) ∨ (p.k = 4 ∧ p.n = 0 ∧ p.tx = ⟨#[]⟩ ∧ isSet p.xs)
theorem data_len (s : ByteArray) : s.data.toList.length = s.size := Array.length_toList
theorem size0 (s : ByteArray) : s.size = 0 ↔ s = ⟨#[]⟩ := by
 constructor
 ·intro h
  have : s.data.toList = [] := List.eq_nil_of_length_eq_zero (by rw [data_len]; exact h)
  cases s with
  | mk d => simp at this; rw [this]
 ·intro h; rw [h]; rfl
theorem quoted_iff (s : ByteArray) : (s = ⟨#[]⟩ ∨ validName s) ↔ nameBytes s := by
 unfold validName
 constructor
 ·rintro (h | h)
  ·subst h; exact ⟨fun i h => by simp [ByteArray.size] at h, by simp [ByteArray.size]⟩
  ·exact h.2
 ·intro h
  by_cases h0 : s.size = 0
  ·exact .inl ((size0 s).1 h0)
  ·exact .inr ⟨h0, h⟩
theorem l2quoted_f {w : World} (s : ByteArray) (hs : s.size ≤ 9223372036854775807) : FC Tryz.prog 235 [.string s] w fun v _ => ∃ b : Bool, v = .bool b ∧ (b = true ↔ nameBytes s) := by
 refine FC.intro (cs := []) Tryz.func235 (by kernel_rfl) fun E R hE hr hR => ?_
 conv => cbv
 refine br (fun g => ?_) (fun g => ?_)
 ·have g : s = ⟨#[]⟩ := by simpa [hE.scmp, scmp_eql] using g
  conv => cbv
  rw [hR]; exact ⟨Ext.refl _, true, rfl, by rw [← quoted_iff]; simp [g]⟩
 ·have g : s ≠ ⟨#[]⟩ := by simpa [hE.scmp, scmp_eql] using g
  conv => cbv
  refine st_qb hE (sValidName_q s _ hs) fun b hb w2 hs2 => ?_
  conv => cbv
  rw [hR]; exact ⟨hs2.ext, b, rfl, by rw [hb, ← quoted_iff]; simp [g]⟩
abbrev zN : List Value := [.int .i64 0, .int .i64 0, .string ⟨#[]⟩, .slice none 0 0, .slice none 0 0]
theorem tIN : Stc Tryz.prog 90 5 zN := ⟨by kernel_rfl, by kernel_rfl⟩
theorem fIN0 : Fld Tryz.prog 90 0 0 := ⟨by kernel_rfl⟩
theorem fIN1 : Fld Tryz.prog 90 1 1 := ⟨by kernel_rfl⟩
theorem fIN2 : Fld Tryz.prog 90 2 2 := ⟨by kernel_rfl⟩
theorem fIN3 : Fld Tryz.prog 90 3 3 := ⟨by kernel_rfl⟩
theorem bare_f {w : World} {o z : Int} {tx : ByteArray} {A B : Option Addr} {m c m2 c2 : Nat} {xs : List ByteArray} (hsl : xs.length = m) (p1 p2 p3 : Bool) :
  FC Tryz.prog 101 [.agg ⟨[.int .i64 o, .int .i64 z, .string tx, .slice A m c, .slice B m2 c2]⟩, .bool p1, .bool p2, .bool p3] w fun v _ => ∃ b : Bool, v = .bool b ∧ (b = true ↔ (p1 = true ∨ z = 0) ∧ (p2 = true ∨ tx = ⟨#[]⟩) ∧ (p3 = true ∨ xs = [])) := by
 refine FC.intro (cs := []) Tryz.func101 (by kernel_rfl) fun E R hE hr hR => ?_
 conv => cbv
 refine st_box hr fun a w1 hx hb0 => ?_
 have hb := hb0 _ (n1_ _)
 clear hb0
 conv => cbv
 refine br (fun g => ?_) (fun g => ?_)
 ·have g1_0 : p1 = true := g
  conv => cbv
  refine br (fun g => ?_) (fun g => ?_)
  ·have g2_0 : p2 = true := g
   conv => cbv
   refine br (fun g => ?_) (fun g => ?_)
   ·have g3_0 : p3 = true := g
    conv => cbv
    rw [hR]; exact ⟨hx, true, rfl, by simp [g1_0, g2_0, g3_0]⟩
   ·have g3_0 : ¬ p3 = true := g
    conv => cbv
    (refine st_fld hE fIN3 fun p hp => ?_; (conv => cbv); refine st_load hE cStrs (by rw [hp]; exact (hb).at _ _ rfl) ?_; (conv => cbv))
    refine st_len hE tStrs fun x hx1 => ?_
    conv => cbv
    obtain ⟨q, hq⟩ : ∃ q, q = E.cmp .eql x 0 := ⟨_, rfl⟩
    have hq' : q = true ↔ xs = [] := by rw [hq, hE.cmp, ← List.length_eq_zero_iff, hsl]; simp [cmpR]; omega
    simp only [← hq]
    rw [hR]; exact ⟨hx, q, rfl, by rw [hq']; simp [g1_0, g2_0, g3_0]⟩
  ·have g2_0 : ¬ p2 = true := g
   conv => cbv
   (refine st_fld hE fIN2 fun p hp => ?_; (conv => cbv); refine st_load hE cStr (by rw [hp]; exact (hb).at _ _ rfl) ?_; (conv => cbv))
   refine br (fun g => ?_) (fun g => ?_)
   ·have g2_1 : tx = ⟨#[]⟩ := by simpa [hE.scmp, scmp_eql] using g
    conv => cbv
    refine br (fun g => ?_) (fun g => ?_)
    ·have g3_0 : p3 = true := g
     conv => cbv
     rw [hR]; exact ⟨hx, true, rfl, by simp [g1_0, g2_0, g2_1, g3_0]⟩
    ·have g3_0 : ¬ p3 = true := g
     conv => cbv
     (refine st_fld hE fIN3 fun p hp => ?_; (conv => cbv); refine st_load hE cStrs (by rw [hp]; exact (hb).at _ _ rfl) ?_; (conv => cbv))
     refine st_len hE tStrs fun x hx1 => ?_
     conv => cbv
     obtain ⟨q, hq⟩ : ∃ q, q = E.cmp .eql x 0 := ⟨_, rfl⟩
     have hq' : q = true ↔ xs = [] := by rw [hq, hE.cmp, ← List.length_eq_zero_iff, hsl]; simp [cmpR]; omega
     simp only [← hq]
     rw [hR]; exact ⟨hx, q, rfl, by rw [hq']; simp [g1_0, g2_0, g2_1, g3_0]⟩
   ·have g2_1 : tx ≠ ⟨#[]⟩ := by simpa [hE.scmp, scmp_eql] using g
    conv => cbv
    rw [hR]; exact ⟨hx, false, rfl, by simp [g1_0, g2_0, g2_1]⟩
 ·have g1_0 : ¬ p1 = true := g
  conv => cbv
  (refine st_fld hE fIN1 fun p hp => ?_; (conv => cbv); refine st_load hE cI64 (by rw [hp]; exact (hb).at _ _ rfl) ?_; (conv => cbv))
  refine br (fun g => ?_) (fun g => ?_)
  ·have g1_1 : z = 0 := by simpa [hE.cmp, cmpR] using g
   conv => cbv
   refine br (fun g => ?_) (fun g => ?_)
   ·have g2_0 : p2 = true := g
    conv => cbv
    refine br (fun g => ?_) (fun g => ?_)
    ·have g3_0 : p3 = true := g
     conv => cbv
     rw [hR]; exact ⟨hx, true, rfl, by simp [g1_0, g1_1, g2_0, g3_0]⟩
    ·have g3_0 : ¬ p3 = true := g
     conv => cbv
     (refine st_fld hE fIN3 fun p hp => ?_; (conv => cbv); refine st_load hE cStrs (by rw [hp]; exact (hb).at _ _ rfl) ?_; (conv => cbv))
     refine st_len hE tStrs fun x hx1 => ?_
     conv => cbv
     obtain ⟨q, hq⟩ : ∃ q, q = E.cmp .eql x 0 := ⟨_, rfl⟩
     have hq' : q = true ↔ xs = [] := by rw [hq, hE.cmp, ← List.length_eq_zero_iff, hsl]; simp [cmpR]; omega
     simp only [← hq]
     rw [hR]; exact ⟨hx, q, rfl, by rw [hq']; simp [g1_0, g1_1, g2_0, g3_0]⟩
   ·have g2_0 : ¬ p2 = true := g
    conv => cbv
    (refine st_fld hE fIN2 fun p hp => ?_; (conv => cbv); refine st_load hE cStr (by rw [hp]; exact (hb).at _ _ rfl) ?_; (conv => cbv))
    refine br (fun g => ?_) (fun g => ?_)
    ·have g2_1 : tx = ⟨#[]⟩ := by simpa [hE.scmp, scmp_eql] using g
     conv => cbv
     refine br (fun g => ?_) (fun g => ?_)
     ·have g3_0 : p3 = true := g
      conv => cbv
      rw [hR]; exact ⟨hx, true, rfl, by simp [g1_0, g1_1, g2_0, g2_1, g3_0]⟩
     ·have g3_0 : ¬ p3 = true := g
      conv => cbv
      (refine st_fld hE fIN3 fun p hp => ?_; (conv => cbv); refine st_load hE cStrs (by rw [hp]; exact (hb).at _ _ rfl) ?_; (conv => cbv))
      refine st_len hE tStrs fun x hx1 => ?_
      conv => cbv
      obtain ⟨q, hq⟩ : ∃ q, q = E.cmp .eql x 0 := ⟨_, rfl⟩
      have hq' : q = true ↔ xs = [] := by rw [hq, hE.cmp, ← List.length_eq_zero_iff, hsl]; simp [cmpR]; omega
      simp only [← hq]
      rw [hR]; exact ⟨hx, q, rfl, by rw [hq']; simp [g1_0, g1_1, g2_0, g2_1, g3_0]⟩
    ·have g2_1 : tx ≠ ⟨#[]⟩ := by simpa [hE.scmp, scmp_eql] using g
     conv => cbv
     rw [hR]; exact ⟨hx, false, rfl, by simp [g1_0, g1_1, g2_0, g2_1]⟩
  ·have g1_1 : z ≠ 0 := by simpa [hE.cmp, cmpR] using g
   conv => cbv
   rw [hR]; exact ⟨hx, false, rfl, by simp [g1_0, g1_1]⟩
def kOp (k : Int) : Int := if k = 1 then 3 else if k = 2 then 1 else if k = 3 then 2 else if k = 4 then 4 else 0
theorem validConst_f {w : World} {o z : Int} {tx : ByteArray} {A B : Option Addr} {m c m2 c2 : Nat} {xs : List ByteArray} (h : Strs w A m c xs) (ht : tx.size ≤ 9223372036854775807) :
  FC Tryz.prog 103 [.agg ⟨[.int .i64 o, .int .i64 z, .string tx, .slice A m c, .slice B m2 c2]⟩] w fun v _ => ∃ b : Bool, v = .bool b ∧
   (b = true ↔ (o = 1 ∧ tx = ⟨#[]⟩ ∧ xs = []) ∨ (o = 2 ∧ z = 0 ∧ nameBytes tx ∧ xs = []) ∨ (o = 3 ∧ (z = 0 ∨ z = 1) ∧ tx = ⟨#[]⟩ ∧ xs = []) ∨ (o = 4 ∧ z = 0 ∧ tx = ⟨#[]⟩ ∧ isSet xs)) := by
 refine FC.intro (cs := []) Tryz.func103 (by kernel_rfl) fun E R hE hr hR => ?_
 have hsl := h.len
 conv => cbv
 refine st_box hr fun a w1 hx hb0 => ?_
 have hb := hb0 _ (n1_ _)
 clear hb0
 conv => cbv
 (refine st_fld hE fIN0 fun p hp => ?_; (conv => cbv); refine st_load hE cInt (by rw [hp]; exact (hb).at _ _ rfl) ?_; (conv => cbv))
 refine br (fun g => ?_) (fun g => ?_)
 ·have k1 : o = 1 := by simpa [hE.cmp, cmpR] using g
  conv => cbv
  refine st_loadS hE tIN rfl hb.at ?_
  conv => cbv
  refine st_f hr (bare_f (o := o) (z := z) (tx := tx) hsl true false false) fun v w2 hx2 ⟨r, ev, hr2⟩ => ?_
  subst ev
  replace hb := hb.bel hx2
  replace hx := hx.trans hx2
  conv => cbv
  rw [hR]; exact ⟨hx, r, rfl, by rw [hr2]; simp [k1]⟩
 have k1 : o ≠ 1 := by simpa [hE.cmp, cmpR] using g
 conv => cbv
 refine br (fun g => ?_) (fun g => ?_)
 ·have k2 : o = 2 := by simpa [hE.cmp, cmpR] using g
  conv => cbv
  refine st_loadS hE tIN rfl hb.at ?_
  conv => cbv
  refine st_f hr (bare_f (o := o) (z := z) (tx := tx) hsl false true false) fun v w2 hx2 ⟨r, ev, hr2⟩ => ?_
  subst ev
  replace hb := hb.bel hx2
  replace hx := hx.trans hx2
  cases r with
  | false =>
   conv => cbv
   rw [hR]; refine ⟨hx, false, rfl, ?_⟩
   have n0 : ¬ _ := fun q => absurd (hr2.2 q) (by simp)
   simp only [k2]; simp at n0 ⊢
   exact fun q _ => n0 q
  | true =>
   have n0 := hr2.1 rfl
   conv => cbv
   (refine st_fld hE fIN2 fun p hp => ?_; (conv => cbv); refine st_load hE cStr (by rw [hp]; exact (hb).at _ _ rfl) ?_; (conv => cbv))
   refine st_qb hE (nameBytes_q tx _ ht) fun q hq w2 hs2 => ?_
   conv => cbv
   rw [hR]; refine ⟨hx.trans hs2.ext, q, rfl, ?_⟩
   simp at n0
   rw [hq]; simp [k2, n0]
 have k2 : o ≠ 2 := by simpa [hE.cmp, cmpR] using g
 conv => cbv
 refine br (fun g => ?_) (fun g => ?_)
 ·have k3 : o = 3 := by simpa [hE.cmp, cmpR] using g
  conv => cbv
  refine st_loadS hE tIN rfl hb.at ?_
  conv => cbv
  refine st_f hr (bare_f (o := o) (z := z) (tx := tx) hsl true false false) fun v w2 hx2 ⟨r, ev, hr2⟩ => ?_
  subst ev
  replace hb := hb.bel hx2
  replace hx := hx.trans hx2
  cases r with
  | false =>
   conv => cbv
   rw [hR]; refine ⟨hx, false, rfl, ?_⟩
   have n0 : ¬ _ := fun q => absurd (hr2.2 q) (by simp)
   simp only [k3]; simp at n0 ⊢
   exact fun _ q => n0 q
  | true =>
   have n0 := hr2.1 rfl
   simp at n0
   conv => cbv
   (refine st_fld hE fIN1 fun p hp => ?_; (conv => cbv); refine st_load hE cI64 (by rw [hp]; exact (hb).at _ _ rfl) ?_; (conv => cbv))
   refine br (fun g => ?_) (fun g => ?_)
   ·have g : z = 0 := by simpa [hE.cmp, cmpR] using g
    conv => cbv
    rw [hR]; exact ⟨hx, true, rfl, by simp [k3, g, n0]⟩
   ·have g : z ≠ 0 := by simpa [hE.cmp, cmpR] using g
    conv => cbv
    (refine st_fld hE fIN1 fun p hp => ?_; (conv => cbv); refine st_load hE cI64 (by rw [hp]; exact (hb).at _ _ rfl) ?_; (conv => cbv))
    obtain ⟨q, hq⟩ : ∃ q, q = E.cmp .eql z 1 := ⟨_, rfl⟩
    have hq' : q = true ↔ z = 1 := by rw [hq, hE.cmp]; simp [cmpR]
    simp only [← hq]
    conv => cbv
    rw [hR]; exact ⟨hx, q, rfl, by rw [hq']; simp [k3, g, n0]⟩
 have k3 : o ≠ 3 := by simpa [hE.cmp, cmpR] using g
 conv => cbv
 refine br (fun g => ?_) (fun g => ?_)
 ·have k4 : o = 4 := by simpa [hE.cmp, cmpR] using g
  conv => cbv
  refine st_loadS hE tIN rfl hb.at ?_
  conv => cbv
  refine st_f hr (bare_f (o := o) (z := z) (tx := tx) hsl false false true) fun v w2 hx2 ⟨r, ev, hr2⟩ => ?_
  subst ev
  replace hb := hb.bel hx2
  replace hx := hx.trans hx2
  cases r with
  | false =>
   conv => cbv
   rw [hR]; refine ⟨hx, false, rfl, ?_⟩
   have n0 : ¬ _ := fun q => absurd (hr2.2 q) (by simp)
   simp only [k4]; simp at n0 ⊢
   exact fun q r => absurd r (n0 q)
  | true =>
   have n0 := hr2.1 rfl
   simp at n0
   conv => cbv
   (refine st_fld hE fIN3 fun p hp => ?_; (conv => cbv); refine st_load hE cStrs (by rw [hp]; exact (hb).at _ _ rfl) ?_; (conv => cbv))
   refine st_qb hE (IsSet_q (h.ext hx)) fun q hq w2 hs2 => ?_
   conv => cbv
   rw [hR]; exact ⟨hx.trans hs2.ext, q, rfl, by rw [hq]; simp [k4, n0]⟩
 have k4 : o ≠ 4 := by simpa [hE.cmp, cmpR] using g
 conv => cbv
 rw [hR]; exact ⟨hx, false, rfl, by simp [k1, k2, k3, k4]⟩
theorem scq {P : Program} {E : Sym} {bq : Bool} (hE : EngB bq P E) (a b : ByteArray) : E.scmp .eql a b = true ↔ a = b := by rw [hE.scmp, scmp_eql]
theorem scn {P : Program} {E : Sym} {bq : Bool} (hE : EngB bq P E) (s : ByteArray) : E.scmp .neq s ⟨#[]⟩ = true ↔ s.size ≠ 0 := by rw [hE.scmp]; exact ne_empty s
def sm (c : Int) : Prop := 97 ≤ c ∧ c ≤ 122
def dg (c : Int) : Prop := 48 ≤ c ∧ c ≤ 57
def wb (c : Int) : Prop := sm c ∨ dg c ∨ c = 95
theorem isSmall_q (c : Int) (w : World) : QB Tryz.prog 156 [.int .u8 c] w (sm c) := by
 refine QB.intro (cs := []) Tryz.func156 (by kernel_rfl) fun w0 hx0 w1 hs E R hE hr hR => ?_
 conv => cbv
 refine br (fun g => ?_) (fun g => ?_)
 ·conv => cbv
  exact hR _ _ hs (by simp [hE.cmp, cmpR] at g ⊢; unfold sm; omega)
 ·conv => cbv
  exact hR _ _ hs (by simp [hE.cmp, cmpR] at g ⊢; unfold sm; omega)
theorem l2letter_q (c : Int) (w : World) : QB Tryz.prog 236 [.int .u8 c] w (sm c) := by
 refine QB.intro (cs := []) Tryz.func236 (by kernel_rfl) fun w0 hx0 w1 hs E R hE hr hR => ?_
 conv => cbv
 refine br (fun g => ?_) (fun g => ?_)
 ·conv => cbv
  exact hR _ _ hs (by simp [hE.cmp, cmpR] at g ⊢; unfold sm; omega)
 ·conv => cbv
  exact hR _ _ hs (by simp [hE.cmp, cmpR] at g ⊢; unfold sm; omega)
theorem isDigit_q (c : Int) (w : World) : QB Tryz.prog 242 [.int .u8 c] w (dg c) := by
 refine QB.intro (cs := []) Tryz.func242 (by kernel_rfl) fun w0 hx0 w1 hs E R hE hr hR => ?_
 conv => cbv
 refine br (fun g => ?_) (fun g => ?_)
 ·conv => cbv
  exact hR _ _ hs (by simp [hE.cmp, cmpR] at g ⊢; unfold dg; omega)
 ·conv => cbv
  exact hR _ _ hs (by simp [hE.cmp, cmpR] at g ⊢; unfold dg; omega)
theorem l2digit_q (c : Int) (w : World) : QB Tryz.prog 270 [.int .u8 c] w (dg c) := by
 refine QB.intro (cs := []) Tryz.func270 (by kernel_rfl) fun w0 hx0 w1 hs E R hE hr hR => ?_
 conv => cbv
 refine br (fun g => ?_) (fun g => ?_)
 ·conv => cbv
  exact hR _ _ hs (by simp [hE.cmp, cmpR] at g ⊢; unfold dg; omega)
 ·conv => cbv
  exact hR _ _ hs (by simp [hE.cmp, cmpR] at g ⊢; unfold dg; omega)
theorem wordByte_q (c : Int) (w : World) : QB Tryz.prog 158 [.int .u8 c] w (wb c) := by
 refine QB.intro (cs := []) Tryz.func158 (by kernel_rfl) fun w0 hx0 w1 hs E R hE hr hR => ?_
 conv => cbv
 refine st_qb hE (isSmall_q c _) fun b hb w2 hs2 => ?_
 replace hs := hs.trans hs2
 cases b with
 | true =>
  conv => cbv
  exact hR _ _ hs (by unfold wb; simp [hb.1 rfl])
 | false =>
  have h1 : ¬ sm c := fun q => absurd (hb.2 q) (by simp)
  conv => cbv
  refine st_qb hE (isDigit_q c _) fun b2 hb2 w3 hs3 => ?_
  replace hs := hs.trans hs3
  cases b2 with
  | true =>
   conv => cbv
   exact hR _ _ hs (by unfold wb; simp [hb2.1 rfl])
  | false =>
   have h2 : ¬ dg c := fun q => absurd (hb2.2 q) (by simp)
   conv => cbv
   exact hR _ _ hs (by simp [hE.cmp, cmpR, wb, h1, h2])
structure RunTo (P : Int → Prop) (s : ByteArray) (i j : Nat) : Prop where
 le : i ≤ j
 hi : j ≤ s.size
 all : ∀ k (h : k < s.size), i ≤ k → k < j → P (s[k].toNat)
 stop : ∀ h : j < s.size, ¬ P (s[j].toNat)
theorem RunTo.uniq {P : Int → Prop} {s : ByteArray} {i j j' : Nat} (h : RunTo P s i j) (h' : RunTo P s i j') : j = j' := by
 rcases Nat.lt_trichotomy j j' with e | e | e
 ·exact absurd (h'.all j (by have := h'.hi; omega) h.le e) (h.stop _)
 ·exact e
 ·exact absurd (h.all j' (by have := h.hi; omega) h'.le e) (h'.stop _)
theorem runTo_ex (P : Int → Prop) (s : ByteArray) : ∀ (m i : Nat), i + m = s.size → ∃ j, RunTo P s i j
 | 0, i, h => ⟨i, n1_ _, by omega, fun k hk h1 h2 => by omega, fun h => by omega⟩
 | m + 1, i, h => by
  by_cases hp : P ((s[i]'(by omega)).toNat)
  ·obtain ⟨j, hj⟩ := runTo_ex P s m (i + 1) (by omega)
   refine ⟨j, by have := hj.le; omega, hj.hi, fun k hk h1 h2 => ?_, hj.stop⟩
   rcases Nat.eq_or_lt_of_le h1 with e | e
   ·subst e; exact hp
   ·exact hj.all k hk e h2
  ·exact ⟨i, n1_ _, by omega, fun k hk h1 h2 => by omega, fun _ => hp⟩
theorem l2run_q {s : ByteArray} {i j : Nat} {ii : Int} (hii : ii = (i : Int)) (hj : RunTo wb s i j) (hl : s.size ≤ 9223372036854775807) (w : World) : QF Tryz.prog 237 [.string s, .int .i64 ii] w (.int .i64 (j : Int)) := by
 refine QF.intro (cs := []) Tryz.func237 (by kernel_rfl) fun w0 hx0 w1 hs E R hE hr hR => ?_
 conv => cbv
 refine loop_rule hr (fun (t : Nat × Int) w' => Same w0 w' ∧ t.2 = (t.1 : Int) ∧ i ≤ t.1 ∧ t.1 ≤ s.size ∧ ∀ k (h : k < s.size), i ≤ k → k < t.1 → wb (s[k].toNat)) (fun t => [(0, .string s), (1, .int .i64 t.2)]) (fun t => s.size - t.1) (i, ii)
  (by simp [Fits, lk]) ⟨hs, hii, n1_ _, by have := hj.le; have := hj.hi; omega, fun k h h1 h2 => by simp only at h2; omega⟩ ?_
 rintro I hI ⟨k, kk⟩ w' ⟨hs', hkk, hk1, hk2, hall⟩
 simp only at hkk hk1 hk2 hall
 obtain ⟨kj, hkj⟩ : ∃ z, z = kk + 1 := ⟨_, rfl⟩
 have fin : ∀ w2, Same w0 w2 → (∀ h : k < s.size, ¬ wb (s[k].toNat)) → R (.int .i64 kk) w2 := fun w2 h2 hst => by
  have := hj.uniq ⟨hk1, hk2, hall, hst⟩
  rw [hR, hkk, this]; exact ⟨rfl, h2⟩
 conv => cbv
 refine st_slen hE uStr fun x hx => ?_
 conv => cbv
 refine br (fun g => ?_) (fun g => ?_)
 ·have g : k < s.size := by
   have : kk < x := by simpa [hE.cmp, cmpR] using g
   omega
  have ek : E.ar .add .i64 kk 1 = kj := by rw [hE.ar, hkj]; exact wrap_in (by omega) (by omega)
  obtain ⟨cz, hcz⟩ : ∃ cz : Int, cz = ((s[k]'g).toNat : Int) := ⟨_, rfl⟩
  have go : wb cz → ∀ w2, Same w0 w2 → I (k + 1, kj) w2 := fun hw w2 h2 => hI _ _ ⟨h2, by simp only; omega, by simp only; omega, by simp only; omega, fun q h h1 h3 => by
   rcases Nat.lt_or_ge q k with e | e
   ·exact hall q h h1 e
   ·obtain rfl : q = k := by simp only at h3; omega
    rw [← hcz]; exact hw⟩
  conv => cbv
  refine st_byte hE uStr (by omega) (by omega) fun c hc h0 h1 => ?_
  have hc : c = cz := by rw [hc, hcz]; congr 2; simp only [hkk, Int.toNat_natCast]
  subst hc
  conv => cbv
  refine st_qb hE (l2letter_q c _) fun b hb w2 hs2 => ?_
  cases b with
  | true =>
   conv => cbv
   simp only [ek]
   exact ⟨(k + 1, kj), by simp [Fits, lk], go (.inl (hb.1 rfl)) _ (hs'.trans hs2), by simp only; omega⟩
  | false =>
   have h2 : ¬ sm c := fun q => absurd (hb.2 q) (by simp)
   conv => cbv
   refine st_byte hE uStr (by omega) (by omega) fun c' hc' _ _ => ?_
   have hc' : c' = c := by rw [hc', hcz]; congr 2; simp only [hkk, Int.toNat_natCast]
   subst hc'
   conv => cbv
   refine st_qb hE (l2digit_q c' _) fun b2 hb2 w3 hs3 => ?_
   cases b2 with
   | true =>
    conv => cbv
    simp only [ek]
    exact ⟨(k + 1, kj), by simp [Fits, lk], go (.inr (.inl (hb2.1 rfl))) _ ((hs'.trans hs2).trans hs3), by simp only; omega⟩
   | false =>
    have h3 : ¬ dg c' := fun q => absurd (hb2.2 q) (by simp)
    conv => cbv
    refine st_byte hE uStr (by omega) (by omega) fun c2 hc2 _ _ => ?_
    have hc2 : c2 = c' := by rw [hc2, hcz]; congr 2; simp only [hkk, Int.toNat_natCast]
    subst hc2
    conv => cbv
    refine br (fun g3 => ?_) (fun g3 => ?_)
    ·have g3 : c2 = 95 := by simpa [hE.cmp, cmpR] using g3
     conv => cbv
     simp only [ek]
     exact ⟨(k + 1, kj), by simp [Fits, lk], go (.inr (.inr g3)) _ ((hs'.trans hs2).trans hs3), by simp only; omega⟩
    ·have g3 : c2 ≠ 95 := by simpa [hE.cmp, cmpR] using g3
     conv => cbv
     exact fin _ ((hs'.trans hs2).trans hs3) (fun _ => by rw [← hcz]; unfold wb; simp [h2, h3, g3])
 ·have g : ¬ k < s.size := by
   have : ¬ kk < x := by simpa [hE.cmp, cmpR] using g
   omega
  conv => cbv
  exact fin _ hs' (fun h => absurd h g)
theorem run_q {s : ByteArray} {j : Nat} {Pr : Int → Prop} {f : FuncId} (hj : RunTo Pr s 0 j) (hl : s.size ≤ 9223372036854775807) (w : World) (hq : ∀ c w', QB Tryz.prog f [.int .u8 c] w' (Pr c)) : QF Tryz.prog 157 [.string s, .func (.func f) #[] #[]] w (.string (s.extract 0 j)) := by
 refine QF.intro (cs := []) Tryz.func157 (by kernel_rfl) fun w0 hx0 w1 hs E R hE hr hR => ?_
 conv => cbv
 refine loop_rule hr (fun (t : Nat × Int) w' => Same w0 w' ∧ t.2 = (t.1 : Int) ∧ t.1 ≤ s.size ∧ ∀ k (h : k < s.size), 0 ≤ k → k < t.1 → Pr (s[k].toNat)) (fun t => [(0, .string s), (1, .func (.func f) #[] #[]), (5, .int .i64 t.2)]) (fun t => s.size - t.1) (0, 0)
  (by simp [Fits, lk]) ⟨hs, rfl, by omega, fun k h h1 h2 => by simp only at h2; omega⟩ ?_
 rintro I hI ⟨k, kk⟩ w' ⟨hs', hkk, hk2, hall⟩
 simp only at hkk hk2 hall
 obtain ⟨kj, hkj⟩ : ∃ z, z = kk + 1 := ⟨_, rfl⟩
 conv => cbv
 refine st_slen hE uStr fun x hx => ?_
 conv => cbv
 refine br (fun g => ?_) (fun g => ?_)
 ·have g : k < s.size := by
   have : kk < x := by simpa [hE.cmp, cmpR] using g
   omega
  have ek : E.ar .add .i64 kk 1 = kj := by rw [hE.ar, hkj]; exact wrap_in (by omega) (by omega)
  obtain ⟨cz, hcz⟩ : ∃ cz : Int, cz = ((s[k]'g).toNat : Int) := ⟨_, rfl⟩
  conv => cbv
  refine st_byte hE uStr (by omega) (by omega) fun c hc h0 h1 => ?_
  have hc : c = cz := by rw [hc, hcz]; congr 2; simp only [hkk, Int.toNat_natCast]
  subst hc
  conv => cbv
  refine st_qb hE (hq c _) fun b hb w2 hs2 => ?_
  cases b with
  | true =>
   conv => cbv
   simp only [ek]
   refine ⟨(k + 1, kj), by simp [Fits, lk], hI _ _ ⟨hs'.trans hs2, by simp only; omega, by simp only; omega, fun q h h1 h3 => ?_⟩, by simp only; omega⟩
   rcases Nat.lt_or_ge q k with e | e
   ·exact hall q h h1 e
   ·obtain rfl : q = k := by simp only at h3; omega
    rw [← hcz]; exact hb.1 rfl
  | false =>
   have h2 : ¬ Pr c := fun q => absurd (hb.2 q) (by simp)
   have ej := hj.uniq ⟨Nat.zero_le _, hk2, hall, fun _ => by rw [← hcz]; exact h2⟩
   conv => cbv
   refine st_upTo hE uStr (by omega) (by omega) fun u hu => ?_
   conv => cbv
   rw [hR, hu, ej, hkk]; exact ⟨by simp; rfl, hs'.trans hs2⟩
 ·have g : ¬ k < s.size := by
   have : ¬ kk < x := by simpa [hE.cmp, cmpR] using g
   omega
  have ej := hj.uniq ⟨Nat.zero_le _, hk2, hall, fun h => absurd h g⟩
  conv => cbv
  refine st_upTo hE uStr (by omega) (by omega) fun u hu => ?_
  conv => cbv
  rw [hR, hu, ej, hkk]; exact ⟨by simp; rfl, hs'⟩
def words : List ByteArray := [⟨⟨[108, 101, 116]⟩⟩, ⟨⟨[119, 104, 101, 110]⟩⟩, ⟨⟨[101, 108, 115, 101]⟩⟩, ⟨⟨[100, 101, 110, 121]⟩⟩, ⟨⟨[103, 114, 97, 110, 116]⟩⟩, ⟨⟨[105, 102]⟩⟩, ⟨⟨[116, 104, 101, 110]⟩⟩, ⟨⟨[110, 111, 116]⟩⟩, ⟨⟨[97, 110, 100]⟩⟩, ⟨⟨[111, 114]⟩⟩, ⟨⟨[105, 110]⟩⟩, ⟨⟨[119, 105, 116, 104, 105, 110]⟩⟩, ⟨⟨[115, 105, 122, 101]⟩⟩, ⟨⟨[116, 114, 117, 101]⟩⟩, ⟨⟨[102, 97, 108, 115, 101]⟩⟩]
theorem words_small : ∀ s ∈ words, s.size ≤ 9223372036854775807 := by
 have h : ∀ s ∈ words, s.size ≤ 6 := by decide
 exact fun s hs => by have := h s hs; omega
theorem l2word_f (s : ByteArray) (w : World) : FC Tryz.prog 238 [.string s] w fun v _ => ∃ b : Bool, v = .bool b ∧ (b = true ↔ s ∈ words) := by
 refine FC.intro (cs := []) Tryz.func238 (by kernel_rfl) fun E R hE hr hR => ?_
 conv => cbv
 refine st_lits hr tStrs rfl (vs := words.map .string) (m := 15) rfl (by omega) (by omega) rfl (by simp [words, Value.cells]) fun A w1 hx ho => ?_
 have hS : Strs w1 A 15 15 words := Own.strs (ho _ (n1_ _)) words_small
 conv => cbv
 refine st_len hE tStrs fun x hx2 => ?_
 conv => cbv
 refine loop_rule hr (fun (t : Nat × Int) w' => Same w1 w' ∧ t.2 = (t.1 : Int) ∧ t.1 ≤ 15 ∧ s ∉ words.take t.1) (fun t => [(0, .string s), (5, .slice A 15 15), (6, .int .i64 x), (7, .int .i64 t.2)]) (fun t => 15 - t.1) (0, 0)
  (by simp [Fits, lk]) ⟨Same.refl _, rfl, by omega, by simp⟩ ?_
 rintro I hI ⟨k, kk⟩ w' ⟨hs', hkk, hk2, hall⟩
 simp only at hkk hk2 hall
 obtain ⟨kj, hkj⟩ : ∃ z, z = kk + 1 := ⟨_, rfl⟩
 conv => cbv
 refine br (fun g => ?_) (fun g => ?_)
 ·have g : k < 15 := by
   have : kk < x := by simpa [hE.cmp, cmpR] using g
   omega
  have ek : E.ar .add .i64 kk 1 = kj := by rw [hE.ar, hkj]; exact wrap_in (by omega) (by omega)
  conv => cbv
  refine st_str hE tStrs (hS.same hs') (k := k) hkk g fun p u hu _ hp => ?_
  conv => cbv
  refine st_load hE cStr hp ?_
  conv => cbv
  refine br (fun g2 => ?_) (fun g2 => ?_)
  ·have g2 : s = u := (scq hE _ _).1 g2
   conv => cbv
   rw [hR]; exact ⟨hx.trans hs'.ext, true, rfl, by simp; rw [g2]; exact m1_ hu⟩
  ·have g2 : s ≠ u := fun e => g2 ((scq hE _ _).2 e)
   conv => cbv
   simp only [ek]
   refine ⟨(k + 1, kj), by simp [Fits, lk], hI _ _ ⟨hs', by simp only; omega, by simp only; omega, ?_⟩, by simp only; omega⟩
   simp only
   rw [g4_, hu, List.mem_append]
   rintro (q | q)
   ·exact hall q
   ·simp at q; exact g2 q
 ·have g : k = 15 := by
   have : ¬ kk < x := by simpa [hE.cmp, cmpR] using g
   omega
  subst g
  rw [g3_ (by decide)] at hall
  conv => cbv
  rw [hR]; exact ⟨hx.trans hs'.ext, false, rfl, by simp [hall]⟩
def ident (s : ByteArray) : Prop := s.size ≠ 0 ∧ s.size ≤ 32 ∧ (∀ h : 0 < s.size, sm (s[0].toNat)) ∧ RunTo wb s 0 s.size ∧ s ∉ words
theorem l2ident_f (s : ByteArray) (hl : s.size ≤ 9223372036854775807) (w : World) : FC Tryz.prog 150 [.string s] w fun v _ => ∃ b : Bool, v = .bool b ∧ (b = true ↔ ident s) := by
 refine FC.intro (cs := []) Tryz.func150 (by kernel_rfl) fun E R hE hr hR => ?_
 have no : ¬ ident s → ∀ w', Ext w w' → R (.bool false) w' := fun h w' hx => by rw [hR]; exact ⟨hx, false, rfl, by simp [h]⟩
 conv => cbv
 refine st_slen hE uStr fun x hx => ?_
 conv => cbv
 refine br (fun g => ?_) (fun g => ?_)
 rotate_left
 ·have g : ¬ 0 < x := by simpa [hE.cmp, cmpR] using g
  conv => cbv
  exact no (fun h => h.1 (by omega)) _ (Ext.refl _)
 have g : 0 < x := by simpa [hE.cmp, cmpR] using g
 conv => cbv
 refine st_slen hE uStr fun x2 hx2 => ?_
 conv => cbv
 refine br (fun g2 => ?_) (fun g2 => ?_)
 rotate_left
 ·have g2 : ¬ x2 ≤ 32 := by simpa [hE.cmp, cmpR] using g2
  conv => cbv
  exact no (fun h => g2 (by have := h.2.1; omega)) _ (Ext.refl _)
 have g2 : x2 ≤ 32 := by simpa [hE.cmp, cmpR] using g2
 conv => cbv
 refine st_byte hE uStr (by omega) (by omega) fun c hc _ _ => ?_
 conv => cbv
 refine st_qb hE (l2letter_q c _) fun b hb w2 hs2 => ?_
 cases b with
 | false =>
  conv => cbv
  exact no (fun h => absurd (hb.2 (by rw [hc]; exact h.2.2.1 (by omega))) (by simp)) _ hs2.ext
 | true =>
 have hb := hb.1 rfl
 obtain ⟨j, hj⟩ := runTo_ex wb s s.size 0 (by omega)
 conv => cbv
 refine st_q hE (l2run_q (ii := 0) rfl hj hl _) fun w3 hs3 => ?_
 have hx3 := (hs2.trans hs3).ext
 obtain ⟨jj, hjj⟩ : ∃ jj : Int, jj = j := ⟨_, rfl⟩
 rw [← hjj]
 conv => cbv
 refine st_slen hE uStr fun x3 hx3' => ?_
 conv => cbv
 refine br (fun g3 => ?_) (fun g3 => ?_)
 rotate_left
 ·have g3 : jj ≠ x3 := by simpa [hE.cmp, cmpR] using g3
  conv => cbv
  exact no (fun h => g3 (by have := hj.uniq h.2.2.2.1; omega)) _ hx3
 have g3 : jj = x3 := by simpa [hE.cmp, cmpR] using g3
 have ej : j = s.size := by omega
 subst ej
 conv => cbv
 refine st_f hr (l2word_f s _) fun v w4 hx4 ⟨b, ev, hb4⟩ => ?_
 subst ev
 cases b with
 | true =>
  conv => cbv
  exact no (fun h => h.2.2.2.2 (hb4.1 rfl)) _ (hx3.trans hx4)
 | false =>
  conv => cbv
  rw [hR]; exact ⟨hx3.trans hx4, true, rfl, by simp only [true_iff]; exact ⟨by omega, by omega, fun _ => by rw [hc] at hb; exact hb, hj, fun q => absurd (hb4.2 q) (by simp)⟩⟩
theorem extract_full {s : ByteArray} {j : Nat} (h : j ≤ s.size) : s.extract 0 j = s ↔ j = s.size := by
 constructor
 ·intro e
  have := congrArg ByteArray.size e
  rw [ByteArray.size_extract] at this; omega
 ·rintro rfl; exact ByteArray.extract_zero_size
theorem cSet : Cel Tryz.prog 272 := ⟨_, Tryz.underlying272, by simp, by simp⟩
theorem isNameToken_f {w : World} (hT : STab w 4 words) (s : ByteArray) (hl : s.size ≤ 9223372036854775807) : QB Tryz.prog 102 [.string s] w (ident s) := by
 refine QB.intro (cs := []) Tryz.func102 (by kernel_rfl) fun w0 hx0 w1 hs E R hE hr hR => ?_
 replace hT := (hT.ext hx0).ext hs.ext
 obtain ⟨bm, es, clock, t1, t2, t3, t4⟩ := hT.ex
 have no : ¬ ident s → ∀ w', Same w0 w' → R (.bool false) w' := fun h w' hx => hR _ _ hx (by simp [h])
 conv => cbv
 refine br (fun g => ?_) (fun g => ?_)
 rotate_left
 ·have g : s.size = 0 := Classical.byContradiction fun q => g ((scn hE _).2 q)
  conv => cbv
  exact no (fun h => h.1 g) _ hs
 have g : s.size ≠ 0 := (scn hE _).1 g
 conv => cbv
 refine st_slen hE uStr fun x2 hx2 => ?_
 conv => cbv
 refine br (fun g2 => ?_) (fun g2 => ?_)
 rotate_left
 ·have g2 : ¬ x2 ≤ 32 := by simpa [hE.cmp, cmpR] using g2
  conv => cbv
  exact no (fun h => g2 (by have := h.2.1; omega)) _ hs
 have g2 : x2 ≤ 32 := by simpa [hE.cmp, cmpR] using g2
 conv => cbv
 refine st_byte hE uStr (by omega) (by omega) fun c hc _ _ => ?_
 conv => cbv
 refine st_qb hE (isSmall_q c _) fun b hb w2 hs2 => ?_
 cases b with
 | false =>
  conv => cbv
  exact no (fun h => absurd (hb.2 (by rw [hc]; exact h.2.2.1 (by omega))) (by simp)) _ (hs.trans hs2)
 | true =>
 have hb := hb.1 rfl
 obtain ⟨j, hj⟩ := runTo_ex wb s s.size 0 (by omega)
 conv => cbv
 refine st_q hE (run_q hj hl _ (fun c w' => wordByte_q c w')) fun w3 hs3 => ?_
 have hx3 := (hs.trans hs2).trans hs3
 obtain ⟨u, hu⟩ : ∃ u, u = s.extract 0 j := ⟨_, rfl⟩
 rw [← hu]
 conv => cbv
 refine br (fun g3 => ?_) (fun g3 => ?_)
 rotate_left
 ·have g3 : u ≠ s := fun e => g3 ((scq hE _ _).2 e)
  conv => cbv
  exact no (fun h => g3 (by rw [hu]; exact (extract_full hj.hi).2 (hj.uniq h.2.2.2.1))) _ hx3
 have g3 : u = s := (scq hE _ _).1 g3
 have ej : j = s.size := (extract_full hj.hi).1 (by rw [← hu]; exact g3)
 subst ej
 have hxx := (hs2.trans hs3).ext
 conv => cbv
 refine st_load hE cSet (hxx.cell t1) ?_
 conv => cbv
 refine st_stab hE Tryz.underlying272 uStr (by kernel_rfl) (hxx.getMap t2) t3 t4 fun b hb4 => ?_
 cases b with
 | true =>
  conv => cbv
  exact no (fun h => h.2.2.2.2 (hb4.1 rfl)) _ hx3
 | false =>
  conv => cbv
  exact hR _ _ hx3 (by simp only [true_iff]; exact ⟨g, by omega, fun _ => by rw [hc] at hb; exact hb, hj, fun q => absurd (hb4.2 q) (by simp)⟩)
abbrev zNd : List Value := [.int .i64 0, .int .i64 0, .string ⟨#[]⟩, .slice none 0 0, .slice none 0 0]
theorem tLNd : Stc Tryz.prog 160 5 zNd := ⟨by kernel_rfl, by kernel_rfl⟩
theorem sLNd : Slc Tryz.prog 22 160 (.agg ⟨zNd⟩) 5 80 := ⟨Tryz.underlying22, by kernel_rfl⟩
theorem cLNs : Cel Tryz.prog 22 := ⟨_, Tryz.underlying22, by simp, by simp⟩
theorem fLNd0 : Fld Tryz.prog 160 0 0 := ⟨by kernel_rfl⟩
theorem fLNd1 : Fld Tryz.prog 160 1 1 := ⟨by kernel_rfl⟩
theorem fLNd2 : Fld Tryz.prog 160 2 2 := ⟨by kernel_rfl⟩
theorem fLNd3 : Fld Tryz.prog 160 3 3 := ⟨by kernel_rfl⟩
theorem fLNd4 : Fld Tryz.prog 160 4 4 := ⟨by kernel_rfl⟩
theorem tINd : Stc Tryz.prog 90 5 zNd := ⟨by kernel_rfl, by kernel_rfl⟩
theorem sINd : Slc Tryz.prog 27 90 (.agg ⟨zNd⟩) 5 80 := ⟨Tryz.underlying27, by kernel_rfl⟩
theorem cINs : Cel Tryz.prog 27 := ⟨_, Tryz.underlying27, by simp, by simp⟩
theorem zINs : (Tryz.prog.info? 27).map (·.size) = some 1 := by kernel_rfl
theorem fINd0 : Fld Tryz.prog 90 0 0 := ⟨by kernel_rfl⟩
theorem fINd1 : Fld Tryz.prog 90 1 1 := ⟨by kernel_rfl⟩
theorem fINd2 : Fld Tryz.prog 90 2 2 := ⟨by kernel_rfl⟩
theorem fINd3 : Fld Tryz.prog 90 3 3 := ⟨by kernel_rfl⟩
theorem fINd4 : Fld Tryz.prog 90 4 4 := ⟨by kernel_rfl⟩
structure PN where
 o : Int
 z : Int
 tx : ByteArray
 xs : List ByteArray
 ks : List Int
structure VN where
 p : PN
 A0 : Option Addr
 m0 : Nat
 c0 : Nat
 A1 : Option Addr
 m1 : Nat
 c1 : Nat
def cN (v : VN) : List Value := [.int .i64 v.p.o, .int .i64 v.p.z, .string v.p.tx, .slice v.A0 v.m0 v.c0, .slice v.A1 v.m1 v.c1]
theorem cN_len (v : VN) : (cN v).length = 5 := rfl
structure OKN (w : World) (v : VN) : Prop where
 s_tx : v.p.tx.size ≤ 9223372036854775807
 r_xs : Strs w v.A0 v.m0 v.c0 v.p.xs
 r_ks : Ints w v.A1 v.m1 v.c1 v.p.ks
theorem OKN.ext {w w' : World} {v : VN} (h : OKN w v) (hx : Ext w w') : OKN w' v := ⟨h.s_tx, h.r_xs.ext hx, h.r_ks.ext hx⟩
def RNs (w : World) (A : Option Addr) (n : Nat) (pv : List PN) : Prop := ∃ vs : List VN, vs.map (·.p) = pv ∧ vs.length = n ∧ Cells w A (vs.flatMap cN) ∧ ∀ v ∈ vs, OKN w v
theorem RNs.ext {w w' : World} {A : Option Addr} {n : Nat} {pv : List PN} (h : RNs w A n pv) (hx : Ext w w') : RNs w' A n pv := by
 obtain ⟨vs, h1, h2, h3, h4⟩ := h
 exact ⟨vs, h1, h2, h3.ext hx, fun v hv => (h4 v hv).ext hx⟩
theorem RNs.len {w : World} {A : Option Addr} {n : Nat} {pv : List PN} (h : RNs w A n pv) : pv.length = n := by
 obtain ⟨vs, h1, h2, _⟩ := h
 rw [← h1, ← h2]; simp
theorem RNs.get {w : World} {A : Option Addr} {n : Nat} {pv : List PN} (h : RNs w A n pv) {i : Nat} (hi : i < n) : ∃ (a : Addr) (v : VN), A = some a ∧ pv[i]? = some v.p ∧ (∀ j u, (cN v)[j]? = some u → w.cell? ((a.add (i * 5)).add j) = some u) ∧ OKN w v := by
 obtain ⟨vs, h1, h2, h3, h4⟩ := h
 obtain ⟨v, hv⟩ : ∃ v, vs[i]? = some v := ⟨_, g2_ (by omega)⟩
 obtain ⟨a, ha, hc⟩ := fl_at cN_len h3 (by omega) hv
 exact ⟨a, v, ha, by rw [← h1]; simp [hv], hc, h4 _ (m1_ hv)⟩
def wtN (p : PN) : Nat := p.tx.size + bulk p.xs + p.ks.length
def wtNs : List PN → Nat
 | [] => 0
 | p :: l => 1 + wtN p + wtNs l
theorem wtNs_app : ∀ (l r : List PN), wtNs (l ++ r) = wtNs l + wtNs r
 | [], r => by simp [wtNs]
 | p :: l, r => by rw [List.cons_append, wtNs, wtNs, wtNs_app l r]; omega
theorem wtNs_mem : ∀ {l : List PN} {p : PN}, p ∈ l → 1 + wtN p ≤ wtNs l
 | q :: l, p, h => by
  rw [wtNs]
  rcases List.mem_cons.1 h with rfl | h
  ·omega
  ·have := wtNs_mem h; omega
theorem wtNs_len : ∀ l : List PN, l.length ≤ wtNs l
 | [] => by simp
 | p :: l => by have := wtNs_len l; rw [wtNs, a3_]; omega
abbrev zSd : List Value := [.int .i64 0, .string ⟨#[]⟩, .int .i64 0, .int .i64 0]
theorem tLSd : Stc Tryz.prog 162 4 zSd := ⟨by kernel_rfl, by kernel_rfl⟩
theorem sLSd : Slc Tryz.prog 23 162 (.agg ⟨zSd⟩) 4 40 := ⟨Tryz.underlying23, by kernel_rfl⟩
theorem cLSs : Cel Tryz.prog 23 := ⟨_, Tryz.underlying23, by simp, by simp⟩
theorem fLSd0 : Fld Tryz.prog 162 0 0 := ⟨by kernel_rfl⟩
theorem fLSd1 : Fld Tryz.prog 162 1 1 := ⟨by kernel_rfl⟩
theorem fLSd2 : Fld Tryz.prog 162 2 2 := ⟨by kernel_rfl⟩
theorem fLSd3 : Fld Tryz.prog 162 3 3 := ⟨by kernel_rfl⟩
theorem tISd : Stc Tryz.prog 155 4 zSd := ⟨by kernel_rfl, by kernel_rfl⟩
theorem sISd : Slc Tryz.prog 28 155 (.agg ⟨zSd⟩) 4 40 := ⟨Tryz.underlying28, by kernel_rfl⟩
theorem cISs : Cel Tryz.prog 28 := ⟨_, Tryz.underlying28, by simp, by simp⟩
theorem zISs : (Tryz.prog.info? 28).map (·.size) = some 1 := by kernel_rfl
theorem fISd0 : Fld Tryz.prog 155 0 0 := ⟨by kernel_rfl⟩
theorem fISd1 : Fld Tryz.prog 155 1 1 := ⟨by kernel_rfl⟩
theorem fISd2 : Fld Tryz.prog 155 2 2 := ⟨by kernel_rfl⟩
theorem fISd3 : Fld Tryz.prog 155 3 3 := ⟨by kernel_rfl⟩
structure PS where
 k : Int
 nm : ByteArray
 c : Int
 g : Int
abbrev VS := PS
def cS (v : VS) : List Value := [.int .i64 v.k, .string v.nm, .int .i64 v.c, .int .i64 v.g]
theorem cS_len (v : VS) : (cS v).length = 4 := rfl
structure OKS (w : World) (v : VS) : Prop where
 s_nm : v.nm.size ≤ 9223372036854775807
theorem OKS.ext {w w' : World} {v : VS} (h : OKS w v) (hx : Ext w w') : OKS w' v := ⟨h.s_nm⟩
def RSs (w : World) (A : Option Addr) (n : Nat) (pv : List PS) : Prop := ∃ vs : List VS, vs = pv ∧ vs.length = n ∧ Cells w A (vs.flatMap cS) ∧ ∀ v ∈ vs, OKS w v
theorem RSs.ext {w w' : World} {A : Option Addr} {n : Nat} {pv : List PS} (h : RSs w A n pv) (hx : Ext w w') : RSs w' A n pv := by
 obtain ⟨vs, h1, h2, h3, h4⟩ := h
 exact ⟨vs, h1, h2, h3.ext hx, fun v hv => (h4 v hv).ext hx⟩
theorem RSs.len {w : World} {A : Option Addr} {n : Nat} {pv : List PS} (h : RSs w A n pv) : pv.length = n := by
 obtain ⟨vs, h1, h2, _⟩ := h
 rw [← h1, ← h2]
theorem RSs.get {w : World} {A : Option Addr} {n : Nat} {pv : List PS} (h : RSs w A n pv) {i : Nat} (hi : i < n) : ∃ (a : Addr) (v : VS), A = some a ∧ pv[i]? = some v ∧ (∀ j u, (cS v)[j]? = some u → w.cell? ((a.add (i * 4)).add j) = some u) ∧ OKS w v := by
 obtain ⟨vs, h1, h2, h3, h4⟩ := h
 obtain ⟨v, hv⟩ : ∃ v, vs[i]? = some v := ⟨_, g2_ (by omega)⟩
 obtain ⟨a, ha, hc⟩ := fl_at cS_len h3 (by omega) hv
 exact ⟨a, v, ha, by rw [← h1]; exact hv, hc, h4 _ (m1_ hv)⟩
def wtS (p : PS) : Nat := p.nm.size
def wtSs : List PS → Nat
 | [] => 0
 | p :: l => 1 + wtS p + wtSs l
theorem wtSs_app : ∀ (l r : List PS), wtSs (l ++ r) = wtSs l + wtSs r
 | [], r => by simp [wtSs]
 | p :: l, r => by rw [List.cons_append, wtSs, wtSs, wtSs_app l r]; omega
theorem wtSs_len : ∀ l : List PS, l.length ≤ wtSs l
 | [] => by simp
 | p :: l => by have := wtSs_len l; rw [wtSs, a3_]; omega
abbrev polV (A : Option Addr) (n c : Nat) (A2 : Option Addr) (n2 c2 : Nat) : Value := .agg ⟨[.slice A n c, .slice A2 n2 c2]⟩
structure PolR (w : World) (A : Option Addr) (n : Nat) (A2 : Option Addr) (n2 : Nat) (nv : List PN) (sv : List PS) : Prop where
 nodes : RNs w A n nv
 stmts : RSs w A2 n2 sv
theorem PolR.ext {w w' : World} {A A2 : Option Addr} {n n2 : Nat} {nv : List PN} {sv : List PS} (h : PolR w A n A2 n2 nv sv) (hx : Ext w w') : PolR w' A n A2 n2 nv sv := ⟨h.1.ext hx, h.2.ext hx⟩
set_option maxRecDepth 100000
theorem list5m {α : Type} : ∀ {l : List α}, l.length = 5 → ∃ a b c d e, l = [a, b, c, d, e]
 | [a, b, c, d, e], _ => ⟨a, b, c, d, e, rfl⟩
theorem fm_map {α β : Type} (f : α → β) (l : List α) : (l.flatMap fun x => [f x]) = l.map f := by
 induction l with
 | nil => rfl
 | cons a l ih => rw [List.flatMap_cons, ih]; rfl
theorem res_words {w : World} {v : Nat} (h : STab w v resL) : STab w v words := stab_perm h (by decide +kernel) (by decide +kernel)
section
variable {H : Type} {enc : TypeId × Value → H} {w : World} {base : Nat} {held : Bool} {fuel : Nat} {x : DataW H × List MemPlace}
theorem ints_of_cellsM {cs : List Value} (h : DataW.trod enc Tryz.prog w base (fun _ => true) held fuel 29 cs = some x) : ∃ A n c zs, cs = [.slice A n c] ∧ Ints w A n c zs := by
 obtain ⟨A, n, c, zs, g, e1, e2, e3, e4, _⟩ := open_rowsM (f := fun z : Int => [Value.int .i64 z]) (k := 1) (Q := fun _ => True) Tryz.underlying29 (show Tryz.prog.cellsOf 3 = 1 by kernel_rfl) (by omega) (fun n cs x h => by
  obtain ⟨z, g, _⟩ := DataW.trod_int uInt h
  exact ⟨z, g, rfl, trivial⟩) h
 rw [fm_map] at e4
 exact ⟨A, n, c, zs, g, e1, e3, e2, e4⟩
theorem el_stmt (n : Nat) (cs : List Value) (x : DataW H × List MemPlace) (h : DataW.trod enc Tryz.prog w base (fun _ => true) held n 162 cs = some x) : ∃ v : VS, cs = cS v ∧ (cS v).length = 4 ∧ OKS w v := by
 obtain ⟨xs, m, _, _, hl, hlen, hfs⟩ := DataW.trod_struct Tryz.underlying162 h
 rw [show Tryz.prog.cellsOf 162 = 4 by kernel_rfl] at hl
 obtain ⟨c0, c1, c2, c3, rfl⟩ := list4m hl
 obtain ⟨x0, h0⟩ := fldAtM hlen hfs 0 _ rfl
 obtain ⟨x1, h1⟩ := fldAtM hlen hfs 1 _ rfl
 obtain ⟨x2, h2⟩ := fldAtM hlen hfs 2 _ rfl
 obtain ⟨x3, h3⟩ := fldAtM hlen hfs 3 _ rfl
 obtain ⟨z0, g0, _⟩ := DataW.trod_int uInt h0
 obtain ⟨s1, g1, _, k1⟩ := DataW.trod_string uStr h1
 obtain ⟨z2, g2, _⟩ := DataW.trod_int uInt h2
 obtain ⟨z3, g3, _⟩ := DataW.trod_int uInt h3
 cases g0; cases g1; cases g2; cases g3
 unfold maxLen at k1
 exact ⟨⟨z0, s1, z2, z3⟩, rfl, rfl, ⟨by simp only; omega⟩⟩
theorem stmts_of_cellsM {cs : List Value} (h : DataW.trod enc Tryz.prog w base (fun _ => true) held fuel 23 cs = some x) : ∃ A n c sv, cs = [.slice A n c] ∧ RSs w A n sv ∧ n ≤ 9223372036854775807 := by
 obtain ⟨A, n, c, vs, g0, e1, e2, e3, e4, e5⟩ := open_rowsM (f := cS) Tryz.underlying23 (show Tryz.prog.cellsOf 162 = 4 by kernel_rfl) (by omega) el_stmt h
 exact ⟨A, n, c, vs, g0, ⟨vs, rfl, e1, e4, e5⟩, e3⟩
end
set_option maxRecDepth 100000
section
variable {H : Type} {enc : TypeId × Value → H} {w : World} {base : Nat} {held : Bool} {fuel : Nat} {x : DataW H × List MemPlace}
theorem el_nodeF (n : Nat) (cs : List Value) (x : DataW H × List MemPlace) (h : DataW.trod enc Tryz.prog w base (fun _ => true) held n 160 cs = some x) : ∃ v : VN, cs = cN v ∧ (cN v).length = 5 ∧ (OKN w v ∧ fits v.p.z) := by
 obtain ⟨xs, m, _, _, hl, hlen, hfs⟩ := DataW.trod_struct Tryz.underlying160 h
 rw [show Tryz.prog.cellsOf 160 = 5 by kernel_rfl] at hl
 obtain ⟨c0, c1, c2, c3, c4, rfl⟩ := list5m hl
 obtain ⟨x0, h0⟩ := fldAtM hlen hfs 0 _ rfl
 obtain ⟨x1, h1⟩ := fldAtM hlen hfs 1 _ rfl
 obtain ⟨x2, h2⟩ := fldAtM hlen hfs 2 _ rfl
 obtain ⟨x3, h3⟩ := fldAtM hlen hfs 3 _ rfl
 obtain ⟨x4, h4⟩ := fldAtM hlen hfs 4 _ rfl
 obtain ⟨z0, g0, _⟩ := DataW.trod_int uInt h0
 obtain ⟨z1, g1, _, w1⟩ := DataW.trod_int uI64 h1
 obtain ⟨s2, g2, _, k2⟩ := DataW.trod_string uStr h2
 obtain ⟨A3, n3, d3, q3, g3, k3⟩ := strs_of_cellsM h3
 obtain ⟨A4, n4, d4, q4, g4, k4⟩ := ints_of_cellsM h4
 cases g0; cases g1; cases g2; cases g3; cases g4
 unfold maxLen at k2
 exact ⟨⟨⟨z0, z1, s2, q3, q4⟩, A3, n3, d3, A4, n4, d4⟩, rfl, rfl, ⟨by simp only; omega, k3, k4⟩, by simp only [Lit.wf, Bool.and_eq_true, decide_eq_true_eq] at w1; exact w1⟩
theorem nodes_of_cellsF {cs : List Value} (h : DataW.trod enc Tryz.prog w base (fun _ => true) held fuel 22 cs = some x) : ∃ A n c nv, cs = [.slice A n c] ∧ RNs w A n nv ∧ n ≤ 9223372036854775807 ∧ ∀ p ∈ nv, fits p.z := by
 obtain ⟨A, n, c, vs, g0, e1, e2, e3, e4, e5⟩ := open_rowsM (f := cN) Tryz.underlying22 (show Tryz.prog.cellsOf 160 = 5 by kernel_rfl) (by omega) el_nodeF h
 exact ⟨A, n, c, vs.map (·.p), g0, ⟨vs, rfl, e1, e4, fun v hv => (e5 v hv).1⟩, e3, fun p hp => by obtain ⟨v, hv, rfl⟩ := List.mem_map.1 hp; exact (e5 v hv).2⟩
theorem open_ltypedF {v : Value} {d : DataW H} {ps : List MemPlace} {r : Reach} {b0 : Nat} (hv : Value.okWide Tryz.prog w r b0 74 v) (h : DataW.Trod enc Tryz.prog w base (fun _ => true) held 74 v d ps) :
  ∃ A n c A2 n2 c2 A3 n3 c3 nv sv tyl, v = .agg ⟨[.slice A n c, .slice A2 n2 c2, .slice A3 n3 c3]⟩ ∧ (PolR w A n A2 n2 nv sv ∧ Ints w A3 n3 c3 tyl) ∧ n ≤ 9223372036854775807 ∧ n2 ≤ 9223372036854775807 ∧ ∀ p ∈ nv, fits p.z := by
 obtain ⟨cs, rfl, hl⟩ := okWide_struct Tryz.underlying74 hv
 obtain ⟨fuel, hf⟩ := h
 obtain ⟨xs, m, _, _, _, hlen, hfs⟩ := DataW.trod_struct Tryz.underlying74 hf
 rw [show Tryz.prog.cellsOf 74 = 3 by kernel_rfl] at hl
 obtain ⟨l⟩ := cs
 obtain ⟨c0, c1, c2, rfl⟩ := list3m (l := l) (by simpa using hl)
 obtain ⟨x0, h0⟩ := fldAtM hlen hfs 0 _ rfl
 obtain ⟨x1, h1⟩ := fldAtM hlen hfs 1 _ rfl
 obtain ⟨x2, h2⟩ := fldAtM hlen hfs 2 _ rfl
 obtain ⟨A, n, c, nv, g0, k0, e0, ef⟩ := nodes_of_cellsF h0
 obtain ⟨A2, n2, c2, sv, g1, k1, e1⟩ := stmts_of_cellsM h1
 obtain ⟨A3, n3, c3, zs, g2, k2⟩ := ints_of_cellsM h2
 cases g0; cases g1; cases g2
 exact ⟨A, n, c, A2, n2, c2, A3, n3, c3, nv, sv, zs, rfl, ⟨⟨k0, k1⟩, k2⟩, e0, e1, ef⟩
end
open Go.ChangeShapes Go.WideShapes
set_option maxRecDepth 100000 in
theorem jf_FnExactDecide : joinedFacts Tryz.pinned.checked.prog 5 Tryz.f5 Rows.fnExactDecideSpec Rows.fnExactDecideRow = true := by
 unfold joinedFacts
 simp only [Bool.and_eq_true]
 repeat' apply And.intro
 all_goals (as_aux_lemma => kernel_rfl)
open Go.Eng Go.Extern
def Sent (w : World) (a : Addr) : Prop := ∃ c t, w.heap[a.block]? = some (.cells c t (0, 0))
theorem Sent.ext {w w' : World} {a : Addr} (h : Sent w a) (hx : Ext w w') : Sent w' a := by
 obtain ⟨c, t, h⟩ := h
 exact ⟨c, t, by rw [hx.block _ (Array.getElem?_eq_some_iff.1 h).1, h]⟩
theorem err_ptr : ((Tryz.prog.underlying 391).bind fun d => match d with
  | .pointer te => (Tryz.prog.info? te).map fun j => Nat.beq j.size 0
  | _ => none) = some false := by kernel_rfl
theorem err_cmp : (Tryz.prog.info? 391).map (·.comparable) = some true := by kernel_rfl
section
variable {E : Sym} {w : World} {K : Value → World → Prop} {d : Option Tmp} {ty : TypeId} {pos : String} {aft : Array Edge} {g : Option (Nat × Bool)}
theorem st_err_nil1 {bq : Bool} (hE : EngB bq Tryz.prog E) {t' : TypeId} {a : Addr} {x : Operand} {v : Value} (hk : K (.bool false) w) : E.stop ⟨d, .binOp .eql 99 x (.const v) t', ty, pos, aft, g⟩ [.iface 391 (.pointer (some a)), .nilIface] w K := by
 obtain ⟨ms, hu⟩ := uErr
 refine hE.det (v := .bool false) (fun w1 hs ρ hρ => ?_) hk
 simp only [opnds, b2_, b3_, b1_, and_true] at hρ
 have h : ∀ d : Nat, (Op.equalIn (d + 1) 99 (.iface 391 (.pointer (some a))) .nilIface).run Tryz.prog w1 = .ok false w1 := fun d => by simp [Op.equalIn, run_underlying hu]
 have h2 : (binOp .eql 99 (.iface 391 (.pointer (some a))) .nilIface).run Tryz.prog w1 = .ok (.bool false) w1 := by
  simp only [binOp]; simp [Op.equal, Op.maxDepth, h 9999]
 simp [execOp, hρ.1, hρ.2, eqGuard, h2]
theorem st_err_eql {bq : Bool} (hE : EngB bq Tryz.prog E) {t' : TypeId} {x y : Operand} {a b : Addr} (ha : Sent w a) (hb : Sent w b) (hk : ∀ v : Bool, (v = true ↔ a = b) → K (.bool v) w) : E.stop ⟨d, .binOp .eql 99 x y t', ty, pos, aft, g⟩ [.iface 391 (.pointer (some a)), .iface 391 (.pointer (some b))] w K := by
 obtain ⟨ms, hu⟩ := uErr
 obtain ⟨dd, h1, h2⟩ := Option.bind_eq_some_iff.1 err_ptr
 obtain ⟨i, hi, hc⟩ := Option.map_eq_some_iff.1 err_cmp
 split at h2
 ·rename_i te
  obtain ⟨j, hj, hz⟩ := Option.map_eq_some_iff.1 h2
  have hz : ¬ j.size = 0 := by intro e; rw [e] at hz; simp at hz
  by_cases e : a = b
  ·subst e
   refine hE.det (v := .bool true) (fun w1 hs ρ hρ => ?_) (hk _ (by simp))
   simp only [opnds, b2_, b3_, b1_, and_true] at hρ
   simp [execOp, hρ.1, hρ.2, eqGuard, run_eql_iface_ptr_same w1 a hu h1 hi hc hj]
  ·refine hE.det (v := .bool false) (fun w1 hs ρ hρ => ?_) (hk _ (by simp [e]))
   simp only [opnds, b2_, b3_, b1_, and_true] at hρ
   obtain ⟨ca, ta, ha⟩ := ha.ext hs
   obtain ⟨cb, tb, hb⟩ := hb.ext hs
   simp [execOp, hρ.1, hρ.2, eqGuard, run_eql_iface_ptr_other w1 hu h1 hi hc hj hz e ha hb]
 ·cases h2
theorem st_lacks {bq : Bool} (hE : EngB bq Tryz.prog E) {xt t : TypeId} {x : Operand} {v : Value} (hr : ∀ w, (Instr.typeAssert (.iface 391 v) xt t true).run Tryz.prog w = .ok (.tuple #[.nilIface, .bool false]) w) (hk : K (.tuple ⟨[.nilIface, .bool false]⟩) w) : E.stop ⟨d, .typeAssert x xt t true, ty, pos, aft, g⟩ [.iface 391 v] w K := by
 refine hE.det (v := .tuple #[.nilIface, .bool false]) (fun w1 hs ρ hρ => ?_) hk
 simp only [opnds, b2_, b3_, b1_, and_true] at hρ
 simp [execOp, hρ, hr w1]
end
theorem noIs (v : Value) (xT : TypeId) (w : World) : (Instr.typeAssert (.iface 391 v) xT 373 true).run Tryz.prog w = .ok (.tuple #[.nilIface, .bool false]) w := run_typeAssert_lacksB Tryz.underlying373 (by kernel_rfl) (by kernel_rfl) v xT w
theorem noUnwrap (v : Value) (xT : TypeId) (w : World) : (Instr.typeAssert (.iface 391 v) xT 287 true).run Tryz.prog w = .ok (.tuple #[.nilIface, .bool false]) w := run_typeAssert_lacksB Tryz.underlying287 (by kernel_rfl) (by kernel_rfl) v xT w
theorem noUnwraps (v : Value) (xT : TypeId) (w : World) : (Instr.typeAssert (.iface 391 v) xT 289 true).run Tryz.prog w = .ok (.tuple #[.nilIface, .bool false]) w := run_typeAssert_lacksB Tryz.underlying289 (by kernel_rfl) (by kernel_rfl) v xT w
theorem rT (v : Value) (w : World) : (Extern.ReflectliteType.typeOf #[.iface 391 v]).run Tryz.prog w = .ok (.iface 279 (.agg #[.pointer (some ⟨Tryz.prog.globals.size, 391, none⟩)])) w := by kernel_rfl
theorem rC (w : World) : ((Extern.ReflectliteType.method fun t => do Go.Extern.Rtype.noPackHeld "Comparable" t; pure (.bool (← typeInfo t).comparable)) #[.agg #[.pointer (some ⟨Tryz.prog.globals.size, 391, none⟩)]]).run Tryz.prog w = .ok (.bool true) w := by kernel_rfl
theorem rM (v : Value) (w : World) : (Go.method (Tryz.prog.types.size + Made.depth) 279 v "Comparable").run Tryz.prog w = .ok (307, v) w := by kernel_rfl
theorem typ : ∃ hv, (∀ v w, (callFunc 162 #[.iface 391 v]).run Tryz.prog w = .ok (.value (.iface 279 hv)) w) ∧
  ∀ w, (callMethod (.iface 279 hv) "Comparable" #[]).run Tryz.prog w = .ok (.value (.bool true)) w := by
 have h8 := @run_callFunc_extern Tryz.prog 162 _ Extern.ReflectliteType.typeOf Tryz.func162 (by kernel_rfl) (by kernel_rfl) (by kernel_rfl) (by kernel_rfl)
 have h32 := @run_callFunc_extern Tryz.prog 307 _ (Extern.ReflectliteType.method fun t => do Go.Extern.Rtype.noPackHeld "Comparable" t; pure (.bool (← typeInfo t).comparable)) Tryz.func307 (by kernel_rfl) (by kernel_rfl) (by kernel_rfl) (by kernel_rfl)
 refine ⟨.agg #[.pointer (some ⟨Tryz.prog.globals.size, 391, none⟩)], fun v w => ?_, fun w => ?_⟩
 ·rw [h8, rT]; rfl
 ·have hm := rM (.agg #[.pointer (some ⟨Tryz.prog.globals.size, 391, none⟩)]) w
  simp only [callMethod, Sem.run_bind, run_program, Result.andThen_ok, hm]
  show (callFunc _ (#[_] ++ #[])).run _ _ = _
  rw [h32]
  have hc := rC w
  erw [hc]; rfl
section
variable {E : Sym} {w : World} {K : Value → World → Prop} {d : Option Tmp} {ty : TypeId} {pos : String} {aft : Array Edge} {g : Option (Nat × Bool)}
theorem st_typeof {bq : Bool} (hE : EngB bq Tryz.prog E) {hv : Value} (h : ∀ v w, (callFunc 162 #[.iface 391 v]).run Tryz.prog w = .ok (.value (.iface 279 hv)) w) {fo : Operand} {ao : Array Operand} {at_ : Array TypeId} {v : Value} (hk : K (.iface 279 hv) w) :
  E.stop ⟨d, .call ⟨.value fo, ao, at_⟩, ty, pos, aft, g⟩ [.func (.func 162) ⟨[]⟩ ⟨[]⟩, .iface 391 v] w K := by
 refine hE.det (v := .iface 279 hv) (fun w1 hs ρ hρ => ?_) hk
 simp only [opnds, List.cons_append, a2_, b2_, b1_] at hρ
 have h3 := map_of (ao := ao) hρ.2
 simp [execOp, resolve, hρ.1, h3, Deferred.ofValue, invoke, h]
theorem st_comp {bq : Bool} (hE : EngB bq Tryz.prog E) {hv : Value} (h : ∀ w, (callMethod (.iface 279 hv) "Comparable" #[]).run Tryz.prog w = .ok (.value (.bool true)) w) {x : Operand} {at_ : Array TypeId} (hk : K (.bool true) w) :
  E.stop ⟨d, .call ⟨.invoke x "Comparable", ⟨[]⟩, at_⟩, ty, pos, aft, g⟩ [.iface 279 hv] w K := by
 refine hE.det (v := .bool true) (fun w1 hs ρ hρ => ?_) hk
 simp only [opnds, a7_, b2_, b3_, b1_, and_true] at hρ
 simp [execOp, resolve, hρ, invoke, h]
end
structure Errs (w : World) (z o v : Addr) : Prop where
 cz : w.cell? ⟨2, 0, none⟩ = some (.iface 391 (.pointer (some z)))
 co : w.cell? ⟨1, 0, none⟩ = some (.iface 391 (.pointer (some o)))
 cv : w.cell? ⟨3, 0, none⟩ = some (.iface 391 (.pointer (some v)))
 sz : Sent w z
 so : Sent w o
 sv : Sent w v
 zo : z ≠ o
 zv : z ≠ v
 ov : o ≠ v
theorem Errs.ext {w w' : World} {z o v : Addr} (h : Errs w z o v) (hx : Ext w w') : Errs w' z o v :=
 ⟨hx.cell h.cz, hx.cell h.co, hx.cell h.cv, h.sz.ext hx, h.so.ext hx, h.sv.ext hx, h.zo, h.zv, h.ov⟩
theorem cErr : Cel Tryz.prog 99 := by
 obtain ⟨ms, h⟩ := uErr
 exact ⟨_, h, by simp, by simp⟩
end Go.Proofs.YtgnjkdkedjljjaaGreatDoor
namespace Go.Eng
set_option linter.unusedVariables false
set_option linter.unusedSimpArgs false
structure IMap (B : Nat) (w : World) (bm : Nat) (f : List (ByteArray × Value)) : Prop where
 lo : B ≤ bm
 ex : ∃ es clock, w.heap[bm]? = some (.map es clock) ∧ es.toList.map (fun e => (e.key, e.val)) = f.map (fun q => (Value.string q.1, q.2))
def mget : List (ByteArray × Value) → ByteArray → Option Value
 | [], _ => none
 | q :: f, k => if q.1 = k then some q.2 else mget f k
abbrev mb (bm : Nat) : Option Addr := some ⟨bm, 0, none⟩
theorem mb_blk (bm : Nat) : blk (mb bm) = some bm := rfl
theorem IMap.hi {B : Nat} {w : World} {bm : Nat} {f : List (ByteArray × Value)} (h : IMap B w bm f) : bm < w.heap.size := by
 obtain ⟨es, clock, h1, _⟩ := h.ex
 exact (Array.getElem?_eq_some_iff.1 h1).1
theorem IMap.bel {B : Nat} {w w' : World} {bm : Nat} {f : List (ByteArray × Value)} (h : IMap B w bm f) (hx : Ext w w') : IMap B w' bm f := by
 obtain ⟨es, clock, h1, h2⟩ := h.ex
 exact ⟨h.lo, es, clock, hx.getMap h1, h2⟩
theorem IMap.mono {B B' : Nat} {w : World} {bm : Nat} {f : List (ByteArray × Value)} (h : IMap B w bm f) (hB : B' ≤ B) : IMap B' w bm f := ⟨n2_ hB h.lo, h.ex⟩
theorem IMap.wr {B : Nat} {w w' : World} {bm : Nat} {f : List (ByteArray × Value)} {A : Option Addr} (h : IMap B w bm f) (hw : Wr A w w') (ha : blk A ≠ some bm) : IMap B w' bm f := by
 obtain ⟨es, clock, h1, h2⟩ := h.ex
 exact ⟨h.lo, es, clock, (hw.block bm h.hi (Ne.symm ha)).trans h1, h2⟩
theorem find_im (k : ByteArray) : ∀ (es : List MapEntry) (f : List (ByteArray × Value)) (i : Nat), es.map (fun e => (e.key, e.val)) = f.map (fun q => (Value.string q.1, q.2)) → ∃ r, Instr.findNow .string (.string k) es i = some r ∧ r.map (·.2) = mget f k
 | [], [], i, _ => ⟨none, rfl, rfl⟩
 | e :: es, [], i, h => by cases h
 | [], q :: f, i, h => by cases h
 | e :: es, q :: f, i, h => by
  simp only [b2_, b1_, Prod.mk.injEq] at h
  obtain ⟨⟨h1, h2⟩, h3⟩ := h
  by_cases hq : k = q.1
  ·refine ⟨some (i, e.val), by simp [Instr.findNow, Instr.sameNow, h1, (MapKept.bytes_beq k q.1).2 hq], ?_⟩
   simp [mget, hq, h2]
  ·obtain ⟨r, hr, hr2⟩ := find_im k es f (i + 1) h3
   have hb : (k == q.1) = false := by rw [Bool.eq_false_iff]; exact fun h => hq ((MapKept.bytes_beq k q.1).1 h)
   exact ⟨r, by simp [Instr.findNow, Instr.sameNow, h1, hb, hr], by rw [hr2, mget, if_neg (fun z => hq z.symm)]⟩
theorem mget_append {f g : List (ByteArray × Value)} {k : ByteArray} : mget (f ++ g) k = match mget f k with | some v => some v | none => mget g k := by
 induction f with
 | nil => rfl
 | cons q f ih => rw [List.cons_append, mget, mget]; split; rfl; exact ih
section
variable {P : Program} {E : Sym} {n : Nat} {Pn : List PanicEntry → World → Prop} {w : World} {K : Value → World → Prop} {d : Option Tmp} {ty : TypeId} {pos : String} {aft : Array Edge} {g : Option (Nat × Bool)}
theorem st_imget {bq : Bool} (hE : EngB bq P E) {t kt et : TypeId} (ht : P.underlying t = some (.map kt et)) (hkt : P.underlying kt = some .string) (hz : (P.info? et).map (·.zero) = some (some .nilIface)) {B bm : Nat} {f : List (ByteArray × Value)} (h : IMap B w bm f) {k : ByteArray} {x y : Operand}
  (hk : K ((mget f k).getD .nilIface) w) : E.stop ⟨d, .lookup t x y false, ty, pos, aft, g⟩ [.map (some bm), .string k] w K := by
 obtain ⟨i0, hi, hz⟩ := Option.map_eq_some_iff.1 hz
 obtain ⟨es, clock, hb, hes⟩ := h.ex
 obtain ⟨r, hr, hr2⟩ := find_im k es.toList f 0 hes
 have hck0 : ∀ (q : Nat) (w1 : World), (Instr.checkKey es.isEmpty (q + 1) kt (.string k)).run P w1 = .ok () w1 := fun q w1 => by simp [Instr.checkKey, run_underlying hkt]
 have hck : ∀ w1 : World, (Instr.checkKey es.isEmpty 10000 kt (.string k)).run P w1 = .ok () w1 := hck0 9999
 refine hE.det (v := (mget f k).getD .nilIface) (fun w1 hx ρ hρ => ?_) hk
 simp only [opnds, b2_, b3_, b1_, and_true] at hρ
 have hb1 : w1.heap[bm]? = some (.map es clock) := hx.getMap hb
 have hg := MapKept.run_getObj_map (P := P) hb1
 rw [← hr2]
 cases r with
 | none => simp [execOp, hρ.1, hρ.2, Instr.lookup, run_underlying ht, hg, hck, Instr.findKey, run_underlying hkt, hr, zeroValue, typeInfo, hi, hz]
 | some r => simp [execOp, hρ.1, hρ.2, Instr.lookup, run_underlying ht, hg, hck, Instr.findKey, run_underlying hkt, hr]
theorem st_imgot {bq : Bool} (hE : EngB bq P E) {t kt et : TypeId} (ht : P.underlying t = some (.map kt et)) (hkt : P.underlying kt = some .string) (hz : (P.info? et).map (·.zero) = some (some .nilIface)) {B bm : Nat} {f : List (ByteArray × Value)} (h : IMap B w bm f) {k : ByteArray} {x y : Operand}
  (hk : K (.tuple ⟨[(mget f k).getD .nilIface, .bool (mget f k).isSome]⟩) w) : E.stop ⟨d, .lookup t x y true, ty, pos, aft, g⟩ [.map (some bm), .string k] w K := by
 obtain ⟨i0, hi, hz⟩ := Option.map_eq_some_iff.1 hz
 obtain ⟨es, clock, hb, hes⟩ := h.ex
 obtain ⟨r, hr, hr2⟩ := find_im k es.toList f 0 hes
 have hck0 : ∀ (q : Nat) (w1 : World), (Instr.checkKey es.isEmpty (q + 1) kt (.string k)).run P w1 = .ok () w1 := fun q w1 => by simp [Instr.checkKey, run_underlying hkt]
 have hck : ∀ w1 : World, (Instr.checkKey es.isEmpty 10000 kt (.string k)).run P w1 = .ok () w1 := hck0 9999
 refine hE.det (v := .tuple ⟨[(mget f k).getD .nilIface, .bool (mget f k).isSome]⟩) (fun w1 hx ρ hρ => ?_) hk
 simp only [opnds, b2_, b3_, b1_, and_true] at hρ
 have hb1 : w1.heap[bm]? = some (.map es clock) := hx.getMap hb
 have hg := MapKept.run_getObj_map (P := P) hb1
 rw [← hr2]
 cases r with
 | none => simp [execOp, hρ.1, hρ.2, Instr.lookup, run_underlying ht, hg, hck, Instr.findKey, run_underlying hkt, hr, zeroValue, typeInfo, hi, hz]
 | some r => simp [execOp, hρ.1, hρ.2, Instr.lookup, run_underlying ht, hg, hck, Instr.findKey, run_underlying hkt, hr]
theorem st_immk (hE : E = real P Pn n) {t : TypeId} (hk : ∀ bm w', bm = w.heap.size → Ext w w' → (∀ B, B ≤ w.heap.size → IMap B w' bm []) → K (.map (some bm)) w') : E.stop ⟨d, .makeMap t none, ty, pos, aft, g⟩ [] w K := by
 refine st_run hE (v := .map (some w.heap.size)) (w' := w.alloc (.map #[] 0)) (fun ρ hρ => ?_) (hk _ _ rfl ((Ext.refl w).alloc (n1_ _) _) fun B hB => ?_)
 ·simp [execOp, Instr.makeMap]
 ·exact ⟨hB, #[], 0, (MapKept.heap_alloc w _).1, rfl⟩
theorem st_imput (hE : E = real P Pn n) {t kt et : TypeId} (ht : P.underlying t = some (.map kt et)) (hkt : P.underlying kt = some .string) {B bm : Nat} {f : List (ByteArray × Value)} (h : IMap B w bm f) {k : ByteArray} (hno : mget f k = none) {v : Value} {x y z : Operand}
  (hk : ∀ w', Wr (mb bm) w w' → IMap B w' bm (f ++ [(k, v)]) → K undef w') : E.stop ⟨d, .mapUpdate t x y z, ty, pos, aft, g⟩ [.map (some bm), .string k, v] w K := by
 obtain ⟨es, clock, hb, hes⟩ := h.ex
 obtain ⟨r, hr, hr2⟩ := find_im k es.toList f 0 hes
 rw [hno] at hr2
 have hr3 : r = none := by cases r with
  | none => rfl
  | some _ => cases hr2
 subst hr3
 have hck0 : ∀ (q : Nat) (w1 : World), (Instr.checkKey false (q + 1) kt (.string k)).run P w1 = .ok () w1 := fun q w1 => by simp [Instr.checkKey, run_underlying hkt]
 have hck : ∀ w1 : World, (Instr.checkKey false 10000 kt (.string k)).run P w1 = .ok () w1 := hck0 9999
 refine st_runu hE (w' := { w with heap := w.heap.setIfInBounds bm (.map (es.push ⟨.string k, v, clock⟩) (clock + 1)) }) (fun ρ hρ => ?_) (hk _ ?_ ⟨h.lo, _, _, (MapKept.heap_set hb).1, by simp [hes]⟩)
 ·simp only [opnds, b2_, b3_, b1_, and_true] at hρ
  have hg := MapKept.run_getObj_map (P := P) hb
  simp [execOp, hρ.1, hρ.2.1, hρ.2.2, Instr.mapUpdate, run_underlying ht, hg, hck, Instr.findKey, run_underlying hkt, hr, MapKept.run_setObj_map _ hb]
 ·exact ⟨rfl, rfl, rfl, by simp, fun i hi hne => (MapKept.heap_set hb).2 i fun e => hne (by rw [e]; rfl)⟩
theorem st_ta {bq : Bool} (hE : EngB bq P E) {xt t : TypeId} {x : Operand} {v r : Value} (hr : ∀ w, (Instr.typeAssert v xt t true).run P w = .ok r w) (hk : K r w) : E.stop ⟨d, .typeAssert x xt t true, ty, pos, aft, g⟩ [v] w K := by
 refine hE.det (v := r) (fun w1 _ ρ hρ => ?_) hk
 simp only [opnds, b2_, b3_, b1_, and_true] at hρ
 simp [execOp, hρ, hr w1]
end
section
variable {P : Program} {Pn : List PanicEntry → World → Prop} {n : Nat} {E : Sym} {w : World} {K : Value → World → Prop} {d : Option Tmp} {ty : TypeId} {pos : String} {aft : Array Edge} {g : Option (Nat × Bool)}
theorem st_mk {bq : Bool} (hE : EngB bq P E) {t : TypeId} (ht : ∃ u, P.underlying t = some u ∧ ∀ ms, u ≠ .interface ms) {x : Operand} {v : Value} (hk : K (.iface t v) w) : E.stop ⟨d, .makeInterface t x, ty, pos, aft, g⟩ [v] w K := by
 obtain ⟨u, h1, h2⟩ := ht
 refine hE.det (v := .iface t v) (fun w1 _ ρ hρ => ?_) hk
 simp only [opnds, b2_, b3_, b1_, and_true] at hρ
 have : (Instr.makeInterface t v).run P w1 = .ok (.iface t v) w1 := by
  unfold Instr.makeInterface
  simp only [underlying, Sem.run_bind, run_program, Result.andThen_ok, h1, Sem.run_pure]
 simp [execOp, hρ, this]
theorem run_inv {ρ : Operand → Value} {ro : Operand} {name : String} {ao : Array Operand} {at_ : Array TypeId} {recv : Value} {args l : List Value} {f : FuncId} (hv : (opnds (.call ⟨.invoke ro name, ao, at_⟩)).map ρ = recv :: args)
  (hc : ∀ w, (callMethod recv name args.toArray).run P w = .ok (.enter f l.toArray) w) (w : World) :
  (execOp ρ ⟨d, .call ⟨.invoke ro name, ao, at_⟩, ty, pos, aft, g⟩).run P w = .ok (.enter f l.toArray) w := by
 have hv : ρ ro = recv ∧ ao.toList.map ρ = args := by simpa [opnds] using hv
 obtain ⟨h1, h2⟩ := hv
 have h3 : ao.map ρ = args.toArray := by rw [← h2, ← Array.toList_map, Array.toArray_toList]
 have e : (#[recv] ++ args.toArray).extract 1 (#[recv] ++ args.toArray).size = args.toArray := by
  apply Array.ext'
  simp
 simp only [execOp, Sem.run_bind, resolve, h1, h3, Sem.run_pure, Result.andThen_ok, invoke, e]
 have e0 : (#[recv] ++ args.toArray)[0]? = some recv := by simp
 simp only [e0, hc]
theorem st_if (hE : E = real P Pn n) {ro : Operand} {name : String} {ao : Array Operand} {at_ : Array TypeId} {recv : Value} {args l : List Value} {f : FuncId} {R : Value → World → Prop} (hc : ∀ w, (callMethod recv name args.toArray).run P w = .ok (.enter f l.toArray) w)
  (h : FC P f l w R) (hk : ∀ v w', Ext w w' → R v w' → K v w') : E.stop ⟨d, .call ⟨.invoke ro name, ao, at_⟩, ty, pos, aft, g⟩ (recv :: args) w K := by
 obtain ⟨⟨fn, hf, he⟩, hcc⟩ := h
 subst hE
 intro ρ hρ
 rw [run_inv hρ hc]
 exact hcc.mono fun e w' ⟨v, he, hx, hr⟩ => by subst he; exact hk _ _ hx hr
theorem st_appsKG (hE : E = real P Pn n) {t e : TypeId} {z : Value} {k b : Nat} (ht : Slc P t e z k b) (hz : z.cells.size = k) (hk0 : 0 < k) {B : Nat} {A A1 : Option Addr} {m c m1 c1 : Nat} {xs vs : List Value} {ao : Array Operand} (h : Own B e k w A m c xs) (hn : Cells w A1 vs) (hl : vs.length = m1 * k) (hm1 : 0 < m1) (hv : ∀ v ∈ vs, v.oneCell' = true)
  (hB : B ≤ w.heap.size) (hb : (m + m1) * b ≤ 140737488355328) (hm : m + m1 ≤ 9223372036854775807)
  (hk : ∀ A' c' m' w', m' = m + m1 → Wr A w w' → Own B e k w' A' m' c' (xs ++ vs) → (Eng.blk A' = Eng.blk A ∨ Eng.blk A' = some w.heap.size) → K (.slice A' m' c') w') : E.stop ⟨d, .call ⟨.builtin .append, ao, #[t, t]⟩, ty, pos, aft, g⟩ [.slice A m c, .slice A1 m1 c1] w K := by
 obtain ⟨i0, h1, h2, h3, h4⟩ := ht.info
 cases A1 with
 | none =>
  obtain ⟨a, ha⟩ := hn.1 (by rw [hl]; exact Nat.mul_pos hm1 hk0)
  cases ha
 | some a1 =>
  obtain ⟨v', w', hr, hown, hg, _, hbk⟩ := run_append_own_at (P := P) w B t ty e i0 z k b ht.u h1 h2 h3 h4 hz hk0 (.slice A m c) m xs h a1 m1 c1 vs hl
   (fun j u hu => hn.2 a1 rfl j u hu) hv (by unfold maxLen; omega) hb hB
  have hform : ∃ A' c', v' = .slice A' (m + m1) c' := by
   rcases hown.2 with ⟨h5, h6⟩ | ⟨g, cap, cur, h5, _⟩
   ·exact ⟨none, 0, by rw [h5, h6]⟩
   ·exact ⟨_, _, h5⟩
  obtain ⟨A', c', rfl⟩ := hform
  refine st_run hE (v := .slice A' (m + m1) c') (w' := w') (fun ρ hρ => ?_) (hk _ _ _ _ rfl ?_ hown ?_)
  ·have h3' := map_of (ao := ao) hρ
   simp [execOp, resolve, invoke, builtin, h3', hr]
  ·cases A <;> exact hg
  ·cases A <;> cases A' <;> exact hbk
theorem st_from {bq : Bool} (hE : EngB bq P E) {t e : TypeId} {z : Value} {k b : Nat} (ht : Slc P t e z k b) {A : Option Addr} {m c lo : Nat} {ik : IntKind} {i : Int} {xs : List Value} {x y : Operand} {w0 : World} (h : Cells w0 A xs) (hl : xs.length = m * k) (hmc : m ≤ c) (hi : i = lo) (hlo : lo ≤ m)
  (hk : ∀ A' c', Cells w0 A' (xs.drop (lo * k)) → m - lo ≤ c' → K (.slice A' (m - lo) c') w) : E.stop ⟨d, .slice t x (some y) none none, ty, pos, aft, g⟩ [.slice A m c, .int ik i] w K := by
 subst hi
 refine hE.det (v := .slice (if c = lo then A else A.map (·.add (lo * k))) (m - lo) (c - lo)) (fun w1 _ ρ hρ => ?_) (hk _ _ ?_ (by omega))
 ·simp only [opnds, Option.toList, b2_, b3_, a7_, b1_, and_true] at hρ
  simp only [execOp, hρ.1, hρ.2, Option.map_some, Option.map_none, Sem.run_bind, run_from ht w1 hlo]
  rfl
 ·exact h.from hl hlo (fun h1 h2 => by omega)
end
end Go.Eng
namespace Go.Proofs.YtgnjkdkedjljjaaGreatDoor
open Go.Eng Go.Extern
set_option linter.unusedVariables false
set_option linter.unusedSimpArgs false
section
variable {P : Program} {E : Sym} {w : World} {K : Value → World → Prop} {d : Option Tmp} {ty : TypeId} {pos : String} {aft : Array Edge} {g : Option (Nat × Bool)}
theorem st_eqlSome {bq : Bool} (hE : EngB bq P E) {t t' u : TypeId} {v : Value} {ms : Array (String × TypeId)} (ht : P.underlying t = some (.interface ms)) {x : Operand} {c : Value} (hk : K (.bool false) w) : E.stop ⟨d, .binOp .eql t x (.const c) t', ty, pos, aft, g⟩ [.iface u v, .nilIface] w K := by
 refine hE.det (v := .bool false) (fun w1 _ ρ hρ => ?_) hk
 simp only [opnds, b2_, b3_, b1_, and_true] at hρ
 have h1 : (Op.equal t (.iface u v) .nilIface).run P w1 = .ok false w1 := run_some_ne ht w1 9999
 simp [execOp, hρ, binOp, h1, eqGuard]
theorem st_eqlTypes {bq : Bool} (hE : EngB bq P E) {t t' u u' : TypeId} {v v' : Value} {ms : Array (String × TypeId)} (ht : P.underlying t = some (.interface ms)) (hne : u ≠ u') {x y : Operand} (hk : K (.bool false) w) : E.stop ⟨d, .binOp .eql t x y t', ty, pos, aft, g⟩ [.iface u v, .iface u' v'] w K := by
 refine hE.det (v := .bool false) (fun w1 _ ρ hρ => ?_) hk
 simp only [opnds, b2_, b3_, b1_, and_true] at hρ
 simp [execOp, hρ.1, hρ.2, eqGuard, run_eql_iface_types u u' v v' ht hne w1]
end
abbrev wwV (op : Int) (a : Addr) : Value := .iface 366 (.agg ⟨[.int .i64 op, .iface 391 (.pointer (some a))]⟩)
theorem fWw1 : Fld Tryz.prog 366 1 1 := ⟨by kernel_rfl⟩
theorem wwIs (v : Value) (xT : TypeId) (w : World) : (Instr.typeAssert (.iface 366 v) xT 373 true).run Tryz.prog w = .ok (.tuple ⟨[.nilIface, .bool false]⟩) w := run_typeAssert_lacksB Tryz.underlying373 (by kernel_rfl) (by kernel_rfl) v xT w
theorem wwUn (v : Value) (xT : TypeId) (w : World) : (Instr.typeAssert (.iface 366 v) xT 287 true).run Tryz.prog w = .ok (.tuple ⟨[.iface 366 v, .bool true]⟩) w := run_typeAssert_hasB Tryz.underlying287 (by kernel_rfl) v xT w
theorem cmWw (v : Value) (w : World) : (callMethod (.iface 366 v) "Unwrap" #[]).run Tryz.prog w = .ok (.enter 322 #[v]) w := by kernel_rfl
theorem unwrap_f (op : Int) (a : Addr) (w : World) : FC Tryz.prog 322 [.agg ⟨[.int .i64 op, .iface 391 (.pointer (some a))]⟩] w fun v _ => v = .iface 391 (.pointer (some a)) := by
 refine FC.intro (cs := []) Tryz.func322 (by kernel_rfl) fun E R hE hr hR => ?_
 conv => cbv
 refine st_box hr fun q w1 hx hb0 => ?_
 have hb := hb0 _ (n1_ _)
 conv => cbv
 refine st_fld hE fWw1 fun p hp => ?_
 conv => cbv
 refine st_load hE cErr (by rw [hp]; exact hb.at _ _ rfl) ?_
 conv => cbv
 rw [hR]; exact ⟨hx, rfl⟩
theorem isW_f {w : World} {a b : Addr} (op : Int) (ha : Sent w a) (hb : Sent w b) : FC Tryz.prog 196 [wwV op a, .iface 391 (.pointer (some b)), .bool true] w fun v _ => ∃ r : Bool, v = .bool r ∧ (r = true ↔ a = b) := by
 refine FC.intro (cs := []) Tryz.func196 (by kernel_rfl) fun E R hE hr hR => ?_
 obtain ⟨ms, hu⟩ := uErr
 conv => cbv
 refine loop_rule hr (fun (s : Bool) w' => Ext w w') (fun s => [(0, if s = true then .iface 391 (.pointer (some a)) else wwV op a), (1, .iface 391 (.pointer (some b))), (2, .bool true)]) (fun s => if s = true then 0 else 1) false
  (by simp [Fits, lk]) (Ext.refl w) ?_
 rintro I hI s w' hx
 cases s with
 | false =>
  conv => cbv
  refine st_eqlTypes hE hu (by decide) ?_
  conv => cbv
  refine st_ta hE (wwIs _ _) ?_
  conv => cbv
  refine st_ta hE (wwUn _ _) ?_
  conv => cbv
  refine st_if hr (cmWw _) (unwrap_f op a w') fun v w2 hx2 ev => ?_
  subst ev
  conv => cbv
  refine st_err_nil1 hE ?_
  conv => cbv
  exact ⟨true, by simp [Fits, lk], hI _ _ (hx.trans hx2), by simp⟩
 | true =>
  conv => cbv
  refine st_err_eql hE (ha.ext hx) (hb.ext hx) fun v hv => ?_
  cases v with
  | true =>
   conv => cbv
   rw [hR]; exact ⟨hx, true, rfl, hv⟩
  | false =>
   conv => cbv
   refine st_lacks hE (noIs _ _) ?_
   conv => cbv
   refine st_lacks hE (noUnwrap _ _) ?_
   conv => cbv
   refine st_lacks hE (noUnwraps _ _) ?_
   conv => cbv
   rw [hR]; exact ⟨hx, false, rfl, hv⟩
theorem IsW_f {w : World} {a b : Addr} (op : Int) (ha : Sent w a) (hb : Sent w b) : FC Tryz.prog 141 [wwV op a, .iface 391 (.pointer (some b))] w fun v _ => ∃ r : Bool, v = .bool r ∧ (r = true ↔ a = b) := by
 refine FC.intro (cs := []) Tryz.func141 (by kernel_rfl) fun E R hE hr hR => ?_
 obtain ⟨hv, k1, k2⟩ := typ
 obtain ⟨ms, hu⟩ := uErr
 conv => cbv
 refine st_eqlSome hE hu ?_
 conv => cbv
 refine st_err_nil1 hE ?_
 conv => cbv
 refine st_typeof hE k1 ?_
 conv => cbv
 refine st_comp hE k2 ?_
 conv => cbv
 refine st_f hr (isW_f op ha hb) fun v w2 hx ⟨r, ev, hr2⟩ => ?_
 subst ev
 conv => cbv
 rw [hR]; exact ⟨hx, r, rfl, hr2⟩
def sentA (z o v : Addr) (c : Int) : Addr := if c = 1 then o else if c = 2 then z else v
theorem codeW_f {w : World} {z o v : Addr} (h : Errs w z o v) {c : Int} (hc : c = 1 ∨ c = 2 ∨ c = 3) (op : Int) : FC Tryz.prog 85 [wwV op (sentA z o v c)] w fun r _ => r = .int .i64 c := by
 have hs : Sent w (sentA z o v c) := by rcases hc with rfl | rfl | rfl <;> first | exact h.so | exact h.sz | exact h.sv
 have e1 : sentA z o v c = o ↔ c = 1 := by
  rcases hc with rfl | rfl | rfl
  ·exact iff_of_true rfl rfl
  ·exact iff_of_false h.zo (by decide)
  ·exact iff_of_false (fun q => h.ov q.symm) (by decide)
 have e2 : sentA z o v c = z ↔ c = 2 := by
  rcases hc with rfl | rfl | rfl
  ·exact iff_of_false (fun q => h.zo q.symm) (by decide)
  ·exact iff_of_true rfl rfl
  ·exact iff_of_false (fun q => h.zv q.symm) (by decide)
 have e3 : sentA z o v c = v ↔ c = 3 := by
  rcases hc with rfl | rfl | rfl
  ·exact iff_of_false h.ov (by decide)
  ·exact iff_of_false h.zv (by decide)
  ·exact iff_of_true rfl rfl
 obtain ⟨s, hse⟩ : ∃ s, s = sentA z o v c := ⟨_, rfl⟩
 rw [← hse] at hs e1 e2 e3 ⊢
 refine FC.intro (cs := []) Tryz.func85 (by kernel_rfl) fun E R hE hr hR => ?_
 conv => cbv
 refine st_load hE cErr h.co ?_
 conv => cbv
 refine st_f hr (IsW_f op hs h.so) fun _ w1 hx ⟨r, ev, hr2⟩ => ?_
 subst ev
 cases r with
 | true =>
  conv => cbv
  rw [hR]; exact ⟨hx, by rw [e1.1 (hr2.1 rfl)]; rfl⟩
 | false =>
 have n1 : c ≠ 1 := fun q => absurd (hr2.2 (e1.2 q)) (by simp)
 conv => cbv
 refine st_load hE cErr (h.ext hx).cz ?_
 conv => cbv
 refine st_f hr (IsW_f op (hs.ext hx) (h.ext hx).sz) fun _ w2 hx2 ⟨r, ev, hr2⟩ => ?_
 subst ev
 replace hx := hx.trans hx2
 cases r with
 | true =>
  conv => cbv
  rw [hR]; exact ⟨hx, by rw [e2.1 (hr2.1 rfl)]; rfl⟩
 | false =>
 have n2 : c ≠ 2 := fun q => absurd (hr2.2 (e2.2 q)) (by simp)
 conv => cbv
 refine st_load hE cErr (h.ext hx).cv ?_
 conv => cbv
 refine st_f hr (IsW_f op (hs.ext hx) (h.ext hx).sv) fun _ w3 hx3 ⟨r, ev, hr2⟩ => ?_
 subst ev
 replace hx := hx.trans hx3
 cases r with
 | true =>
  conv => cbv
  rw [hR]; exact ⟨hx, by rw [e3.1 (hr2.1 rfl)]; rfl⟩
 | false =>
  exact absurd (hr2.2 (e3.2 (by omega))) (by simp)
open Go.Eng
theorem cMap : Cel Tryz.prog 316 := ⟨_, Tryz.underlying316, by simp, by simp⟩
def constF : List (Int × Int) := [(1, 3), (2, 1), (3, 2), (4, 4)]
def hasA (o : Int) : Prop := o = 1 ∨ o = 2 ∨ o = 3 ∨ o = 4 ∨ o = 22 ∨ o = 23
def insOK (i : Int × Int) : Prop := 1 ≤ i.1 ∧ i.1 ≤ 25 ∧ 0 ≤ i.2 ∧ i.2 ≤ 65535 ∧ (i.2 = 0 ∨ hasA i.1)
def shapeP (pv : List PV) (sl : Int) (is : List (Int × Int)) : Prop := pv.length ≤ 4000 ∧ 0 ≤ sl ∧ sl ≤ 600 ∧ is.length ≤ 20000 ∧ (∀ p ∈ pv, valOK p) ∧ ∀ i ∈ is, insOK i
open Go.ChangeMaps (setBlock)
def opF : List (Int × Int) := (List.range 17).map fun (i : Nat) => ((i : Int) + 8, (i : Int) + 5)
def oprF (o : Int) : Int := if 5 ≤ o ∧ o ≤ 21 then o + 3 else 0
end Go.Proofs.YtgnjkdkedjljjaaGreatDoor
