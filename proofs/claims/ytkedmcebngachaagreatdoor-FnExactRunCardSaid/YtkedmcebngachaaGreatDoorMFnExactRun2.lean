/- Texts that the law FnExactRun leans on, part 2 of 11: contracts of the functions that it reaches and plain lemmas. Each holds under the conditions that it states. -/
import Derived.Test.YtkedmcebngachaaGreatDoorMFnExactRun1
import Derived.Deep.Slices
import Derived.WideKeyMaps
import Derived.WideKeyElems2
import Derived.OpenVars
import Derived.LaidMore
import Derived.Stop.Joined
import Derived.Stop.LaidTwo
import Derived.Test.YtkedmcebngachaaGreatDoorTie
import Derived.Test.YtkedmcebngachaaGreatDoorCards
import Derived.SevenTiedAt
import Derived.Lay
import Derived.HandedShaped
import Derived.LaidEql
import Derived.Stop.Asserts
import Derived.Laws.Externs
import Derived.Maps.RangeRun
set_option maxHeartbeats 16000000
set_option linter.unusedVariables false
set_option linter.unusedSimpArgs false
namespace Go.Proofs.YtkedmcebngachaaGreatDoor
open Go.Eng
set_option linter.unusedVariables false
theorem cInt : Cel Tryz.prog 3 := ⟨_, uInt, by simp, by simp⟩
theorem cInts : Cel Tryz.prog 52 := ⟨_, Tryz.underlying52, by simp, by simp⟩
theorem tInts : Slc Tryz.prog 52 3 (.int .i64 0) 1 8 := ⟨Tryz.underlying52, by kernel_rfl⟩
theorem zInt : (Tryz.prog.info? 3).map (·.size) = some 1 := by kernel_rfl
theorem zInts : (Tryz.prog.info? 52).map (·.size) = some 1 := by kernel_rfl
theorem cLVs : Cel Tryz.prog 22 := ⟨_, Tryz.underlying22, by simp, by simp⟩
theorem cIVs : Cel Tryz.prog 36 := ⟨_, Tryz.underlying36, by simp, by simp⟩
theorem cLIs : Cel Tryz.prog 23 := ⟨_, Tryz.underlying23, by simp, by simp⟩
theorem cIIs : Cel Tryz.prog 37 := ⟨_, Tryz.underlying37, by simp, by simp⟩
theorem zIVs : (Tryz.prog.info? 36).map (·.size) = some 1 := by kernel_rfl
theorem zIIs : (Tryz.prog.info? 37).map (·.size) = some 1 := by kernel_rfl
abbrev zV : List Value := [.int .i64 0, .int .i64 0, .string ⟨#[]⟩, .slice none 0 0]
abbrev zI : List Value := [.int .i64 0, .int .i64 0]
abbrev zC : List Value := [.slice none 0 0, .int .i64 0, .slice none 0 0]
theorem tLV : Stc Tryz.prog 141 4 zV := ⟨by kernel_rfl, by kernel_rfl⟩
theorem tIV : Stc Tryz.prog 153 4 zV := ⟨by kernel_rfl, by kernel_rfl⟩
theorem tLI : Stc Tryz.prog 161 2 zI := ⟨by kernel_rfl, by kernel_rfl⟩
theorem tII : Stc Tryz.prog 152 2 zI := ⟨by kernel_rfl, by kernel_rfl⟩
theorem tLC : Stc Tryz.prog 25 3 zC := ⟨by kernel_rfl, by kernel_rfl⟩
theorem tIC : Stc Tryz.prog 39 3 zC := ⟨by kernel_rfl, by kernel_rfl⟩
theorem sLV : Slc Tryz.prog 22 141 (.agg ⟨zV⟩) 4 56 := ⟨Tryz.underlying22, by kernel_rfl⟩
theorem sIV : Slc Tryz.prog 36 153 (.agg ⟨zV⟩) 4 56 := ⟨Tryz.underlying36, by kernel_rfl⟩
theorem sLI : Slc Tryz.prog 23 161 (.agg ⟨zI⟩) 2 16 := ⟨Tryz.underlying23, by kernel_rfl⟩
theorem sII : Slc Tryz.prog 37 152 (.agg ⟨zI⟩) 2 16 := ⟨Tryz.underlying37, by kernel_rfl⟩
theorem fLV0 : Fld Tryz.prog 141 0 0 := ⟨by kernel_rfl⟩
theorem fLV1 : Fld Tryz.prog 141 1 1 := ⟨by kernel_rfl⟩
theorem fLV2 : Fld Tryz.prog 141 2 2 := ⟨by kernel_rfl⟩
theorem fLV3 : Fld Tryz.prog 141 3 3 := ⟨by kernel_rfl⟩
theorem fIV0 : Fld Tryz.prog 153 0 0 := ⟨by kernel_rfl⟩
theorem fIV1 : Fld Tryz.prog 153 1 1 := ⟨by kernel_rfl⟩
theorem fIV2 : Fld Tryz.prog 153 2 2 := ⟨by kernel_rfl⟩
theorem fIV3 : Fld Tryz.prog 153 3 3 := ⟨by kernel_rfl⟩
theorem fLI0 : Fld Tryz.prog 161 0 0 := ⟨by kernel_rfl⟩
theorem fLI1 : Fld Tryz.prog 161 1 1 := ⟨by kernel_rfl⟩
theorem fII0 : Fld Tryz.prog 152 0 0 := ⟨by kernel_rfl⟩
theorem fII1 : Fld Tryz.prog 152 1 1 := ⟨by kernel_rfl⟩
theorem fLC0 : Fld Tryz.prog 25 0 0 := ⟨by kernel_rfl⟩
theorem fLC1 : Fld Tryz.prog 25 1 1 := ⟨by kernel_rfl⟩
theorem fLC2 : Fld Tryz.prog 25 2 2 := ⟨by kernel_rfl⟩
theorem fIC0 : Fld Tryz.prog 39 0 0 := ⟨by kernel_rfl⟩
theorem fIC1 : Fld Tryz.prog 39 1 1 := ⟨by kernel_rfl⟩
theorem fIC2 : Fld Tryz.prog 39 2 2 := ⟨by kernel_rfl⟩
theorem fl_len {α : Type} {f : α → List Value} {k : Nat} (hf : ∀ x, (f x).length = k) : ∀ xs : List α, (xs.flatMap f).length = xs.length * k
 | [] => by simp
 | x :: xs => by rw [List.flatMap_cons, List.length_append, fl_len hf xs, hf, a3_, Nat.succ_mul, Nat.add_comm]
theorem fl_get {α : Type} {f : α → List Value} {k : Nat} (hf : ∀ x, (f x).length = k) : ∀ (xs : List α) (i : Nat) (x : α) (j : Nat), xs[i]? = some x → j < k → (xs.flatMap f)[i * k + j]? = (f x)[j]?
 | [], i, x, j, h, _ => by simp at h
 | y :: ys, 0, x, j, h, hj => by
  simp at h; subst h
  rw [List.flatMap_cons, List.getElem?_append_left (by rw [hf]; omega)]; simp
 | y :: ys, i + 1, x, j, h, hj => by
  simp only [List.getElem?_cons_succ] at h
  rw [List.flatMap_cons, List.getElem?_append_right (by rw [hf, Nat.succ_mul]; omega), ← fl_get hf ys i x j h hj]
  congr 1; rw [hf, Nat.succ_mul]; omega
theorem fl_take {α : Type} {f : α → List Value} {k : Nat} (hf : ∀ x, (f x).length = k) : ∀ (xs : List α) (i : Nat), (xs.flatMap f).take (i * k) = (xs.take i).flatMap f
 | [], i => by simp
 | x :: xs, 0 => by simp
 | x :: xs, i + 1 => by
  rw [List.flatMap_cons, List.take_succ_cons, List.flatMap_cons, Nat.succ_mul, Nat.add_comm, ← hf x, List.take_length_add_append, hf x, fl_take hf xs i]
theorem fl_drop {α : Type} {f : α → List Value} {k : Nat} (hf : ∀ x, (f x).length = k) : ∀ (xs : List α) (i : Nat), (xs.flatMap f).drop (i * k) = (xs.drop i).flatMap f
 | [], i => by simp
 | x :: xs, 0 => by simp
 | x :: xs, i + 1 => by
  rw [List.flatMap_cons, a5_, Nat.succ_mul, Nat.add_comm, ← hf x, List.drop_length_add_append, hf x, fl_drop hf xs i]
theorem fl_put {α : Type} {f : α → List Value} {k : Nat} (hf : ∀ x, (f x).length = k) (xs : List α) (i : Nat) (y : α) (hi : i < xs.length) :
  (xs.flatMap f).take (i * k) ++ f y ++ (xs.flatMap f).drop (i * k + (f y).length) = (xs.set i y).flatMap f := by
 have h1 : i * k + (f y).length = (i + 1) * k := by rw [hf, Nat.succ_mul]
 rw [h1, fl_take hf, fl_drop hf, List.set_eq_take_append_cons_drop, if_pos hi, List.flatMap_append, List.flatMap_cons, List.append_assoc]
theorem fl_at {α : Type} {f : α → List Value} {k : Nat} (hf : ∀ x, (f x).length = k) {w : World} {A : Option Addr} {xs : List α} (h : Cells w A (xs.flatMap f)) {i : Nat} {x : α} (hk : 0 < k) (hx : xs[i]? = some x) :
  ∃ a, A = some a ∧ ∀ j v, (f x)[j]? = some v → w.cell? ((a.add (i * k)).add j) = some v := by
 have hi := (List.getElem?_eq_some_iff.1 hx).1
 obtain ⟨a, ha⟩ := h.1 (by rw [fl_len hf]; exact Nat.mul_pos (by omega) hk)
 refine ⟨a, ha, fun j v hv => ?_⟩
 have hj : j < k := by
  rcases Nat.lt_or_ge j k with h | h
  ·exact h
  ·rw [List.getElem?_eq_none (by rw [hf]; exact h)] at hv; cases hv
 rw [add_add]
 exact h.2 a ha _ _ (by rw [fl_get hf _ _ _ _ hx hj]; exact hv)
theorem made_fl {α : Type} {f : α → List Value} (x : α) (m k : Nat) (hk : (f x).length = k) (hk0 : 0 < k) : (madeCells ⟨f x⟩ (m * k)).toList = (List.replicate m x).flatMap f := by
 have h0 : ∀ m, (List.replicate m x).flatMap f = (List.replicate m (f x)).flatten := fun m => by rw [← List.map_replicate]; simp [List.flatMap]
 apply List.ext_getElem?
 intro i
 have hlen : ((List.replicate m x).flatMap f).length = m * k := by rw [h0]; simp [hk]
 by_cases hi : i < m * k
 ·have e1 : (madeCells ⟨f x⟩ (m * k)).toList[i]? = (f x)[i % k]? := by
   simp only [madeCells, Array.toList_map, Array.toList_range, List.getElem?_map, List.getElem?_range hi, Option.map_some]
   have : i % k < (f x).length := by rw [hk]; exact Nat.mod_lt _ hk0
   rw [g2_ this]
   simp only [List.size_toArray, hk, List.getElem!_toArray, List.getElem!_eq_getElem?_getD, g2_ this, Option.getD_some]
  rw [e1]
  have h2 : i = (i / k) * k + i % k := by rw [Nat.mul_comm]; exact (Nat.div_add_mod i k).symm
  have h3 : i / k < m := Nat.div_lt_of_lt_mul (by rw [Nat.mul_comm]; exact hi)
  conv => rhs; rw [h2]
  have : ∀ (m q r : Nat), q < m → r < k → ((List.replicate m x).flatMap f)[q * k + r]? = (f x)[r]? := by
   intro m
   induction m with
   | zero => intro q r h; omega
   | succ m ih =>
    intro q r hq hr
    rw [List.replicate_succ, List.flatMap_cons]
    cases q with
    | zero => rw [List.getElem?_append_left (by rw [hk]; omega)]; simp
    | succ q =>
     rw [List.getElem?_append_right (by rw [hk, Nat.succ_mul]; omega), ← ih q r (by omega) hr]
     congr 1; rw [hk, Nat.succ_mul]; omega
  rw [this m _ _ h3 (Nat.mod_lt _ hk0)]
 ·have h1 := size_madeCells ⟨f x⟩ (m * k)
  rw [← Array.length_toList] at h1
  have h2 : (madeCells ⟨f x⟩ (m * k)).toList[i]? = none := List.getElem?_eq_none (by omega)
  have h3 : ((List.replicate m x).flatMap f)[i]? = none := List.getElem?_eq_none (by omega)
  rw [h2, h3]
structure PV where
 k : Int
 n : Int
 tx : ByteArray
 xs : List ByteArray
structure VV where
 p : PV
 A : Option Addr
 m : Nat
 c : Nat
def vC (v : VV) : List Value := [.int .i64 v.p.k, .int .i64 v.p.n, .string v.p.tx, .slice v.A v.m v.c]
theorem vC_len (v : VV) : (vC v).length = 4 := rfl
def Pool (w : World) (A : Option Addr) (n : Nat) (pv : List PV) : Prop :=
 ∃ vs : List VV, vs.map (·.p) = pv ∧ vs.length = n ∧ Cells w A (vs.flatMap vC) ∧ ∀ v ∈ vs, Strs w v.A v.m v.c v.p.xs ∧ v.p.tx.size ≤ 9223372036854775807
theorem Pool.ext {w w' : World} {A : Option Addr} {n : Nat} {pv : List PV} (h : Pool w A n pv) (hx : Ext w w') : Pool w' A n pv := by
 obtain ⟨vs, h1, h2, h3, h4⟩ := h
 exact ⟨vs, h1, h2, h3.ext hx, fun v hv => ⟨(h4 v hv).1.ext hx, (h4 v hv).2⟩⟩
theorem Pool.len {w : World} {A : Option Addr} {n : Nat} {pv : List PV} (h : Pool w A n pv) : pv.length = n := by
 obtain ⟨vs, h1, h2, _⟩ := h
 rw [← h1, List.length_map, h2]
theorem Pool.get {w : World} {A : Option Addr} {n : Nat} {pv : List PV} (h : Pool w A n pv) {i : Nat} (hi : i < n) : ∃ a k z tx xs A1 m c, A = some a ∧ pv[i]? = some ⟨k, z, tx, xs⟩ ∧
  (∀ j v, [Value.int .i64 k, .int .i64 z, .string tx, .slice A1 m c][j]? = some v → w.cell? ((a.add (i * 4)).add j) = some v) ∧ Strs w A1 m c xs ∧ tx.size ≤ 9223372036854775807 := by
 obtain ⟨vs, h1, h2, h3, h4⟩ := h
 have hv : ∃ v, vs[i]? = some v := ⟨_, g2_ (by omega)⟩
 obtain ⟨⟨⟨k, z, tx, xs⟩, A1, m, c⟩, hv⟩ := hv
 obtain ⟨a, ha, hc⟩ := fl_at vC_len h3 (by omega) hv
 exact ⟨a, k, z, tx, xs, A1, m, c, ha, by rw [← h1, List.getElem?_map, hv]; rfl, hc, h4 _ (m1_ hv)⟩
def iC (i : Int × Int) : List Value := [.int .i64 i.1, .int .i64 i.2]
theorem iC_len (i : Int × Int) : (iC i).length = 2 := rfl
structure InsR (w : World) (A : Option Addr) (n : Nat) (is : List (Int × Int)) : Prop where
 len : is.length = n
 cells : Cells w A (is.flatMap iC)
theorem InsR.ext {w w' : World} {A : Option Addr} {n : Nat} {is : List (Int × Int)} (h : InsR w A n is) (hx : Ext w w') : InsR w' A n is := ⟨h.1, h.2.ext hx⟩
theorem InsR.get {w : World} {A : Option Addr} {n : Nat} {is : List (Int × Int)} (h : InsR w A n is) {i : Nat} (hi : i < n) : ∃ a o g, A = some a ∧ is[i]? = some (o, g) ∧
  ∀ j v, [Value.int .i64 o, .int .i64 g][j]? = some v → w.cell? ((a.add (i * 2)).add j) = some v := by
 have hl := h.len
 have hv : ∃ v, is[i]? = some v := ⟨_, g2_ (by omega)⟩
 obtain ⟨⟨o, g⟩, hv⟩ := hv
 obtain ⟨a, ha, hc⟩ := fl_at iC_len h.cells (by omega) hv
 exact ⟨a, o, g, ha, hv, hc⟩
structure CodeR (w : World) (A : Option Addr) (n : Nat) (A2 : Option Addr) (n2 : Nat) (pv : List PV) (is : List (Int × Int)) : Prop where
 pool : Pool w A n pv
 ins : InsR w A2 n2 is
theorem CodeR.ext {w w' : World} {A A2 : Option Addr} {n n2 : Nat} {pv : List PV} {is : List (Int × Int)} (h : CodeR w A n A2 n2 pv is) (hx : Ext w w') : CodeR w' A n A2 n2 pv is := ⟨h.1.ext hx, h.2.ext hx⟩
abbrev codeV (A : Option Addr) (n c : Nat) (sl : Int) (A2 : Option Addr) (n2 c2 : Nat) : Value := .agg ⟨[.slice A n c, .int .i64 sl, .slice A2 n2 c2]⟩
end Go.Proofs.YtkedmcebngachaaGreatDoor
namespace Go.Eng
set_option linter.unusedVariables false
structure Above (B : Nat) (w w' : World) : Prop where
 size : w.heap.size ≤ w'.heap.size
 block : ∀ i, B ≤ i → i < w.heap.size → w'.heap[i]? = w.heap[i]?
theorem Above.refl (B : Nat) (w : World) : Above B w w := ⟨n1_ _, fun _ _ _ => rfl⟩
theorem Above.trans {B : Nat} {a b c : World} (h : Above B a b) (k : Above B b c) : Above B a c :=
 ⟨n2_ h.1 k.1, fun i h1 h2 => by rw [k.2 i h1 (n3_ h2 h.1), h.2 i h1 h2]⟩
theorem Above.mono {B B' : Nat} {w w' : World} (h : Above B w w') (hB : B ≤ B') : Above B' w w' := ⟨h.1, fun i h1 h2 => h.2 i (n2_ hB h1) h2⟩
theorem Ext.above {w w' : World} (h : Ext w w') (B : Nat) : Above B w w' := ⟨h.size, fun i _ hi => h.block i hi⟩
theorem Wr.above {B B' e k} {w w' w0 : World} {a : Addr} {m c : Nat} {xs : List Value} (hw : Wr (some a) w w') (h : Own B' e k w0 (some a) m c xs) (hB : w0.heap.size ≤ B) : Above B w w' := by
 obtain ⟨gb, rfl, _, hg⟩ := h.form
 refine ⟨hw.size, fun i h1 h2 => hw.block i h2 ?_⟩
 simp only [Eng.blk, Value.ownBlock]
 intro e
 simp at e
 omega
theorem Above.cell {B : Nat} {w w' : World} (h : Above B w w') {b o : Nat} {x : Option _} (hb : B ≤ b) {v : Value} (hc : w.cell? ⟨b, o, x⟩ = some v) : w'.cell? ⟨b, o, x⟩ = some v := by
 have hlt : b < w.heap.size := by
  rcases Nat.lt_or_ge b w.heap.size with h1 | h1
  ·exact h1
  ·simp [World.cell?, Array.getElem?_eq_none h1] at hc
 have := h.block b hb hlt
 simp only [World.cell?, this] at hc ⊢
 exact hc
theorem Own.above {B e k} {w w' : World} {A : Option Addr} {m c : Nat} {xs : List Value} (h : Own B e k w A m c xs) (ha : Above B w w') : Own B e k w' A m c xs := by
 refine ⟨h.1, ?_⟩
 rcases h.2 with h1 | ⟨g, cap, cur, h1, h2, h3, h4⟩
 ·exact .inl h1
 ·exact .inr ⟨g, cap, cur, h1, h2, by rw [ha.block g h2 (Array.getElem?_eq_some_iff.1 h3).1, h3], h4⟩
section
variable {P : Program} {Pn : List PanicEntry → World → Prop} {n : Nat} {E : Sym} {w : World} {K : Value → World → Prop} {d : Option Tmp} {ty : TypeId} {pos : String} {aft : Array Edge} {g : Option (Nat × Bool)}
theorem st_litsK (hE : E = real P Pn n) {t e : TypeId} {z : Value} {k b : Nat} (ht : Slc P t e z k b) (hz : z.cells.size = k) (hk0 : 0 < k) {vs : List Value} {m : Nat} {parts : Array (Nat × Operand)} (hm : vs.length = m) (h0 : 0 < m) (hsm : m * k ≤ 16777216) (hp : parts.toList.map (·.1) = List.range m) (h1 : ∀ v ∈ vs, v.cells.size = k) {cs : List Value} (hcs : vs.flatMap (fun v => v.cells.toList) = cs)
  (hk : ∀ A w', Ext w w' → (∀ B, B ≤ w.heap.size → Own B e k w' A m m cs) → K (.slice A m m) w') : E.stop ⟨d, .buildSlice t m parts, ty, pos, aft, g⟩ vs w K := by
 obtain ⟨i0, hi1, hi2, hi3, hi4⟩ := ht.info
 have hlen : cs.length = m * k := by
  rw [← hcs, List.length_flatMap, ← hm]
  have : ∀ l : List Value, (∀ v ∈ l, v.cells.size = k) → (l.map fun v => v.cells.toList.length).sum = l.length * k := by
   intro l
   induction l with
   | nil => simp
   | cons x l ih =>
    intro h
    rw [b2_, List.sum_cons, ih fun v hv => h v (by simp [hv]), a3_, Nat.succ_mul, Array.length_toList, h x (by simp), Nat.add_comm]
  exact this vs h1
 refine st_run hE (v := .slice (some ⟨w.heap.size, 0, none⟩) m m) (w' := w.alloc (.cells ⟨cs⟩ e)) (fun ρ hρ => ?_) (hk _ _ ((Ext.refl w).alloc (n1_ _) _) fun B hB => World.ownsRow_lit (e := e) (size := k) w ⟨cs⟩ m hB (by unfold maxLen; have : m ≤ m * k := Nat.le_mul_of_pos_right _ hk0; omega) (by simp [hlen]))
 have hρ' : parts.toList.map (fun x => ρ x.2) = vs := by simpa [opnds, Function.comp_def] using hρ
 have hf := run_buildSlice (P := P) w t e m (parts.map fun (i, x) => (i, ρ x)) cs.toArray i0 z ht.u hi1 hi2 (by rw [hi3]; omega) (by rw [hi3]; exact Nat.ne_of_gt (Nat.mul_pos h0 hk0)) (by
  rw [hi3, Array.toList_map]
  rw [show (parts.toList.map fun (x : Nat × Operand) => match x with | (i, x) => (i, ρ x)) = parts.toList.map (fun x => (x.1, ρ x.2)) from rfl, parts_zip hp hρ', ← hcs]
  exact Go.Great.fill_whole hk0 vs _ h1 (by simp [hm]))
 simp only [execOp, Sem.run_bind, hf, Result.andThen_ok]
 rfl
theorem st_appsG (hE : E = real P Pn n) {t e : TypeId} {z : Value} {b : Nat} (ht : Slc P t e z 1 b) (hz : z.cells = #[z]) {B : Nat} {A A1 : Option Addr} {m c m1 c1 : Nat} {xs vs : List Value} {ao : Array Operand} (h : Own B e 1 w A m c xs) (hn : Cells w A1 vs) (hl : vs.length = m1) (hv : ∀ v ∈ vs, v.oneCell' = true)
  (hB : B ≤ w.heap.size) (hb : (m + m1) * b ≤ 140737488355328) (hm : m + m1 ≤ 9223372036854775807)
  (hk : ∀ A' c' m' w', m' = m + m1 → Wr A w w' → Own B e 1 w' A' m' c' (xs ++ vs) → (Eng.blk A' = Eng.blk A ∨ Eng.blk A' = some w.heap.size) → K (.slice A' m' c') w') : E.stop ⟨d, .call ⟨.builtin .append, ao, #[t, t]⟩, ty, pos, aft, g⟩ [.slice A m c, .slice A1 m1 c1] w K := by
 obtain ⟨i0, h1, h2, h3, h4⟩ := ht.info
 cases A1 with
 | none =>
  have h0 : vs = [] := by
   rcases Nat.eq_zero_or_pos vs.length with h0 | h0
   ·exact List.length_eq_zero_iff.1 h0
   ·obtain ⟨a, ha⟩ := hn.1 h0; cases ha
  subst h0
  simp only [a4_] at hl
  subst hl
  refine st_run hE (v := .slice A m c) (w' := w) (fun ρ hρ => ?_) (hk _ _ _ _ rfl (Wr.refl _ _) (by simpa using h) (.inl rfl))
  have h3' := map_of (ao := ao) hρ
  simp [execOp, resolve, invoke, builtin, h3', run_append_none ht.u h1 h]
 | some a1 =>
  obtain ⟨v', w', hr, hown, hg, _, hbk⟩ := run_append_own_at (P := P) w B t ty e i0 z 1 b ht.u h1 h2 h3 h4 (by rw [hz]; rfl) (by omega) (.slice A m c) m xs h a1 m1 c1 vs (by omega)
   (fun j u hu => hn.2 a1 rfl j u hu) hv (by unfold maxLen; omega) hb hB
  have hform : ∃ A' c', v' = .slice A' (m + m1) c' := by
   rcases hown.2 with ⟨h5, h6⟩ | ⟨g, cap, cur, h5, _⟩
   ·exact ⟨none, 0, by rw [h5, h6]⟩
   ·exact ⟨_, _, h5⟩
  obtain ⟨A', c', rfl⟩ := hform
  refine st_run hE (v := .slice A' (m + m1) c') (w' := w') (fun ρ hρ => ?_) (hk _ _ _ _ rfl ?_ hown ?_)
  ·have h3' := map_of (ao := ao) hρ
   simp [execOp, resolve, invoke, builtin, h3', hr]
  ·cases A <;> exact hg
  ·cases A <;> cases A' <;> exact hbk
theorem apart_grow {B e k} {A A' : Option Addr} {x : Addr} {m c : Nat} {xs : List Value} {w : World} (h : Own B e k w (some x) m c xs) (ha : Apart A (some x)) (hg : Eng.blk A' = Eng.blk A ∨ Eng.blk A' = some w.heap.size) : Apart A' (some x) := by
 obtain ⟨gb, rfl, _, hlt⟩ := h.form
 refine .inr fun e => ?_
 have hb : Eng.blk (some (⟨gb, 0, none⟩ : Addr)) = some gb := rfl
 rw [hb] at e
 rcases hg with hg | hg
 ·rcases ha with rfl | ha
  ·rw [hg] at e; simp [Eng.blk, Value.ownBlock] at e
  ·rw [hg] at e; exact ha (by rw [hb]; exact e)
 ·rw [hg] at e
  simp at e; omega
end
set_option linter.unusedSimpArgs false
def reach (md : Region.Mode) (ops : Array Oper) : Nat → Nat → Nat → Bool
 | 0, _, _ => false
 | f + 1, k, i => match ops[k]? with
  | some o => o.after.any fun e => Region.binds md e && (e.on == i || reach md ops f e.on i)
  | none => false
def needS (md : Region.Mode) (ops : Array Oper) (l : List Nat) (k : Nat) : Bool := l.any fun i => !(reach md ops ops.size k i)
def Closed (md : Region.Mode) (ops : Array Oper) (listed : Array Bool) : Prop := ∀ (k : Nat) (o : Oper), ops[k]? = some o → listed.getD k false = true → ∀ e ∈ o.after, Region.binds md e = true → listed.getD e.on false = true
theorem reach_listed {md : Region.Mode} {ops : Array Oper} {listed : Array Bool} (hc : Closed md ops listed) {i : Nat} : ∀ (f k : Nat), (∀ o, ops[k]? = some o → ∀ e ∈ o.after, Region.binds md e = true → listed.getD e.on false = true) → reach md ops f k i = true → listed.getD i false = true
 | 0, k, _, h => by simp [reach] at h
 | f + 1, k, hk, h => by
  rw [reach] at h
  split at h
  ·rename_i o ho
   obtain ⟨q, hq, h⟩ := Array.any_eq_true.1 h
   obtain ⟨e, he⟩ : ∃ e, e = o.after[q] := ⟨_, rfl⟩
   rw [← he] at h
   replace he : e ∈ o.after := by rw [he]; exact Array.getElem_mem hq
   simp only [Bool.and_eq_true, Bool.or_eq_true, beq_iff_eq] at h
   have he1 := hk o ho e he h.1
   rcases h.2 with e1 | e1
   ·rw [← e1]; exact he1
   ·exact reach_listed hc f e.on (fun o' ho' => hc e.on o' ho' he1) e1
  ·cases h
def wpAnyT (P : Program) (md : Region.Mode) (ops : Array Oper) (Q : Exit → Act → World → Prop) (S : World → Prop) (l : List Nat) : Nat → Array Bool → Act → World → Prop
 | 0, listed, a, w => Region.ready md ops listed = [] ∧ Q .normal a w
 | fuel + 1, listed, a, w => (Region.ready md ops listed = [] → Q .normal a w) ∧
  ∀ i ∈ Region.ready md ops listed, wpOp P ops Q i (fun a' w' => (needS md ops l i = true → S w') ∧ wpAnyT P md ops Q S l fuel (listed.setIfInBounds i true) a' w') a w
section
variable {P : Program} {ops : Array Oper} {Q : Exit → Act → World → Prop} {md : Region.Mode} {S : World → Prop} {l : List Nat}
theorem wpAny_of_T : ∀ (fuel : Nat) (listed : Array Bool) (a : Act) (w : World), wpAnyT P md ops Q S l fuel listed a w → wpAny P md ops Q fuel listed a w
 | 0, _, _, _, h => h
 | fuel + 1, _, _, _, h => ⟨h.1, fun i hi => wpOp_mono (fun a' w' h' => wpAny_of_T fuel _ a' w' h'.2) (h.2 i hi)⟩
theorem wpAnyT_first {i : Nat} {oi : Oper} {v : Value} (hi : ops[i]? = some oi) (hil : i ∈ l) (hsel : ∀ (j : Nat) (o : Oper) cs b, ops[j]? = some o → o.op ≠ .select cs b)
  (hQ : ∀ c a w, Q (.panic c) (a.put oi.dst v) w → Q (.panic c) a w) : ∀ (fuel : Nat) (listed : Array Bool) (a : Act) (w : World),
   (∀ j oj, ops[j]? = some oj → j ≠ i → listed.getD j true = false → (∀ e ∈ oj.after, Region.binds md e = true → e.on ≠ i) → oi.apart ops oj = true) →
   i ∈ Region.ready md ops listed → Closed md ops listed → YieldsIf P ops S oi v a → S w →
   wpAnyT P md ops Q S l fuel (listed.setIfInBounds i true) (a.put oi.dst v) w → wpAnyT P md ops Q S l (fuel + 1) listed a w := by
 intro fuel
 induction fuel with
 | zero =>
  intro listed a w _ hr hcl hy hS H
  refine ⟨fun h => (by rw [h] at hr; cases hr), fun j hj => ?_⟩
  by_cases hji : j = i
  ·subst hji; exact hy.wpOp hi hS ⟨fun _ => hS, H⟩
  ·have h0 := ready_mono hj hji
   rw [H.1] at h0
   cases h0
 | succ fuel ih =>
  intro listed a w hfree hr hcl hy hS H
  refine ⟨fun h => (by rw [h] at hr; cases hr), fun j hj => ?_⟩
  by_cases hji : j = i
  ·subst hji; exact hy.wpOp hi hS ⟨fun _ => hS, H⟩
  ·have h1 := H.2 j (ready_mono hj hji)
   obtain ⟨hjun, oj, hoj, hall⟩ := mem_ready.1 hj
   have hnot : ∀ e ∈ oj.after, Region.binds md e = true → e.on ≠ i := fun e he hb heq => by
    have a1 := hall e he hb
    have a0 := (mem_ready.1 hr).1
    rw [heq] at a1
    rcases Nat.lt_or_ge i listed.size with h' | h'
    ·simp [h'] at a0 a1; rw [a0] at a1; cases a1
    ·simp [Array.getElem?_eq_none h'] at a1
   have hneed : needS md ops l j = true := by
    unfold needS
    rw [List.any_eq_true]
    refine ⟨i, hil, ?_⟩
    rw [Bool.not_eq_true']
    refine Bool.eq_false_iff.2 fun hre => ?_
    have hi1 := reach_listed hcl (i := i) ops.size j (fun o ho => by rw [hoj] at ho; cases ho; exact hall) hre
    have hi0 := (mem_ready.1 hr).1
    rcases Nat.lt_or_ge i listed.size with h' | h'
    ·simp [h'] at hi0 hi1; rw [hi0] at hi1; cases hi1
    ·simp [Array.getElem?_eq_none h'] at hi1
   have hcl' : Closed md ops (listed.setIfInBounds j true) := fun k o ho hk e he hb => by
    have key : listed.getD e.on false = true := by
     by_cases hkj : j = k
     ·subst hkj; rw [hoj] at ho; cases ho; exact hall e he hb
     ·rw [getD_set_ne false hkj] at hk; exact hcl k o ho hk e he hb
    by_cases hje : j = e.on
    ·subst hje
     rcases Nat.lt_or_ge e.on listed.size with h' | h'
     ·simp [h']
     ·simp [Array.getElem?_eq_none h'] at key
    ·rw [getD_set_ne false hje]; exact key
   have h2 := wpOp_putIf hoj (hfree j oj hoj hji hjun hnot) (fun cs b => hsel i oi cs b hi) (fun cs b => hsel j oj cs b hoj) hQ hy h1
   have hfree' : ∀ k ok, ops[k]? = some ok → k ≠ i → (listed.setIfInBounds j true).getD k true = false →
     (∀ e ∈ ok.after, Region.binds md e = true → e.on ≠ i) → oi.apart ops ok = true := fun k ok hk hki hun hno => by
    refine hfree k ok hk hki ?_ hno
    by_cases hjk : j = k
    ·subst hjk; exact hjun
    ·rw [getD_set_ne true hjk] at hun; exact hun
   refine wpOp_mono (fun a' w' h3 => ⟨fun _ => h3.2.1 hneed, ih (listed.setIfInBounds j true) a' w' hfree' (ready_mono hr (Ne.symm hji)) hcl' h3.1 (h3.2.1 hneed) ?_⟩) h2
   rw [Array.setIfInBounds_comm _ _ hji]
   exact h3.2.2
theorem wpAnyT_take {i : Nat} {oi : Oper} {v : Value} {fuel : Nat} {listed : Array Bool} {a : Act} {w : World} (hi : ops[i]? = some oi) (hil : i ∈ l)
  (hs : Region.noSelect ops = true) (hf : Region.free md ops listed i = true) (hr : (Region.ready md ops listed).contains i = true) (hcl : Closed md ops listed)
  (hQ : ∀ c a w, Q (.panic c) (a.put oi.dst v) w → Q (.panic c) a w) (hy : YieldsIf P ops S oi v a) (hS : S w)
  (h : wpAnyT P md ops Q S l fuel (listed.setIfInBounds i true) (a.put oi.dst v) w) : wpAnyT P md ops Q S l (fuel + 1) listed a w :=
 wpAnyT_first hi hil (Region.noSelect_spec hs) hQ fuel listed a w (Region.free_spec hi hf) (by simpa using hr) hcl hy hS h
theorem closed_set {listed : Array Bool} {k : Nat} (hcl : Closed md ops listed) (hr : (Region.ready md ops listed).contains k = true) : Closed md ops (listed.setIfInBounds k true) := fun q o ho hq e he hb => by
 have hr : k ∈ Region.ready md ops listed := by simpa using hr
 obtain ⟨hkun, ok, hok, hall⟩ := mem_ready.1 hr
 have key : listed.getD e.on false = true := by
  by_cases hkq : k = q
  ·subst hkq; rw [hok] at ho; cases ho; exact hall e he hb
  ·rw [getD_set_ne false hkq] at hq; exact hcl q o ho hq e he hb
 by_cases hje : k = e.on
 ·subst hje
  rcases Nat.lt_or_ge e.on listed.size with h' | h'
  ·simp [h']
  ·simp [Array.getElem?_eq_none h'] at key
 ·rw [getD_set_ne false hje]; exact key
theorem wpAnyT_done {listed : Array Bool} {a : Act} {w : World} (hr : Region.ready md ops listed = []) (h : Q .normal a w) : ∀ fuel, wpAnyT P md ops Q S l fuel listed a w
 | 0 => ⟨hr, h⟩
 | _ + 1 => ⟨fun _ => h, by rw [hr]; simp⟩
end
def ePh2T (E : Sym) (S : World → Prop) (all : List Oper) : List (Nat × Bool) → Fr → World → (Fr → World → Prop) → Prop
 | [], F, w, K => K F w
 | (k, true) :: l, F, w, K => match all[k]? with
  | none => False
  | some o => eOps E all [o] F w fun F' w' => S w' ∧ ePh2T E S all l F' w' K
 | (k, false) :: l, F, w, K => match all[k]? with
  | none => False
  | some o => eOps E all [o] F w fun F' w' => ePh2T E S all l F' w' K
def planT2 (ops : Array Oper) (l1 : List Nat) : List (Nat × Bool) → Array Bool → Bool
 | [], listed => Region.ready .any ops listed == []
 | (k, b) :: l, listed => Region.ready .any ops listed == [k] && (b || !(needS .any ops l1 k)) && planT2 ops l1 l (listed.setIfInBounds k true)
def planT1 (ops : Array Oper) (l0 : List Nat) : List Nat → List (Nat × Bool) → Array Bool → Bool
 | [], l2, listed => planT2 ops l0 l2 listed
 | k :: l, l2, listed => l0.contains k && Region.free .any ops listed k && (Region.ready .any ops listed).contains k && planT1 ops l0 l l2 (listed.setIfInBounds k true)
def planT (ops : Array Oper) (l1 : List Nat) (l2 : List (Nat × Bool)) : Bool :=
 Region.noSelect ops && Nat.beq (l1.length + l2.length) ops.size && planT1 ops l1 l1 l2 (Array.replicate ops.size false)
section
variable {P : Program} {Pn : List PanicEntry → World → Prop} {n : Nat}
theorem ePh2T_sound {S : World → Prop} {all : List Oper} {l0 : List Nat} (hd : ∀ o ∈ all, ∀ t, o.dst = some t → t < n) {K : Exit → Fr → World → Prop} : ∀ (l : List (Nat × Bool)) (listed : Array Bool) (F : Fr) (a : Act) (w : World), Kn n F a → planT2 all.toArray l0 l listed = true → ePh2T (real P Pn n) S all l F w (K .normal) → wpAnyT P .any all.toArray (QK Pn n K) S l0 l.length listed a w
 | [], listed, F, a, w, hk, hB, h => by
  have hr : Region.ready .any all.toArray listed = [] := by simpa [planT2] using hB
  exact wpAnyT_done hr ⟨F, hk, h⟩ _
 | (k, true) :: l, listed, F, a, w, hk, hB, h => by
  simp only [planT2, Bool.and_eq_true] at hB
  obtain ⟨⟨hr, _⟩, hB⟩ := hB
  have hr : Region.ready .any all.toArray listed = [k] := by simpa using hr
  simp only [ePh2T] at h
  split at h
  ·exact h.elim
  ·rename_i o ho
   refine ⟨fun q => (by rw [hr] at q; cases q), fun i hi => ?_⟩
   obtain rfl : i = k := by rw [hr] at hi; simpa using hi
   exact step_op (Pn := Pn) ho (hd o (m1_ ho)) hk (fun c w h => ⟨hk.defers, h⟩) (fun F' a' w' hk' ⟨h1, h2⟩ => ⟨fun _ => h1, ePh2T_sound hd l _ F' a' w' hk' hB h2⟩) h
 | (k, false) :: l, listed, F, a, w, hk, hB, h => by
  simp only [planT2, Bool.and_eq_true, Bool.false_or, Bool.not_eq_true'] at hB
  obtain ⟨⟨hr, hn⟩, hB⟩ := hB
  have hr : Region.ready .any all.toArray listed = [k] := by simpa using hr
  simp only [ePh2T] at h
  split at h
  ·exact h.elim
  ·rename_i o ho
   refine ⟨fun q => (by rw [hr] at q; cases q), fun i hi => ?_⟩
   obtain rfl : i = k := by rw [hr] at hi; simpa using hi
   exact step_op (Pn := Pn) ho (hd o (m1_ ho)) hk (fun c w h => ⟨hk.defers, h⟩) (fun F' a' w' hk' h2 => ⟨fun q => (by rw [hn] at q; cases q), ePh2T_sound hd l _ F' a' w' hk' hB h2⟩) h
theorem ePh1T_sound {S : World → Prop} {w : World} (hSE : ∀ w1, S w1 → Ext w w1) {all : List Oper} {l0 : List Nat} (hs : Region.noSelect all.toArray = true) (hd : ∀ o ∈ all, ∀ t, o.dst = some t → t < n) {K : Exit → Fr → World → Prop} {w0 : World} (hS : S w0) (l2 : List (Nat × Bool)) (K1 : Fr → World → Prop) : ∀ (l : List Nat) (listed : Array Bool) (F : Fr) (a : Act), Kn n F a → Closed .any all.toArray listed → planT1 all.toArray l0 l l2 listed = true → ePh1 (hreal P) all l F w K1 →
  (∀ F a listed, Kn n F a → planT2 all.toArray l0 l2 listed = true → K1 F w → wpAnyT P .any all.toArray (QK Pn n K) S l0 l2.length listed a w0) → wpAnyT P .any all.toArray (QK Pn n K) S l0 (l.length + l2.length) listed a w0
 | [], listed, F, a, hk, hcl, hB, h, h2 => by simpa using h2 F a listed hk hB h
 | k :: l, listed, F, a, hk, hcl, hB, h, h2 => by
  simp only [planT1, Bool.and_eq_true] at hB
  obtain ⟨⟨⟨hl, hf⟩, hr⟩, hB⟩ := hB
  simp only [ePh1] at h
  split at h
  ·exact h.elim
  ·rename_i o ho
   obtain ⟨v, F', hy, hk', h⟩ := step_yields (P := P) (n := n) (S := S) (E' := hreal P) (fun _ _ => rfl) (fun _ _ _ ⟨v, h1, h2⟩ => ⟨v, fun w1 hw1 => h1 w1 (hSE w1 hw1), h2⟩) (hd o (m1_ ho)) hk h
   have := wpAnyT_take (l := l0) (by simpa using ho) (by simpa using hl) hs hf hr hcl panic_put hy hS (ePh1T_sound hSE hs hd hS l2 K1 l _ F' _ hk' (closed_set hcl hr) hB h h2)
   simpa [Nat.add_right_comm] using this
theorem draw_t (l1 : List Nat) (l2 : List (Nat × Bool)) {E : Sym} (hE : E = real P Pn n) {id : Nat} {ops : Array Oper} {F : Fr} {w : World} {K : Exit → Fr → World → Prop} (hm : P.follows .mixedOrders = true) (hB : planT ops l1 l2 = true)
  (h : ∀ E', EngB false P E' → ∀ w0, Same w w0 → ∀ S : World → Prop, (∀ w', Ext w0 w' → S w') → ePh1 E' ops.toList l1 F w0 (fun F' w' => ePh2T E S ops.toList l2 F' w' (K .normal))) : E.draw id ops F w K := by
 subst hE
 intro hd a hk
 simp only [planT, Bool.and_eq_true, Nat.beq_eq] at hB
 obtain ⟨⟨hs, hl⟩, hB⟩ := hB
 have hs' : Region.noSelect ops.toList.toArray = true := by simpa using hs
 have := ePh1T_sound (Pn := Pn) (K := K) (n := n) (l0 := l1) (S := Ext { w with drawn := w.drawn + 1 }) (w := { w with drawn := w.drawn + 1 }) (fun _ h => h) hs' (okDst_ops hd) (Ext.refl _) l2 _ l1 (Array.replicate ops.size false) F a hk (fun k o _ h => by simp only [Array.getD_eq_getD_getElem?, Array.getElem?_replicate] at h; split at h <;> simp at h) (by simpa using hB) (h (hreal P) (Eng.h P) _ (Same.drew w) _ (fun _ h => h))
  (fun F a listed hk hB h => ePh2T_sound (okDst_ops hd) l2 listed F a _ hk hB h)
 rw [hl] at this
 exact wp_region_any hm (wpAny_of_T _ _ _ _ (by simpa using this))
end
structure STab (w : World) (v : Nat) (f : List ByteArray) : Prop where
 ex : ∃ bm es clock, w.cell? ⟨v, 0, none⟩ = some (.map (some bm)) ∧ w.heap[bm]? = some (.map es clock) ∧ (∀ e ∈ es.toList, ∃ k, e.key = .string k ∧ e.val = .bool true ∧ k ∈ f) ∧ ∀ k ∈ f, ∃ e ∈ es.toList, e.key = .string k ∧ e.val = .bool true
theorem STab.ext {w w' : World} {v : Nat} {f : List ByteArray} (h : STab w v f) (hx : Ext w w') : STab w' v f := by
 obtain ⟨bm, es, clock, h1, h2, h3⟩ := h.ex
 exact ⟨bm, es, clock, hx.cell h1, hx.getMap h2, h3⟩
section
variable {P : Program} {E : Sym} {w : World} {K : Value → World → Prop} {d : Option Tmp} {ty : TypeId} {pos : String} {aft : Array Edge} {g : Option (Nat × Bool)}
end
end Go.Eng
namespace Go.Proofs.YtkedmcebngachaaGreatDoor
open Go.ChangeShapes Go.WideShapes Go.ChangeAt Go.RowKit Go.Eng
set_option maxRecDepth 100000
theorem list4m {α : Type} : ∀ {l : List α}, l.length = 4 → ∃ a b c d, l = [a, b, c, d]
 | [a, b, c, d], _ => ⟨a, b, c, d, rfl⟩
theorem list3m {α : Type} : ∀ {l : List α}, l.length = 3 → ∃ a b c, l = [a, b, c]
 | [a, b, c], _ => ⟨a, b, c, rfl⟩
theorem list2m {α : Type} : ∀ {l : List α}, l.length = 2 → ∃ a b, l = [a, b]
 | [a, b], _ => ⟨a, b, rfl⟩
theorem pick_list {α : Type} {Q : Nat → α → Prop} : ∀ (n : Nat), (∀ i, i < n → ∃ y, Q i y) → ∃ ys : List α, ys.length = n ∧ ∀ i y, ys[i]? = some y → Q i y
 | 0, _ => ⟨[], rfl, by simp⟩
 | n + 1, h => by
  obtain ⟨ys, h1, h2⟩ := pick_list n fun i hi => h i (by omega)
  obtain ⟨y, hy⟩ := h n (by omega)
  refine ⟨ys ++ [y], by simp [h1], fun i z hz => ?_⟩
  rcases Nat.lt_or_ge i n with hi | hi
  ·rw [List.getElem?_append_left (by omega)] at hz; exact h2 i z hz
  ·rw [List.getElem?_append_right (by omega)] at hz
   have : i - ys.length = 0 := by
    rcases Nat.eq_zero_or_pos (i - ys.length) with h0 | h0
    ·exact h0
    ·rw [List.getElem?_eq_none (by simp; omega)] at hz; cases hz
   rw [this] at hz
   simp at hz
   subst hz
   have : i = n := by omega
   subst this; exact hy
section
variable {H : Type} {enc : TypeId × Value → H} {P : Program} {w : World} {base : Nat} {held : Bool} {fuel : Nat} {x : DataW H × List MemPlace}
theorem fldAtM {sp : Nat → Bool} {fs : Array Field} {cs : List Value} {xs : List (DataW H × List MemPlace)} {n : Nat} (hlen : xs.length = fs.size) (hf : ∀ (i : Nat) (f : Field), fs[i]? = some f → DataW.trod enc P w base sp held n f.type ((cs.drop f.offset).take (P.cellsOf f.type)) = xs[i]?)
  (i : Nat) (f : Field) (hi : fs[i]? = some f) : ∃ x, DataW.trod enc P w base sp held n f.type ((cs.drop f.offset).take (P.cellsOf f.type)) = some x := by
 have h1 := (Array.getElem?_eq_some_iff.1 hi).1
 exact ⟨xs[i]'(by omega), by rw [hf i f hi]; simp⟩
theorem open_rowsM {α : Type} {f : α → List Value} {k : Nat} {Q : α → Prop} {t e : TypeId} {cs : List Value} (ht : P.underlying t = some (.slice e)) (hk : P.cellsOf e = k) (hk0 : 0 < k)
  (hel : ∀ n cs x, DataW.trod enc P w base (fun _ => true) held n e cs = some x → ∃ y, cs = f y ∧ (f y).length = k ∧ Q y)
  (h : DataW.trod enc P w base (fun _ => true) held fuel t cs = some x) :
  ∃ (A : Option Addr) (n c : Nat) (ys : List α), cs = [.slice A n c] ∧ ys.length = n ∧ n ≤ c ∧ n ≤ 9223372036854775807 ∧ Cells w A (ys.flatMap f) ∧ ∀ y ∈ ys, Q y := by
 rcases DataW.trod_slice ht h with ⟨rfl, _⟩ | ⟨a, len, cap, elems, rest, n, _, rfl, _, _, hl, hm, hlen, hall, _⟩
 ·exact ⟨none, 0, 0, [], rfl, rfl, by omega, by omega, ⟨by simp, by simp⟩, by simp⟩
 ·obtain ⟨ys, h1, h2⟩ := pick_list (Q := fun i y => (∀ j v, (f y)[j]? = some v → w.cell? ((a.add (i * k)).add j) = some v) ∧ (f y).length = k ∧ Q y) len fun i hi => by
   have key := hall i hi
   rw [g2_ (by omega)] at key
   obtain ⟨cs', g1, g2⟩ := Option.bind_eq_some_iff.1 key
   obtain ⟨y, g3, g4, g5⟩ := hel _ _ _ g2
   refine ⟨y, fun j v hv => ?_, g4, g5⟩
   unfold World.cells? at g1
   split at g1
   ·have hj : j < k := by rw [← g4]; exact (List.getElem?_eq_some_iff.1 hv).1
    have := mapM_some_get g1 j j (by rw [hk]; simp [hj])
    rw [hk] at this
    rw [this, g3, hv]
   ·cases g1
  have hfl : ∀ y ∈ ys, (f y).length = k := fun y hy => by
   obtain ⟨i, hi⟩ := List.mem_iff_getElem?.1 hy
   exact (h2 i y hi).2.1
  unfold maxLen at hm
  refine ⟨some a, len, cap, ys, rfl, h1, hl, by omega, ⟨fun _ => ⟨a, rfl⟩, fun a' ha' j v hv => ?_⟩, fun y hy => ?_⟩
  ·cases ha'
   have get : ∀ (zs : List α) (o : Nat), (∀ z ∈ zs, (f z).length = k) → (∀ i z, zs[i]? = some z → ∀ j v, (f z)[j]? = some v → w.cell? (a.add ((o + i) * k + j)) = some v) → ∀ j v, (zs.flatMap f)[j]? = some v → w.cell? (a.add (o * k + j)) = some v := by
    intro zs
    induction zs with
    | nil => intro o _ _ j v hv; simp at hv
    | cons z zs ih =>
     intro o hz hq j v hv
     rw [List.flatMap_cons] at hv
     rcases Nat.lt_or_ge j k with hj | hj
     ·rw [List.getElem?_append_left (by rw [hz z (by simp)]; exact hj)] at hv
      simpa using hq 0 z rfl j v hv
     ·rw [List.getElem?_append_right (by rw [hz z (by simp)]; exact hj), hz z (by simp)] at hv
      have := ih (o + 1) (fun z hz' => hz z (by simp [hz'])) (fun i z hi j v hv => by have := hq (i + 1) z (by simpa using hi) j v hv; rwa [show o + 1 + i = o + (i + 1) by omega]) (j - k) v hv
      rwa [show (o + 1) * k + (j - k) = o * k + j by rw [Nat.succ_mul]; omega] at this
   have := get ys 0 hfl (fun i z hi j v hv => by have := (h2 i z hi).1 j v hv; rw [add_add] at this; simpa using this) j v hv
   simpa using this
  ·obtain ⟨i, hi⟩ := List.mem_iff_getElem?.1 hy
   exact (h2 i y hi).2.2
end
section
variable {H : Type} {enc : TypeId × Value → H} {w : World} {base : Nat} {held : Bool} {fuel : Nat} {x : DataW H × List MemPlace}
theorem strs_of_cellsM {cs : List Value} (h : DataW.trod enc Tryz.prog w base (fun _ => true) held fuel 26 cs = some x) : ∃ A n c xs, cs = [.slice A n c] ∧ Strs w A n c xs := by
 rcases open_strings Tryz.underlying26 uStr (by kernel_rfl) h with ⟨hcs, _⟩ | ⟨a, len, cap, ss, hcs, _, hl, hm, hz, _, hcell, hws⟩
 ·exact ⟨none, 0, 0, [], hcs, rfl, by omega, by omega, ⟨by simp, by simp⟩, by simp⟩
 ·simp only [if_true] at hz
  unfold maxLen at hm
  refine ⟨some a, len, cap, ss.take len, hcs, by simp; omega, by omega, hl, ⟨fun _ => ⟨a, rfl⟩, fun a' ha' j v hv => ?_⟩, fun s hs => ?_⟩
  ·cases ha'
   rw [List.getElem?_map, List.getElem?_take] at hv
   split at hv
   ·rename_i hj
    rw [hcell j (by omega), ← hv, List.getD_eq_getElem?_getD, g2_ (by omega)]
    simp
   ·simp at hv
  ·have := hws s (List.mem_of_mem_take hs)
   unfold maxLen at this; omega
theorem el_ins (n : Nat) (cs : List Value) (x : DataW H × List MemPlace) (h : DataW.trod enc Tryz.prog w base (fun _ => true) held n 161 cs = some x) : ∃ v : Int × Int, cs = iC v ∧ (iC v).length = 2 ∧ True := by
 obtain ⟨xs, m, _, _, hl, hlen, hfs⟩ := DataW.trod_struct Tryz.underlying161 h
 rw [show Tryz.prog.cellsOf 161 = 2 by kernel_rfl] at hl
 obtain ⟨c0, c1, rfl⟩ := list2m hl
 obtain ⟨x0, h0⟩ := fldAtM hlen hfs 0 _ rfl
 obtain ⟨x1, h1⟩ := fldAtM hlen hfs 1 _ rfl
 obtain ⟨z0, g0, _⟩ := DataW.trod_int uInt h0
 obtain ⟨z1, g1, _⟩ := DataW.trod_int uInt h1
 cases g0; cases g1
 exact ⟨(z0, z1), rfl, rfl, trivial⟩
end
section
variable {H : Type} {enc : TypeId × Value → H} {P : Program} {base : Nat} {held : Bool} {fuel : Nat}
theorem mem_insAll {p : Lit × DataW H} : ∀ (l : List (Lit × DataW H)), p ∈ l.foldr DataW.insert [] ↔ p ∈ l
 | [] => by simp
 | q :: l => by rw [List.foldr_cons, Go.ChangeMaps.mem_insert_iff, mem_insAll l, List.mem_cons]
theorem keyInt {k : TypeId} (hk : P.underlying k = some (.int .i64)) {v : Value} {z : Int} (h : keyOf P k v = some (.int .i64 z)) : v = .int .i64 z := by
 unfold keyOf mapKey at h
 rw [hk] at h
 cases v <;> simp at h
 obtain ⟨⟨rfl, _⟩, rfl⟩ := h
 rfl
theorem tab_of_trod {n : String} {g : Nat} {t k e : TypeId} {cs : Array Value} {sp : Nat → Bool} {L : List (Lit × DataW H)} {p : List MemPlace} {W : World} (hg : P.globalNamed n = some g) (ht : P.underlying t = some (.map k e)) (hk : P.underlying k = some (.int .i64)) (he : P.underlying e = some (.int .i64))
  (hv : W.var? P n = some cs) (hd : DataW.trod enc P W base sp held fuel t cs.toList = some (.map L, p)) (f : List (Int × Int)) (hL : L = f.map fun q => (Lit.int .i64 q.1, .lit (.int .i64 q.2))) : Tab W g f := by
 rcases Go.WideMaps.open_map ht he hd with ⟨_, h0⟩ | ⟨b, es, clock, hcs, hb, _, F, hx⟩
 ·cases h0
 ·have hx1 : L = (es.toList.map (Go.WideMaps.rg H P k .i64)).foldr DataW.insert [] := by
   have := congrArg Prod.fst hx
   simpa using this
  obtain ⟨l⟩ := cs
  simp only at hcs
  subst hcs
  refine ⟨b, es, clock, by simpa using World.var?_cell hg hv 0, hb, fun y hy => ?_, fun kk z hq => ?_, F.stamped.2.1, F.stamped.1⟩
  ·obtain ⟨r, hr⟩ := F.reads y hy
   have h1 := Go.WideMaps.rd_key hr
   obtain ⟨m, h2, h3, _⟩ := Go.WideMaps.rd_val hr
   have hm : r ∈ L := by rw [hx1, mem_insAll, ← Go.WideMaps.rg_of hr]; exact List.mem_map.2 ⟨y, hy, rfl⟩
   rw [hL] at hm
   obtain ⟨q, hq1, hq2⟩ := List.mem_map.1 hm
   rw [← hq2] at h1 h3
   have h4 := keyInt hk h1
   simp at h3
   exact ⟨q.1, q.2, h4, by rw [h2, h3], hq1⟩
  ·have hm : (Lit.int .i64 kk, DataW.lit (.int .i64 z)) ∈ L := by rw [hL]; exact List.mem_map.2 ⟨(kk, z), hq, rfl⟩
   rw [hx1, mem_insAll] at hm
   obtain ⟨y, hy, hy2⟩ := List.mem_map.1 hm
   obtain ⟨r, hr⟩ := F.reads y hy
   rw [Go.WideMaps.rg_of hr] at hy2
   have h1 := Go.WideMaps.rd_key hr
   obtain ⟨m, h2, h3, _⟩ := Go.WideMaps.rd_val hr
   rw [hy2] at h1 h3
   simp at h3
   exact ⟨y, hy, keyInt hk h1, by rw [h2, h3]⟩
def resL : List ByteArray := [⟨⟨[97, 110, 100]⟩⟩, ⟨⟨[100, 101, 110, 121]⟩⟩, ⟨⟨[101, 108, 115, 101]⟩⟩, ⟨⟨[102, 97, 108, 115, 101]⟩⟩, ⟨⟨[103, 114, 97, 110, 116]⟩⟩, ⟨⟨[105, 102]⟩⟩, ⟨⟨[105, 110]⟩⟩, ⟨⟨[108, 101, 116]⟩⟩, ⟨⟨[110, 111, 116]⟩⟩, ⟨⟨[111, 114]⟩⟩, ⟨⟨[115, 105, 122, 101]⟩⟩, ⟨⟨[116, 104, 101, 110]⟩⟩, ⟨⟨[116, 114, 117, 101]⟩⟩, ⟨⟨[119, 104, 101, 110]⟩⟩, ⟨⟨[119, 105, 116, 104, 105, 110]⟩⟩]
end
open Go.Eng
set_option linter.unusedVariables false
theorem szValue_f {w : World} {k z : Int} {tx : ByteArray} {A : Option Addr} {m c : Nat} {xs : List ByteArray} (h : Strs w A m c xs) (ht : tx.size ≤ 9223372036854775807) (l : Int) (h0 : 0 ≤ l) (h1 : l ≤ 1048576) :
  FC Tryz.prog 89 [.agg ⟨[.int .i64 k, .int .i64 z, .string tx, .slice A m c]⟩, .int .i64 l] w fun v _ => ∃ r : Int, v = .int .i64 r ∧ r ≤ l ∧ (0 ≤ r → m ≤ 1048576) := by
 refine FC.intro (cs := []) Tryz.func89 (by kernel_rfl) fun E R hE hr hR => ?_
 conv => cbv
 refine st_box hr fun a w1 hx hb0 => ?_
 have hb := hb0 _ (n1_ _)
 conv => cbv
 (refine st_fld hE fLV2 fun p hp => ?_; (conv => cbv); refine st_load hE cStr (by rw [hp]; exact (hb).at _ _ rfl) ?_; clear hp; (conv => cbv))
 refine st_slen hE uStr fun x1 hx1 => ?_
 conv => cbv
 obtain ⟨y1, hy1⟩ : ∃ y, y = l - x1 := ⟨_, rfl⟩
 have e1 : E.ar .sub .i64 l x1 = y1 := by rw [hE.ar, hy1]; exact wrap_in (by omega) (by omega)
 simp only [e1]
 refine br (fun _ => ?_) (fun g1 => ?_)
 ·conv => cbv
  rw [hR]; exact ⟨hx, -1, rfl, by omega, fun h => by omega⟩
 have g1 : 0 ≤ y1 := by simpa [hE.cmp, cmpR] using g1
 conv => cbv
 (refine st_fld hE fLV3 fun p hp => ?_; (conv => cbv); refine st_load hE cStrs (by rw [hp]; exact (hb).at _ _ rfl) ?_; clear hp; (conv => cbv))
 refine st_qi hE (szStringS_q (h.ext hx) y1 g1 (by omega)) fun l2 hl w2 hs2 => ?_
 have hx := hx.trans hs2.ext
 conv => cbv
 refine br (fun _ => ?_) (fun g => ?_)
 ·conv => cbv
  rw [hR]; exact ⟨hx, -1, rfl, by omega, fun h => by omega⟩
 have g : 0 ≤ l2 := by simpa [hE.cmp, cmpR] using g
 have hn := room_bulk h.len (by omega : 0 ≤ room y1 (bulk xs))
 rw [← hl] at hn
 conv => cbv
 rw [hR]; exact ⟨hx, l2, rfl, by omega, fun _ => by omega⟩
theorem szValueS_f {w : World} {A : Option Addr} {n c : Nat} {pv : List PV} (h : Pool w A n pv) (hn : n ≤ 9223372036854775807) (l : Int) (h0 : 0 ≤ l) (h1 : l ≤ 1048576) :
  FC Tryz.prog 34 [.slice A n c, .int .i64 l] w fun v _ => ∃ r : Int, v = .int .i64 r ∧ r ≤ l ∧ (0 ≤ r → n ≤ 1048576 ∧ ∀ p ∈ pv, p.xs.length ≤ 1048576) := by
 refine FC.intro (cs := []) Tryz.func34 (by kernel_rfl) fun E R hE hr hR => ?_
 have hl := h.len
 conv => cbv
 refine st_len hE sLV fun x hx => ?_
 conv => cbv
 obtain ⟨y1, hy1⟩ : ∃ y, y = l - x := ⟨_, rfl⟩
 have e1 : E.ar .sub .i64 l x = y1 := by rw [hE.ar, hy1]; exact wrap_in (by omega) (by omega)
 simp only [e1]
 refine br (fun _ => ?_) (fun g1 => ?_)
 ·conv => cbv
  rw [hR]; exact ⟨Ext.refl _, -1, rfl, by omega, fun h => by omega⟩
 have g1 : 0 ≤ y1 := by simpa [hE.cmp, cmpR] using g1
 conv => cbv
 refine loop_rule hr (fun (s : Nat × Int × Int) w' => s.1 ≤ n ∧ s.2.1 = (s.1 : Int) ∧ 0 ≤ s.2.2 ∧ s.2.2 ≤ y1 ∧ Ext w w' ∧ ∀ p ∈ pv.take s.1, p.xs.length ≤ 1048576) (fun s => [(0, .slice A n c), (1, .int .i64 s.2.2), (5, .int .i64 s.2.1)]) (fun s => n - s.1) (0, 0, y1)
  (by simp [Fits, lk]) ⟨by simp, by simp, g1, by simp, Ext.refl _, by simp⟩ ?_
 rintro I hI ⟨i, ii, l'⟩ w' ⟨hi, hii, hl0, hl1, hxw, hall⟩
 simp only at hi hii hl0 hl1 hall
 obtain ⟨ii', hii'⟩ : ∃ z, z = ii + 1 := ⟨_, rfl⟩
 conv => cbv
 refine st_len hE sLV fun x2 hx2 => ?_
 conv => cbv
 refine br (fun g2 => ?_) (fun g2 => ?_)
 ·have g2 : i < n := by
   have : ii < x2 := by simpa [hE.cmp, cmpR] using g2
   omega
  have ei : E.ar .add .i64 ii 1 = ii' := by rw [hE.ar, hii']; exact wrap_in (by omega) (by omega)
  obtain ⟨a, k, z, tx, xs, A1, m, c1, hA, hg, hc, hs, htx⟩ := (h.ext hxw).get g2
  conv => cbv
  refine st_idx hE sLV hA (by omega) (by omega) fun q hq => ?_
  rw [show ii.toNat = i by omega] at hq
  conv => cbv
  refine st_loadS hE tLV rfl (by rw [hq]; exact hc) ?_
  conv => cbv
  refine st_f hr (szValue_f hs htx l' hl0 (by omega)) fun v w2 hx3 ⟨r, ev, hr1, hr2⟩ => ?_
  subst ev
  conv => cbv
  refine br (fun _ => ?_) (fun g3 => ?_)
  ·conv => cbv
   rw [hR]; exact ⟨hxw.trans hx3, -1, rfl, by omega, fun h => by omega⟩
  have g3 : 0 ≤ r := by simpa [hE.cmp, cmpR] using g3
  conv => cbv
  simp only [ei]
  refine ⟨(i + 1, ii', r), by simp [Fits, lk], hI _ _ ⟨by simp only; omega, by simp only; omega, g3, by simp only; omega, hxw.trans hx3, ?_⟩, by simp only; omega⟩
  simp only
  rw [g4_, hg]
  intro p hp
  rcases List.mem_append.1 hp with hp | hp
  ·exact hall p hp
  ·simp at hp; subst hp; simp only; rw [hs.len]; exact hr2 g3
 ·have g2 : i = n := by
   have : ¬ ii < x2 := by simpa [hE.cmp, cmpR] using g2
   omega
  rw [g3_ (by omega)] at hall
  conv => cbv
  rw [hR]; exact ⟨hxw, l', rfl, by omega, fun _ => ⟨by omega, hall⟩⟩
theorem toValue_f {w : World} {k z : Int} {tx : ByteArray} {A : Option Addr} {m c : Nat} {xs : List ByteArray} (h : Strs w A m c xs) (hm : m ≤ 1048576) :
  FC Tryz.prog 99 [.agg ⟨[.int .i64 k, .int .i64 z, .string tx, .slice A m c]⟩] w fun v w' => ∃ A1 m1 c1, v = .agg ⟨[.int .i64 k, .int .i64 z, .string tx, .slice A1 m1 c1]⟩ ∧ Own w.heap.size 9 1 w' A1 m1 c1 (xs.map .string) := by
 refine FC.intro (cs := []) Tryz.func99 (by kernel_rfl) fun E R hE hr hR => ?_
 conv => cbv
 refine st_box hr fun a w1 hx hb0 => ?_
 have hb := hb0 _ (n1_ _)
 conv => cbv
 refine st_alloc hr tIV rfl fun o w2 hx2 ho0 => ?_
 have ho := ho0 _ hx.size
 have hb := hb.bel hx2
 have hx := hx.trans hx2
 conv => cbv
 refine st_alloc hr tIV rfl fun q w3 hx3 hq0 => ?_
 have hq := hq0 _ hx.size
 have aq := (hb.apart (hq0 _ (n1_ _)) (n1_ _)).1
 have oq := (ho.apart (hq0 _ (n1_ _)) (n1_ _)).1
 have hb := hb.bel hx3
 have ho := ho.bel hx3
 have hx := hx.trans hx3
 clear hb0 ho0 hq0
 conv => cbv
 (refine st_fld hE fLV0 fun p hp => ?_; (conv => cbv); refine st_load hE cInt (by rw [hp]; exact (hb).at _ _ rfl) ?_; clear hp; (conv => cbv))
 (refine st_fld hE fIV0 fun p hp => ?_; (conv => cbv); refine st_put hr zInt hq hp (by simp) rfl fun wn hw hq2 => ?_; replace hx := hx.then (hw.bel hq hx.size); (try clear hq); (have hq := hq2); clear hq2; (simp only [b4_, b5_] at hq); clear hp)
 replace hb := hb.wr hw aq
 replace ho := ho.wr hw oq
 conv => cbv
 (refine st_fld hE fLV1 fun p hp => ?_; (conv => cbv); refine st_load hE cI64 (by rw [hp]; exact (hb).at _ _ rfl) ?_; clear hp; (conv => cbv))
 (refine st_fld hE fIV1 fun p hp => ?_; (conv => cbv); refine st_put hr zI64 hq hp (by simp) rfl fun wn hw hq2 => ?_; replace hx := hx.then (hw.bel hq hx.size); (try clear hq); (have hq := hq2); clear hq2; (simp only [b4_, b5_] at hq); clear hp)
 replace hb := hb.wr hw aq
 replace ho := ho.wr hw oq
 conv => cbv
 (refine st_fld hE fLV2 fun p hp => ?_; (conv => cbv); refine st_load hE cStr (by rw [hp]; exact (hb).at _ _ rfl) ?_; clear hp; (conv => cbv))
 (refine st_fld hE fIV2 fun p hp => ?_; (conv => cbv); refine st_put hr zStr hq hp (by simp) rfl fun wn hw hq2 => ?_; replace hx := hx.then (hw.bel hq hx.size); (try clear hq); (have hq := hq2); clear hq2; (simp only [b4_, b5_] at hq); clear hp)
 replace hb := hb.wr hw aq
 replace ho := ho.wr hw oq
 conv => cbv
 (refine st_fld hE fLV3 fun p hp => ?_; (conv => cbv); refine st_load hE cStrs (by rw [hp]; exact (hb).at _ _ rfl) ?_; clear hp; (conv => cbv))
 refine st_f hr (toStringS_f (h.ext hx) hm) fun v w4 hx4 ⟨A4, n4, c4, ev, h4, o4⟩ => ?_
 subst ev
 have ax := (hq.apart o4 (n1_ _)).2
 have bx := (ho.apart o4 (n1_ _)).2
 replace o4 := o4.mono hx.size
 replace ho := ho.bel hx4
 replace hq := hq.bel hx4
 replace hx := hx.trans hx4
 conv => cbv
 (refine st_fld hE fIV3 fun p hp => ?_; (conv => cbv); refine st_put hr zStrs hq hp (by simp) rfl fun wn hw hq2 => ?_; replace hx := hx.then (hw.bel hq hx.size); (try clear hq); (have hq := hq2); clear hq2; (simp only [b4_, b5_] at hq); clear hp)
 replace ho := ho.wr hw oq
 replace o4 := o4.wr hw ax
 conv => cbv
 refine st_loadS hE tIV rfl hq.at ?_
 conv => cbv
 refine st_putS hr (by kernel_rfl) ho (add_zero _).symm (by simp) (by simp [Value.oneCell']) fun w5 hw5 ho5 => ?_
 simp only [a1_, a2_, a3_, a4_, a5_, a6_, a7_] at ho5
 conv => cbv
 refine st_cell hr tIV rfl ho5.at ?_
 rw [hR]; exact ⟨hx.then (hw5.bel ho hx.size), A4, n4, c4, rfl, o4.wr hw5 bx⟩
def v0 : VV := ⟨⟨0, 0, ⟨#[]⟩, []⟩, none, 0, 0⟩
theorem toValueS_f {w : World} {A : Option Addr} {n c : Nat} {pv : List PV} (h : Pool w A n pv) (hn : n ≤ 1048576) (hp : ∀ p ∈ pv, p.xs.length ≤ 1048576) :
  FC Tryz.prog 40 [.slice A n c] w fun v w' => ∃ A1 c1, v = .slice A1 n c1 ∧ ∀ w2, Above w.heap.size w' w2 → Pool w2 A1 n pv := by
 refine FC.intro (cs := []) Tryz.func40 (by kernel_rfl) fun E R hE hr hR => ?_
 have hl := h.len
 conv => cbv
 refine st_len hE sLV fun x hx => ?_
 conv => cbv
 refine st_makeK hr sIV rfl (m := n) (by omega) (by omega) (by omega) fun A1 w1 hx1 h10 => ?_
 have h1 := h10 _ (n1_ _)
 rw [show (Value.agg ⟨zV⟩).cells = ⟨vC v0⟩ from rfl, made_fl (f := vC) v0 n 4 rfl (by omega)] at h1
 conv => cbv
 refine loop_rule hr (fun (s : Nat × Int × List VV) w' => s.1 ≤ n ∧ s.2.1 = (s.1 : Int) ∧ s.2.2.length = s.1 ∧ s.2.2.map (·.p) = pv.take s.1 ∧ Ext w w' ∧ Own w.heap.size 153 4 w' A1 n n ((s.2.2 ++ List.replicate (n - s.1) v0).flatMap vC) ∧
   (∀ v ∈ s.2.2, Own w1.heap.size 9 1 w' v.A v.m v.c (v.p.xs.map .string) ∧ (∀ u ∈ v.p.xs, u.size ≤ 9223372036854775807) ∧ v.p.tx.size ≤ 9223372036854775807) ∧ w1.heap.size ≤ w'.heap.size)
  (fun s => [(0, .slice A n c), (3, .slice A1 n n), (4, .int .i64 s.2.1)]) (fun s => n - s.1) (0, 0, [])
  (by simp [Fits, lk]) ⟨by simp, by simp, rfl, by simp, hx1, by simpa using h1, by simp, n1_ _⟩ ?_
 rintro I hI ⟨i, ii, ds⟩ w' ⟨hi, hii, hdl, hdp, hxw, ho, hds, hsz⟩
 simp only at hi hii hdl hdp ho hds
 obtain ⟨ii', hii'⟩ : ∃ z, z = ii + 1 := ⟨_, rfl⟩
 conv => cbv
 refine st_len hE sLV fun x2 hx2 => ?_
 conv => cbv
 refine br (fun g2 => ?_) (fun g2 => ?_)
 ·have g2 : i < n := by
   have : ii < x2 := by simpa [hE.cmp, cmpR] using g2
   omega
  have ei : E.ar .add .i64 ii 1 = ii' := by rw [hE.ar, hii']; exact wrap_in (by omega) (by omega)
  obtain ⟨a, k, z, tx, xs, A2, m, c2, hA, hg, hc, hs, htx⟩ := (h.ext hxw).get g2
  have hxl : xs.length ≤ 1048576 := hp _ (m1_ hg)
  obtain ⟨gb, rfl, _⟩ := ho.addr (by omega)
  conv => cbv
  refine st_idx hE sLV hA (by omega) (by omega) fun q hq => ?_
  rw [show ii.toNat = i by omega] at hq
  conv => cbv
  refine st_loadS hE tLV rfl (by rw [hq]; exact hc) ?_
  conv => cbv
  refine st_f hr (toValue_f (k := k) (z := z) (tx := tx) hs (by rw [← hs.len]; exact hxl)) fun v w2 hx3 ⟨A3, m3, c3, ev, o3⟩ => ?_
  subst ev
  have ap : ∀ {A5 m5 c5 ys}, Own w1.heap.size 9 1 w2 A5 m5 c5 ys → Apart A5 (some ⟨gb, 0, none⟩) := fun h5 => (h1.apart h5 (n1_ _)).2
  replace o3 := o3.mono hsz
  replace ho := ho.bel hx3
  have hds2 : ∀ v ∈ ds, Own w1.heap.size 9 1 w2 v.A v.m v.c (v.p.xs.map .string) ∧ (∀ u ∈ v.p.xs, u.size ≤ 9223372036854775807) ∧ v.p.tx.size ≤ 9223372036854775807 := fun v hv => ⟨(hds v hv).1.bel hx3, (hds v hv).2⟩
  replace hxw := hxw.trans hx3
  conv => cbv
  refine st_idx hE sIV rfl (by omega) (by omega) fun q1 hq1 => ?_
  rw [show ii.toNat = i by omega] at hq1
  conv => cbv
  obtain ⟨y, hy⟩ : ∃ y : VV, y = ⟨⟨k, z, tx, xs⟩, A3, m3, c3⟩ := ⟨_, rfl⟩
  refine st_putS hr (vs := [.int .i64 k, .int .i64 z, .string tx, .slice A3 m3 c3]) (by kernel_rfl) ho (j := i * 4) hq1 (by rw [fl_len vC_len]; simp; omega) (by simp [Value.oneCell']) fun w3 hw3 ho3 => ?_
  rw [show [Value.int .i64 k, .int .i64 z, .string tx, .slice A3 m3 c3] = vC y by rw [hy]; rfl, fl_put vC_len _ i y (by simp; omega)] at ho3
  have hset : (ds ++ List.replicate (n - i) v0).set i y = (ds ++ [y]) ++ List.replicate (n - (i + 1)) v0 := by
   rw [List.set_append_right _ _ (by omega), hdl, Nat.sub_self, show n - i = (n - (i + 1)) + 1 by omega, List.replicate_succ, b4_, List.append_assoc]; rfl
  rw [hset] at ho3
  conv => cbv
  simp only [ei]
  refine ⟨(i + 1, ii', ds ++ [y]), by simp [Fits, lk], hI _ _ ⟨by simp only; omega, by simp only; omega, by simp [hdl], ?_, hxw.then (hw3.bel ho hxw.size), ho3, ?_, ?_⟩, by simp only; omega⟩
  ·simp only
   rw [List.map_append, hdp, g4_, hg, hy]; rfl
  ·intro v hv
   rcases List.mem_append.1 hv with hv | hv
   ·exact ⟨(hds2 v hv).1.wr hw3 (ap (hds2 v hv).1), (hds2 v hv).2⟩
   ·simp at hv
    subst hv
    rw [hy]
    exact ⟨o3.wr hw3 (ap o3), hs.small, htx⟩
  ·have := hw3.size; have := hx3.size; omega
 ·have g2 : i = n := by
   have : ¬ ii < x2 := by simpa [hE.cmp, cmpR] using g2
   omega
  subst g2
  rw [g3_ (by omega)] at hdp
  simp only [Nat.sub_self, List.replicate_zero, a7_] at ho
  conv => cbv
  rw [hR]; exact ⟨hxw, A1, i, rfl, fun w2 ha => ⟨ds, hdp, hdl, (ho.above ha).cells, fun v hv => ⟨(((hds v hv).1.mono hx1.size).above ha).strs (hds v hv).2.1, (hds v hv).2.2⟩⟩⟩
theorem toIns_f {w : World} {o g : Int} : FC Tryz.prog 100 [.agg ⟨[.int .i64 o, .int .i64 g]⟩] w fun v _ => v = .agg ⟨[.int .i64 o, .int .i64 g]⟩ := by
 refine FC.intro (cs := []) Tryz.func100 (by kernel_rfl) fun E R hE hr hR => ?_
 conv => cbv
 refine st_box hr fun a w1 hx hb0 => ?_
 have hb := hb0 _ (n1_ _)
 conv => cbv
 refine st_alloc hr tII rfl fun o w2 hx2 ho0 => ?_
 have ho := ho0 _ hx.size
 have hb := hb.bel hx2
 have hx := hx.trans hx2
 conv => cbv
 refine st_alloc hr tII rfl fun q w3 hx3 hq0 => ?_
 have hq := hq0 _ hx.size
 have aq := (hb.apart (hq0 _ (n1_ _)) (n1_ _)).1
 have oq := (ho.apart (hq0 _ (n1_ _)) (n1_ _)).1
 have hb := hb.bel hx3
 have ho := ho.bel hx3
 have hx := hx.trans hx3
 clear hb0 ho0 hq0
 conv => cbv
 (refine st_fld hE fLI0 fun p hp => ?_; (conv => cbv); refine st_load hE cInt (by rw [hp]; exact (hb).at _ _ rfl) ?_; clear hp; (conv => cbv))
 (refine st_fld hE fII0 fun p hp => ?_; (conv => cbv); refine st_put hr zInt hq hp (by simp) rfl fun wn hw hq2 => ?_; replace hx := hx.then (hw.bel hq hx.size); (try clear hq); (have hq := hq2); clear hq2; (simp only [b4_, b5_] at hq); clear hp)
 replace hb := hb.wr hw aq
 replace ho := ho.wr hw oq
 conv => cbv
 (refine st_fld hE fLI1 fun p hp => ?_; (conv => cbv); refine st_load hE cInt (by rw [hp]; exact (hb).at _ _ rfl) ?_; clear hp; (conv => cbv))
 (refine st_fld hE fII1 fun p hp => ?_; (conv => cbv); refine st_put hr zInt hq hp (by simp) rfl fun wn hw hq2 => ?_; replace hx := hx.then (hw.bel hq hx.size); (try clear hq); (have hq := hq2); clear hq2; (simp only [b4_, b5_] at hq); clear hp)
 replace ho := ho.wr hw oq
 conv => cbv
 refine st_loadS hE tII rfl hq.at ?_
 conv => cbv
 refine st_putS hr (by kernel_rfl) ho (add_zero _).symm (by simp) (by simp [Value.oneCell']) fun w5 hw5 ho5 => ?_
 simp only [a1_, a2_, a3_, a4_, a5_, a6_, a7_] at ho5
 conv => cbv
 refine st_cell hr tII rfl ho5.at ?_
 rw [hR]; exact ⟨hx.then (hw5.bel ho hx.size), rfl⟩
theorem toInsS_f {w : World} {A : Option Addr} {n c : Nat} {is : List (Int × Int)} (h : InsR w A n is) (hn : n ≤ 1048576) :
  FC Tryz.prog 41 [.slice A n c] w fun v w' => ∃ A1 c1, v = .slice A1 n c1 ∧ ∀ w2, Above w.heap.size w' w2 → InsR w2 A1 n is := by
 refine FC.intro (cs := []) Tryz.func41 (by kernel_rfl) fun E R hE hr hR => ?_
 have hl := h.len
 conv => cbv
 refine st_len hE sLI fun x hx => ?_
 conv => cbv
 refine st_makeK hr sII rfl (m := n) (by omega) (by omega) (by omega) fun A1 w1 hx1 h10 => ?_
 have h1 := h10 _ (n1_ _)
 rw [show (Value.agg ⟨zI⟩).cells = ⟨iC (0, 0)⟩ from rfl, made_fl (f := iC) (0, 0) n 2 rfl (by omega)] at h1
 conv => cbv
 refine loop_rule hr (fun (s : Nat × Int) w' => s.1 ≤ n ∧ s.2 = (s.1 : Int) ∧ Ext w w' ∧ Own w.heap.size 152 2 w' A1 n n ((is.take s.1 ++ List.replicate (n - s.1) (0, 0)).flatMap iC))
  (fun s => [(0, .slice A n c), (3, .slice A1 n n), (4, .int .i64 s.2)]) (fun s => n - s.1) (0, 0)
  (by simp [Fits, lk]) ⟨by simp, by simp, hx1, by simpa using h1⟩ ?_
 rintro I hI ⟨i, ii⟩ w' ⟨hi, hii, hxw, ho⟩
 simp only at hi hii ho
 obtain ⟨ii', hii'⟩ : ∃ z, z = ii + 1 := ⟨_, rfl⟩
 conv => cbv
 refine st_len hE sLI fun x2 hx2 => ?_
 conv => cbv
 refine br (fun g2 => ?_) (fun g2 => ?_)
 ·have g2 : i < n := by
   have : ii < x2 := by simpa [hE.cmp, cmpR] using g2
   omega
  have ei : E.ar .add .i64 ii 1 = ii' := by rw [hE.ar, hii']; exact wrap_in (by omega) (by omega)
  obtain ⟨a, o, g, hA, hg, hc⟩ := (h.ext hxw).get g2
  obtain ⟨gb, rfl, _⟩ := ho.addr (by omega)
  conv => cbv
  refine st_idx hE sLI hA (by omega) (by omega) fun q hq => ?_
  rw [show ii.toNat = i by omega] at hq
  conv => cbv
  refine st_loadS hE tLI rfl (by rw [hq]; exact hc) ?_
  conv => cbv
  refine st_f hr (toIns_f (o := o) (g := g)) fun v w2 hx3 ev => ?_
  subst ev
  replace ho := ho.bel hx3
  replace hxw := hxw.trans hx3
  conv => cbv
  refine st_idx hE sII rfl (by omega) (by omega) fun q1 hq1 => ?_
  rw [show ii.toNat = i by omega] at hq1
  conv => cbv
  refine st_putS hr (vs := [.int .i64 o, .int .i64 g]) (by kernel_rfl) ho (j := i * 2) hq1 (by rw [fl_len iC_len]; simp; omega) (by simp [Value.oneCell']) fun w3 hw3 ho3 => ?_
  rw [show [Value.int .i64 o, .int .i64 g] = iC (o, g) from rfl, fl_put iC_len _ i (o, g) (by simp; omega)] at ho3
  have hset : (is.take i ++ List.replicate (n - i) ((0, 0) : Int × Int)).set i (o, g) = is.take (i + 1) ++ List.replicate (n - (i + 1)) (0, 0) := by
   rw [List.set_append_right _ _ (by simp; omega), List.length_take, Nat.min_eq_left (by omega), Nat.sub_self, show n - i = (n - (i + 1)) + 1 by omega, List.replicate_succ, b4_, g4_, hg, List.append_assoc]; rfl
  rw [hset] at ho3
  conv => cbv
  simp only [ei]
  exact ⟨(i + 1, ii'), by simp [Fits, lk], hI _ _ ⟨by simp only; omega, by simp only; omega, hxw.then (hw3.bel ho hxw.size), ho3⟩, by simp only; omega⟩
 ·have g2 : i = n := by
   have : ¬ ii < x2 := by simpa [hE.cmp, cmpR] using g2
   omega
  subst g2
  rw [g3_ (by omega)] at ho
  simp only [Nat.sub_self, List.replicate_zero, a7_] at ho
  conv => cbv
  rw [hR]; exact ⟨hxw, A1, i, rfl, fun w2 ha => ⟨hl, (ho.above ha).cells⟩⟩
theorem toCode_f {w : World} {A A2 : Option Addr} {n c n2 c2 : Nat} {sl : Int} {pv : List PV} {is : List (Int × Int)} (h : CodeR w A n A2 n2 pv is) (hn : n ≤ 1048576) (hn2 : n2 ≤ 1048576) (hp : ∀ p ∈ pv, p.xs.length ≤ 1048576) :
  FC Tryz.prog 9 [codeV A n c sl A2 n2 c2] w fun v w' => ∃ A1 c1 A3 c3, v = codeV A1 n c1 sl A3 n2 c3 ∧ CodeR w' A1 n A3 n2 pv is := by
 refine FC.intro (cs := []) Tryz.func9 (by kernel_rfl) fun E R hE hr hR => ?_
 conv => cbv
 refine st_box hr fun a w1 hx hb0 => ?_
 have hb := hb0 _ (n1_ _)
 conv => cbv
 refine st_alloc hr tIC rfl fun o w2 hx2 ho0 => ?_
 have ho := ho0 _ hx.size
 have hb := hb.bel hx2
 have hx := hx.trans hx2
 conv => cbv
 refine st_alloc hr tIC rfl fun q w3 hx3 hq0 => ?_
 have hq := hq0 _ hx.size
 have aq := (hb.apart (hq0 _ (n1_ _)) (n1_ _)).1
 have oq := (ho.apart (hq0 _ (n1_ _)) (n1_ _)).1
 have o0 := ho
 have hso := hx3.size
 have hb := hb.bel hx3
 have ho := ho.bel hx3
 have hx := hx.trans hx3
 clear hb0 ho0 hq0
 conv => cbv
 (refine st_fld hE fLC0 fun p hp => ?_; (conv => cbv); refine st_load hE cLVs (by rw [hp]; exact (hb).at _ _ rfl) ?_; clear hp; (conv => cbv))
 refine st_f hr (toValueS_f (h.pool.ext hx) hn hp) fun v w4 hx4 ⟨A4, c4, ev, h4⟩ => ?_
 subst ev
 have hs4 := hx4.size
 have q0 := hq
 replace hb := hb.bel hx4
 replace ho := ho.bel hx4
 replace hq := hq.bel hx4
 replace hx := hx.trans hx4
 conv => cbv
 (refine st_fld hE fIC0 fun p hp => ?_; (conv => cbv); refine st_put hr zIVs hq hp (by simp) rfl fun wn hw hq2 => ?_; replace hx := hx.then (hw.bel hq hx.size); (try clear hq); (have hq := hq2); clear hq2; (simp only [b4_, b5_] at hq); clear hp)
 have y4 : Above w3.heap.size w4 wn := hw.above q0 (n1_ _)
 replace hb := hb.wr hw aq
 replace ho := ho.wr hw oq
 conv => cbv
 (refine st_fld hE fLC1 fun p hp => ?_; (conv => cbv); refine st_load hE cInt (by rw [hp]; exact (hb).at _ _ rfl) ?_; clear hp; (conv => cbv))
 refine st_fld hE fIC1 fun p hp => ?_
 conv => cbv
 refine st_put hr zInt hq hp (by simp) rfl fun wm hwm hq2 => ?_
 replace hx := hx.then (hwm.bel hq hx.size)
 replace y4 := y4.trans (hwm.above q0 (n1_ _))
 simp only [b4_, b5_] at hq2
 replace hq := hq2
 replace hb := hb.wr hwm aq
 replace ho := ho.wr hwm oq
 have hsz : w3.heap.size ≤ wm.heap.size := n2_ hs4 y4.size
 conv => cbv
 (refine st_fld hE fLC2 fun p hp => ?_; (conv => cbv); refine st_load hE cLIs (by rw [hp]; exact (hb).at _ _ rfl) ?_; clear hp; (conv => cbv))
 refine st_f hr (toInsS_f (h.ins.ext hx) hn2) fun v w6 hx6 ⟨A6, c6, ev, h6⟩ => ?_
 subst ev
 replace ho := ho.bel hx6
 replace hq := hq.bel hx6
 replace hx := hx.trans hx6
 replace y4 := y4.trans (hx6.above _)
 conv => cbv
 refine st_fld hE fIC2 fun p2 hp2 => ?_
 conv => cbv
 refine st_put hr zIIs hq hp2 (by simp) rfl fun w7 hw7 hq3 => ?_
 have y7 : Above w3.heap.size w6 w7 := hw7.above q0 (n1_ _)
 replace hx := hx.then (hw7.bel hq hx.size)
 replace ho := ho.wr hw7 oq
 simp only [b4_, b5_] at hq3
 replace y4 := y4.trans y7
 conv => cbv
 refine st_loadS hE tIC rfl hq3.at ?_
 conv => cbv
 refine st_putS hr (by kernel_rfl) ho (add_zero _).symm (by simp) (by simp [Value.oneCell']) fun w8 hw8 ho8 => ?_
 simp only [a1_, a2_, a3_, a4_, a5_, a6_, a7_] at ho8
 have y8 : Above w3.heap.size w7 w8 := hw8.above o0 hso
 conv => cbv
 refine st_cell hr tIC rfl ho8.at ?_
 rw [hR]; exact ⟨hx.then (hw8.bel ho hx.size), A4, c4, A6, c6, rfl, h4 _ (y4.trans y8), h6 _ ((y7.trans y8).mono hsz)⟩
theorem eqValue_f {w : World} {k z : Int} {tx : ByteArray} {A A1 : Option Addr} {m c m1 c1 : Nat} {xs : List ByteArray} (h : Strs w A m c xs) (h1 : Strs w A1 m1 c1 xs) :
  FC Tryz.prog 111 [.agg ⟨[.int .i64 k, .int .i64 z, .string tx, .slice A m c]⟩, .agg ⟨[.int .i64 k, .int .i64 z, .string tx, .slice A1 m1 c1]⟩] w fun v _ => v = .bool true := by
 refine FC.intro (cs := []) Tryz.func111 (by kernel_rfl) fun E R hE hr hR => ?_
 have ei : ∀ z : Int, ¬ E.cmp .neq z z = true := fun z => by rw [hE.cmp]; simp [cmpR]
 have es : ∀ z : ByteArray, ¬ E.scmp .neq z z = true := fun z => by rw [hE.scmp, scmp_neq]; simp
 conv => cbv
 refine st_box hr fun a w1 hx ha0 => ?_
 have ha := ha0 _ (n1_ _)
 conv => cbv
 refine st_box hr fun b w2 hx2 hb0 => ?_
 have hb := hb0 _ hx.size
 replace ha := ha.bel hx2
 replace hx := hx.trans hx2
 clear ha0 hb0
 conv => cbv
 (refine st_fld hE fIV0 fun p hp => ?_; (conv => cbv); refine st_load hE cInt (by rw [hp]; exact (ha).at _ _ rfl) ?_; clear hp; (conv => cbv))
 (refine st_fld hE fIV0 fun p hp => ?_; (conv => cbv); refine st_load hE cInt (by rw [hp]; exact (hb).at _ _ rfl) ?_; clear hp; (conv => cbv))
 refine br (fun g => absurd g (ei _)) (fun _ => ?_)
 conv => cbv
 (refine st_fld hE fIV1 fun p hp => ?_; (conv => cbv); refine st_load hE cI64 (by rw [hp]; exact (ha).at _ _ rfl) ?_; clear hp; (conv => cbv))
 (refine st_fld hE fIV1 fun p hp => ?_; (conv => cbv); refine st_load hE cI64 (by rw [hp]; exact (hb).at _ _ rfl) ?_; clear hp; (conv => cbv))
 refine br (fun g => absurd g (ei _)) (fun _ => ?_)
 conv => cbv
 (refine st_fld hE fIV2 fun p hp => ?_; (conv => cbv); refine st_load hE cStr (by rw [hp]; exact (ha).at _ _ rfl) ?_; clear hp; (conv => cbv))
 (refine st_fld hE fIV2 fun p hp => ?_; (conv => cbv); refine st_load hE cStr (by rw [hp]; exact (hb).at _ _ rfl) ?_; clear hp; (conv => cbv))
 refine br (fun g => absurd g (es _)) (fun _ => ?_)
 conv => cbv
 (refine st_fld hE fIV3 fun p hp => ?_; (conv => cbv); refine st_load hE cStrs (by rw [hp]; exact (ha).at _ _ rfl) ?_; clear hp; (conv => cbv))
 (refine st_fld hE fIV3 fun p hp => ?_; (conv => cbv); refine st_load hE cStrs (by rw [hp]; exact (hb).at _ _ rfl) ?_; clear hp; (conv => cbv))
 refine st_qb hE (eqStringS_q (h.ext hx) (h1.ext hx)) fun v hv w3 hs3 => ?_
 obtain rfl : v = true := hv.2 rfl
 conv => cbv
 rw [hR]; exact ⟨hx.trans hs3.ext, rfl⟩
theorem eqIns_f {w : World} {o g : Int} :
  FC Tryz.prog 112 [.agg ⟨[.int .i64 o, .int .i64 g]⟩, .agg ⟨[.int .i64 o, .int .i64 g]⟩] w fun v _ => v = .bool true := by
 refine FC.intro (cs := []) Tryz.func112 (by kernel_rfl) fun E R hE hr hR => ?_
 have ei : ∀ z : Int, ¬ E.cmp .neq z z = true := fun z => by rw [hE.cmp]; simp [cmpR]
 conv => cbv
 refine st_box hr fun a w1 hx ha0 => ?_
 have ha := ha0 _ (n1_ _)
 conv => cbv
 refine st_box hr fun b w2 hx2 hb0 => ?_
 have hb := hb0 _ hx.size
 replace ha := ha.bel hx2
 replace hx := hx.trans hx2
 clear ha0 hb0
 conv => cbv
 (refine st_fld hE fII0 fun p hp => ?_; (conv => cbv); refine st_load hE cInt (by rw [hp]; exact (ha).at _ _ rfl) ?_; clear hp; (conv => cbv))
 (refine st_fld hE fII0 fun p hp => ?_; (conv => cbv); refine st_load hE cInt (by rw [hp]; exact (hb).at _ _ rfl) ?_; clear hp; (conv => cbv))
 refine br (fun g => absurd g (ei _)) (fun _ => ?_)
 conv => cbv
 (refine st_fld hE fII1 fun p hp => ?_; (conv => cbv); refine st_load hE cInt (by rw [hp]; exact (ha).at _ _ rfl) ?_; clear hp; (conv => cbv))
 (refine st_fld hE fII1 fun p hp => ?_; (conv => cbv); refine st_load hE cInt (by rw [hp]; exact (hb).at _ _ rfl) ?_; clear hp; (conv => cbv))
 refine br (fun g => absurd g (ei _)) (fun _ => ?_)
 conv => cbv
 rw [hR]; exact ⟨hx, rfl⟩
theorem eqValueS_f {w : World} {A A1 : Option Addr} {n c c1 : Nat} {xs : List PV} (h : Pool w A n xs) (h1 : Pool w A1 n xs) (hn : n ≤ 9223372036854775807) :
  FC Tryz.prog 47 [.slice A n c, .slice A1 n c1] w fun v _ => v = .bool true := by
 refine FC.intro (cs := []) Tryz.func47 (by kernel_rfl) fun E R hE hr hR => ?_
 have ei : ∀ z : Int, ¬ E.cmp .neq z z = true := fun z => by rw [hE.cmp]; simp [cmpR]
 conv => cbv
 refine st_len hE sIV fun x hx => ?_
 conv => cbv
 refine st_len hE sIV fun x' hx' => ?_
 obtain rfl : x = x' := by rw [hx, hx']
 conv => cbv
 refine br (fun g => absurd g (ei _)) (fun _ => ?_)
 conv => cbv
 refine loop_rule hr (fun (s : Nat × Int) w' => s.1 ≤ n ∧ s.2 = (s.1 : Int) ∧ Ext w w') (fun s => [(0, .slice A n c), (1, .slice A1 n c1), (5, .int .i64 s.2)]) (fun s => n - s.1) (0, 0)
  (by simp [Fits, lk]) ⟨by simp, by simp, Ext.refl _⟩ ?_
 rintro I hI ⟨i, z⟩ w' ⟨hi, hz, hxw⟩
 simp only at hi hz
 obtain ⟨z', hz'⟩ : ∃ z', z' = z + 1 := ⟨_, rfl⟩
 conv => cbv
 refine st_len hE sIV fun y hy => ?_
 conv => cbv
 refine br (fun g => ?_) (fun g => ?_)
 ·have g : i < n := by
   have : z < y := by simpa [hE.cmp, cmpR] using g
   omega
  have e1 : E.ar .add .i64 z 1 = z' := by rw [hE.ar, hz']; exact wrap_in (by omega) (by omega)
  conv => cbv
  refine draw_h [0, 1, 2, 3, 4, 5, 6, 7] [(8, false), (9, false)] hr fol (by kernel_rfl) fun E' hE' w0 hs0 S hS => ?_
  replace hxw := hxw.trans hs0.ext
  obtain ⟨a, k, u, tx, xs, A2, m, c2, hA, hg, hc, hs, ht⟩ := (h.ext hxw).get g
  obtain ⟨a1, k1, u1, tx1, xs1, A3, m1, c3, hA1, hg1, hc1, hs1, ht1⟩ := (h1.ext hxw).get g
  rw [hg] at hg1
  simp only [Option.some.injEq, PV.mk.injEq] at hg1
  obtain ⟨rfl, rfl, rfl, rfl⟩ := hg1
  conv => cbv
  refine st_idx hE' sIV hA (by omega) (by omega) fun q hq => ?_
  rw [show z.toNat = i by omega] at hq
  conv => cbv
  refine st_loadS hE' tIV rfl (by rw [hq]; exact hc) ?_
  conv => cbv
  refine st_idx hE' sIV hA1 (by omega) (by omega) fun q1 hq1 => ?_
  rw [show z.toNat = i by omega] at hq1
  conv => cbv
  refine st_loadS hE' tIV rfl (by rw [hq1]; exact hc1) ?_
  conv => cbv
  refine st_f hr (eqValue_f (k := k) (z := u) (tx := tx) hs hs1) fun v w2 hx2 ev => ?_
  subst ev
  replace hxw := hxw.trans hx2
  refine ⟨hS _ hx2, ?_⟩
  conv => cbv
  refine ⟨hS _ hx2, ?_⟩
  conv => cbv
  simp only [e1]
  exact ⟨(i + 1, z'), by simp [Fits, lk], hI _ _ ⟨by simp only; omega, by simp only; omega, hxw⟩, by simp only; omega⟩
 ·conv => cbv
  rw [hR]; exact ⟨hxw, rfl⟩
theorem eqInsS_f {w : World} {A A1 : Option Addr} {n c c1 : Nat} {xs : List (Int × Int)} (h : InsR w A n xs) (h1 : InsR w A1 n xs) (hn : n ≤ 9223372036854775807) :
  FC Tryz.prog 48 [.slice A n c, .slice A1 n c1] w fun v _ => v = .bool true := by
 refine FC.intro (cs := []) Tryz.func48 (by kernel_rfl) fun E R hE hr hR => ?_
 have ei : ∀ z : Int, ¬ E.cmp .neq z z = true := fun z => by rw [hE.cmp]; simp [cmpR]
 conv => cbv
 refine st_len hE sII fun x hx => ?_
 conv => cbv
 refine st_len hE sII fun x' hx' => ?_
 obtain rfl : x = x' := by rw [hx, hx']
 conv => cbv
 refine br (fun g => absurd g (ei _)) (fun _ => ?_)
 conv => cbv
 refine loop_rule hr (fun (s : Nat × Int) w' => s.1 ≤ n ∧ s.2 = (s.1 : Int) ∧ Ext w w') (fun s => [(0, .slice A n c), (1, .slice A1 n c1), (5, .int .i64 s.2)]) (fun s => n - s.1) (0, 0)
  (by simp [Fits, lk]) ⟨by simp, by simp, Ext.refl _⟩ ?_
 rintro I hI ⟨i, z⟩ w' ⟨hi, hz, hxw⟩
 simp only at hi hz
 obtain ⟨z', hz'⟩ : ∃ z', z' = z + 1 := ⟨_, rfl⟩
 conv => cbv
 refine st_len hE sII fun y hy => ?_
 conv => cbv
 refine br (fun g => ?_) (fun g => ?_)
 ·have g : i < n := by
   have : z < y := by simpa [hE.cmp, cmpR] using g
   omega
  have e1 : E.ar .add .i64 z 1 = z' := by rw [hE.ar, hz']; exact wrap_in (by omega) (by omega)
  conv => cbv
  refine draw_h [0, 1, 2, 3, 4, 5, 6, 7] [(8, false), (9, false)] hr fol (by kernel_rfl) fun E' hE' w0 hs0 S hS => ?_
  replace hxw := hxw.trans hs0.ext
  obtain ⟨a, o, u, hA, hg, hc⟩ := (h.ext hxw).get g
  obtain ⟨a1, o1, u1, hA1, hg1, hc1⟩ := (h1.ext hxw).get g
  rw [hg] at hg1
  simp only [Option.some.injEq, Prod.mk.injEq] at hg1
  obtain ⟨rfl, rfl⟩ := hg1
  conv => cbv
  refine st_idx hE' sII hA (by omega) (by omega) fun q hq => ?_
  rw [show z.toNat = i by omega] at hq
  conv => cbv
  refine st_loadS hE' tII rfl (by rw [hq]; exact hc) ?_
  conv => cbv
  refine st_idx hE' sII hA1 (by omega) (by omega) fun q1 hq1 => ?_
  rw [show z.toNat = i by omega] at hq1
  conv => cbv
  refine st_loadS hE' tII rfl (by rw [hq1]; exact hc1) ?_
  conv => cbv
  refine st_f hr (eqIns_f (o := o) (g := u)) fun v w2 hx2 ev => ?_
  subst ev
  replace hxw := hxw.trans hx2
  refine ⟨hS _ hx2, ?_⟩
  conv => cbv
  refine ⟨hS _ hx2, ?_⟩
  conv => cbv
  simp only [e1]
  exact ⟨(i + 1, z'), by simp [Fits, lk], hI _ _ ⟨by simp only; omega, by simp only; omega, hxw⟩, by simp only; omega⟩
 ·conv => cbv
  rw [hR]; exact ⟨hxw, rfl⟩
theorem eqCode_f {w : World} {A A2 A3 A4 : Option Addr} {n c n2 c2 c3 c4 : Nat} {sl : Int} {pv : List PV} {is : List (Int × Int)} (h : CodeR w A n A2 n2 pv is) (h' : CodeR w A3 n A4 n2 pv is) (hn : n ≤ 9223372036854775807) (hn2 : n2 ≤ 9223372036854775807) :
  FC Tryz.prog 13 [codeV A n c sl A2 n2 c2, codeV A3 n c3 sl A4 n2 c4] w fun v _ => v = .bool true := by
 refine FC.intro (cs := []) Tryz.func13 (by kernel_rfl) fun E R hE hr hR => ?_
 have ei : ∀ z : Int, ¬ E.cmp .neq z z = true := fun z => by rw [hE.cmp]; simp [cmpR]
 conv => cbv
 refine st_box hr fun a w1 hx ha0 => ?_
 have ha := ha0 _ (n1_ _)
 conv => cbv
 refine st_box hr fun b w2 hx2 hb0 => ?_
 have hb := hb0 _ hx.size
 replace ha := ha.bel hx2
 replace hx := hx.trans hx2
 clear ha0 hb0
 conv => cbv
 (refine st_fld hE fIC0 fun p hp => ?_; (conv => cbv); refine st_load hE cIVs (by rw [hp]; exact (ha).at _ _ rfl) ?_; clear hp; (conv => cbv))
 (refine st_fld hE fIC0 fun p hp => ?_; (conv => cbv); refine st_load hE cIVs (by rw [hp]; exact (hb).at _ _ rfl) ?_; clear hp; (conv => cbv))
 refine st_f hr (eqValueS_f (h.pool.ext hx) (h'.pool.ext hx) hn) fun v w3 hx3 ev => ?_
 subst ev
 replace ha := ha.bel hx3
 replace hb := hb.bel hx3
 replace hx := hx.trans hx3
 conv => cbv
 (refine st_fld hE fIC1 fun p hp => ?_; (conv => cbv); refine st_load hE cInt (by rw [hp]; exact (ha).at _ _ rfl) ?_; clear hp; (conv => cbv))
 (refine st_fld hE fIC1 fun p hp => ?_; (conv => cbv); refine st_load hE cInt (by rw [hp]; exact (hb).at _ _ rfl) ?_; clear hp; (conv => cbv))
 refine br (fun g => absurd g (ei _)) (fun _ => ?_)
 conv => cbv
 (refine st_fld hE fIC2 fun p hp => ?_; (conv => cbv); refine st_load hE cIIs (by rw [hp]; exact (ha).at _ _ rfl) ?_; clear hp; (conv => cbv))
 (refine st_fld hE fIC2 fun p hp => ?_; (conv => cbv); refine st_load hE cIIs (by rw [hp]; exact (hb).at _ _ rfl) ?_; clear hp; (conv => cbv))
 refine st_f hr (eqInsS_f (h.ins.ext hx) (h'.ins.ext hx) hn2) fun v w4 hx4 ev => ?_
 subst ev
 conv => cbv
 rw [hR]; exact ⟨hx.trans hx4, rfl⟩
set_option linter.unusedSimpArgs false
def valOK (p : PV) : Prop :=
 (p.k = 1 ∧ (p.n = 0 ∨ p.n = 1) ∧ p.tx = ⟨#[]⟩ ∧ p.xs = []) ∨ (p.k = 2 ∧ p.tx = ⟨#[]⟩ ∧ p.xs = []) ∨ (p.k = 3 ∧ p.n = 0 ∧ nameBytes p.tx ∧ p.xs = []) ∨ (p.k = 4 ∧ p.n = 0 ∧ p.tx = ⟨#[]⟩ ∧ isSet p.xs)
theorem data_len (s : ByteArray) : s.data.toList.length = s.size := Array.length_toList
theorem size0 (s : ByteArray) : s.size = 0 ↔ s = ⟨#[]⟩ := by
 constructor
 ·intro h
  have : s.data.toList = [] := List.eq_nil_of_length_eq_zero (by rw [data_len]; exact h)
  cases s with
  | mk d => simp at this; rw [this]
 ·intro h; rw [h]; rfl
theorem quoted_iff (s : ByteArray) : (s = ⟨#[]⟩ ∨ validName s) ↔ nameBytes s := by
 unfold validName
 constructor
 ·rintro (h | h)
  ·subst h; exact ⟨fun i h => by simp [ByteArray.size] at h, by simp [ByteArray.size]⟩
  ·exact h.2
 ·intro h
  by_cases h0 : s.size = 0
  ·exact .inl ((size0 s).1 h0)
  ·exact .inr ⟨h0, h⟩
theorem l2quoted_f {w : World} (s : ByteArray) (hs : s.size ≤ 9223372036854775807) : FC Tryz.prog 229 [.string s] w fun v _ => ∃ b : Bool, v = .bool b ∧ (b = true ↔ nameBytes s) := by
 refine FC.intro (cs := []) Tryz.func229 (by kernel_rfl) fun E R hE hr hR => ?_
 conv => cbv
 refine br (fun g => ?_) (fun g => ?_)
 ·have g : s = ⟨#[]⟩ := by simpa [hE.scmp, scmp_eql] using g
  conv => cbv
  rw [hR]; exact ⟨Ext.refl _, true, rfl, by rw [← quoted_iff]; simp [g]⟩
 ·have g : s ≠ ⟨#[]⟩ := by simpa [hE.scmp, scmp_eql] using g
  conv => cbv
  refine st_qb hE (sValidName_q s _ hs) fun b hb w2 hs2 => ?_
  conv => cbv
  rw [hR]; exact ⟨hs2.ext, b, rfl, by rw [hb, ← quoted_iff]; simp [g]⟩
theorem l5value_f {w : World} {k z : Int} {tx : ByteArray} {A : Option Addr} {m c : Nat} {xs : List ByteArray} (h : Strs w A m c xs) (ht : tx.size ≤ 9223372036854775807) :
  FC Tryz.prog 150 [.agg ⟨[.int .i64 k, .int .i64 z, .string tx, .slice A m c]⟩] w fun v _ => ∃ b : Bool, v = .bool b ∧ (b = true ↔ valOK ⟨k, z, tx, xs⟩) := by
 refine FC.intro (cs := []) Tryz.func150 (by kernel_rfl) fun E R hE hr hR => ?_
 have hsl := h.len
 conv => cbv
 refine st_box hr fun a w1 hx hb0 => ?_
 have hb := hb0 _ (n1_ _)
 clear hb0
 conv => cbv
 (refine st_fld hE fIV0 fun p hp => ?_; (conv => cbv); refine st_load hE cInt (by rw [hp]; exact (hb).at _ _ rfl) ?_; clear hp; (conv => cbv))
 refine br (fun g => ?_) (fun g => ?_)
 ·have k1 : k = 1 := by simpa [hE.cmp, cmpR] using g
  conv => cbv
  (refine st_fld hE fIV1 fun p hp => ?_; (conv => cbv); refine st_load hE cI64 (by rw [hp]; exact (hb).at _ _ rfl) ?_; clear hp; (conv => cbv))
  refine br (fun g => ?_) (fun g => ?_)
  ·have g1_0 : z = 0 := by simpa [hE.cmp, cmpR] using g
   conv => cbv
   (refine st_fld hE fIV2 fun p hp => ?_; (conv => cbv); refine st_load hE cStr (by rw [hp]; exact (hb).at _ _ rfl) ?_; clear hp; (conv => cbv))
   refine br (fun g => ?_) (fun g => ?_)
   ·have g2_0 : tx = ⟨#[]⟩ := by simpa [hE.scmp, scmp_eql] using g
    conv => cbv
    (refine st_fld hE fIV3 fun p hp => ?_; (conv => cbv); refine st_load hE cStrs (by rw [hp]; exact (hb).at _ _ rfl) ?_; clear hp; (conv => cbv))
    refine st_len hE tStrs fun x hx1 => ?_
    conv => cbv
    obtain ⟨q, hq⟩ : ∃ q, q = E.cmp .eql x 0 := ⟨_, rfl⟩
    have hq' : q = true ↔ xs = [] := by rw [hq, hE.cmp, ← List.length_eq_zero_iff, hsl]; simp [cmpR]; omega
    simp only [← hq]
    rw [hR]; exact ⟨hx, q, rfl, by rw [hq']; simp [valOK, k1, g1_0, g2_0]⟩
   ·have g2_0 : tx ≠ ⟨#[]⟩ := by simpa [hE.scmp, scmp_eql] using g
    conv => cbv
    rw [hR]; exact ⟨hx, false, rfl, by simp [valOK, k1, g1_0, g2_0]⟩
  ·have g1_0 : z ≠ 0 := by simpa [hE.cmp, cmpR] using g
   conv => cbv
   (refine st_fld hE fIV1 fun p hp => ?_; (conv => cbv); refine st_load hE cI64 (by rw [hp]; exact (hb).at _ _ rfl) ?_; clear hp; (conv => cbv))
   refine br (fun g => ?_) (fun g => ?_)
   ·have g1_1 : z = 1 := by simpa [hE.cmp, cmpR] using g
    conv => cbv
    (refine st_fld hE fIV2 fun p hp => ?_; (conv => cbv); refine st_load hE cStr (by rw [hp]; exact (hb).at _ _ rfl) ?_; clear hp; (conv => cbv))
    refine br (fun g => ?_) (fun g => ?_)
    ·have g2_0 : tx = ⟨#[]⟩ := by simpa [hE.scmp, scmp_eql] using g
     conv => cbv
     (refine st_fld hE fIV3 fun p hp => ?_; (conv => cbv); refine st_load hE cStrs (by rw [hp]; exact (hb).at _ _ rfl) ?_; clear hp; (conv => cbv))
     refine st_len hE tStrs fun x hx1 => ?_
     conv => cbv
     obtain ⟨q, hq⟩ : ∃ q, q = E.cmp .eql x 0 := ⟨_, rfl⟩
     have hq' : q = true ↔ xs = [] := by rw [hq, hE.cmp, ← List.length_eq_zero_iff, hsl]; simp [cmpR]; omega
     simp only [← hq]
     rw [hR]; exact ⟨hx, q, rfl, by rw [hq']; simp [valOK, k1, g1_0, g1_1, g2_0]⟩
    ·have g2_0 : tx ≠ ⟨#[]⟩ := by simpa [hE.scmp, scmp_eql] using g
     conv => cbv
     rw [hR]; exact ⟨hx, false, rfl, by simp [valOK, k1, g1_0, g1_1, g2_0]⟩
   ·have g1_1 : z ≠ 1 := by simpa [hE.cmp, cmpR] using g
    conv => cbv
    rw [hR]; exact ⟨hx, false, rfl, by simp [valOK, k1, g1_0, g1_1]⟩
 have k1 : k ≠ 1 := by simpa [hE.cmp, cmpR] using g
 conv => cbv
 refine br (fun g => ?_) (fun g => ?_)
 ·have k2 : k = 2 := by simpa [hE.cmp, cmpR] using g
  conv => cbv
  (refine st_fld hE fIV2 fun p hp => ?_; (conv => cbv); refine st_load hE cStr (by rw [hp]; exact (hb).at _ _ rfl) ?_; clear hp; (conv => cbv))
  refine br (fun g => ?_) (fun g => ?_)
  ·have g1_0 : tx = ⟨#[]⟩ := by simpa [hE.scmp, scmp_eql] using g
   conv => cbv
   (refine st_fld hE fIV3 fun p hp => ?_; (conv => cbv); refine st_load hE cStrs (by rw [hp]; exact (hb).at _ _ rfl) ?_; clear hp; (conv => cbv))
   refine st_len hE tStrs fun x hx1 => ?_
   conv => cbv
   obtain ⟨q, hq⟩ : ∃ q, q = E.cmp .eql x 0 := ⟨_, rfl⟩
   have hq' : q = true ↔ xs = [] := by rw [hq, hE.cmp, ← List.length_eq_zero_iff, hsl]; simp [cmpR]; omega
   simp only [← hq]
   rw [hR]; exact ⟨hx, q, rfl, by rw [hq']; simp [valOK, k1, k2, g1_0]⟩
  ·have g1_0 : tx ≠ ⟨#[]⟩ := by simpa [hE.scmp, scmp_eql] using g
   conv => cbv
   rw [hR]; exact ⟨hx, false, rfl, by simp [valOK, k1, k2, g1_0]⟩
 have k2 : k ≠ 2 := by simpa [hE.cmp, cmpR] using g
 conv => cbv
 refine br (fun g => ?_) (fun g => ?_)
 ·have k3 : k = 3 := by simpa [hE.cmp, cmpR] using g
  conv => cbv
  (refine st_fld hE fIV1 fun p hp => ?_; (conv => cbv); refine st_load hE cI64 (by rw [hp]; exact (hb).at _ _ rfl) ?_; clear hp; (conv => cbv))
  refine br (fun g => ?_) (fun g => ?_)
  ·have g1_0 : z = 0 := by simpa [hE.cmp, cmpR] using g
   conv => cbv
   (refine st_fld hE fIV2 fun p hp => ?_; (conv => cbv); refine st_load hE cStr (by rw [hp]; exact (hb).at _ _ rfl) ?_; clear hp; (conv => cbv))
   refine st_f hr (l2quoted_f tx ht) fun v w2 hx2 ⟨q, ev, hq⟩ => ?_
   subst ev
   replace hb := hb.bel hx2
   replace hx := hx.trans hx2
   cases q with
   | true =>
    have g2_0 : nameBytes tx := hq.1 rfl
    conv => cbv
    (refine st_fld hE fIV3 fun p hp => ?_; (conv => cbv); refine st_load hE cStrs (by rw [hp]; exact (hb).at _ _ rfl) ?_; clear hp; (conv => cbv))
    refine st_len hE tStrs fun x hx1 => ?_
    conv => cbv
    obtain ⟨q, hq⟩ : ∃ q, q = E.cmp .eql x 0 := ⟨_, rfl⟩
    have hq' : q = true ↔ xs = [] := by rw [hq, hE.cmp, ← List.length_eq_zero_iff, hsl]; simp [cmpR]; omega
    simp only [← hq]
    rw [hR]; exact ⟨hx, q, rfl, by rw [hq']; simp [valOK, k1, k2, k3, g1_0, g2_0]⟩
   | false =>
    have g2_0 : ¬ nameBytes tx := fun q => absurd (hq.2 q) (by simp)
    conv => cbv
    rw [hR]; exact ⟨hx, false, rfl, by simp [valOK, k1, k2, k3, g1_0, g2_0]⟩
  ·have g1_0 : z ≠ 0 := by simpa [hE.cmp, cmpR] using g
   conv => cbv
   rw [hR]; exact ⟨hx, false, rfl, by simp [valOK, k1, k2, k3, g1_0]⟩
 have k3 : k ≠ 3 := by simpa [hE.cmp, cmpR] using g
 conv => cbv
 (refine st_fld hE fIV0 fun p hp => ?_; (conv => cbv); refine st_load hE cInt (by rw [hp]; exact (hb).at _ _ rfl) ?_; clear hp; (conv => cbv))
 refine br (fun g => ?_) (fun g => ?_)
 ·have g1_0 : k = 4 := by simpa [hE.cmp, cmpR] using g
  conv => cbv
  (refine st_fld hE fIV1 fun p hp => ?_; (conv => cbv); refine st_load hE cI64 (by rw [hp]; exact (hb).at _ _ rfl) ?_; clear hp; (conv => cbv))
  refine br (fun g => ?_) (fun g => ?_)
  ·have g2_0 : z = 0 := by simpa [hE.cmp, cmpR] using g
   conv => cbv
   (refine st_fld hE fIV2 fun p hp => ?_; (conv => cbv); refine st_load hE cStr (by rw [hp]; exact (hb).at _ _ rfl) ?_; clear hp; (conv => cbv))
   refine br (fun g => ?_) (fun g => ?_)
   ·have g3_0 : tx = ⟨#[]⟩ := by simpa [hE.scmp, scmp_eql] using g
    conv => cbv
    (refine st_fld hE fIV3 fun p hp => ?_; (conv => cbv); refine st_load hE cStrs (by rw [hp]; exact (hb).at _ _ rfl) ?_; clear hp; (conv => cbv))
    refine st_qb hE (sIsSet_q (h.ext hx)) fun q hq w2 hs2 => ?_
    replace hb := hb.bel hs2.ext
    replace hx := hx.trans hs2.ext
    cases q with
    | true =>
     have g4_0 : isSet xs := hq.1 rfl
     conv => cbv
     rw [hR]; exact ⟨hx, true, rfl, by simp [valOK, k1, k2, k3, g1_0, g2_0, g3_0, g4_0]⟩
    | false =>
     have g4_0 : ¬ isSet xs := fun q => absurd (hq.2 q) (by simp)
     conv => cbv
     rw [hR]; exact ⟨hx, false, rfl, by simp [valOK, k1, k2, k3, g1_0, g2_0, g3_0, g4_0]⟩
   ·have g3_0 : tx ≠ ⟨#[]⟩ := by simpa [hE.scmp, scmp_eql] using g
    conv => cbv
    rw [hR]; exact ⟨hx, false, rfl, by simp [valOK, k1, k2, k3, g1_0, g2_0, g3_0]⟩
  ·have g2_0 : z ≠ 0 := by simpa [hE.cmp, cmpR] using g
   conv => cbv
   rw [hR]; exact ⟨hx, false, rfl, by simp [valOK, k1, k2, k3, g1_0, g2_0]⟩
 ·have g1_0 : k ≠ 4 := by simpa [hE.cmp, cmpR] using g
  conv => cbv
  rw [hR]; exact ⟨hx, false, rfl, by simp [valOK, k1, k2, k3, g1_0]⟩
abbrev zN : List Value := [.int .i64 0, .int .i64 0, .string ⟨#[]⟩, .slice none 0 0, .slice none 0 0]
theorem tIN : Stc Tryz.prog 193 5 zN := ⟨by kernel_rfl, by kernel_rfl⟩
theorem fIN0 : Fld Tryz.prog 193 0 0 := ⟨by kernel_rfl⟩
theorem fIN1 : Fld Tryz.prog 193 1 1 := ⟨by kernel_rfl⟩
theorem fIN2 : Fld Tryz.prog 193 2 2 := ⟨by kernel_rfl⟩
theorem fIN3 : Fld Tryz.prog 193 3 3 := ⟨by kernel_rfl⟩
theorem bare_f {w : World} {o z : Int} {tx : ByteArray} {A B : Option Addr} {m c m2 c2 : Nat} {xs : List ByteArray} (hsl : xs.length = m) (p1 p2 p3 : Bool) :
  FC Tryz.prog 127 [.agg ⟨[.int .i64 o, .int .i64 z, .string tx, .slice A m c, .slice B m2 c2]⟩, .bool p1, .bool p2, .bool p3] w fun v _ => ∃ b : Bool, v = .bool b ∧ (b = true ↔ (p1 = true ∨ z = 0) ∧ (p2 = true ∨ tx = ⟨#[]⟩) ∧ (p3 = true ∨ xs = [])) := by
 refine FC.intro (cs := []) Tryz.func127 (by kernel_rfl) fun E R hE hr hR => ?_
 conv => cbv
 refine st_box hr fun a w1 hx hb0 => ?_
 have hb := hb0 _ (n1_ _)
 clear hb0
 conv => cbv
 refine br (fun g => ?_) (fun g => ?_)
 ·have g1_0 : p1 = true := g
  conv => cbv
  refine br (fun g => ?_) (fun g => ?_)
  ·have g2_0 : p2 = true := g
   conv => cbv
   refine br (fun g => ?_) (fun g => ?_)
   ·have g3_0 : p3 = true := g
    conv => cbv
    rw [hR]; exact ⟨hx, true, rfl, by simp [g1_0, g2_0, g3_0]⟩
   ·have g3_0 : ¬ p3 = true := g
    conv => cbv
    (refine st_fld hE fIN3 fun p hp => ?_; (conv => cbv); refine st_load hE cStrs (by rw [hp]; exact (hb).at _ _ rfl) ?_; clear hp; (conv => cbv))
    refine st_len hE tStrs fun x hx1 => ?_
    conv => cbv
    obtain ⟨q, hq⟩ : ∃ q, q = E.cmp .eql x 0 := ⟨_, rfl⟩
    have hq' : q = true ↔ xs = [] := by rw [hq, hE.cmp, ← List.length_eq_zero_iff, hsl]; simp [cmpR]; omega
    simp only [← hq]
    rw [hR]; exact ⟨hx, q, rfl, by rw [hq']; simp [g1_0, g2_0, g3_0]⟩
  ·have g2_0 : ¬ p2 = true := g
   conv => cbv
   (refine st_fld hE fIN2 fun p hp => ?_; (conv => cbv); refine st_load hE cStr (by rw [hp]; exact (hb).at _ _ rfl) ?_; clear hp; (conv => cbv))
   refine br (fun g => ?_) (fun g => ?_)
   ·have g2_1 : tx = ⟨#[]⟩ := by simpa [hE.scmp, scmp_eql] using g
    conv => cbv
    refine br (fun g => ?_) (fun g => ?_)
    ·have g3_0 : p3 = true := g
     conv => cbv
     rw [hR]; exact ⟨hx, true, rfl, by simp [g1_0, g2_0, g2_1, g3_0]⟩
    ·have g3_0 : ¬ p3 = true := g
     conv => cbv
     (refine st_fld hE fIN3 fun p hp => ?_; (conv => cbv); refine st_load hE cStrs (by rw [hp]; exact (hb).at _ _ rfl) ?_; clear hp; (conv => cbv))
     refine st_len hE tStrs fun x hx1 => ?_
     conv => cbv
     obtain ⟨q, hq⟩ : ∃ q, q = E.cmp .eql x 0 := ⟨_, rfl⟩
     have hq' : q = true ↔ xs = [] := by rw [hq, hE.cmp, ← List.length_eq_zero_iff, hsl]; simp [cmpR]; omega
     simp only [← hq]
     rw [hR]; exact ⟨hx, q, rfl, by rw [hq']; simp [g1_0, g2_0, g2_1, g3_0]⟩
   ·have g2_1 : tx ≠ ⟨#[]⟩ := by simpa [hE.scmp, scmp_eql] using g
    conv => cbv
    rw [hR]; exact ⟨hx, false, rfl, by simp [g1_0, g2_0, g2_1]⟩
 ·have g1_0 : ¬ p1 = true := g
  conv => cbv
  (refine st_fld hE fIN1 fun p hp => ?_; (conv => cbv); refine st_load hE cI64 (by rw [hp]; exact (hb).at _ _ rfl) ?_; clear hp; (conv => cbv))
  refine br (fun g => ?_) (fun g => ?_)
  ·have g1_1 : z = 0 := by simpa [hE.cmp, cmpR] using g
   conv => cbv
   refine br (fun g => ?_) (fun g => ?_)
   ·have g2_0 : p2 = true := g
    conv => cbv
    refine br (fun g => ?_) (fun g => ?_)
    ·have g3_0 : p3 = true := g
     conv => cbv
     rw [hR]; exact ⟨hx, true, rfl, by simp [g1_0, g1_1, g2_0, g3_0]⟩
    ·have g3_0 : ¬ p3 = true := g
     conv => cbv
     (refine st_fld hE fIN3 fun p hp => ?_; (conv => cbv); refine st_load hE cStrs (by rw [hp]; exact (hb).at _ _ rfl) ?_; clear hp; (conv => cbv))
     refine st_len hE tStrs fun x hx1 => ?_
     conv => cbv
     obtain ⟨q, hq⟩ : ∃ q, q = E.cmp .eql x 0 := ⟨_, rfl⟩
     have hq' : q = true ↔ xs = [] := by rw [hq, hE.cmp, ← List.length_eq_zero_iff, hsl]; simp [cmpR]; omega
     simp only [← hq]
     rw [hR]; exact ⟨hx, q, rfl, by rw [hq']; simp [g1_0, g1_1, g2_0, g3_0]⟩
   ·have g2_0 : ¬ p2 = true := g
    conv => cbv
    (refine st_fld hE fIN2 fun p hp => ?_; (conv => cbv); refine st_load hE cStr (by rw [hp]; exact (hb).at _ _ rfl) ?_; clear hp; (conv => cbv))
    refine br (fun g => ?_) (fun g => ?_)
    ·have g2_1 : tx = ⟨#[]⟩ := by simpa [hE.scmp, scmp_eql] using g
     conv => cbv
     refine br (fun g => ?_) (fun g => ?_)
     ·have g3_0 : p3 = true := g
      conv => cbv
      rw [hR]; exact ⟨hx, true, rfl, by simp [g1_0, g1_1, g2_0, g2_1, g3_0]⟩
     ·have g3_0 : ¬ p3 = true := g
      conv => cbv
      (refine st_fld hE fIN3 fun p hp => ?_; (conv => cbv); refine st_load hE cStrs (by rw [hp]; exact (hb).at _ _ rfl) ?_; clear hp; (conv => cbv))
      refine st_len hE tStrs fun x hx1 => ?_
      conv => cbv
      obtain ⟨q, hq⟩ : ∃ q, q = E.cmp .eql x 0 := ⟨_, rfl⟩
      have hq' : q = true ↔ xs = [] := by rw [hq, hE.cmp, ← List.length_eq_zero_iff, hsl]; simp [cmpR]; omega
      simp only [← hq]
      rw [hR]; exact ⟨hx, q, rfl, by rw [hq']; simp [g1_0, g1_1, g2_0, g2_1, g3_0]⟩
    ·have g2_1 : tx ≠ ⟨#[]⟩ := by simpa [hE.scmp, scmp_eql] using g
     conv => cbv
     rw [hR]; exact ⟨hx, false, rfl, by simp [g1_0, g1_1, g2_0, g2_1]⟩
  ·have g1_1 : z ≠ 0 := by simpa [hE.cmp, cmpR] using g
   conv => cbv
   rw [hR]; exact ⟨hx, false, rfl, by simp [g1_0, g1_1]⟩
def kOp (k : Int) : Int := if k = 1 then 3 else if k = 2 then 1 else if k = 3 then 2 else if k = 4 then 4 else 0
theorem validConst_f {w : World} {o z : Int} {tx : ByteArray} {A B : Option Addr} {m c m2 c2 : Nat} {xs : List ByteArray} (h : Strs w A m c xs) (ht : tx.size ≤ 9223372036854775807) :
  FC Tryz.prog 128 [.agg ⟨[.int .i64 o, .int .i64 z, .string tx, .slice A m c, .slice B m2 c2]⟩] w fun v _ => ∃ b : Bool, v = .bool b ∧
   (b = true ↔ (o = 1 ∧ tx = ⟨#[]⟩ ∧ xs = []) ∨ (o = 2 ∧ z = 0 ∧ nameBytes tx ∧ xs = []) ∨ (o = 3 ∧ (z = 0 ∨ z = 1) ∧ tx = ⟨#[]⟩ ∧ xs = []) ∨ (o = 4 ∧ z = 0 ∧ tx = ⟨#[]⟩ ∧ isSet xs)) := by
 refine FC.intro (cs := []) Tryz.func128 (by kernel_rfl) fun E R hE hr hR => ?_
 have hsl := h.len
 conv => cbv
 refine st_box hr fun a w1 hx hb0 => ?_
 have hb := hb0 _ (n1_ _)
 clear hb0
 conv => cbv
 (refine st_fld hE fIN0 fun p hp => ?_; (conv => cbv); refine st_load hE cInt (by rw [hp]; exact (hb).at _ _ rfl) ?_; clear hp; (conv => cbv))
 refine br (fun g => ?_) (fun g => ?_)
 ·have k1 : o = 1 := by simpa [hE.cmp, cmpR] using g
  conv => cbv
  refine st_loadS hE tIN rfl hb.at ?_
  conv => cbv
  refine st_f hr (bare_f (o := o) (z := z) (tx := tx) hsl true false false) fun v w2 hx2 ⟨r, ev, hr2⟩ => ?_
  subst ev
  replace hb := hb.bel hx2
  replace hx := hx.trans hx2
  conv => cbv
  rw [hR]; exact ⟨hx, r, rfl, by rw [hr2]; simp [k1]⟩
 have k1 : o ≠ 1 := by simpa [hE.cmp, cmpR] using g
 conv => cbv
 refine br (fun g => ?_) (fun g => ?_)
 ·have k2 : o = 2 := by simpa [hE.cmp, cmpR] using g
  conv => cbv
  refine st_loadS hE tIN rfl hb.at ?_
  conv => cbv
  refine st_f hr (bare_f (o := o) (z := z) (tx := tx) hsl false true false) fun v w2 hx2 ⟨r, ev, hr2⟩ => ?_
  subst ev
  replace hb := hb.bel hx2
  replace hx := hx.trans hx2
  cases r with
  | false =>
   conv => cbv
   rw [hR]; refine ⟨hx, false, rfl, ?_⟩
   have n0 : ¬ _ := fun q => absurd (hr2.2 q) (by simp)
   simp only [k2]; simp at n0 ⊢
   exact fun q _ => n0 q
  | true =>
   have n0 := hr2.1 rfl
   conv => cbv
   (refine st_fld hE fIN2 fun p hp => ?_; (conv => cbv); refine st_load hE cStr (by rw [hp]; exact (hb).at _ _ rfl) ?_; clear hp; (conv => cbv))
   refine st_qb hE (nameBytes_q tx _ ht) fun q hq w2 hs2 => ?_
   conv => cbv
   rw [hR]; refine ⟨hx.trans hs2.ext, q, rfl, ?_⟩
   simp at n0
   rw [hq]; simp [k2, n0]
 have k2 : o ≠ 2 := by simpa [hE.cmp, cmpR] using g
 conv => cbv
 refine br (fun g => ?_) (fun g => ?_)
 ·have k3 : o = 3 := by simpa [hE.cmp, cmpR] using g
  conv => cbv
  refine st_loadS hE tIN rfl hb.at ?_
  conv => cbv
  refine st_f hr (bare_f (o := o) (z := z) (tx := tx) hsl true false false) fun v w2 hx2 ⟨r, ev, hr2⟩ => ?_
  subst ev
  replace hb := hb.bel hx2
  replace hx := hx.trans hx2
  cases r with
  | false =>
   conv => cbv
   rw [hR]; refine ⟨hx, false, rfl, ?_⟩
   have n0 : ¬ _ := fun q => absurd (hr2.2 q) (by simp)
   simp only [k3]; simp at n0 ⊢
   exact fun _ q => n0 q
  | true =>
   have n0 := hr2.1 rfl
   simp at n0
   conv => cbv
   (refine st_fld hE fIN1 fun p hp => ?_; (conv => cbv); refine st_load hE cI64 (by rw [hp]; exact (hb).at _ _ rfl) ?_; clear hp; (conv => cbv))
   refine br (fun g => ?_) (fun g => ?_)
   ·have g : z = 0 := by simpa [hE.cmp, cmpR] using g
    conv => cbv
    rw [hR]; exact ⟨hx, true, rfl, by simp [k3, g, n0]⟩
   ·have g : z ≠ 0 := by simpa [hE.cmp, cmpR] using g
    conv => cbv
    (refine st_fld hE fIN1 fun p hp => ?_; (conv => cbv); refine st_load hE cI64 (by rw [hp]; exact (hb).at _ _ rfl) ?_; clear hp; (conv => cbv))
    obtain ⟨q, hq⟩ : ∃ q, q = E.cmp .eql z 1 := ⟨_, rfl⟩
    have hq' : q = true ↔ z = 1 := by rw [hq, hE.cmp]; simp [cmpR]
    simp only [← hq]
    conv => cbv
    rw [hR]; exact ⟨hx, q, rfl, by rw [hq']; simp [k3, g, n0]⟩
 have k3 : o ≠ 3 := by simpa [hE.cmp, cmpR] using g
 conv => cbv
 refine br (fun g => ?_) (fun g => ?_)
 ·have k4 : o = 4 := by simpa [hE.cmp, cmpR] using g
  conv => cbv
  refine st_loadS hE tIN rfl hb.at ?_
  conv => cbv
  refine st_f hr (bare_f (o := o) (z := z) (tx := tx) hsl false false true) fun v w2 hx2 ⟨r, ev, hr2⟩ => ?_
  subst ev
  replace hb := hb.bel hx2
  replace hx := hx.trans hx2
  cases r with
  | false =>
   conv => cbv
   rw [hR]; refine ⟨hx, false, rfl, ?_⟩
   have n0 : ¬ _ := fun q => absurd (hr2.2 q) (by simp)
   simp only [k4]; simp at n0 ⊢
   exact fun q r => absurd r (n0 q)
  | true =>
   have n0 := hr2.1 rfl
   simp at n0
   conv => cbv
   (refine st_fld hE fIN3 fun p hp => ?_; (conv => cbv); refine st_load hE cStrs (by rw [hp]; exact (hb).at _ _ rfl) ?_; clear hp; (conv => cbv))
   refine st_qb hE (IsSet_q (h.ext hx)) fun q hq w2 hs2 => ?_
   conv => cbv
   rw [hR]; exact ⟨hx.trans hs2.ext, q, rfl, by rw [hq]; simp [k4, n0]⟩
 have k4 : o ≠ 4 := by simpa [hE.cmp, cmpR] using g
 conv => cbv
 rw [hR]; exact ⟨hx, false, rfl, by simp [k1, k2, k3, k4]⟩
def sm (c : Int) : Prop := 97 ≤ c ∧ c ≤ 122
def dg (c : Int) : Prop := 48 ≤ c ∧ c ≤ 57
def wb (c : Int) : Prop := sm c ∨ dg c ∨ c = 95
structure RunTo (P : Int → Prop) (s : ByteArray) (i j : Nat) : Prop where
 le : i ≤ j
 hi : j ≤ s.size
 all : ∀ k (h : k < s.size), i ≤ k → k < j → P (s[k].toNat)
 stop : ∀ h : j < s.size, ¬ P (s[j].toNat)
theorem RunTo.uniq {P : Int → Prop} {s : ByteArray} {i j j' : Nat} (h : RunTo P s i j) (h' : RunTo P s i j') : j = j' := by
 rcases Nat.lt_trichotomy j j' with e | e | e
 ·exact absurd (h'.all j (by have := h'.hi; omega) h.le e) (h.stop _)
 ·exact e
 ·exact absurd (h.all j' (by have := h.hi; omega) h'.le e) (h'.stop _)
def words : List ByteArray := [⟨⟨[108, 101, 116]⟩⟩, ⟨⟨[119, 104, 101, 110]⟩⟩, ⟨⟨[101, 108, 115, 101]⟩⟩, ⟨⟨[100, 101, 110, 121]⟩⟩, ⟨⟨[103, 114, 97, 110, 116]⟩⟩, ⟨⟨[105, 102]⟩⟩, ⟨⟨[116, 104, 101, 110]⟩⟩, ⟨⟨[110, 111, 116]⟩⟩, ⟨⟨[97, 110, 100]⟩⟩, ⟨⟨[111, 114]⟩⟩, ⟨⟨[105, 110]⟩⟩, ⟨⟨[119, 105, 116, 104, 105, 110]⟩⟩, ⟨⟨[115, 105, 122, 101]⟩⟩, ⟨⟨[116, 114, 117, 101]⟩⟩, ⟨⟨[102, 97, 108, 115, 101]⟩⟩]
def ident (s : ByteArray) : Prop := s.size ≠ 0 ∧ s.size ≤ 32 ∧ (∀ h : 0 < s.size, sm (s[0].toNat)) ∧ RunTo wb s 0 s.size ∧ s ∉ words
abbrev zNd : List Value := [.int .i64 0, .int .i64 0, .string ⟨#[]⟩, .slice none 0 0, .slice none 0 0]
structure PN where
 o : Int
 z : Int
 tx : ByteArray
 xs : List ByteArray
 ks : List Int
structure VN where
 p : PN
 A0 : Option Addr
 m0 : Nat
 c0 : Nat
 A1 : Option Addr
 m1 : Nat
 c1 : Nat
def cN (v : VN) : List Value := [.int .i64 v.p.o, .int .i64 v.p.z, .string v.p.tx, .slice v.A0 v.m0 v.c0, .slice v.A1 v.m1 v.c1]
theorem cN_len (v : VN) : (cN v).length = 5 := rfl
structure OKN (w : World) (v : VN) : Prop where
 s_tx : v.p.tx.size ≤ 9223372036854775807
 r_xs : Strs w v.A0 v.m0 v.c0 v.p.xs
 r_ks : Ints w v.A1 v.m1 v.c1 v.p.ks
theorem OKN.ext {w w' : World} {v : VN} (h : OKN w v) (hx : Ext w w') : OKN w' v := ⟨h.s_tx, h.r_xs.ext hx, h.r_ks.ext hx⟩
def RNs (w : World) (A : Option Addr) (n : Nat) (pv : List PN) : Prop := ∃ vs : List VN, vs.map (·.p) = pv ∧ vs.length = n ∧ Cells w A (vs.flatMap cN) ∧ ∀ v ∈ vs, OKN w v
theorem RNs.ext {w w' : World} {A : Option Addr} {n : Nat} {pv : List PN} (h : RNs w A n pv) (hx : Ext w w') : RNs w' A n pv := by
 obtain ⟨vs, h1, h2, h3, h4⟩ := h
 exact ⟨vs, h1, h2, h3.ext hx, fun v hv => (h4 v hv).ext hx⟩
theorem RNs.len {w : World} {A : Option Addr} {n : Nat} {pv : List PN} (h : RNs w A n pv) : pv.length = n := by
 obtain ⟨vs, h1, h2, _⟩ := h
 rw [← h1, ← h2]; simp
theorem RNs.get {w : World} {A : Option Addr} {n : Nat} {pv : List PN} (h : RNs w A n pv) {i : Nat} (hi : i < n) : ∃ (a : Addr) (v : VN), A = some a ∧ pv[i]? = some v.p ∧ (∀ j u, (cN v)[j]? = some u → w.cell? ((a.add (i * 5)).add j) = some u) ∧ OKN w v := by
 obtain ⟨vs, h1, h2, h3, h4⟩ := h
 obtain ⟨v, hv⟩ : ∃ v, vs[i]? = some v := ⟨_, g2_ (by omega)⟩
 obtain ⟨a, ha, hc⟩ := fl_at cN_len h3 (by omega) hv
 exact ⟨a, v, ha, by rw [← h1]; simp [hv], hc, h4 _ (m1_ hv)⟩
def wtN (p : PN) : Nat := p.tx.size + bulk p.xs + p.ks.length
def wtNs : List PN → Nat
 | [] => 0
 | p :: l => 1 + wtN p + wtNs l
abbrev zSd : List Value := [.int .i64 0, .string ⟨#[]⟩, .int .i64 0, .int .i64 0]
structure PS where
 k : Int
 nm : ByteArray
 c : Int
 g : Int
abbrev VS := PS
def cS (v : VS) : List Value := [.int .i64 v.k, .string v.nm, .int .i64 v.c, .int .i64 v.g]
theorem cS_len (v : VS) : (cS v).length = 4 := rfl
structure OKS (w : World) (v : VS) : Prop where
 s_nm : v.nm.size ≤ 9223372036854775807
theorem OKS.ext {w w' : World} {v : VS} (h : OKS w v) (hx : Ext w w') : OKS w' v := ⟨h.s_nm⟩
def RSs (w : World) (A : Option Addr) (n : Nat) (pv : List PS) : Prop := ∃ vs : List VS, vs = pv ∧ vs.length = n ∧ Cells w A (vs.flatMap cS) ∧ ∀ v ∈ vs, OKS w v
theorem RSs.ext {w w' : World} {A : Option Addr} {n : Nat} {pv : List PS} (h : RSs w A n pv) (hx : Ext w w') : RSs w' A n pv := by
 obtain ⟨vs, h1, h2, h3, h4⟩ := h
 exact ⟨vs, h1, h2, h3.ext hx, fun v hv => (h4 v hv).ext hx⟩
theorem RSs.len {w : World} {A : Option Addr} {n : Nat} {pv : List PS} (h : RSs w A n pv) : pv.length = n := by
 obtain ⟨vs, h1, h2, _⟩ := h
 rw [← h1, ← h2]
theorem RSs.get {w : World} {A : Option Addr} {n : Nat} {pv : List PS} (h : RSs w A n pv) {i : Nat} (hi : i < n) : ∃ (a : Addr) (v : VS), A = some a ∧ pv[i]? = some v ∧ (∀ j u, (cS v)[j]? = some u → w.cell? ((a.add (i * 4)).add j) = some u) ∧ OKS w v := by
 obtain ⟨vs, h1, h2, h3, h4⟩ := h
 obtain ⟨v, hv⟩ : ∃ v, vs[i]? = some v := ⟨_, g2_ (by omega)⟩
 obtain ⟨a, ha, hc⟩ := fl_at cS_len h3 (by omega) hv
 exact ⟨a, v, ha, by rw [← h1]; exact hv, hc, h4 _ (m1_ hv)⟩
def wtS (p : PS) : Nat := p.nm.size
def wtSs : List PS → Nat
 | [] => 0
 | p :: l => 1 + wtS p + wtSs l
abbrev polV (A : Option Addr) (n c : Nat) (A2 : Option Addr) (n2 c2 : Nat) : Value := .agg ⟨[.slice A n c, .slice A2 n2 c2]⟩
structure PolR (w : World) (A : Option Addr) (n : Nat) (A2 : Option Addr) (n2 : Nat) (nv : List PN) (sv : List PS) : Prop where
 nodes : RNs w A n nv
 stmts : RSs w A2 n2 sv
theorem PolR.ext {w w' : World} {A A2 : Option Addr} {n n2 : Nat} {nv : List PN} {sv : List PS} (h : PolR w A n A2 n2 nv sv) (hx : Ext w w') : PolR w' A n A2 n2 nv sv := ⟨h.1.ext hx, h.2.ext hx⟩
set_option maxRecDepth 100000
section
variable {H : Type} {enc : TypeId × Value → H} {w : World} {base : Nat} {held : Bool} {fuel : Nat} {x : DataW H × List MemPlace}
end
set_option maxRecDepth 100000
section
variable {H : Type} {enc : TypeId × Value → H} {w : World} {base : Nat} {held : Bool} {fuel : Nat} {x : DataW H × List MemPlace}
end
open Go.ChangeShapes Go.WideShapes
set_option maxRecDepth 100000 in
theorem jf_FnExactRun : joinedFacts Tryz.pinned.checked.prog 3 Tryz.f3 Rows.fnExactRunSpec Rows.fnExactRunRow = true := by
 unfold joinedFacts
 simp only [Bool.and_eq_true]
 repeat' apply And.intro
 all_goals (as_aux_lemma => kernel_rfl)
open Go.Eng Go.Extern
def Sent (w : World) (a : Addr) : Prop := ∃ c t, w.heap[a.block]? = some (.cells c t (0, 0))
theorem Sent.ext {w w' : World} {a : Addr} (h : Sent w a) (hx : Ext w w') : Sent w' a := by
 obtain ⟨c, t, h⟩ := h
 exact ⟨c, t, by rw [hx.block _ (Array.getElem?_eq_some_iff.1 h).1, h]⟩
theorem err_ptr : ((Tryz.prog.underlying 391).bind fun d => match d with
  | .pointer te => (Tryz.prog.info? te).map fun j => Nat.beq j.size 0
  | _ => none) = some false := by kernel_rfl
theorem err_cmp : (Tryz.prog.info? 391).map (·.comparable) = some true := by kernel_rfl
section
variable {E : Sym} {w : World} {K : Value → World → Prop} {d : Option Tmp} {ty : TypeId} {pos : String} {aft : Array Edge} {g : Option (Nat × Bool)}
theorem st_err_nil1 {bq : Bool} (hE : EngB bq Tryz.prog E) {t' : TypeId} {a : Addr} {x : Operand} {v : Value} (hk : K (.bool false) w) : E.stop ⟨d, .binOp .eql 134 x (.const v) t', ty, pos, aft, g⟩ [.iface 391 (.pointer (some a)), .nilIface] w K := by
 obtain ⟨ms, hu⟩ := uErr
 refine hE.det (v := .bool false) (fun w1 hs ρ hρ => ?_) hk
 simp only [opnds, b2_, b3_, b1_, and_true] at hρ
 have h : ∀ d : Nat, (Op.equalIn (d + 1) 134 (.iface 391 (.pointer (some a))) .nilIface).run Tryz.prog w1 = .ok false w1 := fun d => by simp [Op.equalIn, run_underlying hu]
 have h2 : (binOp .eql 134 (.iface 391 (.pointer (some a))) .nilIface).run Tryz.prog w1 = .ok (.bool false) w1 := by
  simp only [binOp]; simp [Op.equal, Op.maxDepth, h 9999]
 simp [execOp, hρ.1, hρ.2, eqGuard, h2]
theorem st_err_eql {bq : Bool} (hE : EngB bq Tryz.prog E) {t' : TypeId} {x y : Operand} {a b : Addr} (ha : Sent w a) (hb : Sent w b) (hk : ∀ v : Bool, (v = true ↔ a = b) → K (.bool v) w) : E.stop ⟨d, .binOp .eql 134 x y t', ty, pos, aft, g⟩ [.iface 391 (.pointer (some a)), .iface 391 (.pointer (some b))] w K := by
 obtain ⟨ms, hu⟩ := uErr
 obtain ⟨dd, h1, h2⟩ := Option.bind_eq_some_iff.1 err_ptr
 obtain ⟨i, hi, hc⟩ := Option.map_eq_some_iff.1 err_cmp
 split at h2
 ·rename_i te
  obtain ⟨j, hj, hz⟩ := Option.map_eq_some_iff.1 h2
  have hz : ¬ j.size = 0 := by intro e; rw [e] at hz; simp at hz
  by_cases e : a = b
  ·subst e
   refine hE.det (v := .bool true) (fun w1 hs ρ hρ => ?_) (hk _ (by simp))
   simp only [opnds, b2_, b3_, b1_, and_true] at hρ
   simp [execOp, hρ.1, hρ.2, eqGuard, run_eql_iface_ptr_same w1 a hu h1 hi hc hj]
  ·refine hE.det (v := .bool false) (fun w1 hs ρ hρ => ?_) (hk _ (by simp [e]))
   simp only [opnds, b2_, b3_, b1_, and_true] at hρ
   obtain ⟨ca, ta, ha⟩ := ha.ext hs
   obtain ⟨cb, tb, hb⟩ := hb.ext hs
   simp [execOp, hρ.1, hρ.2, eqGuard, run_eql_iface_ptr_other w1 hu h1 hi hc hj hz e ha hb]
 ·cases h2
theorem st_lacks {bq : Bool} (hE : EngB bq Tryz.prog E) {xt t : TypeId} {x : Operand} {v : Value} (hr : ∀ w, (Instr.typeAssert (.iface 391 v) xt t true).run Tryz.prog w = .ok (.tuple #[.nilIface, .bool false]) w) (hk : K (.tuple ⟨[.nilIface, .bool false]⟩) w) : E.stop ⟨d, .typeAssert x xt t true, ty, pos, aft, g⟩ [.iface 391 v] w K := by
 refine hE.det (v := .tuple #[.nilIface, .bool false]) (fun w1 hs ρ hρ => ?_) hk
 simp only [opnds, b2_, b3_, b1_, and_true] at hρ
 simp [execOp, hρ, hr w1]
end
theorem noIs (v : Value) (xT : TypeId) (w : World) : (Instr.typeAssert (.iface 391 v) xT 371 true).run Tryz.prog w = .ok (.tuple #[.nilIface, .bool false]) w := run_typeAssert_lacksB Tryz.underlying371 (by kernel_rfl) (by kernel_rfl) v xT w
theorem noUnwrap (v : Value) (xT : TypeId) (w : World) : (Instr.typeAssert (.iface 391 v) xT 374 true).run Tryz.prog w = .ok (.tuple #[.nilIface, .bool false]) w := run_typeAssert_lacksB Tryz.underlying374 (by kernel_rfl) (by kernel_rfl) v xT w
theorem noUnwraps (v : Value) (xT : TypeId) (w : World) : (Instr.typeAssert (.iface 391 v) xT 376 true).run Tryz.prog w = .ok (.tuple #[.nilIface, .bool false]) w := run_typeAssert_lacksB Tryz.underlying376 (by kernel_rfl) (by kernel_rfl) v xT w
theorem rT (v : Value) (w : World) : (Extern.ReflectliteType.typeOf #[.iface 391 v]).run Tryz.prog w = .ok (.iface 369 (.agg #[.pointer (some ⟨Tryz.prog.globals.size, 391, none⟩)])) w := by kernel_rfl
theorem rC (w : World) : ((Extern.ReflectliteType.method fun t => do Go.Extern.Rtype.noPackHeld "Comparable" t; pure (.bool (← typeInfo t).comparable)) #[.agg #[.pointer (some ⟨Tryz.prog.globals.size, 391, none⟩)]]).run Tryz.prog w = .ok (.bool true) w := by kernel_rfl
theorem rM (v : Value) (w : World) : (Go.method (Tryz.prog.types.size + Made.depth) 369 v "Comparable").run Tryz.prog w = .ok (324, v) w := by kernel_rfl
theorem typ : ∃ hv, (∀ v w, (callFunc 234 #[.iface 391 v]).run Tryz.prog w = .ok (.value (.iface 369 hv)) w) ∧
  ∀ w, (callMethod (.iface 369 hv) "Comparable" #[]).run Tryz.prog w = .ok (.value (.bool true)) w := by
 have h8 := @run_callFunc_extern Tryz.prog 234 _ Extern.ReflectliteType.typeOf Tryz.func234 (by kernel_rfl) (by kernel_rfl) (by kernel_rfl) (by kernel_rfl)
 have h32 := @run_callFunc_extern Tryz.prog 324 _ (Extern.ReflectliteType.method fun t => do Go.Extern.Rtype.noPackHeld "Comparable" t; pure (.bool (← typeInfo t).comparable)) Tryz.func324 (by kernel_rfl) (by kernel_rfl) (by kernel_rfl) (by kernel_rfl)
 refine ⟨.agg #[.pointer (some ⟨Tryz.prog.globals.size, 391, none⟩)], fun v w => ?_, fun w => ?_⟩
 ·rw [h8, rT]; rfl
 ·have hm := rM (.agg #[.pointer (some ⟨Tryz.prog.globals.size, 391, none⟩)]) w
  simp only [callMethod, Sem.run_bind, run_program, Result.andThen_ok, hm]
  show (callFunc _ (#[_] ++ #[])).run _ _ = _
  rw [h32]
  have hc := rC w
  erw [hc]; rfl
section
variable {E : Sym} {w : World} {K : Value → World → Prop} {d : Option Tmp} {ty : TypeId} {pos : String} {aft : Array Edge} {g : Option (Nat × Bool)}
theorem st_typeof {bq : Bool} (hE : EngB bq Tryz.prog E) {hv : Value} (h : ∀ v w, (callFunc 234 #[.iface 391 v]).run Tryz.prog w = .ok (.value (.iface 369 hv)) w) {fo : Operand} {ao : Array Operand} {at_ : Array TypeId} {v : Value} (hk : K (.iface 369 hv) w) :
  E.stop ⟨d, .call ⟨.value fo, ao, at_⟩, ty, pos, aft, g⟩ [.func (.func 234) ⟨[]⟩ ⟨[]⟩, .iface 391 v] w K := by
 refine hE.det (v := .iface 369 hv) (fun w1 hs ρ hρ => ?_) hk
 simp only [opnds, List.cons_append, a2_, b2_, b1_] at hρ
 have h3 := map_of (ao := ao) hρ.2
 simp [execOp, resolve, hρ.1, h3, Deferred.ofValue, invoke, h]
theorem st_comp {bq : Bool} (hE : EngB bq Tryz.prog E) {hv : Value} (h : ∀ w, (callMethod (.iface 369 hv) "Comparable" #[]).run Tryz.prog w = .ok (.value (.bool true)) w) {x : Operand} {at_ : Array TypeId} (hk : K (.bool true) w) :
  E.stop ⟨d, .call ⟨.invoke x "Comparable", ⟨[]⟩, at_⟩, ty, pos, aft, g⟩ [.iface 369 hv] w K := by
 refine hE.det (v := .bool true) (fun w1 hs ρ hρ => ?_) hk
 simp only [opnds, a7_, b2_, b3_, b1_, and_true] at hρ
 simp [execOp, resolve, hρ, invoke, h]
end
structure Errs (w : World) (z o v : Addr) : Prop where
 cz : w.cell? ⟨1, 0, none⟩ = some (.iface 391 (.pointer (some z)))
 co : w.cell? ⟨0, 0, none⟩ = some (.iface 391 (.pointer (some o)))
 cv : w.cell? ⟨2, 0, none⟩ = some (.iface 391 (.pointer (some v)))
 sz : Sent w z
 so : Sent w o
 sv : Sent w v
 zo : z ≠ o
 zv : z ≠ v
 ov : o ≠ v
theorem Errs.ext {w w' : World} {z o v : Addr} (h : Errs w z o v) (hx : Ext w w') : Errs w' z o v :=
 ⟨hx.cell h.cz, hx.cell h.co, hx.cell h.cv, h.sz.ext hx, h.so.ext hx, h.sv.ext hx, h.zo, h.zv, h.ov⟩
theorem cErr : Cel Tryz.prog 134 := by
 obtain ⟨ms, h⟩ := uErr
 exact ⟨_, h, by simp, by simp⟩
end Go.Proofs.YtkedmcebngachaaGreatDoor
namespace Go.Eng
set_option linter.unusedVariables false
set_option linter.unusedSimpArgs false
structure IMap (B : Nat) (w : World) (bm : Nat) (f : List (ByteArray × Value)) : Prop where
 lo : B ≤ bm
 ex : ∃ es clock, w.heap[bm]? = some (.map es clock) ∧ es.toList.map (fun e => (e.key, e.val)) = f.map (fun q => (Value.string q.1, q.2))
def mget : List (ByteArray × Value) → ByteArray → Option Value
 | [], _ => none
 | q :: f, k => if q.1 = k then some q.2 else mget f k
abbrev mb (bm : Nat) : Option Addr := some ⟨bm, 0, none⟩
theorem IMap.hi {B : Nat} {w : World} {bm : Nat} {f : List (ByteArray × Value)} (h : IMap B w bm f) : bm < w.heap.size := by
 obtain ⟨es, clock, h1, _⟩ := h.ex
 exact (Array.getElem?_eq_some_iff.1 h1).1
theorem IMap.bel {B : Nat} {w w' : World} {bm : Nat} {f : List (ByteArray × Value)} (h : IMap B w bm f) (hx : Ext w w') : IMap B w' bm f := by
 obtain ⟨es, clock, h1, h2⟩ := h.ex
 exact ⟨h.lo, es, clock, hx.getMap h1, h2⟩
theorem IMap.mono {B B' : Nat} {w : World} {bm : Nat} {f : List (ByteArray × Value)} (h : IMap B w bm f) (hB : B' ≤ B) : IMap B' w bm f := ⟨n2_ hB h.lo, h.ex⟩
theorem IMap.wr {B : Nat} {w w' : World} {bm : Nat} {f : List (ByteArray × Value)} {A : Option Addr} (h : IMap B w bm f) (hw : Wr A w w') (ha : blk A ≠ some bm) : IMap B w' bm f := by
 obtain ⟨es, clock, h1, h2⟩ := h.ex
 exact ⟨h.lo, es, clock, (hw.block bm h.hi (Ne.symm ha)).trans h1, h2⟩
section
variable {P : Program} {E : Sym} {n : Nat} {Pn : List PanicEntry → World → Prop} {w : World} {K : Value → World → Prop} {d : Option Tmp} {ty : TypeId} {pos : String} {aft : Array Edge} {g : Option (Nat × Bool)}
theorem st_ta {bq : Bool} (hE : EngB bq P E) {xt t : TypeId} {x : Operand} {v r : Value} (hr : ∀ w, (Instr.typeAssert v xt t true).run P w = .ok r w) (hk : K r w) : E.stop ⟨d, .typeAssert x xt t true, ty, pos, aft, g⟩ [v] w K := by
 refine hE.det (v := r) (fun w1 _ ρ hρ => ?_) hk
 simp only [opnds, b2_, b3_, b1_, and_true] at hρ
 simp [execOp, hρ, hr w1]
end
section
variable {P : Program} {Pn : List PanicEntry → World → Prop} {n : Nat} {E : Sym} {w : World} {K : Value → World → Prop} {d : Option Tmp} {ty : TypeId} {pos : String} {aft : Array Edge} {g : Option (Nat × Bool)}
theorem st_mk {bq : Bool} (hE : EngB bq P E) {t : TypeId} (ht : ∃ u, P.underlying t = some u ∧ ∀ ms, u ≠ .interface ms) {x : Operand} {v : Value} (hk : K (.iface t v) w) : E.stop ⟨d, .makeInterface t x, ty, pos, aft, g⟩ [v] w K := by
 obtain ⟨u, h1, h2⟩ := ht
 refine hE.det (v := .iface t v) (fun w1 _ ρ hρ => ?_) hk
 simp only [opnds, b2_, b3_, b1_, and_true] at hρ
 have : (Instr.makeInterface t v).run P w1 = .ok (.iface t v) w1 := by
  unfold Instr.makeInterface
  simp only [underlying, Sem.run_bind, run_program, Result.andThen_ok, h1, Sem.run_pure]
 simp [execOp, hρ, this]
theorem run_inv {ρ : Operand → Value} {ro : Operand} {name : String} {ao : Array Operand} {at_ : Array TypeId} {recv : Value} {args l : List Value} {f : FuncId} (hv : (opnds (.call ⟨.invoke ro name, ao, at_⟩)).map ρ = recv :: args)
  (hc : ∀ w, (callMethod recv name args.toArray).run P w = .ok (.enter f l.toArray) w) (w : World) :
  (execOp ρ ⟨d, .call ⟨.invoke ro name, ao, at_⟩, ty, pos, aft, g⟩).run P w = .ok (.enter f l.toArray) w := by
 have hv : ρ ro = recv ∧ ao.toList.map ρ = args := by simpa [opnds] using hv
 obtain ⟨h1, h2⟩ := hv
 have h3 : ao.map ρ = args.toArray := by rw [← h2, ← Array.toList_map, Array.toArray_toList]
 have e : (#[recv] ++ args.toArray).extract 1 (#[recv] ++ args.toArray).size = args.toArray := by
  apply Array.ext'
  simp
 simp only [execOp, Sem.run_bind, resolve, h1, h3, Sem.run_pure, Result.andThen_ok, invoke, e]
 have e0 : (#[recv] ++ args.toArray)[0]? = some recv := by simp
 simp only [e0, hc]
theorem st_if (hE : E = real P Pn n) {ro : Operand} {name : String} {ao : Array Operand} {at_ : Array TypeId} {recv : Value} {args l : List Value} {f : FuncId} {R : Value → World → Prop} (hc : ∀ w, (callMethod recv name args.toArray).run P w = .ok (.enter f l.toArray) w)
  (h : FC P f l w R) (hk : ∀ v w', Ext w w' → R v w' → K v w') : E.stop ⟨d, .call ⟨.invoke ro name, ao, at_⟩, ty, pos, aft, g⟩ (recv :: args) w K := by
 obtain ⟨⟨fn, hf, he⟩, hcc⟩ := h
 subst hE
 intro ρ hρ
 rw [run_inv hρ hc]
 exact hcc.mono fun e w' ⟨v, he, hx, hr⟩ => by subst he; exact hk _ _ hx hr
theorem st_appsKG (hE : E = real P Pn n) {t e : TypeId} {z : Value} {k b : Nat} (ht : Slc P t e z k b) (hz : z.cells.size = k) (hk0 : 0 < k) {B : Nat} {A A1 : Option Addr} {m c m1 c1 : Nat} {xs vs : List Value} {ao : Array Operand} (h : Own B e k w A m c xs) (hn : Cells w A1 vs) (hl : vs.length = m1 * k) (hm1 : 0 < m1) (hv : ∀ v ∈ vs, v.oneCell' = true)
  (hB : B ≤ w.heap.size) (hb : (m + m1) * b ≤ 140737488355328) (hm : m + m1 ≤ 9223372036854775807)
  (hk : ∀ A' c' m' w', m' = m + m1 → Wr A w w' → Own B e k w' A' m' c' (xs ++ vs) → (Eng.blk A' = Eng.blk A ∨ Eng.blk A' = some w.heap.size) → K (.slice A' m' c') w') : E.stop ⟨d, .call ⟨.builtin .append, ao, #[t, t]⟩, ty, pos, aft, g⟩ [.slice A m c, .slice A1 m1 c1] w K := by
 obtain ⟨i0, h1, h2, h3, h4⟩ := ht.info
 cases A1 with
 | none =>
  obtain ⟨a, ha⟩ := hn.1 (by rw [hl]; exact Nat.mul_pos hm1 hk0)
  cases ha
 | some a1 =>
  obtain ⟨v', w', hr, hown, hg, _, hbk⟩ := run_append_own_at (P := P) w B t ty e i0 z k b ht.u h1 h2 h3 h4 hz hk0 (.slice A m c) m xs h a1 m1 c1 vs hl
   (fun j u hu => hn.2 a1 rfl j u hu) hv (by unfold maxLen; omega) hb hB
  have hform : ∃ A' c', v' = .slice A' (m + m1) c' := by
   rcases hown.2 with ⟨h5, h6⟩ | ⟨g, cap, cur, h5, _⟩
   ·exact ⟨none, 0, by rw [h5, h6]⟩
   ·exact ⟨_, _, h5⟩
  obtain ⟨A', c', rfl⟩ := hform
  refine st_run hE (v := .slice A' (m + m1) c') (w' := w') (fun ρ hρ => ?_) (hk _ _ _ _ rfl ?_ hown ?_)
  ·have h3' := map_of (ao := ao) hρ
   simp [execOp, resolve, invoke, builtin, h3', hr]
  ·cases A <;> exact hg
  ·cases A <;> cases A' <;> exact hbk
theorem st_from {bq : Bool} (hE : EngB bq P E) {t e : TypeId} {z : Value} {k b : Nat} (ht : Slc P t e z k b) {A : Option Addr} {m c lo : Nat} {ik : IntKind} {i : Int} {xs : List Value} {x y : Operand} {w0 : World} (h : Cells w0 A xs) (hl : xs.length = m * k) (hmc : m ≤ c) (hi : i = lo) (hlo : lo ≤ m)
  (hk : ∀ A' c', Cells w0 A' (xs.drop (lo * k)) → m - lo ≤ c' → K (.slice A' (m - lo) c') w) : E.stop ⟨d, .slice t x (some y) none none, ty, pos, aft, g⟩ [.slice A m c, .int ik i] w K := by
 subst hi
 refine hE.det (v := .slice (if c = lo then A else A.map (·.add (lo * k))) (m - lo) (c - lo)) (fun w1 _ ρ hρ => ?_) (hk _ _ ?_ (by omega))
 ·simp only [opnds, Option.toList, b2_, b3_, a7_, b1_, and_true] at hρ
  simp only [execOp, hρ.1, hρ.2, Option.map_some, Option.map_none, Sem.run_bind, run_from ht w1 hlo]
  rfl
 ·exact h.from hl hlo (fun h1 h2 => by omega)
end
end Go.Eng
namespace Go.Proofs.YtkedmcebngachaaGreatDoor
open Go.Eng Go.Extern
set_option linter.unusedVariables false
set_option linter.unusedSimpArgs false
section
variable {P : Program} {E : Sym} {w : World} {K : Value → World → Prop} {d : Option Tmp} {ty : TypeId} {pos : String} {aft : Array Edge} {g : Option (Nat × Bool)}
theorem st_eqlSome {bq : Bool} (hE : EngB bq P E) {t t' u : TypeId} {v : Value} {ms : Array (String × TypeId)} (ht : P.underlying t = some (.interface ms)) {x : Operand} {c : Value} (hk : K (.bool false) w) : E.stop ⟨d, .binOp .eql t x (.const c) t', ty, pos, aft, g⟩ [.iface u v, .nilIface] w K := by
 refine hE.det (v := .bool false) (fun w1 _ ρ hρ => ?_) hk
 simp only [opnds, b2_, b3_, b1_, and_true] at hρ
 have h1 : (Op.equal t (.iface u v) .nilIface).run P w1 = .ok false w1 := run_some_ne ht w1 9999
 simp [execOp, hρ, binOp, h1, eqGuard]
theorem st_eqlTypes {bq : Bool} (hE : EngB bq P E) {t t' u u' : TypeId} {v v' : Value} {ms : Array (String × TypeId)} (ht : P.underlying t = some (.interface ms)) (hne : u ≠ u') {x y : Operand} (hk : K (.bool false) w) : E.stop ⟨d, .binOp .eql t x y t', ty, pos, aft, g⟩ [.iface u v, .iface u' v'] w K := by
 refine hE.det (v := .bool false) (fun w1 _ ρ hρ => ?_) hk
 simp only [opnds, b2_, b3_, b1_, and_true] at hρ
 simp [execOp, hρ.1, hρ.2, eqGuard, run_eql_iface_types u u' v v' ht hne w1]
end
abbrev wwV (op : Int) (a : Addr) : Value := .iface 337 (.agg ⟨[.int .i64 op, .iface 391 (.pointer (some a))]⟩)
theorem fWw1 : Fld Tryz.prog 337 1 1 := ⟨by kernel_rfl⟩
theorem wwIs (v : Value) (xT : TypeId) (w : World) : (Instr.typeAssert (.iface 337 v) xT 371 true).run Tryz.prog w = .ok (.tuple ⟨[.nilIface, .bool false]⟩) w := run_typeAssert_lacksB Tryz.underlying371 (by kernel_rfl) (by kernel_rfl) v xT w
theorem wwUn (v : Value) (xT : TypeId) (w : World) : (Instr.typeAssert (.iface 337 v) xT 374 true).run Tryz.prog w = .ok (.tuple ⟨[.iface 337 v, .bool true]⟩) w := run_typeAssert_hasB Tryz.underlying374 (by kernel_rfl) v xT w
theorem cmWw (v : Value) (w : World) : (callMethod (.iface 337 v) "Unwrap" #[]).run Tryz.prog w = .ok (.enter 319 #[v]) w := by kernel_rfl
theorem unwrap_f (op : Int) (a : Addr) (w : World) : FC Tryz.prog 319 [.agg ⟨[.int .i64 op, .iface 391 (.pointer (some a))]⟩] w fun v _ => v = .iface 391 (.pointer (some a)) := by
 refine FC.intro (cs := []) Tryz.func319 (by kernel_rfl) fun E R hE hr hR => ?_
 conv => cbv
 refine st_box hr fun q w1 hx hb0 => ?_
 have hb := hb0 _ (n1_ _)
 conv => cbv
 refine st_fld hE fWw1 fun p hp => ?_
 conv => cbv
 refine st_load hE cErr (by rw [hp]; exact hb.at _ _ rfl) ?_
 conv => cbv
 rw [hR]; exact ⟨hx, rfl⟩
theorem isW_f {w : World} {a b : Addr} (op : Int) (ha : Sent w a) (hb : Sent w b) : FC Tryz.prog 235 [wwV op a, .iface 391 (.pointer (some b)), .bool true] w fun v _ => ∃ r : Bool, v = .bool r ∧ (r = true ↔ a = b) := by
 refine FC.intro (cs := []) Tryz.func235 (by kernel_rfl) fun E R hE hr hR => ?_
 obtain ⟨ms, hu⟩ := uErr
 conv => cbv
 refine loop_rule hr (fun (s : Bool) w' => Ext w w') (fun s => [(0, if s = true then .iface 391 (.pointer (some a)) else wwV op a), (1, .iface 391 (.pointer (some b))), (2, .bool true)]) (fun s => if s = true then 0 else 1) false
  (by simp [Fits, lk]) (Ext.refl w) ?_
 rintro I hI s w' hx
 cases s with
 | false =>
  conv => cbv
  refine st_eqlTypes hE hu (by decide) ?_
  conv => cbv
  refine st_ta hE (wwIs _ _) ?_
  conv => cbv
  refine st_ta hE (wwUn _ _) ?_
  conv => cbv
  refine st_if hr (cmWw _) (unwrap_f op a w') fun v w2 hx2 ev => ?_
  subst ev
  conv => cbv
  refine st_err_nil1 hE ?_
  conv => cbv
  exact ⟨true, by simp [Fits, lk], hI _ _ (hx.trans hx2), by simp⟩
 | true =>
  conv => cbv
  refine st_err_eql hE (ha.ext hx) (hb.ext hx) fun v hv => ?_
  cases v with
  | true =>
   conv => cbv
   rw [hR]; exact ⟨hx, true, rfl, hv⟩
  | false =>
   conv => cbv
   refine st_lacks hE (noIs _ _) ?_
   conv => cbv
   refine st_lacks hE (noUnwrap _ _) ?_
   conv => cbv
   refine st_lacks hE (noUnwraps _ _) ?_
   conv => cbv
   rw [hR]; exact ⟨hx, false, rfl, hv⟩
theorem IsW_f {w : World} {a b : Addr} (op : Int) (ha : Sent w a) (hb : Sent w b) : FC Tryz.prog 146 [wwV op a, .iface 391 (.pointer (some b))] w fun v _ => ∃ r : Bool, v = .bool r ∧ (r = true ↔ a = b) := by
 refine FC.intro (cs := []) Tryz.func146 (by kernel_rfl) fun E R hE hr hR => ?_
 obtain ⟨hv, k1, k2⟩ := typ
 obtain ⟨ms, hu⟩ := uErr
 conv => cbv
 refine st_eqlSome hE hu ?_
 conv => cbv
 refine st_err_nil1 hE ?_
 conv => cbv
 refine st_typeof hE k1 ?_
 conv => cbv
 refine st_comp hE k2 ?_
 conv => cbv
 refine st_f hr (isW_f op ha hb) fun v w2 hx ⟨r, ev, hr2⟩ => ?_
 subst ev
 conv => cbv
 rw [hR]; exact ⟨hx, r, rfl, hr2⟩
def sentA (z o v : Addr) (c : Int) : Addr := if c = 1 then o else if c = 2 then z else v
theorem codeW_f {w : World} {z o v : Addr} (h : Errs w z o v) {c : Int} (hc : c = 1 ∨ c = 2 ∨ c = 3) (op : Int) : FC Tryz.prog 82 [wwV op (sentA z o v c)] w fun r _ => r = .int .i64 c := by
 have hs : Sent w (sentA z o v c) := by rcases hc with rfl | rfl | rfl <;> first | exact h.so | exact h.sz | exact h.sv
 have e1 : sentA z o v c = o ↔ c = 1 := by
  rcases hc with rfl | rfl | rfl
  ·exact iff_of_true rfl rfl
  ·exact iff_of_false h.zo (by decide)
  ·exact iff_of_false (fun q => h.ov q.symm) (by decide)
 have e2 : sentA z o v c = z ↔ c = 2 := by
  rcases hc with rfl | rfl | rfl
  ·exact iff_of_false (fun q => h.zo q.symm) (by decide)
  ·exact iff_of_true rfl rfl
  ·exact iff_of_false (fun q => h.zv q.symm) (by decide)
 have e3 : sentA z o v c = v ↔ c = 3 := by
  rcases hc with rfl | rfl | rfl
  ·exact iff_of_false h.ov (by decide)
  ·exact iff_of_false h.zv (by decide)
  ·exact iff_of_true rfl rfl
 obtain ⟨s, hse⟩ : ∃ s, s = sentA z o v c := ⟨_, rfl⟩
 rw [← hse] at hs e1 e2 e3 ⊢
 refine FC.intro (cs := []) Tryz.func82 (by kernel_rfl) fun E R hE hr hR => ?_
 conv => cbv
 refine st_load hE cErr h.co ?_
 conv => cbv
 refine st_f hr (IsW_f op hs h.so) fun _ w1 hx ⟨r, ev, hr2⟩ => ?_
 subst ev
 cases r with
 | true =>
  conv => cbv
  rw [hR]; exact ⟨hx, by rw [e1.1 (hr2.1 rfl)]; rfl⟩
 | false =>
 have n1 : c ≠ 1 := fun q => absurd (hr2.2 (e1.2 q)) (by simp)
 conv => cbv
 refine st_load hE cErr (h.ext hx).cz ?_
 conv => cbv
 refine st_f hr (IsW_f op (hs.ext hx) (h.ext hx).sz) fun _ w2 hx2 ⟨r, ev, hr2⟩ => ?_
 subst ev
 replace hx := hx.trans hx2
 cases r with
 | true =>
  conv => cbv
  rw [hR]; exact ⟨hx, by rw [e2.1 (hr2.1 rfl)]; rfl⟩
 | false =>
 have n2 : c ≠ 2 := fun q => absurd (hr2.2 (e2.2 q)) (by simp)
 conv => cbv
 refine st_load hE cErr (h.ext hx).cv ?_
 conv => cbv
 refine st_f hr (IsW_f op (hs.ext hx) (h.ext hx).sv) fun _ w3 hx3 ⟨r, ev, hr2⟩ => ?_
 subst ev
 replace hx := hx.trans hx3
 cases r with
 | true =>
  conv => cbv
  rw [hR]; exact ⟨hx, by rw [e3.1 (hr2.1 rfl)]; rfl⟩
 | false =>
  exact absurd (hr2.2 (e3.2 (by omega))) (by simp)
open Go.Eng
theorem cMap : Cel Tryz.prog 262 := ⟨_, Tryz.underlying262, by simp, by simp⟩
def constF : List (Int × Int) := [(1, 3), (2, 1), (3, 2), (4, 4)]
theorem run_bN (o z : Int) (tx : ByteArray) (A : Option Addr) (m c : Nat) (w : World) : (Instr.build 193 #[(0, .int .i64 o), (1, .int .i64 z), (2, .string tx), (3, .slice A m c)]).run Tryz.prog w = .ok (.agg #[.int .i64 o, .int .i64 z, .string tx, .slice A m c, .slice none 0 0]) w := by kernel_rfl
theorem st_bN {E : Sym} {w : World} {K : Value → World → Prop} {d : Option Tmp} {ty : TypeId} {pos : String} {aft : Array Edge} {g : Option (Nat × Bool)} {bq : Bool} (hE : EngB bq Tryz.prog E) {o z : Int} {tx : ByteArray} {A : Option Addr} {m c : Nat} {x0 x1 x2 x3 : Operand} (hk : K (.agg ⟨[.int .i64 o, .int .i64 z, .string tx, .slice A m c, .slice none 0 0]⟩) w) : E.stop ⟨d, .build 193 ⟨[(0, x0), (1, x1), (2, x2), (3, x3)]⟩, ty, pos, aft, g⟩ [.int .i64 o, .int .i64 z, .string tx, .slice A m c] w K := by
 refine hE.det (v := .agg ⟨[.int .i64 o, .int .i64 z, .string tx, .slice A m c, .slice none 0 0]⟩) (fun w1 _ ρ hρ => ?_) hk
 simp only [opnds, b2_, b3_, b1_, and_true] at hρ
 have := run_bN o z tx A m c w1
 simp [execOp, hρ.1, hρ.2.1, hρ.2.2.1, hρ.2.2.2, this]
theorem valueOK_f {w : World} (hT : Tab w 4 constF) {k z : Int} {tx : ByteArray} {A : Option Addr} {m c : Nat} {xs : List ByteArray} (h : Strs w A m c xs) (ht : tx.size ≤ 9223372036854775807) :
  FC Tryz.prog 164 [.agg ⟨[.int .i64 k, .int .i64 z, .string tx, .slice A m c]⟩] w fun v _ => ∃ b : Bool, v = .bool b ∧ (b = true ↔ valOK ⟨k, z, tx, xs⟩) := by
 refine FC.intro (cs := []) Tryz.func164 (by kernel_rfl) fun E R hE hr hR => ?_
 conv => cbv
 refine st_box hr fun a w1 hx hb0 => ?_
 have hb := hb0 _ (n1_ _)
 clear hb0
 obtain ⟨bm, es, clock, t1, t2, t3, t4, _⟩ := (hT.ext hx).ex
 conv => cbv
 refine st_load hE cMap t1 ?_
 conv => cbv
 (refine st_fld hE fIV0 fun p hp => ?_; (conv => cbv); refine st_load hE cInt (by rw [hp]; exact (hb).at _ _ rfl) ?_; clear hp; (conv => cbv))
 refine st_tab hE Tryz.underlying262 uInt (by kernel_rfl) t2 t3 t4 fun o ho => ?_
 conv => cbv
 (refine st_fld hE fIV1 fun p hp => ?_; (conv => cbv); refine st_load hE cI64 (by rw [hp]; exact (hb).at _ _ rfl) ?_; clear hp; (conv => cbv))
 (refine st_fld hE fIV2 fun p hp => ?_; (conv => cbv); refine st_load hE cStr (by rw [hp]; exact (hb).at _ _ rfl) ?_; clear hp; (conv => cbv))
 (refine st_fld hE fIV3 fun p hp => ?_; (conv => cbv); refine st_load hE cStrs (by rw [hp]; exact (hb).at _ _ rfl) ?_; clear hp; (conv => cbv))
 refine st_bN hE ?_
 conv => cbv
 refine st_alloc hr tIN rfl fun q w2 hx2 hq0 => ?_
 have hq := hq0 _ hx.size
 replace hx := hx.trans hx2
 conv => cbv
 refine st_putS hr (by kernel_rfl) hq (add_zero _).symm (by simp) (by simp [Value.oneCell']) fun w3 hw3 hq3 => ?_
 simp only [a1_, a2_, a3_, a4_, a5_, a6_, a7_] at hq3
 replace hx := hx.then (hw3.bel hq hx.size)
 conv => cbv
 refine st_loadS hE tIN rfl hq3.at ?_
 conv => cbv
 refine st_f hr (validConst_f (o := o) (z := z) (tx := tx) (h.ext hx) ht) fun v w4 hx4 ⟨b, ev, hb2⟩ => ?_
 subst ev
 conv => cbv
 rw [hR]; refine ⟨hx.trans hx4, b, rfl, ?_⟩
 rw [hb2]
 rcases ho with ho | ⟨rfl, ho⟩
 ·simp [constF] at ho
  rcases ho with ⟨rfl, rfl⟩ | ⟨rfl, rfl⟩ | ⟨rfl, rfl⟩ | ⟨rfl, rfl⟩ <;> simp [valOK]
 ·have h1 : k ≠ 1 := fun e => ho 3 (by rw [e]; simp [constF])
  have h2 : k ≠ 2 := fun e => ho 1 (by rw [e]; simp [constF])
  have h3 : k ≠ 3 := fun e => ho 2 (by rw [e]; simp [constF])
  have h4 : k ≠ 4 := fun e => ho 4 (by rw [e]; simp [constF])
  simp [valOK, h1, h2, h3, h4]
def hasA (o : Int) : Prop := o = 1 ∨ o = 2 ∨ o = 3 ∨ o = 4 ∨ o = 22 ∨ o = 23
theorem hasArg_q (o : Int) (w : World) : QB Tryz.prog 165 [.int .i64 o] w (hasA o) := by
 refine QB.intro (cs := []) Tryz.func165 (by kernel_rfl) fun w hx0 w1 hs E R hE hr hR => ?_
 conv => cbv
 repeat' (split <;> conv => cbv)
 all_goals (refine hR _ _ hs ?_; simp only [hE.cmp, cmpR, decide_eq_true_eq, beq_iff_eq] at *; simp [hasA]; omega)
theorem l5hasArg_q (o : Int) (w : World) : QB Tryz.prog 151 [.int .i64 o] w (hasA o) := by
 refine QB.intro (cs := []) Tryz.func151 (by kernel_rfl) fun w hx0 w1 hs E R hE hr hR => ?_
 conv => cbv
 repeat' (split <;> conv => cbv)
 all_goals (refine hR _ _ hs ?_; simp only [hE.cmp, cmpR, decide_eq_true_eq, beq_iff_eq] at *; simp [hasA]; omega)
def insOK (i : Int × Int) : Prop := 1 ≤ i.1 ∧ i.1 ≤ 25 ∧ 0 ≤ i.2 ∧ i.2 ≤ 65535 ∧ (i.2 = 0 ∨ hasA i.1)
def shapeP (pv : List PV) (sl : Int) (is : List (Int × Int)) : Prop := pv.length ≤ 4000 ∧ 0 ≤ sl ∧ sl ≤ 600 ∧ is.length ≤ 20000 ∧ (∀ p ∈ pv, valOK p) ∧ ∀ i ∈ is, insOK i
theorem shapeOK_f {w : World} (hT : Tab w 4 constF) {A A2 : Option Addr} {n c n2 c2 : Nat} {sl : Int} {pv : List PV} {is : List (Int × Int)} (h : CodeR w A n A2 n2 pv is) (hn : n ≤ 9223372036854775807) (hn2 : n2 ≤ 9223372036854775807) :
  FC Tryz.prog 101 [codeV A n c sl A2 n2 c2] w fun v _ => ∃ b : Bool, v = .bool b ∧ (b = true ↔ shapeP pv sl is) := by
 refine FC.intro (cs := []) Tryz.func101 (by kernel_rfl) fun E R hE hr hR => ?_
 have hl := h.pool.len
 have hl2 := h.ins.len
 conv => cbv
 refine st_box hr fun a w1 hx hb0 => ?_
 have hb := hb0 _ (n1_ _)
 clear hb0
 conv => cbv
 (refine st_fld hE fIC0 fun p hp => ?_; (conv => cbv); refine st_load hE cIVs (by rw [hp]; exact (hb).at _ _ rfl) ?_; clear hp; (conv => cbv))
 refine st_len hE sIV fun x1 hx1 => ?_
 conv => cbv
 refine br (fun g => ?_) (fun g => ?_)
 ·have g : 4000 < x1 := by simpa [hE.cmp, cmpR] using g
  conv => cbv
  rw [hR]; exact ⟨hx, false, rfl, by simp only [Bool.false_eq_true, false_iff]; exact fun q => by have := q.1; omega⟩
 have g1 : n ≤ 4000 := by simp [hE.cmp, cmpR] at g; omega
 conv => cbv
 (refine st_fld hE fIC1 fun p hp => ?_; (conv => cbv); refine st_load hE cInt (by rw [hp]; exact (hb).at _ _ rfl) ?_; clear hp; (conv => cbv))
 refine br (fun g => ?_) (fun g => ?_)
 ·have g : sl < 0 := by simpa [hE.cmp, cmpR] using g
  conv => cbv
  rw [hR]; exact ⟨hx, false, rfl, by simp only [Bool.false_eq_true, false_iff]; exact fun q => by have := q.2.1; omega⟩
 have g2 : 0 ≤ sl := by simp [hE.cmp, cmpR] at g; omega
 conv => cbv
 (refine st_fld hE fIC1 fun p hp => ?_; (conv => cbv); refine st_load hE cInt (by rw [hp]; exact (hb).at _ _ rfl) ?_; clear hp; (conv => cbv))
 refine br (fun g => ?_) (fun g => ?_)
 ·have g : 600 < sl := by simpa [hE.cmp, cmpR] using g
  conv => cbv
  rw [hR]; exact ⟨hx, false, rfl, by simp only [Bool.false_eq_true, false_iff]; exact fun q => by have := q.2.2.1; omega⟩
 have g3 : sl ≤ 600 := by simp [hE.cmp, cmpR] at g; omega
 conv => cbv
 (refine st_fld hE fIC2 fun p hp => ?_; (conv => cbv); refine st_load hE cIIs (by rw [hp]; exact (hb).at _ _ rfl) ?_; clear hp; (conv => cbv))
 refine st_len hE sII fun x2 hx2 => ?_
 conv => cbv
 refine br (fun g => ?_) (fun g => ?_)
 ·have g : 20000 < x2 := by simpa [hE.cmp, cmpR] using g
  conv => cbv
  rw [hR]; exact ⟨hx, false, rfl, by simp only [Bool.false_eq_true, false_iff]; exact fun q => by have := q.2.2.2.1; omega⟩
 have g4 : n2 ≤ 20000 := by simp [hE.cmp, cmpR] at g; omega
 conv => cbv
 (refine st_fld hE fIC0 fun p hp => ?_; (conv => cbv); refine st_load hE cIVs (by rw [hp]; exact (hb).at _ _ rfl) ?_; clear hp; (conv => cbv))
 refine st_len hE sIV fun x3 hx3 => ?_
 conv => cbv
 refine loop_rule hr (fun (s : Nat × Int) w' => s.1 ≤ n ∧ s.2 = (s.1 : Int) ∧ Ext w w' ∧ Box w.heap.size 39 3 w' a [.slice A n c, .int .i64 sl, .slice A2 n2 c2] ∧ ∀ p ∈ pv.take s.1, valOK p) (fun s => [(1, .pointer (some a)), (28, .slice A n c), (29, .int .i64 x3), (30, .int .i64 s.2)]) (fun s => n - s.1) (0, 0)
  (by simp [Fits, lk]) ⟨by simp, by simp, hx, hb, by simp⟩ ?_
 clear hb hx
 rintro I hI ⟨i, ii⟩ w' ⟨hi, hii, hx, hb, hall⟩
 simp only at hi hii hall
 obtain ⟨ii', hii'⟩ : ∃ z, z = ii + 1 := ⟨_, rfl⟩
 conv => cbv
 refine br (fun g => ?_) (fun g => ?_)
 ·have g : i < n := by
   have : ii < x3 := by simpa [hE.cmp, cmpR] using g
   omega
  have ei : E.ar .add .i64 ii 1 = ii' := by rw [hE.ar, hii']; exact wrap_in (by omega) (by omega)
  obtain ⟨a1, k, z, tx, xs, A3, m, c3, hA, hg, hc, hs, ht⟩ := (h.pool.ext hx).get g
  conv => cbv
  refine st_idx hE sIV hA (by omega) (by omega) fun q hq => ?_
  rw [show ii.toNat = i by omega] at hq
  conv => cbv
  refine st_loadS hE tIV rfl (by rw [hq]; exact hc) ?_
  conv => cbv
  refine st_alloc hr tIV rfl fun q w2 hx2 hq0 => ?_
  have hq := hq0 _ hx.size
  have aq := (hb.apart (hq0 _ (n1_ _)) (n1_ _)).1
  replace hb := hb.bel hx2
  replace hx := hx.trans hx2
  conv => cbv
  refine st_putS hr (by kernel_rfl) hq (add_zero _).symm (by simp) (by simp [Value.oneCell']) fun w3 hw3 hq3 => ?_
  simp only [a1_, a2_, a3_, a4_, a5_, a6_, a7_] at hq3
  have hw3E : Ext w' w3 := hx2.then (hw3.bel (hq0 _ (n1_ _)) hx2.size)
  replace hx := hx.then (hw3.bel hq hx.size)
  replace hb := hb.wr hw3 aq
  conv => cbv
  refine st_loadS hE tIV rfl hq3.at ?_
  have hA4 : Strs w3 A3 m c3 xs := hs.ext hw3E
  conv => cbv
  refine st_f hr (valueOK_f (hT.ext hx) (k := k) (z := z) (tx := tx) hA4 ht) fun v w4 hx4 ⟨b, ev, hb2⟩ => ?_
  subst ev
  replace hb := hb.bel hx4
  replace hx := hx.trans hx4
  conv => cbv
  cases b with
  | false =>
   conv => cbv
   rw [hR]; exact ⟨hx, false, rfl, by
    simp only [Bool.false_eq_true, false_iff]
    exact fun q => absurd (hb2.2 (q.2.2.2.2.1 _ (m1_ hg))) (by simp)⟩
  | true =>
   conv => cbv
   simp only [ei]
   refine ⟨(i + 1, ii'), by simp [Fits, lk], hI _ _ ⟨by simp only; omega, by simp only; omega, hx, hb, ?_⟩, by simp only; omega⟩
   simp only
   rw [g4_, hg]
   intro p hp
   rcases List.mem_append.1 hp with hp | hp
   ·exact hall p hp
   ·simp at hp; rw [hp]; exact hb2.1 rfl
 have g : i = n := by
  have : ¬ ii < x3 := by simpa [hE.cmp, cmpR] using g
  omega
 subst g
 rw [g3_ (by omega)] at hall
 conv => cbv
 (refine st_fld hE fIC2 fun p hp => ?_; (conv => cbv); refine st_load hE cIIs (by rw [hp]; exact (hb).at _ _ rfl) ?_; clear hp; (conv => cbv))
 refine st_len hE sII fun x4 hx4 => ?_
 conv => cbv
 refine loop_rule hr (fun (s : Nat × Int) w' => s.1 ≤ n2 ∧ s.2 = (s.1 : Int) ∧ Ext w w' ∧ ∀ p ∈ is.take s.1, insOK p) (fun s => [(39, .slice A2 n2 c2), (40, .int .i64 x4), (41, .int .i64 s.2)]) (fun s => n2 - s.1) (0, 0)
  (by simp [Fits, lk]) ⟨by simp, by simp, hx, by simp⟩ ?_
 clear hb hx
 rintro I hI ⟨j, jj⟩ w' ⟨hj, hjj, hx, hal2⟩
 simp only at hj hjj hal2
 obtain ⟨jj', hjj'⟩ : ∃ z, z = jj + 1 := ⟨_, rfl⟩
 conv => cbv
 refine br (fun g => ?_) (fun g => ?_)
 ·have g : j < n2 := by
   have : jj < x4 := by simpa [hE.cmp, cmpR] using g
   omega
  have ej : E.ar .add .i64 jj 1 = jj' := by rw [hE.ar, hjj']; exact wrap_in (by omega) (by omega)
  obtain ⟨a1, o, u, hA, hg, hc⟩ := (h.ins.ext hx).get g
  have hno : ∀ q : shapeP pv sl is, insOK (o, u) := fun q => q.2.2.2.2.2 _ (m1_ hg)
  conv => cbv
  refine st_idx hE sII hA (by omega) (by omega) fun q hq => ?_
  rw [show jj.toNat = j by omega] at hq
  conv => cbv
  refine st_loadS hE tII rfl (by rw [hq]; exact hc) ?_
  conv => cbv
  refine st_alloc hr tII rfl fun q w2 hx2 hq0 => ?_
  have hq := hq0 _ hx.size
  replace hx := hx.trans hx2
  conv => cbv
  refine st_putS hr (by kernel_rfl) hq (add_zero _).symm (by simp) (by simp [Value.oneCell']) fun w3 hw3 hq3 => ?_
  simp only [a1_, a2_, a3_, a4_, a5_, a6_, a7_] at hq3
  replace hx := hx.then (hw3.bel hq hx.size)
  conv => cbv
  (refine st_fld hE fII0 fun p hp => ?_; (conv => cbv); refine st_load hE cInt (by rw [hp]; exact (hq3).at _ _ rfl) ?_; clear hp; (conv => cbv))
  refine br (fun g2 => ?_) (fun g2 => ?_)
  ·have g2 : o < 1 := by simpa [hE.cmp, cmpR] using g2
   conv => cbv
   rw [hR]; exact ⟨hx, false, rfl, by simp only [Bool.false_eq_true, false_iff]; exact fun q => by have := (hno q).1; simp only at this; omega⟩
  have f_1 : 1 ≤ o := by simp [hE.cmp, cmpR] at g2; omega
  conv => cbv
  (refine st_fld hE fII0 fun p hp => ?_; (conv => cbv); refine st_load hE cInt (by rw [hp]; exact (hq3).at _ _ rfl) ?_; clear hp; (conv => cbv))
  refine br (fun g2 => ?_) (fun g2 => ?_)
  ·have g2 : 25 < o := by simpa [hE.cmp, cmpR] using g2
   conv => cbv
   rw [hR]; exact ⟨hx, false, rfl, by simp only [Bool.false_eq_true, false_iff]; exact fun q => by have := (hno q).2.1; simp only at this; omega⟩
  have f_2_1 : o ≤ 25 := by simp [hE.cmp, cmpR] at g2; omega
  conv => cbv
  (refine st_fld hE fII1 fun p hp => ?_; (conv => cbv); refine st_load hE cInt (by rw [hp]; exact (hq3).at _ _ rfl) ?_; clear hp; (conv => cbv))
  refine br (fun g2 => ?_) (fun g2 => ?_)
  ·have g2 : u < 0 := by simpa [hE.cmp, cmpR] using g2
   conv => cbv
   rw [hR]; exact ⟨hx, false, rfl, by simp only [Bool.false_eq_true, false_iff]; exact fun q => by have := (hno q).2.2.1; simp only at this; omega⟩
  have f_2_2_1 : 0 ≤ u := by simp [hE.cmp, cmpR] at g2; omega
  conv => cbv
  (refine st_fld hE fII1 fun p hp => ?_; (conv => cbv); refine st_load hE cInt (by rw [hp]; exact (hq3).at _ _ rfl) ?_; clear hp; (conv => cbv))
  refine br (fun g2 => ?_) (fun g2 => ?_)
  ·have g2 : 65535 < u := by simpa [hE.cmp, cmpR] using g2
   conv => cbv
   rw [hR]; exact ⟨hx, false, rfl, by simp only [Bool.false_eq_true, false_iff]; exact fun q => by have := (hno q).2.2.2.1; simp only at this; omega⟩
  have f_2_2_2_1 : u ≤ 65535 := by simp [hE.cmp, cmpR] at g2; omega
  have step : ∀ w4, Ext w w4 → (u = 0 ∨ hasA o) → I (j + 1, jj') w4 := fun w4 hx4 hq => by
   refine hI _ _ ⟨by simp only; omega, by simp only; omega, hx4, ?_⟩
   simp only
   rw [g4_, hg]
   intro p hp
   rcases List.mem_append.1 hp with hp | hp
   ·exact hal2 p hp
   ·simp at hp; rw [hp]; exact ⟨f_1, f_2_1, f_2_2_1, f_2_2_2_1, hq⟩
  conv => cbv
  (refine st_fld hE fII1 fun p hp => ?_; (conv => cbv); refine st_load hE cInt (by rw [hp]; exact (hq3).at _ _ rfl) ?_; clear hp; (conv => cbv))
  refine br (fun g2 => ?_) (fun g2 => ?_)
  ·have g2 : u ≠ 0 := by simpa [hE.cmp, cmpR] using g2
   conv => cbv
   (refine st_fld hE fII0 fun p hp => ?_; (conv => cbv); refine st_load hE cInt (by rw [hp]; exact (hq3).at _ _ rfl) ?_; clear hp; (conv => cbv))
   refine st_qb hE (hasArg_q o _) fun b hb w4 hs4 => ?_
   conv => cbv
   cases b with
   | false =>
    conv => cbv
    rw [hR]; exact ⟨hx.trans hs4.ext, false, rfl, by
     simp only [Bool.false_eq_true, false_iff]
     intro q
     rcases (hno q).2.2.2.2 with q | q
     ·exact g2 q
     ·exact absurd (hb.2 q) (by simp)⟩
   | true =>
    conv => cbv
    simp only [ej]
    exact ⟨(j + 1, jj'), by simp [Fits, lk], step _ (hx.trans hs4.ext) (.inr (hb.1 rfl)), by simp only; omega⟩
  ·have g2 : u = 0 := by simpa [hE.cmp, cmpR] using g2
   conv => cbv
   simp only [ej]
   exact ⟨(j + 1, jj'), by simp [Fits, lk], step _ hx (.inl g2), by simp only; omega⟩
 have g : j = n2 := by
  have : ¬ jj < x4 := by simpa [hE.cmp, cmpR] using g
  omega
 rw [g3_ (by omega)] at hal2
 conv => cbv
 rw [hR]; exact ⟨hx, true, rfl, by simp only [true_iff]; exact ⟨by omega, g2, g3, by omega, hall, hal2⟩⟩
theorem l5shape_f {w : World} {A A2 : Option Addr} {n c n2 c2 : Nat} {sl : Int} {pv : List PV} {is : List (Int × Int)} (h : CodeR w A n A2 n2 pv is) (hn : n ≤ 9223372036854775807) (hn2 : n2 ≤ 9223372036854775807) :
  FC Tryz.prog 90 [codeV A n c sl A2 n2 c2] w fun v _ => ∃ b : Bool, v = .bool b ∧ (b = true ↔ shapeP pv sl is) := by
 refine FC.intro (cs := []) Tryz.func90 (by kernel_rfl) fun E R hE hr hR => ?_
 have hl := h.pool.len
 have hl2 := h.ins.len
 conv => cbv
 refine st_box hr fun a w1 hx hb0 => ?_
 have hb := hb0 _ (n1_ _)
 clear hb0
 conv => cbv
 (refine st_fld hE fIC0 fun p hp => ?_; (conv => cbv); refine st_load hE cIVs (by rw [hp]; exact (hb).at _ _ rfl) ?_; clear hp; (conv => cbv))
 refine st_len hE sIV fun x1 hx1 => ?_
 conv => cbv
 refine br (fun g => ?_) (fun g => ?_)
 ·have g : 4000 < x1 := by simpa [hE.cmp, cmpR] using g
  conv => cbv
  rw [hR]; exact ⟨hx, false, rfl, by simp only [Bool.false_eq_true, false_iff]; exact fun q => by have := q.1; omega⟩
 have g1 : n ≤ 4000 := by simp [hE.cmp, cmpR] at g; omega
 conv => cbv
 (refine st_fld hE fIC2 fun p hp => ?_; (conv => cbv); refine st_load hE cIIs (by rw [hp]; exact (hb).at _ _ rfl) ?_; clear hp; (conv => cbv))
 refine st_len hE sII fun x2 hx2 => ?_
 conv => cbv
 refine br (fun g => ?_) (fun g => ?_)
 ·have g : 20000 < x2 := by simpa [hE.cmp, cmpR] using g
  conv => cbv
  rw [hR]; exact ⟨hx, false, rfl, by simp only [Bool.false_eq_true, false_iff]; exact fun q => by have := q.2.2.2.1; omega⟩
 have g4 : n2 ≤ 20000 := by simp [hE.cmp, cmpR] at g; omega
 conv => cbv
 (refine st_fld hE fIC1 fun p hp => ?_; (conv => cbv); refine st_load hE cInt (by rw [hp]; exact (hb).at _ _ rfl) ?_; clear hp; (conv => cbv))
 refine br (fun g => ?_) (fun g => ?_)
 ·have g : sl < 0 := by simpa [hE.cmp, cmpR] using g
  conv => cbv
  rw [hR]; exact ⟨hx, false, rfl, by simp only [Bool.false_eq_true, false_iff]; exact fun q => by have := q.2.1; omega⟩
 have g2 : 0 ≤ sl := by simp [hE.cmp, cmpR] at g; omega
 conv => cbv
 (refine st_fld hE fIC1 fun p hp => ?_; (conv => cbv); refine st_load hE cInt (by rw [hp]; exact (hb).at _ _ rfl) ?_; clear hp; (conv => cbv))
 refine br (fun g => ?_) (fun g => ?_)
 ·have g : 600 < sl := by simpa [hE.cmp, cmpR] using g
  conv => cbv
  rw [hR]; exact ⟨hx, false, rfl, by simp only [Bool.false_eq_true, false_iff]; exact fun q => by have := q.2.2.1; omega⟩
 have g3 : sl ≤ 600 := by simp [hE.cmp, cmpR] at g; omega
 conv => cbv
 (refine st_fld hE fIC0 fun p hp => ?_; (conv => cbv); refine st_load hE cIVs (by rw [hp]; exact (hb).at _ _ rfl) ?_; clear hp; (conv => cbv))
 refine st_len hE sIV fun x3 hx3 => ?_
 conv => cbv
 refine loop_rule hr (fun (s : Nat × Int) w' => s.1 ≤ n ∧ s.2 = (s.1 : Int) ∧ Ext w w' ∧ Box w.heap.size 39 3 w' a [.slice A n c, .int .i64 sl, .slice A2 n2 c2] ∧ ∀ p ∈ pv.take s.1, valOK p) (fun s => [(1, .pointer (some a)), (28, .slice A n c), (29, .int .i64 x3), (30, .int .i64 s.2)]) (fun s => n - s.1) (0, 0)
  (by simp [Fits, lk]) ⟨by simp, by simp, hx, hb, by simp⟩ ?_
 clear hb hx
 rintro I hI ⟨i, ii⟩ w' ⟨hi, hii, hx, hb, hall⟩
 simp only at hi hii hall
 obtain ⟨ii', hii'⟩ : ∃ z, z = ii + 1 := ⟨_, rfl⟩
 conv => cbv
 refine br (fun g => ?_) (fun g => ?_)
 ·have g : i < n := by
   have : ii < x3 := by simpa [hE.cmp, cmpR] using g
   omega
  have ei : E.ar .add .i64 ii 1 = ii' := by rw [hE.ar, hii']; exact wrap_in (by omega) (by omega)
  obtain ⟨a1, k, z, tx, xs, A3, m, c3, hA, hg, hc, hs, ht⟩ := (h.pool.ext hx).get g
  conv => cbv
  refine st_idx hE sIV hA (by omega) (by omega) fun q hq => ?_
  rw [show ii.toNat = i by omega] at hq
  conv => cbv
  refine st_loadS hE tIV rfl (by rw [hq]; exact hc) ?_
  conv => cbv
  refine st_alloc hr tIV rfl fun q w2 hx2 hq0 => ?_
  have hq := hq0 _ hx.size
  have aq := (hb.apart (hq0 _ (n1_ _)) (n1_ _)).1
  replace hb := hb.bel hx2
  replace hx := hx.trans hx2
  conv => cbv
  refine st_putS hr (by kernel_rfl) hq (add_zero _).symm (by simp) (by simp [Value.oneCell']) fun w3 hw3 hq3 => ?_
  simp only [a1_, a2_, a3_, a4_, a5_, a6_, a7_] at hq3
  have hw3E : Ext w' w3 := hx2.then (hw3.bel (hq0 _ (n1_ _)) hx2.size)
  replace hx := hx.then (hw3.bel hq hx.size)
  replace hb := hb.wr hw3 aq
  conv => cbv
  refine st_loadS hE tIV rfl hq3.at ?_
  have hA4 : Strs w3 A3 m c3 xs := hs.ext hw3E
  conv => cbv
  refine st_f hr (l5value_f (k := k) (z := z) (tx := tx) hA4 ht) fun v w4 hx4 ⟨b, ev, hb2⟩ => ?_
  subst ev
  replace hb := hb.bel hx4
  replace hx := hx.trans hx4
  conv => cbv
  cases b with
  | false =>
   conv => cbv
   rw [hR]; exact ⟨hx, false, rfl, by
    simp only [Bool.false_eq_true, false_iff]
    exact fun q => absurd (hb2.2 (q.2.2.2.2.1 _ (m1_ hg))) (by simp)⟩
  | true =>
   conv => cbv
   simp only [ei]
   refine ⟨(i + 1, ii'), by simp [Fits, lk], hI _ _ ⟨by simp only; omega, by simp only; omega, hx, hb, ?_⟩, by simp only; omega⟩
   simp only
   rw [g4_, hg]
   intro p hp
   rcases List.mem_append.1 hp with hp | hp
   ·exact hall p hp
   ·simp at hp; rw [hp]; exact hb2.1 rfl
 have g : i = n := by
  have : ¬ ii < x3 := by simpa [hE.cmp, cmpR] using g
  omega
 subst g
 rw [g3_ (by omega)] at hall
 conv => cbv
 (refine st_fld hE fIC2 fun p hp => ?_; (conv => cbv); refine st_load hE cIIs (by rw [hp]; exact (hb).at _ _ rfl) ?_; clear hp; (conv => cbv))
 refine st_len hE sII fun x4 hx4 => ?_
 conv => cbv
 refine loop_rule hr (fun (s : Nat × Int) w' => s.1 ≤ n2 ∧ s.2 = (s.1 : Int) ∧ Ext w w' ∧ ∀ p ∈ is.take s.1, insOK p) (fun s => [(39, .slice A2 n2 c2), (40, .int .i64 x4), (41, .int .i64 s.2)]) (fun s => n2 - s.1) (0, 0)
  (by simp [Fits, lk]) ⟨by simp, by simp, hx, by simp⟩ ?_
 clear hb hx
 rintro I hI ⟨j, jj⟩ w' ⟨hj, hjj, hx, hal2⟩
 simp only at hj hjj hal2
 obtain ⟨jj', hjj'⟩ : ∃ z, z = jj + 1 := ⟨_, rfl⟩
 conv => cbv
 refine br (fun g => ?_) (fun g => ?_)
 ·have g : j < n2 := by
   have : jj < x4 := by simpa [hE.cmp, cmpR] using g
   omega
  have ej : E.ar .add .i64 jj 1 = jj' := by rw [hE.ar, hjj']; exact wrap_in (by omega) (by omega)
  obtain ⟨a1, o, u, hA, hg, hc⟩ := (h.ins.ext hx).get g
  have hno : ∀ q : shapeP pv sl is, insOK (o, u) := fun q => q.2.2.2.2.2 _ (m1_ hg)
  conv => cbv
  refine st_idx hE sII hA (by omega) (by omega) fun q hq => ?_
  rw [show jj.toNat = j by omega] at hq
  conv => cbv
  refine st_loadS hE tII rfl (by rw [hq]; exact hc) ?_
  conv => cbv
  refine st_alloc hr tII rfl fun q w2 hx2 hq0 => ?_
  have hq := hq0 _ hx.size
  replace hx := hx.trans hx2
  conv => cbv
  refine st_putS hr (by kernel_rfl) hq (add_zero _).symm (by simp) (by simp [Value.oneCell']) fun w3 hw3 hq3 => ?_
  simp only [a1_, a2_, a3_, a4_, a5_, a6_, a7_] at hq3
  replace hx := hx.then (hw3.bel hq hx.size)
  conv => cbv
  (refine st_fld hE fII0 fun p hp => ?_; (conv => cbv); refine st_load hE cInt (by rw [hp]; exact (hq3).at _ _ rfl) ?_; clear hp; (conv => cbv))
  refine br (fun g2 => ?_) (fun g2 => ?_)
  ·have g2 : o < 1 := by simpa [hE.cmp, cmpR] using g2
   conv => cbv
   rw [hR]; exact ⟨hx, false, rfl, by simp only [Bool.false_eq_true, false_iff]; exact fun q => by have := (hno q).1; simp only at this; omega⟩
  have f_1 : 1 ≤ o := by simp [hE.cmp, cmpR] at g2; omega
  conv => cbv
  (refine st_fld hE fII0 fun p hp => ?_; (conv => cbv); refine st_load hE cInt (by rw [hp]; exact (hq3).at _ _ rfl) ?_; clear hp; (conv => cbv))
  refine br (fun g2 => ?_) (fun g2 => ?_)
  ·have g2 : 25 < o := by simpa [hE.cmp, cmpR] using g2
   conv => cbv
   rw [hR]; exact ⟨hx, false, rfl, by simp only [Bool.false_eq_true, false_iff]; exact fun q => by have := (hno q).2.1; simp only at this; omega⟩
  have f_2_1 : o ≤ 25 := by simp [hE.cmp, cmpR] at g2; omega
  conv => cbv
  (refine st_fld hE fII1 fun p hp => ?_; (conv => cbv); refine st_load hE cInt (by rw [hp]; exact (hq3).at _ _ rfl) ?_; clear hp; (conv => cbv))
  refine br (fun g2 => ?_) (fun g2 => ?_)
  ·have g2 : u < 0 := by simpa [hE.cmp, cmpR] using g2
   conv => cbv
   rw [hR]; exact ⟨hx, false, rfl, by simp only [Bool.false_eq_true, false_iff]; exact fun q => by have := (hno q).2.2.1; simp only at this; omega⟩
  have f_2_2_1 : 0 ≤ u := by simp [hE.cmp, cmpR] at g2; omega
  conv => cbv
  (refine st_fld hE fII1 fun p hp => ?_; (conv => cbv); refine st_load hE cInt (by rw [hp]; exact (hq3).at _ _ rfl) ?_; clear hp; (conv => cbv))
  refine br (fun g2 => ?_) (fun g2 => ?_)
  ·have g2 : 65535 < u := by simpa [hE.cmp, cmpR] using g2
   conv => cbv
   rw [hR]; exact ⟨hx, false, rfl, by simp only [Bool.false_eq_true, false_iff]; exact fun q => by have := (hno q).2.2.2.1; simp only at this; omega⟩
  have f_2_2_2_1 : u ≤ 65535 := by simp [hE.cmp, cmpR] at g2; omega
  have step : ∀ w4, Ext w w4 → (u = 0 ∨ hasA o) → I (j + 1, jj') w4 := fun w4 hx4 hq => by
   refine hI _ _ ⟨by simp only; omega, by simp only; omega, hx4, ?_⟩
   simp only
   rw [g4_, hg]
   intro p hp
   rcases List.mem_append.1 hp with hp | hp
   ·exact hal2 p hp
   ·simp at hp; rw [hp]; exact ⟨f_1, f_2_1, f_2_2_1, f_2_2_2_1, hq⟩
  conv => cbv
  (refine st_fld hE fII1 fun p hp => ?_; (conv => cbv); refine st_load hE cInt (by rw [hp]; exact (hq3).at _ _ rfl) ?_; clear hp; (conv => cbv))
  refine br (fun g2 => ?_) (fun g2 => ?_)
  ·have g2 : u ≠ 0 := by simpa [hE.cmp, cmpR] using g2
   conv => cbv
   (refine st_fld hE fII0 fun p hp => ?_; (conv => cbv); refine st_load hE cInt (by rw [hp]; exact (hq3).at _ _ rfl) ?_; clear hp; (conv => cbv))
   refine st_qb hE (l5hasArg_q o _) fun b hb w4 hs4 => ?_
   conv => cbv
   cases b with
   | false =>
    conv => cbv
    rw [hR]; exact ⟨hx.trans hs4.ext, false, rfl, by
     simp only [Bool.false_eq_true, false_iff]
     intro q
     rcases (hno q).2.2.2.2 with q | q
     ·exact g2 q
     ·exact absurd (hb.2 q) (by simp)⟩
   | true =>
    conv => cbv
    simp only [ej]
    exact ⟨(j + 1, jj'), by simp [Fits, lk], step _ (hx.trans hs4.ext) (.inr (hb.1 rfl)), by simp only; omega⟩
  ·have g2 : u = 0 := by simpa [hE.cmp, cmpR] using g2
   conv => cbv
   simp only [ej]
   exact ⟨(j + 1, jj'), by simp [Fits, lk], step _ hx (.inl g2), by simp only; omega⟩
 have g : j = n2 := by
  have : ¬ jj < x4 := by simpa [hE.cmp, cmpR] using g
  omega
 rw [g3_ (by omega)] at hal2
 conv => cbv
 rw [hR]; exact ⟨hx, true, rfl, by simp only [true_iff]; exact ⟨by omega, g2, g3, by omega, hall, hal2⟩⟩
open Go.ChangeMaps (setBlock)
def opF : List (Int × Int) := (List.range 17).map fun (i : Nat) => ((i : Int) + 8, (i : Int) + 5)
def oprF (o : Int) : Int := if 5 ≤ o ∧ o ≤ 21 then o + 3 else 0
theorem opF_iff (k z : Int) : (k, z) ∈ opF ↔ 5 ≤ z ∧ z ≤ 21 ∧ k = z + 3 := by
 simp only [opF, List.mem_map, List.mem_range, Prod.mk.injEq]
 constructor
 ·rintro ⟨i, hi, rfl, rfl⟩; omega
 ·rintro ⟨h1, h2, rfl⟩; exact ⟨(z - 5).toNat, by omega, by omega, by omega⟩
theorem operatorOf_f {w : World} (hT : Tab w 3 opF) (o : Int) : FC Tryz.prog 110 [.int .i64 o] w fun v _ => v = .int .i64 (oprF o) := by
 refine FC.intro (cs := []) Tryz.func110 (by kernel_rfl) fun E R hE hr hR => ?_
 obtain ⟨bm, es, clock, t1, t2, t3, t4, t5, t6⟩ := hT.ex
 have hbl : bm < w.heap.size := by
  rcases Nat.lt_or_ge bm w.heap.size with h | h
  ·exact h
  ·simp [Array.getElem?_eq_none h] at t2
 conv => cbv
 refine st_load hE cMap t1 ?_
 conv => cbv
 obtain ⟨r, hrr⟩ : ∃ r, r = w.heap.size := ⟨_, rfl⟩
 obtain ⟨wi, hwi⟩ : ∃ wi, wi = w.alloc (.mapIter (some bm) clock #[] clock) := ⟨_, rfl⟩
 have hxi : Ext w wi := by rw [hwi]; exact (Ext.refl w).alloc (n1_ _) _
 have hri : wi.heap[r]? = some (.mapIter (some bm) clock #[] clock) := by rw [hwi, hrr]; exact heap_alloc_new _ _
 refine st_run hr (v := .pointer (some ⟨r, 0, none⟩)) (w' := wi) (fun ρ hρ => ?_) ?_
 ·simp only [opnds, b2_, b3_, b1_, and_true] at hρ
  simp [execOp, hρ, hwi, hrr, run_range_map w 262 _ _ bm es clock Tryz.underlying262 t2]
 conv => cbv
 refine loop_rule hr (fun (s : Array Nat) w' => Ext w w' ∧ w'.heap[r]? = some (.mapIter (some bm) clock s clock) ∧ ∀ e ∈ es.toList, s.contains e.born = true → e.val ≠ .int .i64 o) (fun s => [(0, .int .i64 o), (6, .pointer (some ⟨r, 0, none⟩))]) (fun s => (leftOf es s).size) #[]
  (by simp [Fits, lk]) ⟨hxi, hri, by simp⟩ ?_
 rintro I hI seen w' ⟨hx, hit, hall⟩
 have hb' := hx.getMap t2
 conv => cbv
 rcases run_next_at (P := Tryz.prog) w' 75 r bm clock clock seen es clock hit hb' t6 (n1_ _) with ⟨h0, hrun⟩ | ⟨e, he, w1, hw1, hrun⟩
 ·have hrun : ∀ ty, (Instr.next (.pointer (some ⟨r, 0, none⟩)) false ty).run Tryz.prog w' = .ok (.tuple #[.bool false]) w' := fun ty => hrun
  refine st_run hr (v := .tuple #[.bool false]) (w' := w') (fun ρ hρ => ?_) ?_
  ·simp only [opnds, b2_, b3_, b1_, and_true] at hρ
   simp [execOp, hρ, hrun]
  conv => cbv
  rw [hR]; refine ⟨hx, ?_⟩
  have hno : ¬ (5 ≤ o ∧ o ≤ 21) := fun hq => by
   obtain ⟨e, he, h1, h2⟩ := t4 (o + 3) o ((opF_iff _ _).2 ⟨hq.1, hq.2, rfl⟩)
   refine hall e he ?_ h2
   exact all_seen es seen h0 e he
  unfold oprF; rw [if_neg hno]; rfl
 ·obtain ⟨hem, hes⟩ := mem_left he
  obtain ⟨k, z, hk, hz, hf⟩ := t3 e hem
  rw [hk, hz] at hrun
  obtain ⟨w2, hw2⟩ : ∃ w2, w2 = setBlock w1 r (.mapIter (some bm) clock (seen.push e.born) clock) := ⟨_, rfl⟩
  rw [← hw2] at hrun
  have hr1 : w1.heap[r]? = some (.mapIter (some bm) clock seen clock) := by rcases hw1 with rfl | rfl <;> exact hit
  have hset := MapKept.heap_set (o' := .mapIter (some bm) clock (seen.push e.born) clock) hr1
  have hs1 : w2.heap[r]? = some (.mapIter (some bm) clock (seen.push e.born) clock) := by rw [hw2]; exact hset.1
  have hrun : ∀ ty, (Instr.next (.pointer (some ⟨r, 0, none⟩)) false ty).run Tryz.prog w' = .ok (.tuple #[.bool true, .int .i64 k, .int .i64 z]) w2 := fun ty => hrun
  have hx2 : Ext w w2 := by
   refine hx.then ?_
   rcases hw1 with rfl | rfl <;> exact ⟨by rw [hw2]; rfl, by rw [hw2]; rfl, by rw [hw2]; rfl, by rw [hw2]; simp [setBlock], fun i hi => by rw [hw2]; exact hset.2 i (by omega)⟩
  refine st_run hr (v := .tuple #[.bool true, .int .i64 k, .int .i64 z]) (w' := w2) (fun ρ hρ => ?_) ?_
  ·simp only [opnds, b2_, b3_, b1_, and_true] at hρ
   simp [execOp, hρ, hrun]
  have hen := run_entry_at (P := Tryz.prog) w2 r bm clock seen es clock e hs1 (hx2.getMap t2) hem t5
  rw [hk, hz] at hen
  conv => cbv
  refine st_run hr (v := .tuple #[.int .i64 k, .int .i64 z]) (w' := w2) (fun ρ hρ => ?_) ?_
  ·simp only [opnds, b2_, b3_, b1_, and_true] at hρ
   simp [execOp, hρ, hen]
  rw [opF_iff] at hf
  conv => cbv
  refine br (fun g => ?_) (fun g => ?_)
  ·have g : z = o := by simpa [hE.cmp, cmpR] using g
   conv => cbv
   rw [hR]; refine ⟨hx2, ?_⟩
   unfold oprF; rw [if_pos (by omega), hf.2.2, g]; rfl
  ·have g : z ≠ o := by simpa [hE.cmp, cmpR] using g
   conv => cbv
   refine ⟨seen.push e.born, by simp [Fits, lk], hI _ _ ⟨hx2, hs1, fun e' he' hs => ?_⟩, left_shrinks es seen e he⟩
   rw [contains_push] at hs
   rcases Bool.or_eq_true _ _ ▸ hs with hs | hs
   ·exact hall e' he' hs
   ·rw [born_inj t5 he' hem (by simpa using hs), hz]
    intro q; cases q; exact g rfl
end Go.Proofs.YtkedmcebngachaaGreatDoor
