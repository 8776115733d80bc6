/- Compiled policies as they lie in memory. -/
import Derived.Test.YtmbonalhbibppaaDoorEng11
import Derived.Test.YtmbonalhbibppaaDoorL6
namespace Go.Proofs.YtmbonalhbibppaaDoor
open Go.Eng
set_option linter.unusedVariables false
theorem uI64 : Tryd.prog.underlying 2 = some (.int .i64) := Tryd.underlying2
theorem cI64 : Cel Tryd.prog 2 := ⟨_, uI64, by simp, by simp⟩
theorem cInt : Cel Tryd.prog 3 := ⟨_, uInt, by simp, by simp⟩
theorem cStrs : Cel Tryd.prog 120 := ⟨_, Tryd.underlying120, by simp, by simp⟩
theorem cInts : Cel Tryd.prog 49 := ⟨_, Tryd.underlying49, by simp, by simp⟩
theorem tInts : Slc Tryd.prog 49 3 (.int .i64 0) 1 8 := ⟨Tryd.underlying49, by kernel_rfl⟩
theorem zStr : (Tryd.prog.info? 9).map (·.size) = some 1 := by kernel_rfl
theorem zI64 : (Tryd.prog.info? 2).map (·.size) = some 1 := by kernel_rfl
theorem zInt : (Tryd.prog.info? 3).map (·.size) = some 1 := by kernel_rfl
theorem zStrs : (Tryd.prog.info? 120).map (·.size) = some 1 := by kernel_rfl
theorem zInts : (Tryd.prog.info? 49).map (·.size) = some 1 := by kernel_rfl
theorem cLVs : Cel Tryd.prog 35 := ⟨_, Tryd.underlying35, by simp, by simp⟩
theorem cIVs : Cel Tryd.prog 42 := ⟨_, Tryd.underlying42, by simp, by simp⟩
theorem cLIs : Cel Tryd.prog 36 := ⟨_, Tryd.underlying36, by simp, by simp⟩
theorem cIIs : Cel Tryd.prog 43 := ⟨_, Tryd.underlying43, by simp, by simp⟩
theorem zIVs : (Tryd.prog.info? 42).map (·.size) = some 1 := by kernel_rfl
theorem zIIs : (Tryd.prog.info? 43).map (·.size) = some 1 := by kernel_rfl
abbrev zV : List Value := [.int .i64 0, .int .i64 0, .string ⟨#[]⟩, .slice none 0 0]
abbrev zI : List Value := [.int .i64 0, .int .i64 0]
abbrev zC : List Value := [.slice none 0 0, .int .i64 0, .slice none 0 0]
theorem tLV : Stc Tryd.prog 152 4 zV := ⟨by kernel_rfl, by kernel_rfl⟩
theorem tIV : Stc Tryd.prog 153 4 zV := ⟨by kernel_rfl, by kernel_rfl⟩
theorem tLI : Stc Tryd.prog 164 2 zI := ⟨by kernel_rfl, by kernel_rfl⟩
theorem tII : Stc Tryd.prog 156 2 zI := ⟨by kernel_rfl, by kernel_rfl⟩
theorem tLC : Stc Tryd.prog 38 3 zC := ⟨by kernel_rfl, by kernel_rfl⟩
theorem tIC : Stc Tryd.prog 45 3 zC := ⟨by kernel_rfl, by kernel_rfl⟩
theorem sLV : Slc Tryd.prog 35 152 (.agg ⟨zV⟩) 4 56 := ⟨Tryd.underlying35, by kernel_rfl⟩
theorem sIV : Slc Tryd.prog 42 153 (.agg ⟨zV⟩) 4 56 := ⟨Tryd.underlying42, by kernel_rfl⟩
theorem sLI : Slc Tryd.prog 36 164 (.agg ⟨zI⟩) 2 16 := ⟨Tryd.underlying36, by kernel_rfl⟩
theorem sII : Slc Tryd.prog 43 156 (.agg ⟨zI⟩) 2 16 := ⟨Tryd.underlying43, by kernel_rfl⟩
theorem fLV0 : Fld Tryd.prog 152 0 0 := ⟨by kernel_rfl⟩
theorem fLV1 : Fld Tryd.prog 152 1 1 := ⟨by kernel_rfl⟩
theorem fLV2 : Fld Tryd.prog 152 2 2 := ⟨by kernel_rfl⟩
theorem fLV3 : Fld Tryd.prog 152 3 3 := ⟨by kernel_rfl⟩
theorem fIV0 : Fld Tryd.prog 153 0 0 := ⟨by kernel_rfl⟩
theorem fIV1 : Fld Tryd.prog 153 1 1 := ⟨by kernel_rfl⟩
theorem fIV2 : Fld Tryd.prog 153 2 2 := ⟨by kernel_rfl⟩
theorem fIV3 : Fld Tryd.prog 153 3 3 := ⟨by kernel_rfl⟩
theorem fLI0 : Fld Tryd.prog 164 0 0 := ⟨by kernel_rfl⟩
theorem fLI1 : Fld Tryd.prog 164 1 1 := ⟨by kernel_rfl⟩
theorem fII0 : Fld Tryd.prog 156 0 0 := ⟨by kernel_rfl⟩
theorem fII1 : Fld Tryd.prog 156 1 1 := ⟨by kernel_rfl⟩
theorem fLC0 : Fld Tryd.prog 38 0 0 := ⟨by kernel_rfl⟩
theorem fLC1 : Fld Tryd.prog 38 1 1 := ⟨by kernel_rfl⟩
theorem fLC2 : Fld Tryd.prog 38 2 2 := ⟨by kernel_rfl⟩
theorem fIC0 : Fld Tryd.prog 45 0 0 := ⟨by kernel_rfl⟩
theorem fIC1 : Fld Tryd.prog 45 1 1 := ⟨by kernel_rfl⟩
theorem fIC2 : Fld Tryd.prog 45 2 2 := ⟨by kernel_rfl⟩
/-! ### Rows of structs -/
theorem fl_len {α : Type} {f : α → List Value} {k : Nat} (hf : ∀ x, (f x).length = k) : ∀ xs : List α, (xs.flatMap f).length = xs.length * k
  | [] => by simp
  | x :: xs => by rw [List.flatMap_cons, List.length_append, fl_len hf xs, hf, List.length_cons, Nat.succ_mul, Nat.add_comm]
theorem fl_get {α : Type} {f : α → List Value} {k : Nat} (hf : ∀ x, (f x).length = k) : ∀ (xs : List α) (i : Nat) (x : α) (j : Nat), xs[i]? = some x → j < k → (xs.flatMap f)[i * k + j]? = (f x)[j]?
  | [], i, x, j, h, _ => by simp at h
  | y :: ys, 0, x, j, h, hj => by
    simp at h; subst h
    rw [List.flatMap_cons, List.getElem?_append_left (by rw [hf]; omega)]; simp
  | y :: ys, i + 1, x, j, h, hj => by
    simp only [List.getElem?_cons_succ] at h
    rw [List.flatMap_cons, List.getElem?_append_right (by rw [hf, Nat.succ_mul]; omega), ← fl_get hf ys i x j h hj]
    congr 1; rw [hf, Nat.succ_mul]; omega
theorem fl_take {α : Type} {f : α → List Value} {k : Nat} (hf : ∀ x, (f x).length = k) : ∀ (xs : List α) (i : Nat), (xs.flatMap f).take (i * k) = (xs.take i).flatMap f
  | [], i => by simp
  | x :: xs, 0 => by simp
  | x :: xs, i + 1 => by
    rw [List.flatMap_cons, List.take_succ_cons, List.flatMap_cons, Nat.succ_mul, Nat.add_comm, ← hf x, List.take_length_add_append, hf x, fl_take hf xs i]
theorem fl_drop {α : Type} {f : α → List Value} {k : Nat} (hf : ∀ x, (f x).length = k) : ∀ (xs : List α) (i : Nat), (xs.flatMap f).drop (i * k) = (xs.drop i).flatMap f
  | [], i => by simp
  | x :: xs, 0 => by simp
  | x :: xs, i + 1 => by
    rw [List.flatMap_cons, List.drop_succ_cons, Nat.succ_mul, Nat.add_comm, ← hf x, List.drop_length_add_append, hf x, fl_drop hf xs i]
/-- One struct of a row laid anew. -/
theorem fl_put {α : Type} {f : α → List Value} {k : Nat} (hf : ∀ x, (f x).length = k) (xs : List α) (i : Nat) (y : α) (hi : i < xs.length) :
    (xs.flatMap f).take (i * k) ++ f y ++ (xs.flatMap f).drop (i * k + (f y).length) = (xs.set i y).flatMap f := by
  have h1 : i * k + (f y).length = (i + 1) * k := by rw [hf, Nat.succ_mul]
  rw [h1, fl_take hf, fl_drop hf, List.set_eq_take_append_cons_drop, if_pos hi, List.flatMap_append, List.flatMap_cons, List.append_assoc]
/-- A struct of a row that is read. -/
theorem fl_at {α : Type} {f : α → List Value} {k : Nat} (hf : ∀ x, (f x).length = k) {w : World} {A : Option Addr} {xs : List α} (h : Cells w A (xs.flatMap f)) {i : Nat} {x : α} (hk : 0 < k) (hx : xs[i]? = some x) :
    ∃ a, A = some a ∧ ∀ j v, (f x)[j]? = some v → w.cell? ((a.add (i * k)).add j) = some v := by
  have hi := (List.getElem?_eq_some_iff.1 hx).1
  obtain ⟨a, ha⟩ := h.1 (by rw [fl_len hf]; exact Nat.mul_pos (by omega) hk)
  refine ⟨a, ha, fun j v hv => ?_⟩
  have hj : j < k := by
    rcases Nat.lt_or_ge j k with h | h
    · exact h
    · rw [List.getElem?_eq_none (by rw [hf]; exact h)] at hv; cases hv
  rw [add_add]
  exact h.2 a ha _ _ (by rw [fl_get hf _ _ _ _ hx hj]; exact hv)
/-- The zero row of structs. -/
theorem made_fl {α : Type} {f : α → List Value} (x : α) (m k : Nat) (hk : (f x).length = k) (hk0 : 0 < k) : (madeCells ⟨f x⟩ (m * k)).toList = (List.replicate m x).flatMap f := by
  have h0 : ∀ m, (List.replicate m x).flatMap f = (List.replicate m (f x)).flatten := fun m => by rw [← List.map_replicate]; simp [List.flatMap]
  apply List.ext_getElem?
  intro i
  have hlen : ((List.replicate m x).flatMap f).length = m * k := by rw [h0]; simp [hk]
  by_cases hi : i < m * k
  · have e1 : (madeCells ⟨f x⟩ (m * k)).toList[i]? = (f x)[i % k]? := by
      simp only [madeCells, Array.toList_map, Array.toList_range, List.getElem?_map, List.getElem?_range hi, Option.map_some]
      have : i % k < (f x).length := by rw [hk]; exact Nat.mod_lt _ hk0
      rw [List.getElem?_eq_getElem this]
      simp only [List.size_toArray, hk, List.getElem!_toArray, List.getElem!_eq_getElem?_getD, List.getElem?_eq_getElem this, Option.getD_some]
    rw [e1]
    have h2 : i = (i / k) * k + i % k := by rw [Nat.mul_comm]; exact (Nat.div_add_mod i k).symm
    have h3 : i / k < m := Nat.div_lt_of_lt_mul (by rw [Nat.mul_comm]; exact hi)
    conv => rhs; rw [h2]
    have : ∀ (m q r : Nat), q < m → r < k → ((List.replicate m x).flatMap f)[q * k + r]? = (f x)[r]? := by
      intro m
      induction m with
      | zero => intro q r h; omega
      | succ m ih =>
        intro q r hq hr
        rw [List.replicate_succ, List.flatMap_cons]
        cases q with
        | zero => rw [List.getElem?_append_left (by rw [hk]; omega)]; simp
        | succ q =>
          rw [List.getElem?_append_right (by rw [hk, Nat.succ_mul]; omega), ← ih q r (by omega) hr]
          congr 1; rw [hk, Nat.succ_mul]; omega
    rw [this m _ _ h3 (Nat.mod_lt _ hk0)]
  · have h1 := size_madeCells ⟨f x⟩ (m * k)
    rw [← Array.length_toList] at h1
    have h2 : (madeCells ⟨f x⟩ (m * k)).toList[i]? = none := List.getElem?_eq_none (by omega)
    have h3 : ((List.replicate m x).flatMap f)[i]? = none := List.getElem?_eq_none (by omega)
    rw [h2, h3]
/-! ### Values, instructions, codes -/
/-- A constant. -/
structure PV where
  k : Int
  n : Int
  tx : ByteArray
  xs : List ByteArray
/-- The same, with the place of its names. -/
structure VV where
  p : PV
  A : Option Addr
  m : Nat
  c : Nat
def vC (v : VV) : List Value := [.int .i64 v.p.k, .int .i64 v.p.n, .string v.p.tx, .slice v.A v.m v.c]
theorem vC_len (v : VV) : (vC v).length = 4 := rfl
/-- A slice of constants that is read. -/
def Pool (w : World) (A : Option Addr) (n : Nat) (pv : List PV) : Prop :=
  ∃ vs : List VV, vs.map (·.p) = pv ∧ vs.length = n ∧ Cells w A (vs.flatMap vC) ∧ ∀ v ∈ vs, Strs w v.A v.m v.c v.p.xs ∧ v.p.tx.size ≤ 9223372036854775807
theorem Pool.ext {w w' : World} {A : Option Addr} {n : Nat} {pv : List PV} (h : Pool w A n pv) (hx : Ext w w') : Pool w' A n pv := by
  obtain ⟨vs, h1, h2, h3, h4⟩ := h
  exact ⟨vs, h1, h2, h3.ext hx, fun v hv => ⟨(h4 v hv).1.ext hx, (h4 v hv).2⟩⟩
theorem Pool.len {w : World} {A : Option Addr} {n : Nat} {pv : List PV} (h : Pool w A n pv) : pv.length = n := by
  obtain ⟨vs, h1, h2, _⟩ := h
  rw [← h1, List.length_map, h2]
theorem Pool.get {w : World} {A : Option Addr} {n : Nat} {pv : List PV} (h : Pool w A n pv) {i : Nat} (hi : i < n) : ∃ a k z tx xs A1 m c, A = some a ∧ pv[i]? = some ⟨k, z, tx, xs⟩ ∧
    (∀ j v, [Value.int .i64 k, .int .i64 z, .string tx, .slice A1 m c][j]? = some v → w.cell? ((a.add (i * 4)).add j) = some v) ∧ Strs w A1 m c xs ∧ tx.size ≤ 9223372036854775807 := by
  obtain ⟨vs, h1, h2, h3, h4⟩ := h
  have hv : ∃ v, vs[i]? = some v := ⟨_, List.getElem?_eq_getElem (by omega)⟩
  obtain ⟨⟨⟨k, z, tx, xs⟩, A1, m, c⟩, hv⟩ := hv
  obtain ⟨a, ha, hc⟩ := fl_at vC_len h3 (by omega) hv
  exact ⟨a, k, z, tx, xs, A1, m, c, ha, by rw [← h1, List.getElem?_map, hv]; rfl, hc, h4 _ (List.mem_of_getElem? hv)⟩
def iC (i : Int × Int) : List Value := [.int .i64 i.1, .int .i64 i.2]
theorem iC_len (i : Int × Int) : (iC i).length = 2 := rfl
/-- A slice of instructions that is read. -/
structure InsR (w : World) (A : Option Addr) (n : Nat) (is : List (Int × Int)) : Prop where
  len : is.length = n
  cells : Cells w A (is.flatMap iC)
theorem InsR.ext {w w' : World} {A : Option Addr} {n : Nat} {is : List (Int × Int)} (h : InsR w A n is) (hx : Ext w w') : InsR w' A n is := ⟨h.1, h.2.ext hx⟩
theorem InsR.get {w : World} {A : Option Addr} {n : Nat} {is : List (Int × Int)} (h : InsR w A n is) {i : Nat} (hi : i < n) : ∃ a o g, A = some a ∧ is[i]? = some (o, g) ∧
    ∀ j v, [Value.int .i64 o, .int .i64 g][j]? = some v → w.cell? ((a.add (i * 2)).add j) = some v := by
  have hl := h.len
  have hv : ∃ v, is[i]? = some v := ⟨_, List.getElem?_eq_getElem (by omega)⟩
  obtain ⟨⟨o, g⟩, hv⟩ := hv
  obtain ⟨a, ha, hc⟩ := fl_at iC_len h.cells (by omega) hv
  exact ⟨a, o, g, ha, hv, hc⟩
/-- A code that is read. -/
structure CodeR (w : World) (A : Option Addr) (n : Nat) (A2 : Option Addr) (n2 : Nat) (pv : List PV) (is : List (Int × Int)) : Prop where
  pool : Pool w A n pv
  ins : InsR w A2 n2 is
theorem CodeR.ext {w w' : World} {A A2 : Option Addr} {n n2 : Nat} {pv : List PV} {is : List (Int × Int)} (h : CodeR w A n A2 n2 pv is) (hx : Ext w w') : CodeR w' A n A2 n2 pv is := ⟨h.1.ext hx, h.2.ext hx⟩
abbrev codeV (A : Option Addr) (n c : Nat) (sl : Int) (A2 : Option Addr) (n2 c2 : Nat) : Value := .agg ⟨[.slice A n c, .int .i64 sl, .slice A2 n2 c2]⟩
end Go.Proofs.YtmbonalhbibppaaDoor
