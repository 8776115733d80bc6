/- The laws at which the engine stops: lengths, elements, loads, bytes of a string, and so on. No condition. -/
import Derived.Test.YtmbonalhbibppaaDoorEng
import Derived.Maps.AppendAt
import Derived.Laws.MakeOwn
import Derived.IntWalk
import Derived.Laws.BytesString
namespace Go.Eng

/-! ### Branches -/
theorem br {c : Prop} [Decidable c] {A B : Prop} (ha : c → A) (hb : ¬ c → B) : if c then A else B := by
  by_cases h : c
  · rw [if_pos h]; exact ha h
  · rw [if_neg h]; exact hb h
theorem brn {b : Bool} {A B : Prop} (ha : b = true → B) (hb : ¬ b = true → A) : if (if b = true then false else true) = true then A else B := by
  cases b
  · exact hb (by simp)
  · exact ha rfl

/-! ### Rows of the type table -/
/-- A slice type t: its element's type, zero value, cells, bytes. -/
structure Slc (P : Program) (t e : TypeId) (z : Value) (k b : Nat) : Prop where
  u : P.underlying t = some (.slice e)
  i : (P.info? e).map (fun i => (i.zero, i.size, i.bytes)) = some (some z, k, b)
theorem Slc.info {P : Program} {t e : TypeId} {z : Value} {k b : Nat} (h : Slc P t e z k b) : ∃ i, P.info? e = some i ∧ i.zero = some z ∧ i.size = k ∧ i.bytes = b := by
  obtain ⟨i, h1, h2⟩ := Option.map_eq_some_iff.1 h.i
  simp only [Prod.mk.injEq] at h2
  exact ⟨i, h1, h2.1, h2.2.1, h2.2.2⟩
/-- A type whose variables take one cell. -/
structure Cel (P : Program) (t : TypeId) : Prop where
  a : ∃ d, P.underlying t = some d ∧ (∀ fs, d ≠ .struct fs) ∧ ∀ n e, d ≠ .array n e

theorem wrap_in {z : Int} (h0 : -9223372036854775808 ≤ z) (h1 : z ≤ 9223372036854775807) : IntKind.i64.wrap z = z := by rw [IntKind.wrap_i64]; omega
theorem inc {P : Program} {E : Sym} {bq : Bool} (hE : EngB bq P E) {k : Nat} (h : k < 9223372036854775807) : E.ar .add .i64 (E.nat k) 1 = E.nat (k + 1) := by
  simp only [hE.ar, arR, hE.nat, Int.ofNat_eq_natCast]
  rw [wrap_in (by omega) (by omega)]
  simp

/-! ### Slices that are read -/
/-- The cells from A on hold vs. -/
def Cells (w : World) (A : Option Addr) (vs : List Value) : Prop :=
  (0 < vs.length → ∃ a, A = some a) ∧ ∀ a, A = some a → ∀ j v, vs[j]? = some v → w.cell? (a.add j) = some v
theorem Cells.ext {w w' : World} {A : Option Addr} {vs : List Value} (h : Cells w A vs) (hx : Ext w w') : Cells w' A vs :=
  ⟨h.1, fun a ha j v hv => hx.cell (h.2 a ha j v hv)⟩
theorem Cells.same {w w' : World} {A : Option Addr} {vs : List Value} (h : Cells w A vs) (hx : Same w w') : Cells w' A vs := h.ext hx.ext
theorem Cells.at {w : World} {A : Option Addr} {vs : List Value} (h : Cells w A vs) {i : Nat} (hi : i < vs.length) : ∃ a, A = some a ∧ w.cell? (a.add i) = some vs[i] := by
  obtain ⟨a, ha⟩ := h.1 (by omega)
  exact ⟨a, ha, h.2 a ha i _ (by simp [hi])⟩

section
variable {P : Program} {Pn : List PanicEntry → World → Prop} {n : Nat}
theorem map_of {ao : Array Operand} {ρ : Operand → Value} {l : List Value} (h : ao.toList.map ρ = l) : ao.map ρ = l.toArray := by
  rw [← Array.toArray_toList (xs := ao.map ρ), Array.toList_map, h]
section
variable {E : Sym} {w : World} {K : Value → World → Prop} {d : Option Tmp} {ty : TypeId} {pos : String} {aft : Array Edge} {g : Option (Nat × Bool)}
theorem st_len {bq : Bool} (hE : EngB bq P E) {t e : TypeId} {z : Value} {k b : Nat} (ht : Slc P t e z k b) {A : Option Addr} {m c : Nat} {ao : Array Operand}
    (hk : ∀ x : Int, x = m → K (.int .i64 x) w) : E.stop ⟨d, .call ⟨.builtin .len, ao, #[t]⟩, ty, pos, aft, g⟩ [.slice A m c] w K := by
  refine hE.det (v := .int .i64 (m : Int)) (fun w1 hs ρ hρ => ?_) (hk _ rfl)
  have h3 := map_of (ao := ao) hρ
  simp [execOp, resolve, invoke, builtin, h3, Builtin.len_, underlying, ht.u, goInt]
theorem st_slen {bq : Bool} (hE : EngB bq P E) {t : TypeId} (ht : P.underlying t = some .string) {s : ByteArray} {ao : Array Operand}
    (hk : ∀ x : Int, x = s.size → K (.int .i64 x) w) : E.stop ⟨d, .call ⟨.builtin .len, ao, #[t]⟩, ty, pos, aft, g⟩ [.string s] w K := by
  refine hE.det (v := .int .i64 (s.size : Int)) (fun w1 hs ρ hρ => ?_) (hk _ rfl)
  have h3 := map_of (ao := ao) hρ
  simp [execOp, resolve, invoke, builtin, h3, Builtin.len_, underlying, ht, goInt]
theorem st_idx {bq : Bool} (hE : EngB bq P E) {t e : TypeId} {z : Value} {k b : Nat} (ht : Slc P t e z k b) {a : Addr} {A : Option Addr} {m c : Nat} {ik : IntKind} {i : Int} {x y : Operand}
    (hA : A = some a) (h0 : 0 ≤ i) (h1 : i < m) (hk : ∀ p, p = a.add (i.toNat * k) → K (.pointer (some p)) w) : E.stop ⟨d, .indexAddr t x y, ty, pos, aft, g⟩ [.slice A m c, .int ik i] w K := by
  obtain ⟨i0, hi, _, hs, _⟩ := ht.info
  refine hE.det (v := .pointer (some (a.add (i.toNat * k)))) (fun w1 _ ρ hρ => ?_) (hk _ rfl)
  simp only [opnds, List.map_cons, List.map_nil, List.cons.injEq, and_true] at hρ
  subst hA
  simp [execOp, hρ.1, hρ.2, Instr.indexAt, asIntOf, underlying, ht.u, h0, h1, sizeOf, typeInfo, hi, hs]
theorem st_load {bq : Bool} (hE : EngB bq P E) {t : TypeId} (ht : Cel P t) {p : Addr} {v : Value} {x : Operand} (hc : w.cell? p = some v) (hk : K v w) : E.stop ⟨d, .load t x, ty, pos, aft, g⟩ [.pointer (some p)] w K := by
  obtain ⟨d0, hu, h1, h2⟩ := ht.a
  refine hE.det (v := v) (fun w1 hs ρ hρ => ?_) hk
  simp only [opnds, List.map_cons, List.map_nil, List.cons.injEq, and_true] at hρ
  have hc' : w1.cell? p = some v := hs.cell hc
  have : (isAgg t).run P w1 = .ok false w1 := by
    simp only [isAgg, underlying, Sem.run_bind, run_program, Result.andThen_ok, hu, Sem.run_pure]
  simp [execOp, hρ, Instr.loadAt, Instr.sureAddr, loadVar, this, hc']
/-- Element i of a slice whose elements take one cell: its address and the load. -/
theorem st_elem {bq : Bool} (hE : EngB bq P E) {t e : TypeId} {z : Value} {b : Nat} (ht : Slc P t e z 1 b) {A : Option Addr} {c : Nat} {ik : IntKind} {i : Int} {x y : Operand} {vs : List Value} (h : Cells w A vs) {m : Nat} (hm : m = vs.length)
    (h0 : 0 ≤ i) (h1 : i < m) (hk : ∀ p v, vs[i.toNat]? = some v → w.cell? p = some v → K (.pointer (some p)) w) : E.stop ⟨d, .indexAddr t x y, ty, pos, aft, g⟩ [.slice A m c, .int ik i] w K := by
  have hi : i.toNat < vs.length := by omega
  obtain ⟨a, hA, hc⟩ := h.at hi
  exact st_idx hE ht hA h0 h1 (fun p hp => hk p vs[i.toNat] (List.getElem?_eq_getElem hi) (by subst hp; simpa using hc))
theorem run_equalIn_bool (w : World) {t : TypeId} (ht : P.underlying t = some .bool) (k : Nat) (a b : Bool) : (Op.equalIn (k + 1) t (.bool a) (.bool b)).run P w = .ok (a == b) w := by
  simp [Op.equalIn, run_underlying ht]
theorem run_equal_bool (w : World) {t : TypeId} (ht : P.underlying t = some .bool) (a b : Bool) : (Op.equal t (.bool a) (.bool b)).run P w = .ok (a == b) w := run_equalIn_bool w ht 9999 a b
/-- '==', '!=' of bools. -/
theorem st_bne {bq : Bool} (hE : EngB bq P E) {t t' : TypeId} (ht : P.underlying t = some .bool) {a b : Bool} {x y : Operand} (hk : ∀ v : Bool, (v = true ↔ ¬ (a = true ↔ b = true)) → K (.bool v) w) : E.stop ⟨d, .binOp .neq t x y t', ty, pos, aft, g⟩ [.bool a, .bool b] w K := by
  refine hE.det (v := .bool (!(a == b))) (fun w1 _ ρ hρ => ?_) (hk _ (by cases a <;> cases b <;> simp))
  simp only [opnds, List.map_cons, List.map_nil, List.cons.injEq, and_true] at hρ
  have h1 := run_equal_bool (P := P) w1 ht a b
  simp only [execOp, hρ.1, hρ.2, eqGuard, binOp, Sem.run_bind]
  simp [h1]
theorem st_beq {bq : Bool} (hE : EngB bq P E) {t t' : TypeId} (ht : P.underlying t = some .bool) {a b : Bool} {x y : Operand} (hk : ∀ v : Bool, (v = true ↔ (a = true ↔ b = true)) → K (.bool v) w) : E.stop ⟨d, .binOp .eql t x y t', ty, pos, aft, g⟩ [.bool a, .bool b] w K := by
  refine hE.det (v := .bool (a == b)) (fun w1 _ ρ hρ => ?_) (hk _ (by cases a <;> cases b <;> simp))
  simp only [opnds, List.map_cons, List.map_nil, List.cons.injEq, and_true] at hρ
  have h1 := run_equal_bool (P := P) w1 ht a b
  simp only [execOp, hρ.1, hρ.2, eqGuard, binOp, Sem.run_bind]
  simp [h1]
/-- A byte of a string. -/
theorem st_byte {bq : Bool} (hE : EngB bq P E) {t : TypeId} (ht : P.underlying t = some .string) {s : ByteArray} {ik : IntKind} {i : Int} {x y : Operand}
    (h0 : 0 ≤ i) (h1 : i < s.size) (hk : ∀ c : Int, c = ((s[i.toNat]'(by omega)).toNat : Int) → 0 ≤ c → c ≤ 255 → K (.int .u8 c) w) : E.stop ⟨d, .index t x y, ty, pos, aft, g⟩ [.string s, .int ik i] w K := by
  refine hE.det (v := .int .u8 ((s[i.toNat]'(by omega)).toNat : Int)) (fun w1 _ ρ hρ => ?_) (hk _ rfl (by omega) (by have := UInt8.toNat_lt (s[i.toNat]'(by omega)); omega))
  simp only [opnds, List.map_cons, List.map_nil, List.cons.injEq, and_true] at hρ
  have h2 : s[i.toNat]? = some (s[i.toNat]'(by omega)) := by rw [getElem?_pos]
  simp [execOp, hρ.1, hρ.2, Instr.index, asIntOf, underlying, ht, h0, h2]
end

/-- A slice of strings. -/
structure Strs (w : World) (A : Option Addr) (n c : Nat) (xs : List ByteArray) : Prop where
  len : xs.length = n
  le : n ≤ 9223372036854775807
  cap : n ≤ c
  cells : Cells w A (xs.map .string)
  small : ∀ s ∈ xs, s.size ≤ 9223372036854775807
theorem Strs.ext {w w' : World} {A : Option Addr} {n c : Nat} {xs : List ByteArray} (h : Strs w A n c xs) (hx : Ext w w') : Strs w' A n c xs := ⟨h.1, h.2, h.3, h.4.ext hx, h.5⟩
theorem Strs.same {w w' : World} {A : Option Addr} {n c : Nat} {xs : List ByteArray} (h : Strs w A n c xs) (hx : Same w w') : Strs w' A n c xs := h.ext hx.ext

theorem nk {E : Sym} {bq : Bool} (hE : EngB bq P E) (k : Nat) : E.nat k = (k : Int) := by rw [hE.nat]; rfl
/-- Element k of a slice of strings: its address. -/
theorem st_str {E : Sym} {w : World} {K : Value → World → Prop} {d : Option Tmp} {ty : TypeId} {pos : String} {aft : Array Edge} {g : Option (Nat × Bool)} {bq : Bool} (hE : EngB bq P E) {t e : TypeId} {z : Value} {b : Nat} (ht : Slc P t e z 1 b) {A : Option Addr} {m c k : Nat} {ik : IntKind} {i : Int} {x y : Operand} {xs : List ByteArray} (h : Strs w A m c xs)
    (hi : i = k) (hk : k < m) (hK : ∀ p s, xs[k]? = some s → s.size ≤ 9223372036854775807 → w.cell? p = some (.string s) → K (.pointer (some p)) w) : E.stop ⟨d, .indexAddr t x y, ty, pos, aft, g⟩ [.slice A m c, .int ik i] w K := by
  subst hi
  have hl := h.len
  refine st_elem hE ht h.cells (by simp [hl]) (by omega) (by omega) fun p v hv hp => ?_
  simp only [Int.toNat_natCast, List.getElem?_map, Option.map_eq_some_iff] at hv
  obtain ⟨s, hs, rfl⟩ := hv
  exact hK p s hs (h.small s (List.mem_of_getElem? hs)) hp

/-! ### Rows of the call's own -/
/-- Below block B nothing has turned. -/
abbrev Bel := RowKit.Below
theorem Ext.then {w0 w w' : World} (h : Ext w0 w) (k : Bel w0.heap.size w w') : Ext w0 w' := RowKit.Below.trans h k
theorem Ext.bel {w0 w w' : World} (h : Ext w0 w) (k : Ext w w') : Bel w0.heap.size w w' := RowKit.Below.mono k h.size
/-- The slice (A, n, c) is a row of one's own, of elements of k cells, its block not below B, and reads xs. -/
def Own (B : Nat) (e : TypeId) (k : Nat) (w : World) (A : Option Addr) (m c : Nat) (xs : List Value) : Prop := w.ownsRow B e k (.slice A m c) m xs
theorem Own.nil {B : Nat} {e : TypeId} {k : Nat} {w : World} : Own B e k w none 0 0 [] := World.ownsRow_nil _ _ _ _
theorem Own.len {B e k} {w : World} {A : Option Addr} {m c : Nat} {xs : List Value} (h : Own B e k w A m c xs) : xs.length = m * k := h.1
theorem Own.le {B e k} {w : World} {A : Option Addr} {m c : Nat} {xs : List Value} (h : Own B e k w A m c xs) : m ≤ 9223372036854775807 := by
  rcases h.2 with ⟨_, h1⟩ | ⟨g, cap, cur, _, _, _, h1, h2, _⟩
  · omega
  · unfold maxLen at h2; omega
theorem Own.addr {B e k} {w : World} {A : Option Addr} {m c : Nat} {xs : List Value} (h : Own B e k w A m c xs) (h0 : 0 < m) : ∃ g, A = some ⟨g, 0, none⟩ ∧ B ≤ g ∧ g < w.heap.size := by
  rcases h.2 with ⟨h1, h2⟩ | ⟨g, cap, cur, h1, h2, h3, _⟩
  · omega
  · simp only [Value.slice.injEq] at h1
    exact ⟨g, h1.1, h2, (Array.getElem?_eq_some_iff.1 h3).1⟩
theorem Own.blk {B e k} {w : World} {A : Option Addr} {m c : Nat} {xs : List Value} (h : Own B e k w A m c xs) : A = none ∨ ∃ g, A = some ⟨g, 0, none⟩ ∧ B ≤ g ∧ g < w.heap.size := by
  rcases h.2 with ⟨h1, h2⟩ | ⟨g, cap, cur, h1, h2, h3, _⟩
  · simp only [Value.slice.injEq] at h1; exact .inl h1.1
  · simp only [Value.slice.injEq] at h1
    exact .inr ⟨g, h1.1, h2, (Array.getElem?_eq_some_iff.1 h3).1⟩
theorem Own.cells {B e k} {w : World} {A : Option Addr} {m c : Nat} {xs : List Value} (h : Own B e k w A m c xs) : Cells w A xs := by
  refine ⟨fun h0 => ?_, fun a ha j v hv => ?_⟩
  · have hl := h.len
    have : 0 < m := by
      rcases Nat.eq_zero_or_pos m with e0 | e0
      · subst e0; rw [Nat.zero_mul] at hl; omega
      · exact e0
    obtain ⟨g, hg, _⟩ := h.addr this
    exact ⟨_, hg⟩
  · subst ha
    rcases h.2 with ⟨h1, _⟩ | ⟨g, cap, cur, h1, _⟩
    · simp at h1
    · simp only [Value.slice.injEq, Option.some.injEq] at h1
      obtain ⟨rfl, _, _⟩ := h1
      exact World.ownsRow.cells h (g := g) rfl j v hv
theorem Own.bel {B e k} {w w' : World} {A : Option Addr} {m c : Nat} {xs : List Value} (h : Own B e k w A m c xs) (hx : Ext w w') : Own B e k w' A m c xs :=
  World.ownsRow.kept h (row := none) ⟨hx.os, hx.tape, hx.output, hx.size, fun i hi _ => hx.block i hi⟩ (by cases A <;> simp [Value.ownBlock])
theorem Own.mono {B B' e k} {w : World} {A : Option Addr} {m c : Nat} {xs : List Value} (h : Own B e k w A m c xs) (hB : B' ≤ B) : Own B' e k w A m c xs := by
  refine ⟨h.1, ?_⟩
  rcases h.2 with h1 | ⟨g, cap, cur, h1, h2, h3⟩
  · exact .inl h1
  · exact .inr ⟨g, cap, cur, h1, by omega, h3⟩
section
variable {E : Sym} {w : World} {K : Value → World → Prop} {d : Option Tmp} {ty : TypeId} {pos : String} {aft : Array Edge} {g : Option (Nat × Bool)}
theorem st_run (hE : E = real P Pn n) {o : Oper} {vals : List Value} {v : Value} {w' : World} (h : ∀ ρ : Operand → Value, (opnds o.op).map ρ = vals → (execOp ρ o).run P w = .ok (.value v) w') (hk : K v w') : E.stop o vals w K := by
  subst hE
  intro ρ hρ
  rw [h ρ hρ]
  exact hk
theorem st_runu (hE : E = real P Pn n) {o : Oper} {vals : List Value} {w' : World} (h : ∀ ρ : Operand → Value, (opnds o.op).map ρ = vals → (execOp ρ o).run P w = .ok .skip w') (hk : K undef w') : E.stop o vals w K := by
  subst hE
  intro ρ hρ
  rw [h ρ hρ]
  exact hk
/-- make([]T, m), T of one cell. -/
theorem st_make (hE : E = real P Pn n) {t e : TypeId} {z : Value} {b : Nat} (ht : Slc P t e z 1 b) (hz : z.cells = #[z]) {ik ik' : IntKind} {i : Int} {m : Nat} {x y : Operand} (hi : i = m) (hb : b * m ≤ 140737488355328) (hm : m ≤ 9223372036854775807)
    (hk : ∀ A w', Ext w w' → (∀ B, B ≤ w.heap.size → Own B e 1 w' A m m (List.replicate m z)) → K (.slice A m m) w') : E.stop ⟨d, .makeSlice t x y, ty, pos, aft, g⟩ [.int ik i, .int ik' i] w K := by
  obtain ⟨i0, h1, h2, h3, h4⟩ := ht.info
  subst hi
  have hr := run_make w t e i0 z ht.u h1 h2 ik ik' m m (by omega) (by omega) (by rw [h4]; have : ((b * m : Nat) : Int) ≤ 281474976710656 := by omega
                                                                                 rwa [Int.natCast_mul] at this) (by omega)
  simp only [Int.toNat_natCast, h3, Nat.mul_one, hz] at hr
  refine st_run hE (v := .slice (some ⟨w.heap.size, 0, none⟩) m m) (w' := w.alloc (.cells (madeCells #[z] m) e)) (fun ρ hρ => ?_) (hk _ _ ((Ext.refl w).alloc (Nat.le_refl _) _) fun B hB => ?_)
  · simp only [opnds, List.map_cons, List.map_nil, List.cons.injEq, and_true] at hρ
    simp [execOp, hρ.1, hρ.2, hr]
  · have := World.ownsRow_lit (e := e) (size := 1) w (madeCells #[z] m) m hB (by unfold maxLen; omega) (by rw [size_madeCells, Nat.mul_one])
    rw [toList_madeCells_one] at this
    exact this
/-- The block of a slice's address. -/
def blk (A : Option Addr) : Option Nat := (Value.slice A 0 0).ownBlock
/-- New blocks, and writes to the block of A alone. -/
def Wr (A : Option Addr) (w w' : World) : Prop := w.grownBy w' (blk A)
theorem Wr.refl (A : Option Addr) (w : World) : Wr A w w := ⟨rfl, rfl, rfl, Nat.le_refl _, fun _ _ _ => rfl⟩
theorem Wr.trans {A : Option Addr} {a b c : World} (h : Wr A a b) (k : Wr A b c) : Wr A a c := World.grownBy.trans h k
theorem Ext.wr {w w' : World} (h : Ext w w') (A : Option Addr) : Wr A w w' := ⟨h.os, h.tape, h.output, h.size, fun i hi _ => h.block i hi⟩
/-- The blocks of two rows are two. -/
def Apart (A A' : Option Addr) : Prop := A = none ∨ blk A ≠ blk A'
theorem Own.wr {B e k} {w w' : World} {A A' : Option Addr} {m c : Nat} {xs : List Value} (h : Own B e k w A m c xs) (hw : Wr A' w w') (ha : Apart A A') : Own B e k w' A m c xs := by
  refine World.ownsRow.kept h hw ?_
  rcases ha with rfl | ha
  · exact .inl rfl
  · refine .inr fun e0 => ha ?_
    cases A <;> exact e0
theorem Own.apart {B B' e e' k k'} {w w' : World} {A A' : Option Addr} {m c m' c' : Nat} {xs ys : List Value} (h : Own B e k w A m c xs) (h' : Own B' e' k' w' A' m' c' ys) (hB : w.heap.size ≤ B') : Apart A A' ∧ Apart A' A := by
  obtain rfl | ⟨g, rfl, _, hg⟩ := h.blk
  · obtain rfl | ⟨g', rfl, _, _⟩ := h'.blk
    · exact ⟨.inl rfl, .inl rfl⟩
    · exact ⟨.inl rfl, .inr (by simp [Eng.blk, Value.ownBlock])⟩
  · obtain rfl | ⟨g', rfl, hB', _⟩ := h'.blk
    · exact ⟨.inr (by simp [Eng.blk, Value.ownBlock]), .inl rfl⟩
    · have : g ≠ g' := by omega
      exact ⟨.inr (by simpa [Eng.blk, Value.ownBlock] using this), .inr (by simpa [Eng.blk, Value.ownBlock] using this.symm)⟩
/-- Memory below a row's block is as it was. -/
theorem Wr.bel {B e k} {w w' w0 : World} {A : Option Addr} {m c : Nat} {xs : List Value} (hw : Wr A w w') (h : Own B e k w0 A m c xs) (hB : B ≤ w.heap.size) : Bel B w w' := by
  refine (RowKit.Below.refl B w).grown hw hB fun g hg => ?_
  obtain rfl | ⟨g', rfl, hB', _⟩ := h.blk
  · simp [Eng.blk, Value.ownBlock] at hg
  · simp [Eng.blk, Value.ownBlock] at hg; omega
/-- xs[j] = v, in a row of one's own, of elements of one cell. -/
theorem st_set (hE : E = real P Pn n) {t e : TypeId} {z : Value} {b : Nat} (ht : Slc P t e z 1 b) {B : Nat} {A : Option Addr} {m c j : Nat} {xs : List Value} {a p : Addr} {v : Value} {x y : Operand} (h : Own B e 1 w A m c xs) (hA : A = some a) (hj : j < m) (hp : p = a.add (j * 1)) (hv : v.oneCell' = true)
    (hk : ∀ w', Bel B w w' → Wr A w w' → Own B e 1 w' A m c (xs.set j v) → K undef w') : E.stop ⟨d, .store e x y, ty, pos, aft, g⟩ [.pointer (some p), v] w K := by
  obtain ⟨i0, h1, h2, h3, h4⟩ := ht.info
  obtain ⟨gb, hg, hB, _⟩ := h.addr (by omega)
  rw [hA] at hg
  cases hg
  have hp' : p = ⟨gb, j, none⟩ := by
    rw [hp, Nat.mul_one]; unfold Addr.add; split
    · rename_i e0; subst e0; rfl
    · simp
  have hl := h.len
  subst hA
  have hc0 : w.cell? p = some (xs[j]'(by omega)) := by rw [hp', World.ownsRow.cellAt h j (by omega)]; simp
  have hf : w.frozen? p = false := by rw [hp']; exact World.ownsRow.frozenAt h j
  have hs := World.ownsRow.stored h j v
  rw [← hp'] at hs
  have hvc : v.cells = #[v] := by cases v <;> first | rfl | simp [Value.oneCell'] at hv
  refine st_runu hE (w' := w.setCell p v) (fun ρ hρ => ?_) (hk _ ((RowKit.Below.refl B w).setCell (by rw [hp']; exact hB) v) (by rw [hp'] at hs ⊢; exact hs.2) hs.1)
  simp only [opnds, List.map_cons, List.map_nil, List.cons.injEq, and_true] at hρ
  have hst := run_store P w p v .plain hv
  rw [hc0] at hst
  simp only [hf] at hst
  simp [execOp, hρ.1, hρ.2, Instr.storeAt, Instr.sureAddr, storeVar, sizeOf, typeInfo, h1, h3, hvc, storeCells, Addr.add, hst]
/-- The variadic's box: '[]T{v}', T of one cell. -/
theorem st_one (hE : E = real P Pn n) {t e : TypeId} {z : Value} {b : Nat} (ht : Slc P t e z 1 b) (hz : z.cells = #[z]) {v : Value} {x : Operand} (hv : v.oneCell' = true)
    (hk : ∀ A w', Ext w w' → Cells w' A [v] → K (.slice A 1 1) w') : E.stop ⟨d, .buildSlice t 1 #[(0, x)], ty, pos, aft, g⟩ [v] w K := by
  obtain ⟨i0, h1, h2, h3, h4⟩ := ht.info
  have hvc : v.cells = #[v] := by cases v <;> first | rfl | simp [Value.oneCell'] at hv
  refine st_run hE (v := .slice (some ⟨w.heap.size, 0, none⟩) 1 1) (w' := w.alloc (.cells #[v] e)) (fun ρ hρ => ?_) (hk _ _ ((Ext.refl w).alloc (Nat.le_refl _) _) ?_)
  · simp only [opnds, List.map_cons, List.map_nil, List.cons.injEq, and_true] at hρ
    simp [execOp, hρ, Instr.buildSlice, underlying, ht.u, sizeOf, typeInfo, h1, h3, zeroValue, h2, hz, Instr.fill, hvc, newRow]
    rw [show Array.range 1 = #[0] from rfl]; simp
  · refine ⟨fun _ => ⟨_, rfl⟩, fun a ha j u hu => ?_⟩
    cases ha
    exact cell_one_new w v e j u hu
/-- '[]T{}'. -/
theorem st_none (hE : E = real P Pn n) {t e : TypeId} {z : Value} {k b : Nat} (ht : Slc P t e z k b)
    (hk : ∀ A w', Ext w w' → (∀ B, B ≤ w.heap.size → Own B e k w' A 0 0 []) → K (.slice A 0 0) w') : E.stop ⟨d, .buildSlice t 0 #[], ty, pos, aft, g⟩ [] w K := by
  obtain ⟨i0, h1, h2, h3, h4⟩ := ht.info
  refine st_run hE (v := .slice (some ⟨w.heap.size, 0, none⟩) 0 0) (w' := w.alloc (.cells #[] e)) (fun ρ hρ => ?_) (hk _ _ ((Ext.refl w).alloc (Nat.le_refl _) _) fun B hB => ?_)
  · simp [execOp, Instr.buildSlice, underlying, ht.u, sizeOf, typeInfo, h1, Instr.fill, newRow]
    rw [show Array.range 0 = #[] from rfl]; simp
  · exact World.ownsRow_lit (e := e) (size := k) w #[] 0 hB (by unfold maxLen; omega) (by simp)
/-- append(xs, v), xs a row of one's own, T of one cell. -/
theorem st_app (hE : E = real P Pn n) {t e : TypeId} {z : Value} {b : Nat} (ht : Slc P t e z 1 b) (hz : z.cells = #[z]) {B : Nat} {A A1 : Option Addr} {m c : Nat} {xs : List Value} {v : Value} {ao : Array Operand} (h : Own B e 1 w A m c xs) (hn : Cells w A1 [v]) (hv : v.oneCell' = true)
    (hB : B ≤ w.heap.size) (hb : (m + 1) * b ≤ 140737488355328) (hm : m + 1 ≤ 9223372036854775807)
    (hk : ∀ A' c' m' w', m' = m + 1 → Bel B w w' → Own B e 1 w' A' m' c' (xs ++ [v]) → K (.slice A' m' c') w') : E.stop ⟨d, .call ⟨.builtin .append, ao, #[t, t]⟩, ty, pos, aft, g⟩ [.slice A m c, .slice A1 1 1] w K := by
  obtain ⟨i0, h1, h2, h3, h4⟩ := ht.info
  obtain ⟨a1, ha1, hc1⟩ := hn.at (i := 0) (by simp)
  subst ha1
  obtain ⟨v', w', hr, hown, hg, _, _⟩ := run_append_own_at (P := P) w B t ty e i0 z 1 b ht.u h1 h2 h3 h4 (by rw [hz]; rfl) (by omega) (.slice A m c) m xs h a1 1 1 [v] rfl
    (fun j u hu => hn.2 a1 rfl j u hu) (by simpa using hv) (by unfold maxLen; omega) hb hB
  have hform : ∃ A' c', v' = .slice A' (m + 1) c' := by
    rcases hown.2 with ⟨_, h5⟩ | ⟨g, cap, cur, h5, _⟩
    · omega
    · exact ⟨_, _, h5⟩
  obtain ⟨A', c', rfl⟩ := hform
  refine st_run hE (v := .slice A' (m + 1) c') (w' := w') (fun ρ hρ => ?_) (hk _ _ _ _ rfl ?_ hown)
  · have h3' := map_of (ao := ao) hρ
    simp [execOp, resolve, invoke, builtin, h3', hr]
  · refine (RowKit.Below.refl B w).grown hg hB fun k hk => ?_
    obtain rfl | ⟨gb, rfl, hB', _⟩ := h.blk
    · simp [Value.ownBlock] at hk
    · simp [Value.ownBlock] at hk
      omega
theorem Own.cap {B e k} {w : World} {A : Option Addr} {m c : Nat} {xs : List Value} (h : Own B e k w A m c xs) : m ≤ c := by
  rcases h.2 with ⟨h1, h2⟩ | ⟨g, cap, cur, h1, _, _, h4, _⟩
  · omega
  · simp only [Value.slice.injEq] at h1; omega
theorem Own.strs {B e} {w : World} {A : Option Addr} {m c : Nat} {xs : List ByteArray} (h : Own B e 1 w A m c (xs.map .string)) (hs : ∀ s ∈ xs, s.size ≤ 9223372036854775807) : Strs w A m c xs :=
  ⟨by have := h.len; simpa using this, h.le, h.cap, h.cells, hs⟩
/-- xs[lo:], of a slice that is read. -/
theorem add_add (a : Addr) (x y : Nat) : (a.add x).add y = a.add (x + y) := by
  unfold Addr.add
  by_cases hx : x = 0
  · subst hx; simp
  · by_cases hy : y = 0
    · subst hy; simp [hx]
    · simp [hx, hy, Nat.add_assoc]
theorem run_from {t e : TypeId} {z : Value} {k b : Nat} (ht : Slc P t e z k b) (w : World) {A : Option Addr} {m c lo : Nat} {ik : IntKind} (hlo : lo ≤ m) :
    (Instr.sliceAt t (.slice A m c) (some (.int ik lo)) none none).run P w = .ok (.slice (if c = lo then A else A.map (·.add (lo * k))) (m - lo) (c - lo)) w := by
  obtain ⟨i0, h1, h2, h3, h4⟩ := ht.info
  simp [Instr.sliceAt, Instr.slice, underlying, ht.u, Instr.sliceBounds, Instr.sliceBound, asIntOf, sizeOf, typeInfo, h1, h3, hlo]
theorem Cells.from {w : World} {A : Option Addr} {vs : List Value} (h : Cells w A vs) {c lo k m : Nat} (hl : vs.length = m * k) (hlo : lo ≤ m) (hc : lo < m → c ≠ lo) : Cells w (if c = lo then A else A.map (·.add (lo * k))) (vs.drop (lo * k)) := by
  refine ⟨fun h0 => ?_, fun a ha j v hv => ?_⟩
  · obtain ⟨a, ha⟩ := h.1 (by rw [List.length_drop] at h0; omega)
    subst ha
    split
    · exact ⟨_, rfl⟩
    · exact ⟨_, rfl⟩
  · have hj : j < vs.length - lo * k := by
      have := (List.getElem?_eq_some_iff.1 hv).1
      rwa [List.length_drop] at this
    have hlm : lo < m := by
      rcases Nat.lt_or_ge lo m with h1 | h1
      · exact h1
      · have : lo = m := by omega
        subst this; omega
    rw [if_neg (hc hlm)] at ha
    cases A with
    | none => cases ha
    | some a0 =>
      simp only [Option.map_some, Option.some.injEq] at ha
      subst ha
      rw [add_add]
      rw [List.getElem?_drop] at hv
      exact h.2 a0 rfl _ v hv
/-- xs[lo:] of a slice of strings. -/
theorem st_strsFrom {bq : Bool} (hE : EngB bq P E) {t e : TypeId} {z : Value} {b : Nat} (ht : Slc P t e z 1 b) {A : Option Addr} {m c lo : Nat} {ik : IntKind} {i : Int} {xs : List ByteArray} {x y : Operand} {w0 : World} (h : Strs w0 A m c xs) (hi : i = lo) (hlo : lo ≤ m)
    (hk : ∀ A' m' c', m' = m - lo → Strs w0 A' m' c' (xs.drop lo) → K (.slice A' m' c') w) : E.stop ⟨d, .slice t x (some y) none none, ty, pos, aft, g⟩ [.slice A m c, .int ik i] w K := by
  subst hi
  refine hE.det (v := .slice (if c = lo then A else A.map (·.add (lo * 1))) (m - lo) (c - lo)) (fun w1 _ ρ hρ => ?_) (hk _ _ _ rfl ?_)
  · simp only [opnds, Option.toList, List.map_cons, List.map_nil, List.append_nil, List.cons.injEq, and_true] at hρ
    simp only [execOp, hρ.1, hρ.2, Option.map_some, Option.map_none, Sem.run_bind, run_from ht w1 hlo]
    rfl
  · have hcap := h.cap
    refine ⟨by simp [h.len], by have := h.le; omega, by omega, ?_, fun s hs => h.small s (List.mem_of_mem_drop hs)⟩
    have := h.cells.from (c := c) (lo := lo) (k := 1) (m := m) (by simp [h.len]) hlo (fun h1 h2 => by omega)
    rw [Nat.mul_one, ← List.map_drop] at this
    rw [Nat.mul_one]; exact this
/-! ### Numbers, bytes, texts -/
theorem st_rem {bq : Bool} (hE : EngB bq P E) {t t' : TypeId} {ik : IntKind} {a b : Int} {x y : Operand} (hb : b ≠ 0) (hk : ∀ r : Int, r = a.tmod b → K (.int ik r) w) : E.stop ⟨d, .binOp .rem t x y t', ty, pos, aft, g⟩ [.int ik a, .int ik b] w K := by
  refine hE.det (v := .int ik (a.tmod b)) (fun w1 _ ρ hρ => ?_) (hk _ rfl)
  simp only [opnds, List.map_cons, List.map_nil, List.cons.injEq, and_true] at hρ
  simp [execOp, hρ.1, hρ.2, eqGuard, binOp, Op.intDiv, hb]
theorem st_quo {bq : Bool} (hE : EngB bq P E) {t t' : TypeId} {ik : IntKind} {a b : Int} {x y : Operand} (hb : b ≠ 0) (hk : ∀ r : Int, r = ik.wrap (a.tdiv b) → K (.int ik r) w) : E.stop ⟨d, .binOp .quo t x y t', ty, pos, aft, g⟩ [.int ik a, .int ik b] w K := by
  refine hE.det (v := .int ik (ik.wrap (a.tdiv b))) (fun w1 _ ρ hρ => ?_) (hk _ rfl)
  simp only [opnds, List.map_cons, List.map_nil, List.cons.injEq, and_true] at hρ
  simp [execOp, hρ.1, hρ.2, eqGuard, binOp, Op.intDiv, hb]
/-- A whole number turned into another kind. -/
theorem st_conv {bq : Bool} (hE : EngB bq P E) {s t : TypeId} {k' : IntKind} (hs : ∃ d, P.underlying s = some d) (ht : P.underlying t = some (.int k')) {ik : IntKind} {a : Int} {x : Operand} (hk : ∀ r : Int, r = k'.wrap a → K (.int k' r) w) : E.stop ⟨d, .convert s t x, ty, pos, aft, g⟩ [.int ik a] w K := by
  obtain ⟨d0, hs⟩ := hs
  refine hE.det (v := .int k' (k'.wrap a)) (fun w1 _ ρ hρ => ?_) (hk _ rfl)
  simp only [opnds, List.map_cons, List.map_nil, List.cons.injEq, and_true] at hρ
  simp [execOp, hρ, convert, run_underlying hs, run_underlying ht, Conv.intToInt]
theorem push_bytes' : ∀ (bs : List UInt8) (r : ByteArray), (bs.map fun b => (b.toNat : Int)).foldl (fun r n => r.push (UInt8.ofNat n.toNat)) r = ⟨r.data ++ bs.toArray⟩
  | [], r => by simp
  | b :: bs, r => by
    rw [List.map_cons, List.foldl_cons, push_bytes' bs]
    simp [ByteArray.push]
theorem push_bytes (bs : List UInt8) : (bs.map fun b => (b.toNat : Int)).foldl (fun r n => r.push (UInt8.ofNat n.toNat)) ByteArray.empty = ⟨bs.toArray⟩ := by
  rw [push_bytes' bs]; show (⟨#[] ++ bs.toArray⟩ : ByteArray) = _; simp
/-- string(bs). -/
theorem st_b2s {bq : Bool} (hE : EngB bq P E) {s t e : TypeId} (hs : P.underlying s = some (.slice e)) (he : P.underlying e = some (.int .u8)) (ht : P.underlying t = some .string) {A : Option Addr} {m c : Nat} {bs : List UInt8} {x : Operand} (hm : m = bs.length) (h : Cells w A (bs.map fun b => .int .u8 b.toNat))
    (hk : K (.string ⟨bs.toArray⟩) w) : E.stop ⟨d, .convert s t x, ty, pos, aft, g⟩ [.slice A m c] w K := by
  refine hE.det (v := .string ⟨bs.toArray⟩) (fun w1 hx ρ hρ => ?_) hk
  have h := h.ext hx
  simp only [opnds, List.map_cons, List.map_nil, List.cons.injEq, and_true] at hρ
  have hr : (Conv.bytesToString (.slice A m c)).run P w1 = .ok (.string ⟨bs.toArray⟩) w1 := by
    cases A with
    | none =>
      have : bs = [] := by
        cases bs with
        | nil => rfl
        | cons b l => obtain ⟨a, ha⟩ := h.1 (by simp); cases ha
      subst this
      simp [Conv.bytesToString]
      rfl
    | some a =>
      have hl := run_loadCells_list (P := P) w1 a (bs.map fun b => .int .u8 b.toNat) (h.2 a rfl)
      have := run_bytesToString (P := P) w1 a m c (bs.map fun b => (b.toNat : Int)) (by rw [hm]; simpa [Function.comp_def] using hl)
      rw [this, push_bytes]
  simp [execOp, hρ, convert, run_underlying hs, run_underlying ht, run_underlying he, hr]
theorem st_cat {bq : Bool} (hE : EngB bq P E) {t t' : TypeId} {a b : ByteArray} {x y : Operand} (hb : a.size + b.size ≤ 9223372036854775807) (hk : ∀ s : ByteArray, s = a ++ b → K (.string s) w) : E.stop ⟨d, .binOp .add t x y t', ty, pos, aft, g⟩ [.string a, .string b] w K := by
  refine hE.det (v := .string (a ++ b)) (fun w1 _ ρ hρ => ?_) (hk _ rfl)
  simp only [opnds, List.map_cons, List.map_nil, List.cons.injEq, and_true] at hρ
  have h1 : ¬ (((a.size + b.size : Nat) : Int) > IntKind.i64.max) := by
    have : IntKind.i64.max = 9223372036854775807 := by decide
    omega
  have h2 : (Op.stringOp .add a b).run P w1 = .ok (.string (a ++ b)) w1 := by
    simp only [Op.stringOp]; rw [if_neg h1]; rfl
  simp only [execOp, hρ.1, hρ.2, eqGuard, binOp, Sem.run_bind]
  simp [h2]
end
end
end Go.Eng
