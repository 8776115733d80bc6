import Derived.Test.YtpphichjabjodaaEng
import Derived.Maps.AppendAt
import Derived.Laws.MakeOwn
import Derived.IntWalk
namespace Go.Eng

/-! ### Rows of the type table -/
/-- A slice type t: its element's type, zero value, cells, bytes. -/
structure Slc (P : Program) (t e : TypeId) (z : Value) (k b : Nat) : Prop where
  u : P.underlying t = some (.slice e)
  i : (P.info? e).map (fun i => (i.zero, i.size, i.bytes)) = some (some z, k, b)
theorem Slc.info {P : Program} {t e : TypeId} {z : Value} {k b : Nat} (h : Slc P t e z k b) : ∃ i, P.info? e = some i ∧ i.zero = some z ∧ i.size = k ∧ i.bytes = b := by
  obtain ⟨i, h1, h2⟩ := Option.map_eq_some_iff.1 h.i
  simp only [Prod.mk.injEq] at h2
  exact ⟨i, h1, h2.1, h2.2.1, h2.2.2⟩
/-- A type whose variables take one cell. -/
structure Cel (P : Program) (t : TypeId) : Prop where
  a : ∃ d, P.underlying t = some d ∧ (∀ fs, d ≠ .struct fs) ∧ ∀ n e, d ≠ .array n e

theorem wrap_in {z : Int} (h0 : -9223372036854775808 ≤ z) (h1 : z ≤ 9223372036854775807) : IntKind.i64.wrap z = z := by rw [IntKind.wrap_i64]; omega
theorem inc {P : Program} {E : Sym} (hE : Eng P E) {k : Nat} (h : k < 9223372036854775807) : E.ar .add .i64 (E.nat k) 1 = E.nat (k + 1) := by
  simp only [hE.ar, arR, hE.nat, Int.ofNat_eq_natCast]
  rw [wrap_in (by omega) (by omega)]
  simp

/-! ### Slices that are read -/
/-- The cells from A on hold vs. -/
def Cells (w : World) (A : Option Addr) (vs : List Value) : Prop :=
  vs.length ≤ 9223372036854775807 ∧ (0 < vs.length → ∃ a, A = some a) ∧ ∀ a, A = some a → ∀ j v, vs[j]? = some v → w.cell? (a.add j) = some v
theorem Cells.ext {w w' : World} {A : Option Addr} {vs : List Value} (h : Cells w A vs) (hx : Ext w w') : Cells w' A vs :=
  ⟨h.1, h.2.1, fun a ha j v hv => hx.cell (h.2.2 a ha j v hv)⟩
theorem Cells.same {w w' : World} {A : Option Addr} {vs : List Value} (h : Cells w A vs) (hx : Same w w') : Cells w' A vs := h.ext hx.ext
theorem Cells.at {w : World} {A : Option Addr} {vs : List Value} (h : Cells w A vs) {i : Nat} (hi : i < vs.length) : ∃ a, A = some a ∧ w.cell? (a.add i) = some vs[i] := by
  obtain ⟨a, ha⟩ := h.2.1 (by omega)
  exact ⟨a, ha, h.2.2 a ha i _ (by simp [hi])⟩

section
variable {P : Program} {Pn : List PanicEntry → World → Prop} {n : Nat}
theorem map_of {ao : Array Operand} {ρ : Operand → Value} {l : List Value} (h : ao.toList.map ρ = l) : ao.map ρ = l.toArray := by
  rw [← Array.toArray_toList (xs := ao.map ρ), Array.toList_map, h]
section
variable {E : Sym} {w : World} {K : Value → World → Prop} {d : Option Tmp} {ty : TypeId} {pos : String} {aft : Array Edge} {g : Option (Nat × Bool)}
theorem st_len (hE : Eng P E) {t e : TypeId} {z : Value} {k b : Nat} (ht : Slc P t e z k b) {A : Option Addr} {m c : Nat} {ao : Array Operand}
    (hk : ∀ x : Int, x = m → K (.int .i64 x) w) : E.stop ⟨d, .call ⟨.builtin .len, ao, #[t]⟩, ty, pos, aft, g⟩ [.slice A m c] w K := by
  refine hE.det (v := .int .i64 (m : Int)) (fun w1 hs ρ hρ => ?_) (hk _ rfl)
  have h3 := map_of (ao := ao) hρ
  simp [execOp, resolve, invoke, builtin, h3, Builtin.len_, underlying, ht.u, goInt]
theorem st_slen (hE : Eng P E) {t : TypeId} (ht : P.underlying t = some .string) {s : ByteArray} {ao : Array Operand}
    (hk : ∀ x : Int, x = s.size → K (.int .i64 x) w) : E.stop ⟨d, .call ⟨.builtin .len, ao, #[t]⟩, ty, pos, aft, g⟩ [.string s] w K := by
  refine hE.det (v := .int .i64 (s.size : Int)) (fun w1 hs ρ hρ => ?_) (hk _ rfl)
  have h3 := map_of (ao := ao) hρ
  simp [execOp, resolve, invoke, builtin, h3, Builtin.len_, underlying, ht, goInt]
theorem st_idx (hE : Eng P E) {t e : TypeId} {z : Value} {k b : Nat} (ht : Slc P t e z k b) {a : Addr} {A : Option Addr} {m c : Nat} {ik : IntKind} {i : Int} {x y : Operand}
    (hA : A = some a) (h0 : 0 ≤ i) (h1 : i < m) (hk : ∀ p, p = a.add (i.toNat * k) → K (.pointer (some p)) w) : E.stop ⟨d, .indexAddr t x y, ty, pos, aft, g⟩ [.slice A m c, .int ik i] w K := by
  obtain ⟨i0, hi, _, hs, _⟩ := ht.info
  refine hE.det (v := .pointer (some (a.add (i.toNat * k)))) (fun w1 _ ρ hρ => ?_) (hk _ rfl)
  simp only [opnds, List.map_cons, List.map_nil, List.cons.injEq, and_true] at hρ
  subst hA
  simp [execOp, hρ.1, hρ.2, Instr.indexAt, asIntOf, underlying, ht.u, h0, h1, sizeOf, typeInfo, hi, hs]
theorem st_load (hE : Eng P E) {t : TypeId} (ht : Cel P t) {p : Addr} {v : Value} {x : Operand} (hc : w.cell? p = some v) (hk : K v w) : E.stop ⟨d, .load t x, ty, pos, aft, g⟩ [.pointer (some p)] w K := by
  obtain ⟨d0, hu, h1, h2⟩ := ht.a
  refine hE.det (v := v) (fun w1 hs ρ hρ => ?_) hk
  simp only [opnds, List.map_cons, List.map_nil, List.cons.injEq, and_true] at hρ
  have hc' : w1.cell? p = some v := by rw [hs.cell]; exact hc
  have : (isAgg t).run P w1 = .ok false w1 := by
    simp only [isAgg, underlying, Sem.run_bind, run_program, Result.andThen_ok, hu, Sem.run_pure]
  simp [execOp, hρ, Instr.loadAt, Instr.sureAddr, loadVar, this, hc']
/-- Element i of a slice whose elements take one cell: its address and the load. -/
theorem st_elem (hE : Eng P E) {t e : TypeId} {z : Value} {b : Nat} (ht : Slc P t e z 1 b) {A : Option Addr} {c : Nat} {ik : IntKind} {i : Int} {x y : Operand} {vs : List Value} (h : Cells w A vs) {m : Nat} (hm : m = vs.length)
    (h0 : 0 ≤ i) (h1 : i < m) (hk : ∀ p v, vs[i.toNat]? = some v → w.cell? p = some v → K (.pointer (some p)) w) : E.stop ⟨d, .indexAddr t x y, ty, pos, aft, g⟩ [.slice A m c, .int ik i] w K := by
  have hi : i.toNat < vs.length := by omega
  obtain ⟨a, hA, hc⟩ := h.at hi
  exact st_idx hE ht hA h0 h1 (fun p hp => hk p vs[i.toNat] (List.getElem?_eq_getElem hi) (by subst hp; simpa using hc))
theorem run_equalIn_bool (w : World) {t : TypeId} (ht : P.underlying t = some .bool) (k : Nat) (a b : Bool) : (Op.equalIn (k + 1) t (.bool a) (.bool b)).run P w = .ok (a == b) w := by
  simp [Op.equalIn, run_underlying ht]
theorem run_equal_bool (w : World) {t : TypeId} (ht : P.underlying t = some .bool) (a b : Bool) : (Op.equal t (.bool a) (.bool b)).run P w = .ok (a == b) w := run_equalIn_bool w ht 9999 a b
/-- '==', '!=' of bools. -/
theorem st_bne (hE : Eng P E) {t t' : TypeId} (ht : P.underlying t = some .bool) {a b : Bool} {x y : Operand} (hk : ∀ v : Bool, (v = true ↔ ¬ (a = true ↔ b = true)) → K (.bool v) w) : E.stop ⟨d, .binOp .neq t x y t', ty, pos, aft, g⟩ [.bool a, .bool b] w K := by
  refine hE.det (v := .bool (!(a == b))) (fun w1 _ ρ hρ => ?_) (hk _ (by cases a <;> cases b <;> simp))
  simp only [opnds, List.map_cons, List.map_nil, List.cons.injEq, and_true] at hρ
  have h1 := run_equal_bool (P := P) w1 ht a b
  simp only [execOp, hρ.1, hρ.2, eqGuard, binOp, Sem.run_bind]
  simp [h1]
theorem st_beq (hE : Eng P E) {t t' : TypeId} (ht : P.underlying t = some .bool) {a b : Bool} {x y : Operand} (hk : ∀ v : Bool, (v = true ↔ (a = true ↔ b = true)) → K (.bool v) w) : E.stop ⟨d, .binOp .eql t x y t', ty, pos, aft, g⟩ [.bool a, .bool b] w K := by
  refine hE.det (v := .bool (a == b)) (fun w1 _ ρ hρ => ?_) (hk _ (by cases a <;> cases b <;> simp))
  simp only [opnds, List.map_cons, List.map_nil, List.cons.injEq, and_true] at hρ
  have h1 := run_equal_bool (P := P) w1 ht a b
  simp only [execOp, hρ.1, hρ.2, eqGuard, binOp, Sem.run_bind]
  simp [h1]
/-- A byte of a string. -/
theorem st_byte (hE : Eng P E) {t : TypeId} (ht : P.underlying t = some .string) {s : ByteArray} {ik : IntKind} {i : Int} {x y : Operand}
    (h0 : 0 ≤ i) (h1 : i < s.size) (hk : ∀ c : Int, c = ((s[i.toNat]'(by omega)).toNat : Int) → 0 ≤ c → c ≤ 255 → K (.int .u8 c) w) : E.stop ⟨d, .index t x y, ty, pos, aft, g⟩ [.string s, .int ik i] w K := by
  refine hE.det (v := .int .u8 ((s[i.toNat]'(by omega)).toNat : Int)) (fun w1 _ ρ hρ => ?_) (hk _ rfl (by omega) (by have := UInt8.toNat_lt (s[i.toNat]'(by omega)); omega))
  simp only [opnds, List.map_cons, List.map_nil, List.cons.injEq, and_true] at hρ
  have h2 : s[i.toNat]? = some (s[i.toNat]'(by omega)) := by rw [getElem?_pos]
  simp [execOp, hρ.1, hρ.2, Instr.index, asIntOf, underlying, ht, h0, h2]
end
end
end Go.Eng
