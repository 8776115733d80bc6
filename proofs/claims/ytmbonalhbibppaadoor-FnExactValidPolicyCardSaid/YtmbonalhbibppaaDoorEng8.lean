/- More for the engine: parts of strings, one-cell variables, nil interfaces. No condition. -/
import Derived.Test.YtmbonalhbibppaaDoorEng7
namespace Go.Eng
set_option linter.unusedVariables false
set_option linter.unusedSimpArgs false
section
variable {P : Program} {Pn : List PanicEntry → World → Prop} {n : Nat} {E : Sym} {w : World} {K : Value → World → Prop} {d : Option Tmp} {ty : TypeId} {pos : String} {aft : Array Edge} {g : Option (Nat × Bool)}
theorem st_sub {bq : Bool} (hE : EngB bq P E) {t : TypeId} (ht : P.underlying t = some .string) {s : ByteArray} {k k' : IntKind} {i j : Int} {x y z : Operand} (h0 : 0 ≤ i) (h1 : i ≤ j) (h2 : j ≤ s.size)
    (hk : ∀ u : ByteArray, u = s.extract i.toNat j.toNat → K (.string u) w) : E.stop ⟨d, .slice t x (some y) (some z) none, ty, pos, aft, g⟩ [.string s, .int k i, .int k' j] w K := by
  obtain ⟨i, rfl⟩ := Int.eq_ofNat_of_zero_le h0
  obtain ⟨j, rfl⟩ := Int.eq_ofNat_of_zero_le (show 0 ≤ j by omega)
  have a1 : i ≤ j := by omega
  have a2 : j ≤ s.size := by omega
  refine hE.det (v := .string (s.extract i j)) (fun w1 _ ρ hρ => ?_) (hk _ rfl)
  simp only [opnds, Option.toList, List.map_cons, List.map_nil, List.append_nil, List.cons_append, List.nil_append, List.cons.injEq, and_true] at hρ
  have : (Instr.sliceAt t (.string s) (some (.int k i)) (some (.int k' j)) none).run P w1 = .ok (.string (s.extract i j)) w1 := by
    simp [Instr.sliceAt, Instr.slice, underlying, ht, Instr.sliceBounds, Instr.sliceBound, asIntOf, a1, a2]
  simp only [execOp, hρ.1, hρ.2.1, hρ.2.2, Option.map_some, Option.map_none, Sem.run_bind, this]
  rfl
theorem st_upTo {bq : Bool} (hE : EngB bq P E) {t : TypeId} (ht : P.underlying t = some .string) {s : ByteArray} {k' : IntKind} {j : Int} {x z : Operand} (h1 : 0 ≤ j) (h2 : j ≤ s.size)
    (hk : ∀ u : ByteArray, u = s.extract 0 j.toNat → K (.string u) w) : E.stop ⟨d, .slice t x none (some z) none, ty, pos, aft, g⟩ [.string s, .int k' j] w K := by
  obtain ⟨j, rfl⟩ := Int.eq_ofNat_of_zero_le h1
  have a2 : j ≤ s.size := by omega
  refine hE.det (v := .string (s.extract 0 j)) (fun w1 _ ρ hρ => ?_) (hk _ rfl)
  simp only [opnds, Option.toList, List.map_cons, List.map_nil, List.append_nil, List.cons_append, List.nil_append, List.cons.injEq, and_true] at hρ
  have : (Instr.sliceAt t (.string s) none (some (.int k' j)) none).run P w1 = .ok (.string (s.extract 0 j)) w1 := by
    simp [Instr.sliceAt, Instr.slice, underlying, ht, Instr.sliceBounds, Instr.sliceBound, asIntOf, a2]
  simp only [execOp, hρ.1, hρ.2, Option.map_some, Option.map_none, Sem.run_bind, this]
  rfl
theorem st_onFrom {bq : Bool} (hE : EngB bq P E) {t : TypeId} (ht : P.underlying t = some .string) {s : ByteArray} {k : IntKind} {i : Int} {x y : Operand} (h0 : 0 ≤ i) (h1 : i ≤ s.size)
    (hk : ∀ u : ByteArray, u = s.extract i.toNat s.size → K (.string u) w) : E.stop ⟨d, .slice t x (some y) none none, ty, pos, aft, g⟩ [.string s, .int k i] w K := by
  obtain ⟨i, rfl⟩ := Int.eq_ofNat_of_zero_le h0
  have a1 : i ≤ s.size := by omega
  refine hE.det (v := .string (s.extract i s.size)) (fun w1 _ ρ hρ => ?_) (hk _ rfl)
  simp only [opnds, Option.toList, List.map_cons, List.map_nil, List.append_nil, List.cons_append, List.nil_append, List.cons.injEq, and_true] at hρ
  have : (Instr.sliceAt t (.string s) (some (.int k i)) none none).run P w1 = .ok (.string (s.extract i s.size)) w1 := by
    simp [Instr.sliceAt, Instr.slice, underlying, ht, Instr.sliceBounds, Instr.sliceBound, asIntOf, a1]
  simp only [execOp, hρ.1, hρ.2, Option.map_some, Option.map_none, Sem.run_bind, this]
  rfl
/-- A new variable of one cell. -/
theorem st_new (hE : E = real P Pn n) {t : TypeId} {z : Value} (ht : (P.info? t).map (·.zero) = some (some z)) (hz : z.cells = #[z]) (hk : ∀ a w', Ext w w' → (∀ B, B ≤ w.heap.size → Box B t 1 w' a [z]) → K (.pointer (some a)) w') : E.stop ⟨d, .alloc t, ty, pos, aft, g⟩ [] w K := by
  obtain ⟨i, h3, h4⟩ := Option.map_eq_some_iff.1 ht
  refine st_run hE (v := .pointer (some ⟨w.heap.size, 0, none⟩)) (w' := w.alloc (.cells #[z] t)) (fun ρ hρ => ?_) (hk _ _ ((Ext.refl w).alloc (Nat.le_refl _) _) fun B hB => ?_)
  · simp [execOp, Instr.alloc, zeroValue, typeInfo, h3, h4, newVar, newRow, hz]
  · exact World.ownsRow_lit (e := t) (size := 1) w #[z] 1 hB (by unfold maxLen; omega) (by simp)
theorem run_nil_ne {t : TypeId} {ms : Array (String × TypeId)} (ht : P.underlying t = some (.interface ms)) (w : World) (k : Nat) : (Op.equalIn (k + 1) t .nilIface .nilIface).run P w = .ok true w := by
  simp [Op.equalIn, run_underlying ht]
theorem run_some_ne {t u : TypeId} {v : Value} {ms : Array (String × TypeId)} (ht : P.underlying t = some (.interface ms)) (w : World) (k : Nat) : (Op.equalIn (k + 1) t (.iface u v) .nilIface).run P w = .ok false w := by
  simp [Op.equalIn, run_underlying ht]
theorem st_neNil {bq : Bool} (hE : EngB bq P E) {t t' : TypeId} {ms : Array (String × TypeId)} (ht : P.underlying t = some (.interface ms)) {x : Operand} {c : Value} (hk : K (.bool false) w) : E.stop ⟨d, .binOp .neq t x (.const c) t', ty, pos, aft, g⟩ [.nilIface, .nilIface] w K := by
  refine hE.det (v := .bool false) (fun w1 _ ρ hρ => ?_) hk
  simp only [opnds, List.map_cons, List.map_nil, List.cons.injEq, and_true] at hρ
  have h1 : (Op.equal t .nilIface .nilIface).run P w1 = .ok true w1 := run_nil_ne ht w1 9999
  simp only [execOp, hρ.1, hρ.2, eqGuard, binOp, Sem.run_bind]
  simp [h1]
theorem st_neSome {bq : Bool} (hE : EngB bq P E) {t t' u : TypeId} {v : Value} {ms : Array (String × TypeId)} (ht : P.underlying t = some (.interface ms)) {x y : Operand} (hk : K (.bool true) w) : E.stop ⟨d, .binOp .neq t x y t', ty, pos, aft, g⟩ [.iface u v, .nilIface] w K := by
  refine hE.det (v := .bool true) (fun w1 _ ρ hρ => ?_) hk
  simp only [opnds, List.map_cons, List.map_nil, List.cons.injEq, and_true] at hρ
  have h1 : (Op.equal t (.iface u v) .nilIface).run P w1 = .ok false w1 := run_some_ne ht w1 9999
  simp only [execOp, hρ.1, hρ.2, eqGuard, binOp, Sem.run_bind]
  simp [h1]
end
end Go.Eng
