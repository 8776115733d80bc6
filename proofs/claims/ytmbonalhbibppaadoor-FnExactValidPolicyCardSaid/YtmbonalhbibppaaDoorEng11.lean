/- More for the engine: slices of whole numbers that are read, nil pointers, the greatest of three, slices of structs made, tables of whole numbers. No condition. -/
import Derived.Test.YtmbonalhbibppaaDoorEng10
import Derived.Laws.IdiomRangeMap
namespace Go.Eng
set_option linter.unusedVariables false
set_option linter.unusedSimpArgs false
/-- A slice of whole numbers that is read. -/
structure Ints (w : World) (A : Option Addr) (n c : Nat) (zs : List Int) : Prop where
  len : zs.length = n
  le : n ≤ 9223372036854775807
  cap : n ≤ c
  cells : Cells w A (zs.map (.int .i64))
theorem Ints.ext {w w' : World} {A : Option Addr} {n c : Nat} {zs : List Int} (h : Ints w A n c zs) (hx : Ext w w') : Ints w' A n c zs := ⟨h.1, h.2, h.3, h.4.ext hx⟩
theorem Own.ints {B e} {w : World} {A : Option Addr} {m c : Nat} {zs : List Int} (h : Own B e 1 w A m c (zs.map (.int .i64))) : Ints w A m c zs :=
  ⟨by have := h.len; simpa using this, h.le, h.cap, h.cells⟩
theorem ints_nil (w : World) : Ints w none 0 0 [] := ⟨rfl, by omega, by omega, by simp [Cells], by simp⟩
section
variable {P : Program} {Pn : List PanicEntry → World → Prop} {n : Nat} {E : Sym} {w : World} {K : Value → World → Prop} {d : Option Tmp} {ty : TypeId} {pos : String} {aft : Array Edge} {g : Option (Nat × Bool)}
/-- Element k of a slice of whole numbers: its address. -/
theorem st_int {bq : Bool} (hE : EngB bq P E) {t e : TypeId} {z : Value} {b : Nat} (ht : Slc P t e z 1 b) {A : Option Addr} {m c k : Nat} {ik : IntKind} {i : Int} {x y : Operand} {zs : List Int} (h : Ints w A m c zs)
    (hi : i = k) (hk : k < m) (hK : ∀ p u, zs[k]? = some u → w.cell? p = some (.int .i64 u) → K (.pointer (some p)) w) : E.stop ⟨d, .indexAddr t x y, ty, pos, aft, g⟩ [.slice A m c, .int ik i] w K := by
  subst hi
  have hl := h.len
  refine st_elem hE ht h.cells (by simp [hl]) (by omega) (by omega) fun p v hv hp => ?_
  simp only [Int.toNat_natCast, List.getElem?_map, Option.map_eq_some_iff] at hv
  obtain ⟨s, hs, rfl⟩ := hv
  exact hK p s hs hp
/-- zs[:hi] and zs[lo:]. -/
theorem st_intsUpto {bq : Bool} (hE : EngB bq P E) {t e : TypeId} {z : Value} {b : Nat} (ht : Slc P t e z 1 b) {A : Option Addr} {m c hi : Nat} {ik : IntKind} {i : Int} {zs : List Int} {x y : Operand} {w0 : World} (h : Ints w0 A m c zs) (hi' : i = hi) (hm : hi ≤ m)
    (hk : Ints w0 A hi c (zs.take hi) → K (.slice A hi c) w) : E.stop ⟨d, .slice t x none (some y) none, ty, pos, aft, g⟩ [.slice A m c, .int ik i] w K := by
  subst hi'
  have hl := h.len
  refine hE.det (v := .slice A hi c) (fun w1 _ ρ hρ => ?_) (hk ⟨by simp [hl]; omega, by have := h.le; omega, by have := h.cap; omega, ?_⟩)
  · simp only [opnds, Option.toList, List.map_cons, List.map_nil, List.append_nil, List.nil_append, List.cons_append, List.cons.injEq, and_true] at hρ
    simp only [execOp, hρ.1, hρ.2, Option.map_some, Option.map_none, Sem.run_bind, run_upto ht w1 (Nat.le_trans hm h.cap)]
    rfl
  · refine ⟨fun h0 => h.cells.1 (by simp at h0 ⊢; omega), fun a ha j v hv => h.cells.2 a ha j v ?_⟩
    rw [List.map_take, List.getElem?_take] at hv
    split at hv
    · exact hv
    · cases hv
theorem st_intsFrom {bq : Bool} (hE : EngB bq P E) {t e : TypeId} {z : Value} {b : Nat} (ht : Slc P t e z 1 b) {A : Option Addr} {m c lo : Nat} {ik : IntKind} {i : Int} {zs : List Int} {x y : Operand} {w0 : World} (h : Ints w0 A m c zs) (hi : i = lo) (hlo : lo ≤ m)
    (hk : ∀ A' m' c', m' = m - lo → Ints w0 A' m' c' (zs.drop lo) → K (.slice A' m' c') w) : E.stop ⟨d, .slice t x (some y) none none, ty, pos, aft, g⟩ [.slice A m c, .int ik i] w K := by
  subst hi
  refine hE.det (v := .slice (if c = lo then A else A.map (·.add (lo * 1))) (m - lo) (c - lo)) (fun w1 _ ρ hρ => ?_) (hk _ _ _ rfl ?_)
  · simp only [opnds, Option.toList, List.map_cons, List.map_nil, List.append_nil, List.cons.injEq, and_true] at hρ
    simp only [execOp, hρ.1, hρ.2, Option.map_some, Option.map_none, Sem.run_bind, run_from ht w1 hlo]
    rfl
  · have hcap := h.cap
    refine ⟨by simp [h.len], by have := h.le; omega, by omega, ?_⟩
    have := h.cells.from (c := c) (lo := lo) (k := 1) (m := m) (by simp [h.len]) hlo (fun h1 h2 => by omega)
    rw [Nat.mul_one, ← List.map_drop] at this
    rw [Nat.mul_one]; exact this
/-- A pointer compared with nil. -/
theorem st_pnil {bq : Bool} (hE : EngB bq P E) {t t' u : TypeId} (ht : P.underlying t = some (.pointer u)) {x : Operand} {c : Value} {p : Option Addr} (hk : ∀ b : Bool, (b = true ↔ p = none) → K (.bool b) w) : E.stop ⟨d, .binOp .eql t x (.const c) t', ty, pos, aft, g⟩ [.pointer p, .pointer none] w K := by
  refine hE.det (v := .bool p.isNone) (fun w1 _ ρ hρ => ?_) (hk _ (by simp))
  simp only [opnds, List.map_cons, List.map_nil, List.cons.injEq, and_true] at hρ
  have h0 : ∀ k : Nat, (Op.equalIn (k + 1) t (.pointer p) (.pointer none)).run P w1 = .ok p.isNone w1 := fun k => by
    cases p <;> simp [Op.equalIn, run_underlying ht]
  have h1 : (Op.equal t (.pointer p) (.pointer none)).run P w1 = .ok p.isNone w1 := h0 9999
  simp only [execOp, hρ.1, hρ.2, eqGuard, binOp, Sem.run_bind]
  simp [h1]
/-- The greatest of three. -/
theorem st_max3 {bq : Bool} (hE : EngB bq P E) {ao : Array Operand} {ts : Array TypeId} {a b c : Int} (hk : ∀ r : Int, r = max (max a b) c → K (.int .i64 r) w) : E.stop ⟨d, .call ⟨.builtin .max, ao, ts⟩, ty, pos, aft, g⟩ [.int .i64 a, .int .i64 b, .int .i64 c] w K := by
  refine hE.det (v := .int .i64 (max (max a b) c)) (fun w1 _ ρ hρ => ?_) (hk _ rfl)
  have h3 := map_of (ao := ao) (ρ := ρ) (l := [.int .i64 a, .int .i64 b, .int .i64 c]) (by simpa [opnds] using hρ)
  have e : ∀ x y : Int, (if y > x then y else x) = max x y := fun x y => by rw [Int.max_def]; split <;> split <;> omega
  simp [execOp, resolve, invoke, builtin, h3, Builtin.max_, Builtin.max2, e]
/-- make([]T, m), T of k cells. -/
theorem st_makeK (hE : E = real P Pn n) {t e : TypeId} {z : Value} {k b : Nat} (ht : Slc P t e z k b) (hz : z.cells.size = k) {ik ik' : IntKind} {i : Int} {m : Nat} {x y : Operand} (hi : i = m) (hb : b * m ≤ 140737488355328) (hm : m ≤ 9223372036854775807)
    (hk : ∀ A w', Ext w w' → (∀ B, B ≤ w.heap.size → Own B e k w' A m m (madeCells z.cells (m * k)).toList) → K (.slice A m m) w') : E.stop ⟨d, .makeSlice t x y, ty, pos, aft, g⟩ [.int ik i, .int ik' i] w K := by
  obtain ⟨i0, h1, h2, h3, h4⟩ := ht.info
  subst hi
  have hr := run_make w t e i0 z ht.u h1 h2 ik ik' m m (by omega) (by omega) (by rw [h4]; have : ((b * m : Nat) : Int) ≤ 281474976710656 := by omega
                                                                                 rwa [Int.natCast_mul] at this) (by omega)
  simp only [Int.toNat_natCast, h3] at hr
  refine st_run hE (v := .slice (some ⟨w.heap.size, 0, none⟩) m m) (w' := w.alloc (.cells (madeCells z.cells (m * k)) e)) (fun ρ hρ => ?_) (hk _ _ ((Ext.refl w).alloc (Nat.le_refl _) _) fun B hB => ?_)
  · simp only [opnds, List.map_cons, List.map_nil, List.cons.injEq, and_true] at hρ
    simp [execOp, hρ.1, hρ.2, hr]
  · exact World.ownsRow_lit (e := e) (size := k) w (madeCells z.cells (m * k)) m hB (by unfold maxLen; omega) (by rw [size_madeCells])
/-- A table of whole numbers that stands in block bm, behind the package variable in block v. -/
structure Tab (w : World) (v : Nat) (f : List (Int × Int)) : Prop where
  ex : ∃ bm es clock, w.cell? ⟨v, 0, none⟩ = some (.map (some bm)) ∧ w.heap[bm]? = some (.map es clock) ∧ (∀ e ∈ es.toList, ∃ k z, e.key = .int .i64 k ∧ e.val = .int .i64 z ∧ (k, z) ∈ f) ∧ (∀ k z, (k, z) ∈ f → ∃ e ∈ es.toList, e.key = .int .i64 k ∧ e.val = .int .i64 z) ∧ (es.toList.map (·.born)).Nodup ∧ ∀ e ∈ es.toList, e.born < clock
theorem Ext.getMap {w w' : World} (h : Ext w w') {r : Nat} {es : Array MapEntry} {clock : Nat} (hb : w.heap[r]? = some (.map es clock)) : w'.heap[r]? = some (.map es clock) := by
  have hlt : r < w.heap.size := by
    rcases Nat.lt_or_ge r w.heap.size with h | h
    · exact h
    · simp [Array.getElem?_eq_none h] at hb
  rw [h.block r hlt]; exact hb
theorem Tab.ext {w w' : World} {v : Nat} {f : List (Int × Int)} (h : Tab w v f) (hx : Ext w w') : Tab w' v f := by
  obtain ⟨bm, es, clock, h1, h2, h3⟩ := h.ex
  exact ⟨bm, es, clock, hx.cell h1, hx.getMap h2, h3⟩
theorem find_int (k : Int) : ∀ (es : List MapEntry) (i : Nat), (∀ e ∈ es, ∃ q z, e.key = .int .i64 q ∧ e.val = .int .i64 z) → ∃ r, Instr.findNow (.int .i64) (.int .i64 k) es i = some r ∧ ((r = none ∧ ∀ e ∈ es, e.key ≠ .int .i64 k) ∨ ∃ j, ∃ e ∈ es, r = some (j, e.val) ∧ e.key = .int .i64 k)
  | [], i, _ => ⟨none, rfl, .inl ⟨rfl, by simp⟩⟩
  | e :: es, i, h => by
    obtain ⟨q, z, h1, h2⟩ := h e (by simp)
    by_cases hq : k = q
    · subst hq
      exact ⟨some (i, e.val), by simp [Instr.findNow, Instr.sameNow, h1], .inr ⟨i, e, by simp, rfl, h1⟩⟩
    · obtain ⟨r, hr, hr2⟩ := find_int k es (i + 1) fun e he => h e (by simp [he])
      have hb : (k == q) = false := by simp [hq]
      refine ⟨r, by simp [Instr.findNow, Instr.sameNow, h1, hb, hr], ?_⟩
      rcases hr2 with ⟨h3, h4⟩ | ⟨j, e', he', h3, h4⟩
      · refine .inl ⟨h3, fun e' he' => ?_⟩
        rcases List.mem_cons.1 he' with rfl | he'
        · rw [h1]; simp [Ne.symm hq]
        · exact h4 e' he'
      · exact .inr ⟨j, e', by simp [he'], h3, h4⟩
/-- m[k]: what is laid there, or 0. -/
theorem st_tab {bq : Bool} (hE : EngB bq P E) {t kt et : TypeId} (ht : P.underlying t = some (.map kt et)) (hkt : P.underlying kt = some (.int .i64)) (hz : (P.info? et).map (·.zero) = some (some (.int .i64 0))) {bm : Nat} {f : List (Int × Int)} {es : Array MapEntry} {clock : Nat} (hb : w.heap[bm]? = some (.map es clock))
    (h1 : ∀ e ∈ es.toList, ∃ k z, e.key = .int .i64 k ∧ e.val = .int .i64 z ∧ (k, z) ∈ f) (h2 : ∀ k z, (k, z) ∈ f → ∃ e ∈ es.toList, e.key = .int .i64 k ∧ e.val = .int .i64 z) {k : Int} {x y : Operand}
    (hk : ∀ z, (k, z) ∈ f ∨ (z = 0 ∧ ∀ q, (k, q) ∉ f) → K (.int .i64 z) w) : E.stop ⟨d, .lookup t x y false, ty, pos, aft, g⟩ [.map (some bm), .int .i64 k] w K := by
  obtain ⟨i0, hi, hz⟩ := Option.map_eq_some_iff.1 hz
  obtain ⟨r, hr, hr2⟩ := find_int k es.toList 0 fun e he => by obtain ⟨q, z, h3, h4, _⟩ := h1 e he; exact ⟨q, z, h3, h4⟩
  have hck0 : ∀ (q : Nat) (w1 : World), (Instr.checkKey es.isEmpty (q + 1) kt (.int .i64 k)).run P w1 = .ok () w1 := fun q w1 => by simp [Instr.checkKey, run_underlying hkt]
  have hck : ∀ w1 : World, (Instr.checkKey es.isEmpty 10000 kt (.int .i64 k)).run P w1 = .ok () w1 := hck0 9999
  rcases hr2 with ⟨rfl, hno⟩ | ⟨j, e, he, rfl, hke⟩
  · refine hE.det (v := .int .i64 0) (fun w1 hx ρ hρ => ?_) (hk 0 (.inr ⟨rfl, fun q hq => ?_⟩))
    · simp only [opnds, List.map_cons, List.map_nil, List.cons.injEq, and_true] at hρ
      have hb1 : w1.heap[bm]? = some (.map es clock) := hx.getMap hb
      have hg := MapKept.run_getObj_map (P := P) hb1
      simp [execOp, hρ.1, hρ.2, Instr.lookup, run_underlying ht, hg, hck, Instr.findKey, run_underlying hkt, hr, zeroValue, typeInfo, hi, hz]
    · obtain ⟨e, he, h3, _⟩ := h2 k q hq
      exact hno e he h3
  · obtain ⟨q, z, h3, h4, h5⟩ := h1 e he
    rw [hke] at h3
    cases h3
    refine hE.det (v := .int .i64 z) (fun w1 hx ρ hρ => ?_) (hk z (.inl h5))
    simp only [opnds, List.map_cons, List.map_nil, List.cons.injEq, and_true] at hρ
    have hb1 : w1.heap[bm]? = some (.map es clock) := hx.getMap hb
    have hg := MapKept.run_getObj_map (P := P) hb1
    simp [execOp, hρ.1, hρ.2, Instr.lookup, run_underlying ht, hg, hck, Instr.findKey, run_underlying hkt, hr, h4]
end
end Go.Eng
