/- Structs for the engine: boxes of one's own (a row of one element), addresses of fields, loads and stores of fields and of whole structs. No condition. -/
import Derived.Test.YtmbonalhbibppaaDoorEng2
import Derived.Laws.OwnMore
namespace Go.Eng
/-- A struct type: k cells, zs its zero. -/
structure Stc (P : Program) (t : TypeId) (k : Nat) (zs : List Value) : Prop where
  u : (P.underlying t).map (fun d => match d with | .struct _ => true | _ => false) = some true
  i : (P.info? t).map (fun i => (i.zero, i.size)) = some (some (.agg ⟨zs⟩), k)
/-- Field i of struct t lies off cells behind its beginning, and takes cells. -/
structure Fld (P : Program) (t : TypeId) (i off : Nat) : Prop where
  e : ((P.underlying t).bind fun d => match d with
    | .struct fs => (fs[i]?).bind fun f => (P.info? f.type).map fun j => (f.offset, Nat.beq j.size 0)
    | _ => none) = some (off, false)
section
variable {P : Program} {Pn : List PanicEntry → World → Prop} {n : Nat}
variable {E : Sym} {w : World} {K : Value → World → Prop} {d : Option Tmp} {ty : TypeId} {pos : String} {aft : Array Edge} {g : Option (Nat × Bool)}
theorem st_fld {bq : Bool} (hE : EngB bq P E) {t : TypeId} {i off : Nat} (ht : Fld P t i off) {a : Addr} {x : Operand} (hk : ∀ p, p = a.add off → K (.pointer (some p)) w) : E.stop ⟨d, .fieldAddr t x i, ty, pos, aft, g⟩ [.pointer (some a)] w K := by
  obtain ⟨dd, h1, h2⟩ := Option.bind_eq_some_iff.1 ht.e
  split at h2
  · rename_i fs
    obtain ⟨f, h3, h4⟩ := Option.bind_eq_some_iff.1 h2
    obtain ⟨j, h5, h6⟩ := Option.map_eq_some_iff.1 h4
    simp only [Prod.mk.injEq] at h6
    obtain ⟨rfl, h7⟩ := h6
    have h7 : ¬ j.size = 0 := by intro e; rw [e] at h7; simp at h7
    refine hE.det (v := .pointer (some (a.add f.offset))) (fun w1 _ ρ hρ => ?_) (hk _ rfl)
    simp only [opnds, List.map_cons, List.map_nil, List.cons.injEq, and_true] at hρ
    simp [execOp, hρ, Instr.fieldAt, underlying, h1, h3, Instr.sureAddr, fieldPlace, sizeOf, typeInfo, h5, h7]
  · cases h2
theorem add_zero (a : Addr) : a.add 0 = a := by unfold Addr.add; simp
theorem run_loadVar_agg {t : TypeId} {vs : List Value} {k : Nat} {zs : List Value} (ht : Stc P t k zs) (hl : vs.length = k) {p : Addr} {w : World} (hc : ∀ j v, vs[j]? = some v → w.cell? (p.add j) = some v) : (loadVar t p).run P w = .ok (.agg ⟨vs⟩) w := by
  obtain ⟨dd, h1, h2⟩ := Option.map_eq_some_iff.1 ht.u
  obtain ⟨i, h3, h4⟩ := Option.map_eq_some_iff.1 ht.i
  simp only [Prod.mk.injEq] at h4
  have h5 := run_loadCells_list (P := P) (w := w) p vs hc
  have hag : (isAgg t).run P w = .ok true w := by
    cases dd <;> simp at h2
    simp [isAgg, underlying, h1]
  simp [loadVar, hag, sizeOf, typeInfo, h3, h4.2, ← hl, h5]
/-- A whole struct is read. -/
theorem st_loadS {bq : Bool} (hE : EngB bq P E) {t : TypeId} {k : Nat} {zs vs : List Value} (ht : Stc P t k zs) (hl : vs.length = k) {p : Addr} {x : Operand} (hc : ∀ j v, vs[j]? = some v → w.cell? (p.add j) = some v) (hk : K (.agg ⟨vs⟩) w) : E.stop ⟨d, .load t x, ty, pos, aft, g⟩ [.pointer (some p)] w K := by
  refine hE.det (v := .agg ⟨vs⟩) (fun w1 hs ρ hρ => ?_) hk
  simp only [opnds, List.map_cons, List.map_nil, List.cons.injEq, and_true] at hρ
  have := run_loadVar_agg ht hl (p := p) (w := w1) fun j v hv => hs.cell (hc j v hv)
  simp [execOp, hρ, Instr.loadAt, Instr.sureAddr, this]
/-- A box of one's own, of k cells. -/
abbrev Box (B : Nat) (t : TypeId) (k : Nat) (w : World) (a : Addr) (cs : List Value) : Prop := Own B t k w (some a) 1 1 cs
theorem Own.at {B e k} {w : World} {a : Addr} {m c : Nat} {xs : List Value} (h : Own B e k w (some a) m c xs) : ∀ j v, xs[j]? = some v → w.cell? (a.add j) = some v := h.cells.2 a rfl
theorem st_box (hE : E = real P Pn n) {t : TypeId} {cs : List Value} {x : Operand} (hk : ∀ a w', Ext w w' → (∀ B, B ≤ w.heap.size → Box B t cs.length w' a cs) → K (.pointer (some a)) w') : E.stop ⟨d, .box t x, ty, pos, aft, g⟩ [.agg ⟨cs⟩] w K := by
  refine st_run hE (v := .pointer (some ⟨w.heap.size, 0, none⟩)) (w' := w.alloc (.cells ⟨cs⟩ t)) (fun ρ hρ => ?_) (hk _ _ ((Ext.refl w).alloc (Nat.le_refl _) _) fun B hB => ?_)
  · simp only [opnds, List.map_cons, List.map_nil, List.cons.injEq, and_true] at hρ
    simp [execOp, hρ, Instr.box, newVar, newRow, Value.cells]
  · have := World.ownsRow_lit (e := t) (size := cs.length) w ⟨cs⟩ 1 hB (by unfold maxLen; omega) (by simp)
    exact this
/-- A box of one cell. -/
theorem st_box1 (hE : E = real P Pn n) {t : TypeId} {v : Value} {x : Operand} (hv : v.oneCell' = true) (hk : ∀ a w', Ext w w' → (∀ B, B ≤ w.heap.size → Box B t 1 w' a [v]) → K (.pointer (some a)) w') : E.stop ⟨d, .box t x, ty, pos, aft, g⟩ [v] w K := by
  have hvc : v.cells = #[v] := by cases v <;> first | rfl | simp [Value.oneCell'] at hv
  refine st_run hE (v := .pointer (some ⟨w.heap.size, 0, none⟩)) (w' := w.alloc (.cells #[v] t)) (fun ρ hρ => ?_) (hk _ _ ((Ext.refl w).alloc (Nat.le_refl _) _) fun B hB => ?_)
  · simp only [opnds, List.map_cons, List.map_nil, List.cons.injEq, and_true] at hρ
    simp [execOp, hρ, Instr.box, newVar, newRow, hvc]
  · have := World.ownsRow_lit (e := t) (size := 1) w #[v] 1 hB (by unfold maxLen; omega) (by simp)
    exact this
theorem st_alloc (hE : E = real P Pn n) {t : TypeId} {k : Nat} {zs : List Value} (ht : Stc P t k zs) (hz : zs.length = k) (hk : ∀ a w', Ext w w' → (∀ B, B ≤ w.heap.size → Box B t k w' a zs) → K (.pointer (some a)) w') : E.stop ⟨d, .alloc t, ty, pos, aft, g⟩ [] w K := by
  obtain ⟨i, h3, h4⟩ := Option.map_eq_some_iff.1 ht.i
  simp only [Prod.mk.injEq] at h4
  refine st_run hE (v := .pointer (some ⟨w.heap.size, 0, none⟩)) (w' := w.alloc (.cells ⟨zs⟩ t)) (fun ρ hρ => ?_) (hk _ _ ((Ext.refl w).alloc (Nat.le_refl _) _) fun B hB => ?_)
  · simp [execOp, Instr.alloc, zeroValue, typeInfo, h3, h4.1, newVar, newRow, Value.cells]
  · have := World.ownsRow_lit (e := t) (size := k) w ⟨zs⟩ 1 hB (by unfold maxLen; omega) (by simp [hz])
    exact this
theorem Own.form {B e k} {w : World} {a : Addr} {m c : Nat} {xs : List Value} (h : Own B e k w (some a) m c xs) : ∃ gb, a = ⟨gb, 0, none⟩ ∧ B ≤ gb ∧ gb < w.heap.size := by
  obtain h1 | ⟨gb, h1, h2, h3⟩ := h.blk
  · cases h1
  · cases h1; exact ⟨gb, rfl, h2, h3⟩
theorem add_plain (gb o i : Nat) : (⟨gb, o, none⟩ : Addr).add i = ⟨gb, o + i, none⟩ := by unfold Addr.add; split <;> simp_all
theorem own_stores {B e k} {gb m c o : Nat} : ∀ (vs : List Value) (i : Nat) (w : World) (xs : List Value), Own B e k w (some ⟨gb, 0, none⟩) m c xs → o + i + vs.length ≤ xs.length → (∀ v ∈ vs, v.oneCell' = true) →
    ∃ w', (storeCells ⟨gb, o, none⟩ vs i).run P w = .ok () w' ∧ Own B e k w' (some ⟨gb, 0, none⟩) m c (xs.take (o + i) ++ vs ++ xs.drop (o + i + vs.length)) ∧ Wr (some ⟨gb, 0, none⟩) w w'
  | [], i, w, xs, h, hl, _ => ⟨w, rfl, by simpa using h, Wr.refl _ _⟩
  | v :: vs, i, w, xs, h, hl, h1 => by
    simp only [List.length_cons] at hl
    have hlen := h.len
    have hc0 : w.cell? ⟨gb, o + i, none⟩ = some (xs[o + i]'(by omega)) := by rw [World.ownsRow.cellAt h (o + i) (by omega)]; simp
    have hf : w.frozen? ⟨gb, o + i, none⟩ = false := World.ownsRow.frozenAt h (o + i)
    have hs := World.ownsRow.stored h (o + i) v
    have hst := run_store P w ⟨gb, o + i, none⟩ v .plain (h1 v (by simp))
    rw [hc0] at hst
    simp only [hf] at hst
    obtain ⟨w', h2, h3, h4⟩ := own_stores (o := o) vs (i + 1) _ _ hs.1 (by rw [List.length_set]; omega) fun u hu => h1 u (by simp [hu])
    refine ⟨w', ?_, ?_, Wr.trans hs.2 h4⟩
    · simp only [storeCells, Sem.run_bind, add_plain]
      simp [hst, h2]
    · have e : (xs.set (o + i) v).take (o + (i + 1)) ++ vs ++ (xs.set (o + i) v).drop (o + (i + 1) + vs.length) = xs.take (o + i) ++ (v :: vs) ++ xs.drop (o + i + (vs.length + 1)) := by
        rw [List.take_set, List.drop_set_of_lt (by omega), ← Nat.add_assoc o i 1, List.take_succ_eq_append_getElem (show o + i < xs.length by omega), List.set_append_right _ _ (by simp; omega)]
        have e2 : o + i - (xs.take (o + i)).length = 0 := by rw [List.length_take]; omega
        rw [e2]
        simp [Nat.add_assoc, Nat.add_comm 1]
      rw [e] at h3
      exact h3
/-- One cell of a row of one's own is written. -/
theorem st_put (hE : E = real P Pn n) {t : TypeId} (ht : (P.info? t).map (·.size) = some 1) {B e k m c j : Nat} {a p : Addr} {xs : List Value} {v : Value} {x y : Operand} (h : Own B e k w (some a) m c xs) (hp : p = a.add j) (hj : j < xs.length) (hv : v.oneCell' = true)
    (hk : ∀ w', Wr (some a) w w' → Own B e k w' (some a) m c (xs.set j v) → K undef w') : E.stop ⟨d, .store t x y, ty, pos, aft, g⟩ [.pointer (some p), v] w K := by
  obtain ⟨i, h3, h4⟩ := Option.map_eq_some_iff.1 ht
  obtain ⟨gb, rfl, _, _⟩ := h.form
  have hvc : v.cells = #[v] := by cases v <;> first | rfl | simp [Value.oneCell'] at hv
  have hp' : p = ⟨gb, j, none⟩ := by rw [hp, add_plain]; simp
  obtain ⟨w', h5, h6, h7⟩ := own_stores (P := P) (o := j) [v] 0 w xs h (by simp; omega) (by simpa using hv)
  refine st_runu hE (w' := w') (fun ρ hρ => ?_) (hk _ h7 ?_)
  · simp only [opnds, List.map_cons, List.map_nil, List.cons.injEq, and_true] at hρ
    simp [execOp, hρ.1, hρ.2, Instr.storeAt, Instr.sureAddr, storeVar, sizeOf, typeInfo, h3, h4, hvc, hp', h5]
  · rw [List.set_eq_take_append_cons_drop, if_pos hj]
    simpa using h6
/-- A whole struct is written. -/
theorem st_putS (hE : E = real P Pn n) {t : TypeId} {vs : List Value} (ht : (P.info? t).map (·.size) = some vs.length) {B e k m c j : Nat} {a p : Addr} {xs : List Value} {x y : Operand} (h : Own B e k w (some a) m c xs) (hp : p = a.add j) (hj : j + vs.length ≤ xs.length) (hv : ∀ v ∈ vs, v.oneCell' = true)
    (hk : ∀ w', Wr (some a) w w' → Own B e k w' (some a) m c (xs.take j ++ vs ++ xs.drop (j + vs.length)) → K undef w') : E.stop ⟨d, .store t x y, ty, pos, aft, g⟩ [.pointer (some p), .agg ⟨vs⟩] w K := by
  obtain ⟨i, h3, h4⟩ := Option.map_eq_some_iff.1 ht
  obtain ⟨gb, rfl, _, _⟩ := h.form
  have hp' : p = ⟨gb, j, none⟩ := by rw [hp, add_plain]; simp
  obtain ⟨w', h5, h6, h7⟩ := own_stores (P := P) (o := j) vs 0 w xs h (by omega) hv
  refine st_runu hE (w' := w') (fun ρ hρ => ?_) (hk _ h7 h6)
  simp only [opnds, List.map_cons, List.map_nil, List.cons.injEq, and_true] at hρ
  simp [execOp, hρ.1, hρ.2, Instr.storeAt, Instr.sureAddr, storeVar, sizeOf, typeInfo, h3, h4, Value.cells, hp', h5]
/-- A struct that is returned out of its box. -/
theorem st_cell (hE : E = real P Pn n) {t : TypeId} {k : Nat} {zs vs : List Value} (ht : Stc P t k zs) (hl : vs.length = k) {a : Addr} (hc : ∀ j v, vs[j]? = some v → w.cell? (a.add j) = some v) (hk : K (.agg ⟨vs⟩) w) : E.cell t (.pointer (some a)) w K := by
  subst hE
  exact ⟨a, _, rfl, run_loadVar_agg ht hl hc, hk⟩
theorem st_cell1 (hE : E = real P Pn n) {t : TypeId} (ht : Cel P t) {a : Addr} {v : Value} (hc : w.cell? a = some v) (hk : K v w) : E.cell t (.pointer (some a)) w K := by
  subst hE
  obtain ⟨d0, hu, h1, h2⟩ := ht.a
  have : (isAgg t).run P w = .ok false w := by
    simp only [isAgg, underlying, Sem.run_bind, run_program, Result.andThen_ok, hu, Sem.run_pure]
  exact ⟨a, _, rfl, by simp [loadVar, this, hc], hk⟩
end
end Go.Eng
